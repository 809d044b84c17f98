/-
  What this text proves: the contracts of packages tri and vec, and of quad.
  Conditions: none.
-/
import Derived.Test.YtmmlpaehehgfnaaIv
namespace Go.Proofs.Ytmmlpaehehgfnaa.Sx
set_option linter.unusedSimpArgs false
set_option linter.unusedVariables false

abbrev acV3 : Ac V3 := acS cdV3
abbrev acRay : Ac Ray := acS cdRay
abbrev acSurf : Ac Surf := acS cdSurf
abbrev fV3 (a : V3) : RD := .a (acV3.enc a)
abbrev fRay (a : Ray) : RD := .a (acRay.enc a)
abbrev fV3Int (x : V3 × Int) : RD := .tup [acV3.enc x.1, .s (.v (.int .i64 x.2))]
abbrev fRayInt (x : Ray × Int) : RD := .tup [acRay.enc x.1, .s (.v (.int .i64 x.2))]

/-! ### tri -/

def toldT (yes : Bool) (no : Bool) : Tr (Int) :=
  .n yes (.l 1) (.n no (.l 2) (.l 0))
def told (yes : Bool) (no : Bool) : Int := (toldT yes no).ev
noncomputable def tri_told_c : Ct := ⟨184, pf2 acBool acBool fun yes no => fInt (told yes no), pf2_ok fun yes no => ct_tr (x := (toldT yes no).ev) (t := toldT yes no) (env []) (env_ok []) Try.func184 (by kernel_rfl) ([] : List (Hn Try.f184)) (by kernel_rfl) (by kernel_rfl) (by kernel_rfl)
  (show evH (env []) (hl ([] : List (Hn Try.f184))) none 0 0 Try.f184 [acBool.enc yes, acBool.enc no] = (toldT yes no).fold fun x => some (fInt x) by kernel_rfl) (Tr.run_ev _ (by kernel_rfl))⟩




def notAboveT (a : Iv) (b : Iv) : Tr (Int) :=
  .n (!right a) (.l 0) (.n (!right b) (.l 0) (.l (told (decide (a.hi ≤ b.lo)) (decide (a.lo > b.hi)))))
def notAbove (a : Iv) (b : Iv) : Int := (notAboveT a b).ev
noncomputable def tri_NotAbove_c : Ct := ⟨170, pf2 acIv acIv fun a b => fInt (notAbove a b), pf2_ok fun a b => ct_tr (x := (notAboveT a b).ev) (t := notAboveT a b) (env [iv_Right_c, tri_told_c]) (env_ok [iv_Right_c, tri_told_c]) Try.func170 (by kernel_rfl) ([] : List (Hn Try.f170)) (by kernel_rfl) (by kernel_rfl) (by kernel_rfl)
  (show evH (env [iv_Right_c, tri_told_c]) (hl ([] : List (Hn Try.f170))) none 0 0 Try.f170 [acIv.enc a, acIv.enc b] = (notAboveT a b).fold fun x => some (fInt x) by kernel_rfl) (Tr.run_ev _ (by kernel_rfl))⟩


/-! ### vec -/

def vof (x : Iv) (y : Iv) (z : Iv) : V3 :=
  ⟨x, y, z⟩
noncomputable def vec_Of_c : Ct := ⟨56, pf3 acIv acIv acIv fun x y z => fV3 (vof x y z), pf3_ok fun x y z => ct_ok (env []) (env_ok []) Try.func56 (by kernel_rfl) ([] : List (Hn Try.f56)) (by kernel_rfl) (by kernel_rfl) (by kernel_rfl)
  (show evH (env []) (hl ([] : List (Hn Try.f56))) none 0 0 Try.f56 [acIv.enc x, acIv.enc y, acIv.enc z] = some (fV3 (vof x y z)) by kernel_rfl)⟩


def vrightT (a : V3) : Tr (Bool) :=
  .n (right a.x) (.n (right a.y) (.l (right a.z)) (.l false)) (.l false)
def vright (a : V3) : Bool := (vrightT a).ev
noncomputable def vec_Right_c : Ct := ⟨47, pf1 acV3 fun a => fBool (vright a), pf1_ok fun a => ct_tr (x := (vrightT a).ev) (t := vrightT a) (env [iv_Right_c]) (env_ok [iv_Right_c]) Try.func47 (by kernel_rfl) ([] : List (Hn Try.f47)) (by kernel_rfl) (by kernel_rfl) (by kernel_rfl)
  (show evH (env [iv_Right_c]) (hl ([] : List (Hn Try.f47))) none 0 0 Try.f47 [acV3.enc a] = (vrightT a).fold fun x => some (fBool x) by kernel_rfl) (Tr.run_ev _ (by kernel_rfl))⟩


def vadd (a : V3) (b : V3) : V3 :=
  vof (add a.x b.x) (add a.y b.y) (add a.z b.z)
noncomputable def vec_Add_c : Ct := ⟨148, pf2 acV3 acV3 fun a b => fV3 (vadd a b), pf2_ok fun a b => ct_ok (env [iv_Add_c, vec_Of_c]) (env_ok [iv_Add_c, vec_Of_c]) Try.func148 (by kernel_rfl) ([] : List (Hn Try.f148)) (by kernel_rfl) (by kernel_rfl) (by kernel_rfl)
  (show evH (env [iv_Add_c, vec_Of_c]) (hl ([] : List (Hn Try.f148))) none 0 0 Try.f148 [acV3.enc a, acV3.enc b] = some (fV3 (vadd a b)) by kernel_rfl)⟩




def scale (a : V3) (k : Iv) : V3 :=
  vof (mul a.x k) (mul a.y k) (mul a.z k)
noncomputable def vec_Scale_c : Ct := ⟨149, pf2 acV3 acIv fun a k => fV3 (scale a k), pf2_ok fun a k => ct_ok (env [iv_Mul_c, vec_Of_c]) (env_ok [iv_Mul_c, vec_Of_c]) Try.func149 (by kernel_rfl) ([] : List (Hn Try.f149)) (by kernel_rfl) (by kernel_rfl) (by kernel_rfl)
  (show evH (env [iv_Mul_c, vec_Of_c]) (hl ([] : List (Hn Try.f149))) none 0 0 Try.f149 [acV3.enc a, acIv.enc k] = some (fV3 (scale a k)) by kernel_rfl)⟩


def dot (a : V3) (b : V3) : Iv :=
  add (add (mul a.x b.x) (mul a.y b.y)) (mul a.z b.z)
noncomputable def vec_Dot_c : Ct := ⟨185, pf2 acV3 acV3 fun a b => fIv (dot a b), pf2_ok fun a b => ct_ok (env [iv_Mul_c, iv_Add_c]) (env_ok [iv_Mul_c, iv_Add_c]) Try.func185 (by kernel_rfl) ([] : List (Hn Try.f185)) (by kernel_rfl) (by kernel_rfl) (by kernel_rfl)
  (show evH (env [iv_Mul_c, iv_Add_c]) (hl ([] : List (Hn Try.f185))) none 0 0 Try.f185 [acV3.enc a, acV3.enc b] = some (fIv (dot a b)) by kernel_rfl)⟩


def len2 (a : V3) : Iv :=
  add (add (sqr a.x) (sqr a.y)) (sqr a.z)
noncomputable def vec_Len2_c : Ct := ⟨115, pf1 acV3 fun a => fIv (len2 a), pf1_ok fun a => ct_ok (env [iv_Sqr_c, iv_Add_c]) (env_ok [iv_Sqr_c, iv_Add_c]) Try.func115 (by kernel_rfl) ([] : List (Hn Try.f115)) (by kernel_rfl) (by kernel_rfl) (by kernel_rfl)
  (show evH (env [iv_Sqr_c, iv_Add_c]) (hl ([] : List (Hn Try.f115))) none 0 0 Try.f115 [acV3.enc a] = some (fIv (len2 a)) by kernel_rfl)⟩


def unit (a : V3) : V3 :=
  vof (div a.x (rootI (len2 a))) (div a.y (rootI (len2 a))) (div a.z (rootI (len2 a)))
noncomputable def vec_Unit_c : Ct := ⟨55, pf1 acV3 fun a => fV3 (unit a), pf1_ok fun a => ct_ok (env [vec_Len2_c, iv_Root_c, iv_Div_c, vec_Of_c]) (env_ok [vec_Len2_c, iv_Root_c, iv_Div_c, vec_Of_c]) Try.func55 (by kernel_rfl) ([] : List (Hn Try.f55)) (by kernel_rfl) (by kernel_rfl) (by kernel_rfl)
  (show evH (env [vec_Len2_c, iv_Root_c, iv_Div_c, vec_Of_c]) (hl ([] : List (Hn Try.f55))) none 0 0 Try.f55 [acV3.enc a] = some (fV3 (unit a)) by kernel_rfl)⟩


def along (r : Ray) (t : Iv) : V3 :=
  vadd r.o (scale r.d t)
noncomputable def vec_Along_c : Ct := ⟨107, pf2 acRay acIv fun r t => fV3 (along r t), pf2_ok fun r t => ct_ok (env [vec_Scale_c, vec_Add_c]) (env_ok [vec_Scale_c, vec_Add_c]) Try.func107 (by kernel_rfl) ([] : List (Hn Try.f107)) (by kernel_rfl) (by kernel_rfl) (by kernel_rfl)
  (show evH (env [vec_Scale_c, vec_Add_c]) (hl ([] : List (Hn Try.f107))) none 0 0 Try.f107 [acRay.enc r, acIv.enc t] = some (fV3 (along r t)) by kernel_rfl)⟩








/-! ### quad -/

def quadD (a b c : Iv) : Iv := sub (sqr b) (mul a c)

def nearT (a : Iv) (b : Iv) (c : Iv) : Tr (Iv × Int) :=
  .n (quadD a b c).no (.l (nul, 0)) (.n (decide ((quadD a b c).hi < 0)) (.l (nul, 2)) (.n (decide ((quadD a b c).lo < 0)) (.l (nul, 0))
    (.n (div c (sub (rootI (quadD a b c)) b)).no (.l (nul, 0)) (.l (div c (sub (rootI (quadD a b c)) b), 1)))))
def near (a : Iv) (b : Iv) (c : Iv) : Iv × Int := (nearT a b c).ev
noncomputable def quad_Near_c : Ct := ⟨146, pf3 acIv acIv acIv fun a b c => fIvInt (near a b c), pf3_ok fun a b c => ct_tr (x := (nearT a b c).ev) (t := nearT a b c) (env [iv_Sub_c, iv_Sqr_c, iv_Mul_c, iv_None_c, iv_Div_c, iv_Root_c]) (env_ok [iv_Sub_c, iv_Sqr_c, iv_Mul_c, iv_None_c, iv_Div_c, iv_Root_c]) Try.func146 (by kernel_rfl) ([] : List (Hn Try.f146)) (by kernel_rfl) (by kernel_rfl) (by kernel_rfl)
  (show evH (env [iv_Sub_c, iv_Sqr_c, iv_Mul_c, iv_None_c, iv_Div_c, iv_Root_c]) (hl ([] : List (Hn Try.f146))) none 0 0 Try.f146 [acIv.enc a, acIv.enc b, acIv.enc c] = (nearT a b c).fold fun x => some (fIvInt x) by kernel_rfl) (Tr.run_ev _ (by kernel_rfl))⟩


end Go.Proofs.Ytmmlpaehehgfnaa.Sx
