/-
  What this text proves: the contracts of packages num and iv.
  Conditions: none.
-/
import Derived.Test.YtmmlpaehehgfnaaQs
import Derived.IntWalk
namespace Go.Proofs.Ytmmlpaehehgfnaa.Sx
set_option linter.unusedSimpArgs false
set_option linter.unusedVariables false

abbrev acIv : Ac Iv := acS cdIv
abbrev acTri : Ac Int := acInt

abbrev fInt (n : Int) : RD := .a (.s (.v (.int .i64 n)))
abbrev fBool (b : Bool) : RD := .a (.s (.v (.bool b)))
abbrev fIv (a : Iv) : RD := .a (acIv.enc a)
abbrev fIntBool (x : Int × Bool) : RD := .tup [.s (.v (.int .i64 x.1)), .s (.v (.bool x.2))]
abbrev fIntInt (x : Int × Int) : RD := .tup [.s (.v (.int .i64 x.1)), .s (.v (.int .i64 x.2))]
abbrev fIvIv (x : Iv × Iv) : RD := .tup [acIv.enc x.1, acIv.enc x.2]
abbrev fIvInt (x : Iv × Int) : RD := .tup [acIv.enc x.1, .s (.v (.int .i64 x.2))]

/-! ### num -/

def inRT (n : Int) : Tr (Bool) :=
  .n (decide (n ≥ -1073741824)) (.l (decide (n ≤ 1073741824))) (.l false)
def inR (n : Int) : Bool := (inRT n).ev
noncomputable def num_In_c : Ct := ⟨97, pf1 acInt fun n => fBool (inR n), pf1_ok fun n => ct_tr (x := (inRT n).ev) (t := inRT n) (env []) (env_ok []) Try.func97 (by kernel_rfl) ([] : List (Hn Try.f97)) (by kernel_rfl) (by kernel_rfl) (by kernel_rfl)
  (show evH (env []) (hl ([] : List (Hn Try.f97))) none 0 0 Try.f97 [acInt.enc n] = (inRT n).fold fun x => some (fBool x) by kernel_rfl) (Tr.run_ev _ (by kernel_rfl))⟩


def floorT (a : Int) (b : Int) : Tr (Int) :=
  .n (b == 0) (.l 0) (.n (!decide (b = 0)) (.n (!decide (b = 0)) (
    .n (a.tmod b != 0) (.n ((decide (a < 0)) != (decide (b < 0))) (.l (w64 (w64 (a.tdiv b) - 1))) (.l (w64 (a.tdiv b)))) (.l (w64 (a.tdiv b)))) .f) .f)
def floor (a : Int) (b : Int) : Int := (floorT a b).ev
noncomputable def num_Floor_c : Ct := ⟨158, pf2 acInt acInt fun a b => fInt (floor a b), pf2_ok fun a b => ct_tr (x := (floorT a b).ev) (t := floorT a b) (env []) (env_ok []) Try.func158 (by kernel_rfl) ([] : List (Hn Try.f158)) (by kernel_rfl) (by kernel_rfl) (by kernel_rfl)
  (show evH (env []) (hl ([] : List (Hn Try.f158))) none 0 0 Try.f158 [acInt.enc a, acInt.enc b] = (floorT a b).fold fun x => some (fInt x) by kernel_rfl) (by unfold floorT; by_cases h : b = 0 <;> simp [h] <;> (repeat' split) <;> rfl)⟩


def roundedT (a b : Int) (up : Bool) : Tr (Int × Bool) :=
  .n up (.n (!decide (b = 0)) (.n (a.tmod b != 0) (.n (!inR (w64 (floor a b + 1))) (.l (0, false)) (.l (w64 (floor a b + 1), true)))
      (.n (!inR (floor a b)) (.l (0, false)) (.l (floor a b, true)))) .f)
    (.n (!inR (floor a b)) (.l (0, false)) (.l (floor a b, true)))
def rounded (a b : Int) (up : Bool) : Int × Bool := (roundedT a b up).ev
theorem rounded_run (a b : Int) (up : Bool) (h : (!decide (b = 0)) = true) : (roundedT a b up).run = some (rounded a b up) := by
  apply run_of_ne
  unfold roundedT
  have hb : b ≠ 0 := by simpa using h
  simp only [Tr.run_n, Tr.run_l, Tr.run_f, h, if_true]
  repeat' split
  all_goals simp

noncomputable def num_rounded_c : Ct := ⟨132, pf3g acInt acInt acBool (fun a b up => !decide (b = 0)) fun a b up => fIntBool (rounded a b up), pf3g_ok fun a b up hg => ct_tr (x := (roundedT a b up).ev) (t := roundedT a b up) (env [num_Floor_c, num_In_c]) (env_ok [num_Floor_c, num_In_c]) Try.func132 (by kernel_rfl) ([] : List (Hn Try.f132)) (by kernel_rfl) (by kernel_rfl) (by kernel_rfl)
  (show evH (env [num_Floor_c, num_In_c]) (hl ([] : List (Hn Try.f132))) none 0 0 Try.f132 [acInt.enc a, acInt.enc b, acBool.enc up] = (roundedT a b up).fold fun x => some (fIntBool x) by kernel_rfl) (rounded_run a b up hg)⟩


def mulRT (a : Int) (b : Int) (up : Bool) : Tr (Int × Bool) :=
  .n (!inR a) (.l (0, false)) (.n (!inR b) (.l (0, false)) (.l (rounded (w64 (a * b)) 65536 up)))
def mulR (a : Int) (b : Int) (up : Bool) : Int × Bool := (mulRT a b up).ev
noncomputable def num_Mul_c : Ct := ⟨95, pf3 acInt acInt acBool fun a b up => fIntBool (mulR a b up), pf3_ok fun a b up => ct_tr (x := (mulRT a b up).ev) (t := mulRT a b up) (env [num_In_c, num_rounded_c]) (env_ok [num_In_c, num_rounded_c]) Try.func95 (by kernel_rfl) ([] : List (Hn Try.f95)) (by kernel_rfl) (by kernel_rfl) (by kernel_rfl)
  (show evH (env [num_In_c, num_rounded_c]) (hl ([] : List (Hn Try.f95))) none 0 0 Try.f95 [acInt.enc a, acInt.enc b, acBool.enc up] = (mulRT a b up).fold fun x => some (fIntBool x) by kernel_rfl) (Tr.run_ev _ (by kernel_rfl))⟩


def divRT (a b : Int) (up : Bool) : Tr (Int × Bool) :=
  .n (!inR a) (.l (0, false)) (.n (!inR b) (.l (0, false)) (.n (b == 0) (.l (0, false)) (.n (!decide (b = 0)) (.l (rounded (w64 (a * 65536)) b up)) .f)))
def divR (a b : Int) (up : Bool) : Int × Bool := (divRT a b up).ev
theorem divR_run (a b : Int) (up : Bool) : (divRT a b up).run = some (divR a b up) := by
  apply run_of_ne
  unfold divRT
  simp only [Tr.run_n, Tr.run_l, Tr.run_f]
  repeat' split
  all_goals simp_all

noncomputable def num_Div_c : Ct := ⟨128, pf3 acInt acInt acBool fun a b up => fIntBool (divR a b up), pf3_ok fun a b up => ct_tr (x := (divRT a b up).ev) (t := divRT a b up) (env [num_In_c, num_rounded_c]) (env_ok [num_In_c, num_rounded_c]) Try.func128 (by kernel_rfl) ([] : List (Hn Try.f128)) (by kernel_rfl) (by kernel_rfl) (by kernel_rfl)
  (show evH (env [num_In_c, num_rounded_c]) (hl ([] : List (Hn Try.f128))) none 0 0 Try.f128 [acInt.enc a, acInt.enc b, acBool.enc up] = (divRT a b up).fold fun x => some (fIntBool x) by kernel_rfl) (divR_run a b up)⟩


/-! #### num.Root -/

abbrev orI (a b : Int) : Int := IntKind.i64.wrap (BitVec.ofInt 64 a ||| BitVec.ofInt 64 b).toNat

/-- up, n, root, bit. -/
abbrev RootS := Bool × Int × Int × Int

def rootC : VL RootS := .cons 1 vBool (.cons 6 vInt (.cons 7 vInt (.one 8 vInt)))
def rootV : View RootS := view0 rootC 0 none

def more (r b : Int) : Int := orI r (w64 (1 * 2 ^ min b.toNat 64))

def rootRT (x : RootS) : Tr (Ex × RootS) :=
  .n (decide (x.2.2.2 ≥ 0)) (.n (!decide (x.2.2.2 < 0)) (.n (decide (w64 (more x.2.2.1 x.2.2.2 * more x.2.2.1 x.2.2.2) ≤ x.2.1))
      (.l (.normal, (x.1, x.2.1, more x.2.2.1 x.2.2.2, w64 (x.2.2.2 - 1)))) (.l (.normal, (x.1, x.2.1, x.2.2.1, w64 (x.2.2.2 - 1))))) .f)
    (.l (.exit 0, x))

def rootFrom (n : Int) : Nat → Int → Int
  | 0, r => r
  | k + 1, r => rootFrom n k (if w64 (more r k * more r k) ≤ n then more r k else r)

def rootFin (x : RootS) : Tr (Ex × RootS) := .l (.exit 0, (x.1, x.2.1, rootFrom x.2.1 (x.2.2.2 + 1).toNat x.2.2.1, -1))

def rootGood (x : RootS) : Bool := decide (-1 ≤ x.2.2.2) && decide (x.2.2.2 ≤ 24)

theorem w64_id {n : Int} (h1 : -9223372036854775808 ≤ n) (h2 : n ≤ 9223372036854775807) : w64 n = n := by
  exact IntWalk.i64_in n ⟨h1, h2⟩

theorem root_fin (x : RootS) (h : rootGood x = true) : StepOk (fun x => (rootFin x).run) (fun x => rootGood x = true) (fun x => (x.2.2.2 + 1).toNat) x (rootRT x).run := by
  obtain ⟨up, n, r, b⟩ := x
  simp only [rootGood, Bool.and_eq_true, decide_eq_true_eq] at h
  obtain ⟨h1, h2⟩ := h
  unfold rootRT
  simp only [Tr.run_n, Tr.run_l, Tr.run_f]
  by_cases hb : b ≥ 0
  · have hw : w64 (b - 1) = b - 1 := w64_id (by omega) (by omega)
    have hlt : ¬ b < 0 := by omega
    obtain ⟨k, rfl⟩ := Int.eq_ofNat_of_zero_le hb
    have e1 : ((k : Int) + 1).toNat = k + 1 := by omega
    have e2 : ((k : Int) - 1 + 1).toNat = k := by omega
    by_cases hm : w64 (more r k * more r k) ≤ n
    · simp only [hb, hlt, hm, decide_true, decide_false, Bool.not_false, if_true, hw]
      refine ⟨by simp only [rootGood, Bool.and_eq_true, decide_eq_true_eq]; omega, by simp only [e1, e2]; omega, ?_⟩
      simp only [rootFin, Tr.run_l, e1, e2, rootFrom, hm, if_true]
    · simp only [hb, hlt, hm, decide_true, decide_false, Bool.not_false, if_true, hw, Bool.false_eq_true, if_false]
      refine ⟨by simp only [rootGood, Bool.and_eq_true, decide_eq_true_eq]; omega, by simp only [e1, e2]; omega, ?_⟩
      simp only [rootFin, Tr.run_l, e1, e2, rootFrom, hm, if_false]
  · have : b = -1 := by omega
    subst this
    simp [StepOk, rootFin, rootFrom]

noncomputable def root_hint : Hn Try.f151 := mkHn Try.f151 0 rootV (by kernel_rfl) (dec0 rootC) (dec0_ok rootC 0 none) (env []) (env_ok []) [] (by kernel_rfl) (fun q h => by cases h) 0 0 rootRT rootFin rootGood (fun x => (x.2.2.2 + 1).toNat)
  (fun x => by kernel_rfl) root_fin

def rootRaw (a : Int) : Int := rootFrom (w64 (a * 65536)) 25 0

def numRootT (a : Int) (up : Bool) : Tr (Int × Bool) :=
  .n (decide (a < 0)) (.l (0, false)) (.n (!inR a) (.l (0, false))
    (.n up (.n (decide (w64 (rootRaw a * rootRaw a) < w64 (a * 65536))) (.l (w64 (rootRaw a + 1), true)) (.l (rootRaw a, true))) (.l (rootRaw a, true))))
def numRoot (a : Int) (up : Bool) : Int × Bool := (numRootT a up).ev
noncomputable def num_Root_c : Ct := ⟨151, pf2 acInt acBool fun a up => fIntBool (numRoot a up), pf2_ok fun a up => ct_tr (x := (numRootT a up).ev) (t := numRootT a up) (env [num_In_c]) (env_ok [num_In_c]) Try.func151 (by kernel_rfl) ([root_hint] : List (Hn Try.f151)) (by kernel_rfl) (by kernel_rfl) (by kernel_rfl)
  (show evH (env [num_In_c]) (hl ([root_hint] : List (Hn Try.f151))) none 0 0 Try.f151 [acInt.enc a, acBool.enc up] = (numRootT a up).fold fun x => some (fIntBool x) by kernel_rfl) (Tr.run_ev _ (by kernel_rfl))⟩


/-! ### iv -/

def rightT (a : Iv) : Tr (Bool) :=
  .n (!a.no) (.n (inR a.lo) (.n (inR a.hi) (.l (decide (a.lo ≤ a.hi))) (.l false)) (.l false)) (.l false)
def right (a : Iv) : Bool := (rightT a).ev
noncomputable def iv_Right_c : Ct := ⟨51, pf1 acIv fun a => fBool (right a), pf1_ok fun a => ct_tr (x := (rightT a).ev) (t := rightT a) (env [num_In_c]) (env_ok [num_In_c]) Try.func51 (by kernel_rfl) ([] : List (Hn Try.f51)) (by kernel_rfl) (by kernel_rfl) (by kernel_rfl)
  (show evH (env [num_In_c]) (hl ([] : List (Hn Try.f51))) none 0 0 Try.f51 [acIv.enc a] = (rightT a).fold fun x => some (fBool x) by kernel_rfl) (Tr.run_ev _ (by kernel_rfl))⟩


def nul  : Iv :=
  ⟨0, 0, true⟩
noncomputable def iv_None_c : Ct := ⟨43, pf0 (fIv nul), pf0_ok (ct_ok (env []) (env_ok []) Try.func43 (by kernel_rfl) ([] : List (Hn Try.f43)) (by kernel_rfl) (by kernel_rfl) (by kernel_rfl)
  (show evH (env []) (hl ([] : List (Hn Try.f43))) none 0 0 Try.f43 [] = some (fIv (nul)) by kernel_rfl))⟩


def ofT (lo : Int) (hi : Int) : Tr (Iv) :=
  .n (!right ⟨lo, hi, false⟩) (.l nul) (.l ⟨lo, hi, false⟩)
def of (lo : Int) (hi : Int) : Iv := (ofT lo hi).ev
noncomputable def iv_Of_c : Ct := ⟨93, pf2 acInt acInt fun lo hi => fIv (of lo hi), pf2_ok fun lo hi => ct_tr (x := (ofT lo hi).ev) (t := ofT lo hi) (env [iv_Right_c, iv_None_c]) (env_ok [iv_Right_c, iv_None_c]) Try.func93 (by kernel_rfl) ([] : List (Hn Try.f93)) (by kernel_rfl) (by kernel_rfl) (by kernel_rfl)
  (show evH (env [iv_Right_c, iv_None_c]) (hl ([] : List (Hn Try.f93))) none 0 0 Try.f93 [acInt.enc lo, acInt.enc hi] = (ofT lo hi).fold fun x => some (fIv x) by kernel_rfl) (Tr.run_ev _ (by kernel_rfl))⟩


def point (n : Int) : Iv :=
  of n n
noncomputable def iv_Point_c : Ct := ⟨57, pf1 acInt fun n => fIv (point n), pf1_ok fun n => ct_ok (env [iv_Of_c]) (env_ok [iv_Of_c]) Try.func57 (by kernel_rfl) ([] : List (Hn Try.f57)) (by kernel_rfl) (by kernel_rfl) (by kernel_rfl)
  (show evH (env [iv_Of_c]) (hl ([] : List (Hn Try.f57))) none 0 0 Try.f57 [acInt.enc n] = some (fIv (point n)) by kernel_rfl)⟩


def wholeT (n : Int) : Tr (Iv) :=
  .n (!inR n) (.l nul) (.l (point (w64 (n * 65536))))
def whole (n : Int) : Iv := (wholeT n).ev
noncomputable def iv_Whole_c : Ct := ⟨40, pf1 acInt fun n => fIv (whole n), pf1_ok fun n => ct_tr (x := (wholeT n).ev) (t := wholeT n) (env [num_In_c, iv_None_c, iv_Point_c]) (env_ok [num_In_c, iv_None_c, iv_Point_c]) Try.func40 (by kernel_rfl) ([] : List (Hn Try.f40)) (by kernel_rfl) (by kernel_rfl) (by kernel_rfl)
  (show evH (env [num_In_c, iv_None_c, iv_Point_c]) (hl ([] : List (Hn Try.f40))) none 0 0 Try.f40 [acInt.enc n] = (wholeT n).fold fun x => some (fIv x) by kernel_rfl) (Tr.run_ev _ (by kernel_rfl))⟩


def bothT (a : Iv) (b : Iv) : Tr (Bool) :=
  .n (right a) (.l (right b)) (.l false)
def both (a : Iv) (b : Iv) : Bool := (bothT a b).ev
noncomputable def iv_both_c : Ct := ⟨85, pf2 acIv acIv fun a b => fBool (both a b), pf2_ok fun a b => ct_tr (x := (bothT a b).ev) (t := bothT a b) (env [iv_Right_c]) (env_ok [iv_Right_c]) Try.func85 (by kernel_rfl) ([] : List (Hn Try.f85)) (by kernel_rfl) (by kernel_rfl) (by kernel_rfl)
  (show evH (env [iv_Right_c]) (hl ([] : List (Hn Try.f85))) none 0 0 Try.f85 [acIv.enc a, acIv.enc b] = (bothT a b).fold fun x => some (fBool x) by kernel_rfl) (Tr.run_ev _ (by kernel_rfl))⟩


def addT (a : Iv) (b : Iv) : Tr (Iv) :=
  .n (!both a b) (.l nul) (.l (of (w64 (a.lo + b.lo)) (w64 (a.hi + b.hi))))
def add (a : Iv) (b : Iv) : Iv := (addT a b).ev
noncomputable def iv_Add_c : Ct := ⟨49, pf2 acIv acIv fun a b => fIv (add a b), pf2_ok fun a b => ct_tr (x := (addT a b).ev) (t := addT a b) (env [iv_both_c, iv_Of_c, iv_None_c]) (env_ok [iv_both_c, iv_Of_c, iv_None_c]) Try.func49 (by kernel_rfl) ([] : List (Hn Try.f49)) (by kernel_rfl) (by kernel_rfl) (by kernel_rfl)
  (show evH (env [iv_both_c, iv_Of_c, iv_None_c]) (hl ([] : List (Hn Try.f49))) none 0 0 Try.f49 [acIv.enc a, acIv.enc b] = (addT a b).fold fun x => some (fIv x) by kernel_rfl) (Tr.run_ev _ (by kernel_rfl))⟩


def negT (a : Iv) : Tr (Iv) :=
  .n (!right a) (.l nul) (.l (of (w64 (0 - a.hi)) (w64 (0 - a.lo))))
def neg (a : Iv) : Iv := (negT a).ev
noncomputable def iv_Neg_c : Ct := ⟨96, pf1 acIv fun a => fIv (neg a), pf1_ok fun a => ct_tr (x := (negT a).ev) (t := negT a) (env [iv_Right_c, iv_Of_c, iv_None_c]) (env_ok [iv_Right_c, iv_Of_c, iv_None_c]) Try.func96 (by kernel_rfl) ([] : List (Hn Try.f96)) (by kernel_rfl) (by kernel_rfl) (by kernel_rfl)
  (show evH (env [iv_Right_c, iv_Of_c, iv_None_c]) (hl ([] : List (Hn Try.f96))) none 0 0 Try.f96 [acIv.enc a] = (negT a).fold fun x => some (fIv x) by kernel_rfl) (Tr.run_ev _ (by kernel_rfl))⟩


def sub (a : Iv) (b : Iv) : Iv :=
  add a (neg b)
noncomputable def iv_Sub_c : Ct := ⟨39, pf2 acIv acIv fun a b => fIv (sub a b), pf2_ok fun a b => ct_ok (env [iv_Add_c, iv_Neg_c]) (env_ok [iv_Add_c, iv_Neg_c]) Try.func39 (by kernel_rfl) ([] : List (Hn Try.f39)) (by kernel_rfl) (by kernel_rfl) (by kernel_rfl)
  (show evH (env [iv_Add_c, iv_Neg_c]) (hl ([] : List (Hn Try.f39))) none 0 0 Try.f39 [acIv.enc a, acIv.enc b] = some (fIv (sub a b)) by kernel_rfl)⟩


def mn (x y : Int) : Int := if y < x then y else x
def mx (x y : Int) : Int := if y > x then y else x

def endS1 (g : Int → Int → Bool → Int × Bool) (x y : Int) (K : Iv → Tr Iv) : Tr Iv :=
  .n (!(g x y false).2) (.l nul) (.n (!(g x y true).2) (.l nul)
    (K (of (mn (of (g x y false).1 (g x y true).1).lo (g x y false).1) (mx (of (g x y false).1 (g x y true).1).hi (g x y true).1))))
def endS (g : Int → Int → Bool → Int × Bool) (x y : Int) (o : Iv) (K : Iv → Tr Iv) : Tr Iv :=
  .n (!(g x y false).2) (.l nul) (.n (!(g x y true).2) (.l nul) (K (of (mn o.lo (g x y false).1) (mx o.hi (g x y true).1))))
def endsT (g : Int → Int → Bool → Int × Bool) (a b : Iv) : Tr Iv :=
  endS1 g a.lo b.lo fun o1 => endS g a.lo b.hi o1 fun o2 => endS g a.hi b.lo o2 fun o3 => endS g a.hi b.hi o3 .l
def ends (g : Int → Int → Bool → Int × Bool) (a b : Iv) : Iv := (endsT g a b).ev

theorem ends_mul (a b : Iv) : evH (env [num_Mul_c, iv_None_c, iv_Of_c]) [] none 3 0 Try.f94 [acFn.enc 95, acIv.enc a, acIv.enc b] = (endsT mulR a b).fold fun x => some (fIv x) := by kernel_rfl
theorem ends_div (a b : Iv) : evH (env [num_Div_c, iv_None_c, iv_Of_c]) [] none 3 0 Try.f94 [acFn.enc 128, acIv.enc a, acIv.enc b] = (endsT divR a b).fold fun x => some (fIv x) := by kernel_rfl

noncomputable def iv_ends_c : Ct := ⟨94, pf3g acFn acIv acIv (fun f _ _ => Nat.beq f 95 || Nat.beq f 128) fun f a b => fIv (cond (Nat.beq f 95) (ends mulR a b) (ends divR a b)),
  pf3g_ok fun f a b hg => by
    simp only [Bool.or_eq_true] at hg
    rcases hg with h | h
    · obtain rfl := Nat.eq_of_beq_eq_true h
      exact ct_tr (t := endsT mulR a b) _ (env_ok [num_Mul_c, iv_None_c, iv_Of_c]) Try.func94 (by kernel_rfl) [] (by kernel_rfl) (by kernel_rfl) (by kernel_rfl) (ends_mul a b) (Tr.run_ev _ (by kernel_rfl))
    · obtain rfl := Nat.eq_of_beq_eq_true h
      exact ct_tr (t := endsT divR a b) _ (env_ok [num_Div_c, iv_None_c, iv_Of_c]) Try.func94 (by kernel_rfl) [] (by kernel_rfl) (by kernel_rfl) (by kernel_rfl) (ends_div a b) (Tr.run_ev _ (by kernel_rfl))⟩

def hasT (a : Iv) (n : Int) : Tr (Bool) :=
  .n (right a) (.n (decide (a.lo ≤ n)) (.l (decide (n ≤ a.hi))) (.l false)) (.l false)
def has (a : Iv) (n : Int) : Bool := (hasT a n).ev
noncomputable def iv_Has_c : Ct := ⟨42, pf2 acIv acInt fun a n => fBool (has a n), pf2_ok fun a n => ct_tr (x := (hasT a n).ev) (t := hasT a n) (env [iv_Right_c]) (env_ok [iv_Right_c]) Try.func42 (by kernel_rfl) ([] : List (Hn Try.f42)) (by kernel_rfl) (by kernel_rfl) (by kernel_rfl)
  (show evH (env [iv_Right_c]) (hl ([] : List (Hn Try.f42))) none 0 0 Try.f42 [acIv.enc a, acInt.enc n] = (hasT a n).fold fun x => some (fBool x) by kernel_rfl) (Tr.run_ev _ (by kernel_rfl))⟩


def mulT (a : Iv) (b : Iv) : Tr (Iv) :=
  .n (!both a b) (.l nul) (.l (ends mulR a b))
def mul (a : Iv) (b : Iv) : Iv := (mulT a b).ev
noncomputable def iv_Mul_c : Ct := ⟨38, pf2 acIv acIv fun a b => fIv (mul a b), pf2_ok fun a b => ct_tr (x := (mulT a b).ev) (t := mulT a b) (env [iv_both_c, iv_None_c, iv_ends_c]) (env_ok [iv_both_c, iv_None_c, iv_ends_c]) Try.func38 (by kernel_rfl) ([] : List (Hn Try.f38)) (by kernel_rfl) (by kernel_rfl) (by kernel_rfl)
  (show evH (env [iv_both_c, iv_None_c, iv_ends_c]) (hl ([] : List (Hn Try.f38))) none 0 0 Try.f38 [acIv.enc a, acIv.enc b] = (mulT a b).fold fun x => some (fIv x) by kernel_rfl) (Tr.run_ev _ (by kernel_rfl))⟩


def divT (a : Iv) (b : Iv) : Tr (Iv) :=
  .n (!both a b) (.l nul) (.n (has b 0) (.l nul) (.l (ends divR a b)))
def div (a : Iv) (b : Iv) : Iv := (divT a b).ev
noncomputable def iv_Div_c : Ct := ⟨82, pf2 acIv acIv fun a b => fIv (div a b), pf2_ok fun a b => ct_tr (x := (divT a b).ev) (t := divT a b) (env [iv_both_c, iv_Has_c, iv_None_c, iv_ends_c]) (env_ok [iv_both_c, iv_Has_c, iv_None_c, iv_ends_c]) Try.func82 (by kernel_rfl) ([] : List (Hn Try.f82)) (by kernel_rfl) (by kernel_rfl) (by kernel_rfl)
  (show evH (env [iv_both_c, iv_Has_c, iv_None_c, iv_ends_c]) (hl ([] : List (Hn Try.f82))) none 0 0 Try.f82 [acIv.enc a, acIv.enc b] = (divT a b).fold fun x => some (fIv x) by kernel_rfl) (Tr.run_ev _ (by kernel_rfl))⟩


def timesT (a : Iv) (k : Int) : Tr (Iv) :=
  .n (!right a) (.l nul) (.n (!inR k) (.l nul) (.l (of (mn (w64 (k * a.lo)) (w64 (k * a.hi))) (mx (w64 (k * a.lo)) (w64 (k * a.hi))))))
def times (a : Iv) (k : Int) : Iv := (timesT a k).ev
noncomputable def iv_Times_c : Ct := ⟨41, pf2 acIv acInt fun a k => fIv (times a k), pf2_ok fun a k => ct_tr (x := (timesT a k).ev) (t := timesT a k) (env [iv_Right_c, num_In_c, iv_None_c, iv_Of_c]) (env_ok [iv_Right_c, num_In_c, iv_None_c, iv_Of_c]) Try.func41 (by kernel_rfl) ([] : List (Hn Try.f41)) (by kernel_rfl) (by kernel_rfl) (by kernel_rfl)
  (show evH (env [iv_Right_c, num_In_c, iv_None_c, iv_Of_c]) (hl ([] : List (Hn Try.f41))) none 0 0 Try.f41 [acIv.enc a, acInt.enc k] = (timesT a k).fold fun x => some (fIv x) by kernel_rfl) (Tr.run_ev _ (by kernel_rfl))⟩


def sqrT (a : Iv) : Tr (Iv) :=
  .n (!right a) (.l nul) (
    .n (!(mulR (mx (w64 (0 - a.lo)) a.hi) (mx (w64 (0 - a.lo)) a.hi) true).2) (.l nul)
      (.l (of (mulR (mx (mx a.lo (w64 (0 - a.hi))) 0) (mx (mx a.lo (w64 (0 - a.hi))) 0) false).1 (mulR (mx (w64 (0 - a.lo)) a.hi) (mx (w64 (0 - a.lo)) a.hi) true).1)))
def sqr (a : Iv) : Iv := (sqrT a).ev
noncomputable def iv_Sqr_c : Ct := ⟨50, pf1 acIv fun a => fIv (sqr a), pf1_ok fun a => ct_tr (x := (sqrT a).ev) (t := sqrT a) (env [iv_Right_c, num_Mul_c, iv_None_c, iv_Of_c]) (env_ok [iv_Right_c, num_Mul_c, iv_None_c, iv_Of_c]) Try.func50 (by kernel_rfl) ([] : List (Hn Try.f50)) (by kernel_rfl) (by kernel_rfl) (by kernel_rfl)
  (show evH (env [iv_Right_c, num_Mul_c, iv_None_c, iv_Of_c]) (hl ([] : List (Hn Try.f50))) none 0 0 Try.f50 [acIv.enc a] = (sqrT a).fold fun x => some (fIv x) by kernel_rfl) (Tr.run_ev _ (by kernel_rfl))⟩


def hullT (a : Iv) (b : Iv) : Tr (Iv) :=
  .n (!both a b) (.l nul) (.l (of (mn a.lo b.lo) (mx a.hi b.hi)))
def hull (a : Iv) (b : Iv) : Iv := (hullT a b).ev
noncomputable def iv_Hull_c : Ct := ⟨153, pf2 acIv acIv fun a b => fIv (hull a b), pf2_ok fun a b => ct_tr (x := (hullT a b).ev) (t := hullT a b) (env [iv_both_c, iv_None_c, iv_Of_c]) (env_ok [iv_both_c, iv_None_c, iv_Of_c]) Try.func153 (by kernel_rfl) ([] : List (Hn Try.f153)) (by kernel_rfl) (by kernel_rfl) (by kernel_rfl)
  (show evH (env [iv_both_c, iv_None_c, iv_Of_c]) (hl ([] : List (Hn Try.f153))) none 0 0 Try.f153 [acIv.enc a, acIv.enc b] = (hullT a b).fold fun x => some (fIv x) by kernel_rfl) (Tr.run_ev _ (by kernel_rfl))⟩


def meetT (a : Iv) (b : Iv) : Tr (Iv) :=
  .n (!both a b) (.l nul) (.l (of (mx a.lo b.lo) (mn a.hi b.hi)))
def meet (a : Iv) (b : Iv) : Iv := (meetT a b).ev
noncomputable def iv_Meet_c : Ct := ⟨52, pf2 acIv acIv fun a b => fIv (meet a b), pf2_ok fun a b => ct_tr (x := (meetT a b).ev) (t := meetT a b) (env [iv_both_c, iv_None_c, iv_Of_c]) (env_ok [iv_both_c, iv_None_c, iv_Of_c]) Try.func52 (by kernel_rfl) ([] : List (Hn Try.f52)) (by kernel_rfl) (by kernel_rfl) (by kernel_rfl)
  (show evH (env [iv_both_c, iv_None_c, iv_Of_c]) (hl ([] : List (Hn Try.f52))) none 0 0 Try.f52 [acIv.enc a, acIv.enc b] = (meetT a b).fold fun x => some (fIv x) by kernel_rfl) (Tr.run_ev _ (by kernel_rfl))⟩


def midT (a : Iv) : Tr (Int) :=
  .n (!right a) (.l 0) (.l ((w64 (a.lo + a.hi)).fdiv 2))
def mid (a : Iv) : Int := (midT a).ev
noncomputable def iv_Mid_c : Ct := ⟨81, pf1 acIv fun a => fInt (mid a), pf1_ok fun a => ct_tr (x := (midT a).ev) (t := midT a) (env [iv_Right_c]) (env_ok [iv_Right_c]) Try.func81 (by kernel_rfl) ([] : List (Hn Try.f81)) (by kernel_rfl) (by kernel_rfl) (by kernel_rfl)
  (show evH (env [iv_Right_c]) (hl ([] : List (Hn Try.f81))) none 0 0 Try.f81 [acIv.enc a] = (midT a).fold fun x => some (fInt x) by kernel_rfl) (Tr.run_ev _ (by kernel_rfl))⟩


def insideT (a : Iv) (b : Iv) : Tr (Bool) :=
  .n (both a b) (.n (decide (b.lo ≤ a.lo)) (.l (decide (a.hi ≤ b.hi))) (.l false)) (.l false)
def inside (a : Iv) (b : Iv) : Bool := (insideT a b).ev
noncomputable def iv_Inside_c : Ct := ⟨33, pf2 acIv acIv fun a b => fBool (inside a b), pf2_ok fun a b => ct_tr (x := (insideT a b).ev) (t := insideT a b) (env [iv_both_c]) (env_ok [iv_both_c]) Try.func33 (by kernel_rfl) ([] : List (Hn Try.f33)) (by kernel_rfl) (by kernel_rfl) (by kernel_rfl)
  (show evH (env [iv_both_c]) (hl ([] : List (Hn Try.f33))) none 0 0 Try.f33 [acIv.enc a, acIv.enc b] = (insideT a b).fold fun x => some (fBool x) by kernel_rfl) (Tr.run_ev _ (by kernel_rfl))⟩


def splitT (a : Iv) : Tr (Iv × Iv) :=
  .n (!right a) (.l (nul, nul)) (.l (of a.lo (mid a), of (mid a) a.hi))
def split (a : Iv) : Iv × Iv := (splitT a).ev
noncomputable def iv_Split_c : Ct := ⟨83, pf1 acIv fun a => fIvIv (split a), pf1_ok fun a => ct_tr (x := (splitT a).ev) (t := splitT a) (env [iv_Right_c, iv_None_c, iv_Mid_c, iv_Of_c]) (env_ok [iv_Right_c, iv_None_c, iv_Mid_c, iv_Of_c]) Try.func83 (by kernel_rfl) ([] : List (Hn Try.f83)) (by kernel_rfl) (by kernel_rfl) (by kernel_rfl)
  (show evH (env [iv_Right_c, iv_None_c, iv_Mid_c, iv_Of_c]) (hl ([] : List (Hn Try.f83))) none 0 0 Try.f83 [acIv.enc a] = (splitT a).fold fun x => some (fIvIv x) by kernel_rfl) (Tr.run_ev _ (by kernel_rfl))⟩


def rootIT (a : Iv) : Tr (Iv) :=
  .n (!right a) (.l nul) (.n (decide (a.lo < 0)) (.l nul) (.l (of (numRoot a.lo false).1 (numRoot a.hi true).1)))
def rootI (a : Iv) : Iv := (rootIT a).ev
noncomputable def iv_Root_c : Ct := ⟨114, pf1 acIv fun a => fIv (rootI a), pf1_ok fun a => ct_tr (x := (rootIT a).ev) (t := rootIT a) (env [iv_Right_c, iv_None_c, num_Root_c, iv_Of_c]) (env_ok [iv_Right_c, iv_None_c, num_Root_c, iv_Of_c]) Try.func114 (by kernel_rfl) ([] : List (Hn Try.f114)) (by kernel_rfl) (by kernel_rfl) (by kernel_rfl)
  (show evH (env [iv_Right_c, iv_None_c, num_Root_c, iv_Of_c]) (hl ([] : List (Hn Try.f114))) none 0 0 Try.f114 [acIv.enc a] = (rootIT a).fold fun x => some (fIv x) by kernel_rfl) (Tr.run_ev _ (by kernel_rfl))⟩


end Go.Proofs.Ytmmlpaehehgfnaa.Sx
