/-
  What this text proves: the contracts of package meniscusref1.
  Conditions: none.
-/
import Derived.Test.YtmmlpaehehgfnaaHd
namespace Go.Proofs.Ytmmlpaehehgfnaa.Sx
set_option linter.unusedSimpArgs false
set_option linter.unusedVariables false

abbrev wu64 (n : Int) : Int := IntKind.u64.wrap n

def inR1T (n : Int) : Tr (Bool) :=
  .n (decide (n ≥ (-1073741824))) (.l (decide (n ≤ 1073741824))) (.l false)
def inR1 (n : Int) : Bool := (inR1T n).ev
noncomputable def meniscusref1_In_c : Ct := ⟨131, pf1 acInt fun n => fBool (inR1 n), pf1_ok fun n => ct_tr (x := (inR1T n).ev) (t := inR1T n) (env []) (env_ok []) Try.func131 (by kernel_rfl) ([] : List (Hn Try.f131)) (by kernel_rfl) (by kernel_rfl) (by kernel_rfl)
  (show evH (env []) (hl ([] : List (Hn Try.f131))) none 0 0 Try.f131 [acInt.enc n] = (inR1T n).fold fun x => some (fBool x) by kernel_rfl) (Tr.run_ev _ (by kernel_rfl))⟩

def floor1T (a : Int) (b : Int) : Tr (Int) :=
  .n (b == 0)
    (.l 0)
    (.n (!decide (b = 0))
      (.n (!decide (b = 0))
        (.n ((a.tmod b) != 0) (.n ((decide ((a.tmod b) < 0)) != (decide (b < 0))) (.l (w64 ((w64 (a.tdiv b)) - 1))) (.l (w64 (a.tdiv b)))) (.l (w64 (a.tdiv b))))
        .f)
      .f)
def floor1 (a : Int) (b : Int) : Int := (floor1T a b).ev
noncomputable def meniscusref1_Floor_c : Ct := ⟨164, pf2 acInt acInt fun a b => fInt (floor1 a b), pf2_ok fun a b => ct_tr (x := (floor1T a b).ev) (t := floor1T a b) (env []) (env_ok []) Try.func164 (by kernel_rfl) ([] : List (Hn Try.f164)) (by kernel_rfl) (by kernel_rfl) (by kernel_rfl)
  (show evH (env []) (hl ([] : List (Hn Try.f164))) none 0 0 Try.f164 [acInt.enc a, acInt.enc b] = (floor1T a b).fold fun x => some (fInt x) by kernel_rfl) (by apply run_of_ne; unfold floor1T; by_cases h : b = 0 <;> simp [h] <;> (repeat' split) <;> simp)⟩

def ceil1T (a : Int) (b : Int) : Tr (Int) :=
  .n ((w64 ((floor1 a b) * b)) != a) (.l (w64 ((floor1 a b) + 1))) (.l (floor1 a b))
def ceil1 (a : Int) (b : Int) : Int := (ceil1T a b).ev
noncomputable def meniscusref1_Ceil_c : Ct := ⟨166, pf2 acInt acInt fun a b => fInt (ceil1 a b), pf2_ok fun a b => ct_tr (x := (ceil1T a b).ev) (t := ceil1T a b) (env [meniscusref1_Floor_c]) (env_ok [meniscusref1_Floor_c]) Try.func166 (by kernel_rfl) ([] : List (Hn Try.f166)) (by kernel_rfl) (by kernel_rfl) (by kernel_rfl)
  (show evH (env [meniscusref1_Floor_c]) (hl ([] : List (Hn Try.f166))) none 0 0 Try.f166 [acInt.enc a, acInt.enc b] = (ceil1T a b).fold fun x => some (fInt x) by kernel_rfl) (Tr.run_ev _ (by kernel_rfl))⟩

def told1T (n : Int) : Tr (Int × Bool) :=
  .n (!(inR1 n)) (.l (0, false)) (.l (n, true))
def told1 (n : Int) : Int × Bool := (told1T n).ev
noncomputable def meniscusref1_told_c : Ct := ⟨178, pf1 acInt fun n => fIntBool (told1 n), pf1_ok fun n => ct_tr (x := (told1T n).ev) (t := told1T n) (env [meniscusref1_In_c]) (env_ok [meniscusref1_In_c]) Try.func178 (by kernel_rfl) ([] : List (Hn Try.f178)) (by kernel_rfl) (by kernel_rfl) (by kernel_rfl)
  (show evH (env [meniscusref1_In_c]) (hl ([] : List (Hn Try.f178))) none 0 0 Try.f178 [acInt.enc n] = (told1T n).fold fun x => some (fIntBool x) by kernel_rfl) (Tr.run_ev _ (by kernel_rfl))⟩

def mul1RT (a : Int) (b : Int) (up : Bool) : Tr (Int × Bool) :=
  .n (!(inR1 a)) (.l (0, false)) (.n (!(inR1 b)) (.l (0, false)) (.n up (.l (told1 (ceil1 (w64 (a * b)) 65536))) (.l (told1 (floor1 (w64 (a * b)) 65536)))))
def mul1R (a : Int) (b : Int) (up : Bool) : Int × Bool := (mul1RT a b up).ev
noncomputable def meniscusref1_Mul_c : Ct := ⟨156, pf3 acInt acInt acBool fun a b up => fIntBool (mul1R a b up), pf3_ok fun a b up => ct_tr (x := (mul1RT a b up).ev) (t := mul1RT a b up) (env [meniscusref1_In_c, meniscusref1_Ceil_c, meniscusref1_told_c, meniscusref1_Floor_c]) (env_ok [meniscusref1_In_c, meniscusref1_Ceil_c, meniscusref1_told_c, meniscusref1_Floor_c]) Try.func156 (by kernel_rfl) ([] : List (Hn Try.f156)) (by kernel_rfl) (by kernel_rfl) (by kernel_rfl)
  (show evH (env [meniscusref1_In_c, meniscusref1_Ceil_c, meniscusref1_told_c, meniscusref1_Floor_c]) (hl ([] : List (Hn Try.f156))) none 0 0 Try.f156 [acInt.enc a, acInt.enc b, acBool.enc up] = (mul1RT a b up).fold fun x => some (fIntBool x) by kernel_rfl) (Tr.run_ev _ (by kernel_rfl))⟩

def div1RT (a : Int) (b : Int) (up : Bool) : Tr (Int × Bool) :=
  .n (!(inR1 a))
    (.l (0, false))
    (.n (!(inR1 b)) (.l (0, false)) (.n (b == 0) (.l (0, false)) (.n up (.l (told1 (ceil1 (w64 (a * 65536)) b))) (.l (told1 (floor1 (w64 (a * 65536)) b))))))
def div1R (a : Int) (b : Int) (up : Bool) : Int × Bool := (div1RT a b up).ev
noncomputable def meniscusref1_Div_c : Ct := ⟨157, pf3 acInt acInt acBool fun a b up => fIntBool (div1R a b up), pf3_ok fun a b up => ct_tr (x := (div1RT a b up).ev) (t := div1RT a b up) (env [meniscusref1_In_c, meniscusref1_Ceil_c, meniscusref1_told_c, meniscusref1_Floor_c]) (env_ok [meniscusref1_In_c, meniscusref1_Ceil_c, meniscusref1_told_c, meniscusref1_Floor_c]) Try.func157 (by kernel_rfl) ([] : List (Hn Try.f157)) (by kernel_rfl) (by kernel_rfl) (by kernel_rfl)
  (show evH (env [meniscusref1_In_c, meniscusref1_Ceil_c, meniscusref1_told_c, meniscusref1_Floor_c]) (hl ([] : List (Hn Try.f157))) none 0 0 Try.f157 [acInt.enc a, acInt.enc b, acBool.enc up] = (div1RT a b up).fold fun x => some (fIntBool x) by kernel_rfl) (Tr.run_ev _ (by kernel_rfl))⟩

/-! #### a loop of meniscusref1.Root -/

abbrev root1S := Bool × Int × Int × Int
def root1C : VL (Bool × Int × Int × Int) := .cons 1 vBool (.cons 6 vInt (.cons 7 vInt (.one 8 vInt)))
def root1V : View root1S := view0 root1C 400 none
def root1T (x : root1S) : Tr (Ex × root1S) :=
  .n (decide (x.2.2.2 ≥ 0))
    (.n (!decide ((wu64 x.2.2.2) < 0))
      (.n (decide ((w64 ((w64 (x.2.2.1 + (w64 (1 * 2 ^ min ((wu64 x.2.2.2).toNat) 64)))) * (w64 (x.2.2.1 + (w64 (1 * 2 ^ min ((wu64 x.2.2.2).toNat) 64)))))) ≤ x.2.1))
        (.l (.normal, (x.1, x.2.1, w64 (x.2.2.1 + (w64 (1 * 2 ^ min ((wu64 x.2.2.2).toNat) 64))), w64 (x.2.2.2 - 1))))
        (.l (.normal, (x.1, x.2.1, x.2.2.1, w64 (x.2.2.2 - 1)))))
      .f)
    (.l ((.exit 0), (x.1, x.2.1, x.2.2.1, x.2.2.2)))
def root1M (x : root1S) : Nat := (x.2.2.2 + 1).toNat
def root1G (x : root1S) : Bool := decide (-1 ≤ x.2.2.2) && decide (x.2.2.2 ≤ 23)
def root1E (x : root1S) : Ex × root1S := runT root1T (root1M x) x
theorem root1_step (x : root1S) (h : root1G x = true) : LoopStep [.exit 0] root1G root1M x (root1T x).run := by
  obtain ⟨u, n, r, k⟩ := x
  simp only [root1G, Bool.and_eq_true, decide_eq_true_eq] at h
  unfold root1T
  simp only [Tr.run_n, Tr.run_l, Tr.run_f]
  by_cases hd : k ≥ 0
  · have hw : w64 (k - 1) = k - 1 := IntWalk.i64_in _ ⟨by omega, by omega⟩
    have hu : wu64 k = k := IntWalk.u64_in _ ⟨by omega, by omega⟩
    have hn : ¬ k < 0 := by omega
    simp only [hd, hw, hu, hn, decide_true, decide_false, Bool.not_false, if_true]
    split <;> simp only [LoopStep, root1G, root1M, Bool.and_eq_true, decide_eq_true_eq] <;> omega
  · simp [hd, LoopStep, exEq]
noncomputable def root1_hint : Hn Try.f168 := mkHn Try.f168 0 root1V (by kernel_rfl) (dec0 root1C) (dec0_ok root1C 400 none) (env []) (env_ok []) ([] : List (Hn Try.f168)) (by kernel_rfl) (fun q h => by cases h) 0 0 root1T (finT root1T root1M [.exit 0]) root1G root1M
  (fun x => by kernel_rfl) (loop_fin root1T [.exit 0] root1G root1M root1_step)

def root1RT (a : Int) (up : Bool) : Tr (Int × Bool) :=
  .n (!(inR1 a))
    (.l (0, false))
    (.n (decide (a < 0))
      (.l (0, false))
      (.n (root1G (up, w64 (a * 65536), 0, 23))
        (.n (((root1E (up, w64 (a * 65536), 0, 23)).2).1)
          (.n ((w64 ((((((root1E (up, w64 (a * 65536), 0, 23)).2).2).2).1) * (((((root1E (up, w64 (a * 65536), 0, 23)).2).2).2).1))) != ((((root1E (up, w64 (a * 65536), 0, 23)).2).2).1))
            (.l (told1 (w64 ((((((root1E (up, w64 (a * 65536), 0, 23)).2).2).2).1) + 1))))
            (.l (told1 (((((root1E (up, w64 (a * 65536), 0, 23)).2).2).2).1))))
          (.l (told1 (((((root1E (up, w64 (a * 65536), 0, 23)).2).2).2).1))))
        .f))
def root1R (a : Int) (up : Bool) : Int × Bool := (root1RT a up).ev
noncomputable def meniscusref1_Root_c : Ct := ⟨168, pf2 acInt acBool fun a up => fIntBool (root1R a up), pf2_ok fun a up => ct_tr (x := (root1RT a up).ev) (t := root1RT a up) (env [meniscusref1_In_c, meniscusref1_told_c]) (env_ok [meniscusref1_In_c, meniscusref1_told_c]) Try.func168 (by kernel_rfl) ([root1_hint] : List (Hn Try.f168)) (by kernel_rfl) (by kernel_rfl) (by kernel_rfl)
  (show evH (env [meniscusref1_In_c, meniscusref1_told_c]) (hl ([root1_hint] : List (Hn Try.f168))) none 0 0 Try.f168 [acInt.enc a, acBool.enc up] = (root1RT a up).fold fun x => some (fIntBool x) by kernel_rfl) (by apply run_of_ne; unfold root1RT; simp [root1G]; (repeat' split) <;> simp)⟩

def right1T (a : Iv) : Tr (Bool) :=
  .n (!a.no) (.n (inR1 a.lo) (.n (inR1 a.hi) (.l (decide (a.lo ≤ a.hi))) (.l false)) (.l false)) (.l false)
def right1 (a : Iv) : Bool := (right1T a).ev
noncomputable def meniscusref1_Right_c : Ct := ⟨89, pf1 acIv fun a => fBool (right1 a), pf1_ok fun a => ct_tr (x := (right1T a).ev) (t := right1T a) (env [meniscusref1_In_c]) (env_ok [meniscusref1_In_c]) Try.func89 (by kernel_rfl) ([] : List (Hn Try.f89)) (by kernel_rfl) (by kernel_rfl) (by kernel_rfl)
  (show evH (env [meniscusref1_In_c]) (hl ([] : List (Hn Try.f89))) none 0 0 Try.f89 [acIv.enc a] = (right1T a).fold fun x => some (fBool x) by kernel_rfl) (Tr.run_ev _ (by kernel_rfl))⟩

def nul1  : Iv :=
  ⟨0, 0, true⟩
noncomputable def meniscusref1_None_c : Ct := ⟨90, pf0 (fIv nul1), pf0_ok (ct_ok (env []) (env_ok []) Try.func90 (by kernel_rfl) ([] : List (Hn Try.f90)) (by kernel_rfl) (by kernel_rfl) (by kernel_rfl)
  (show evH (env []) (hl ([] : List (Hn Try.f90))) none 0 0 Try.f90 [] = some (fIv (nul1)) by kernel_rfl))⟩

def of1T (lo : Int) (hi : Int) : Tr (Iv) :=
  .n (!(right1 ⟨lo, hi, false⟩)) (.l nul1) (.l ⟨lo, hi, false⟩)
def of1 (lo : Int) (hi : Int) : Iv := (of1T lo hi).ev
noncomputable def meniscusref1_Of_c : Ct := ⟨129, pf2 acInt acInt fun lo hi => fIv (of1 lo hi), pf2_ok fun lo hi => ct_tr (x := (of1T lo hi).ev) (t := of1T lo hi) (env [meniscusref1_Right_c, meniscusref1_None_c]) (env_ok [meniscusref1_Right_c, meniscusref1_None_c]) Try.func129 (by kernel_rfl) ([] : List (Hn Try.f129)) (by kernel_rfl) (by kernel_rfl) (by kernel_rfl)
  (show evH (env [meniscusref1_Right_c, meniscusref1_None_c]) (hl ([] : List (Hn Try.f129))) none 0 0 Try.f129 [acInt.enc lo, acInt.enc hi] = (of1T lo hi).fold fun x => some (fIv x) by kernel_rfl) (Tr.run_ev _ (by kernel_rfl))⟩

def point1 (n : Int) : Iv :=
  of1 n n
noncomputable def meniscusref1_Point_c : Ct := ⟨86, pf1 acInt fun n => fIv (point1 n), pf1_ok fun n => ct_ok (env [meniscusref1_Of_c]) (env_ok [meniscusref1_Of_c]) Try.func86 (by kernel_rfl) ([] : List (Hn Try.f86)) (by kernel_rfl) (by kernel_rfl) (by kernel_rfl)
  (show evH (env [meniscusref1_Of_c]) (hl ([] : List (Hn Try.f86))) none 0 0 Try.f86 [acInt.enc n] = some (fIv (point1 n)) by kernel_rfl)⟩

def whole1T (n : Int) : Tr (Iv) :=
  .n (!(inR1 n)) (.l nul1) (.l (point1 (w64 (n * 65536))))
def whole1 (n : Int) : Iv := (whole1T n).ev
noncomputable def meniscusref1_Whole_c : Ct := ⟨113, pf1 acInt fun n => fIv (whole1 n), pf1_ok fun n => ct_tr (x := (whole1T n).ev) (t := whole1T n) (env [meniscusref1_In_c, meniscusref1_None_c, meniscusref1_Point_c]) (env_ok [meniscusref1_In_c, meniscusref1_None_c, meniscusref1_Point_c]) Try.func113 (by kernel_rfl) ([] : List (Hn Try.f113)) (by kernel_rfl) (by kernel_rfl) (by kernel_rfl)
  (show evH (env [meniscusref1_In_c, meniscusref1_None_c, meniscusref1_Point_c]) (hl ([] : List (Hn Try.f113))) none 0 0 Try.f113 [acInt.enc n] = (whole1T n).fold fun x => some (fIv x) by kernel_rfl) (Tr.run_ev _ (by kernel_rfl))⟩

def add1T (a : Iv) (b : Iv) : Tr (Iv) :=
  .n (!(right1 a)) (.l nul1) (.n (!(right1 b)) (.l nul1) (.l (of1 (w64 (a.lo + b.lo)) (w64 (a.hi + b.hi)))))
def add1 (a : Iv) (b : Iv) : Iv := (add1T a b).ev
noncomputable def meniscusref1_Add_c : Ct := ⟨87, pf2 acIv acIv fun a b => fIv (add1 a b), pf2_ok fun a b => ct_tr (x := (add1T a b).ev) (t := add1T a b) (env [meniscusref1_Right_c, meniscusref1_None_c, meniscusref1_Of_c]) (env_ok [meniscusref1_Right_c, meniscusref1_None_c, meniscusref1_Of_c]) Try.func87 (by kernel_rfl) ([] : List (Hn Try.f87)) (by kernel_rfl) (by kernel_rfl) (by kernel_rfl)
  (show evH (env [meniscusref1_Right_c, meniscusref1_None_c, meniscusref1_Of_c]) (hl ([] : List (Hn Try.f87))) none 0 0 Try.f87 [acIv.enc a, acIv.enc b] = (add1T a b).fold fun x => some (fIv x) by kernel_rfl) (Tr.run_ev _ (by kernel_rfl))⟩


def sub1T (a : Iv) (b : Iv) : Tr (Iv) :=
  .n (!(right1 a)) (.l nul1) (.n (!(right1 b)) (.l nul1) (.l (of1 (w64 (a.lo - b.hi)) (w64 (a.hi - b.lo)))))
def sub1 (a : Iv) (b : Iv) : Iv := (sub1T a b).ev
noncomputable def meniscusref1_Sub_c : Ct := ⟨167, pf2 acIv acIv fun a b => fIv (sub1 a b), pf2_ok fun a b => ct_tr (x := (sub1T a b).ev) (t := sub1T a b) (env [meniscusref1_Right_c, meniscusref1_None_c, meniscusref1_Of_c]) (env_ok [meniscusref1_Right_c, meniscusref1_None_c, meniscusref1_Of_c]) Try.func167 (by kernel_rfl) ([] : List (Hn Try.f167)) (by kernel_rfl) (by kernel_rfl) (by kernel_rfl)
  (show evH (env [meniscusref1_Right_c, meniscusref1_None_c, meniscusref1_Of_c]) (hl ([] : List (Hn Try.f167))) none 0 0 Try.f167 [acIv.enc a, acIv.enc b] = (sub1T a b).fold fun x => some (fIv x) by kernel_rfl) (Tr.run_ev _ (by kernel_rfl))⟩

/-! #### a loop of meniscusref1.ends -/

abbrev ends1S := (Bool × Int × Int × Int) × (Iv × Iv × Iv)
def ends1C : VL (Bool × Int × Int × Int) := .adr 3 0 (.adr 4 1 (.adr 6 2 (.cons 2 vBool (.cons 7 vInt (.cons 8 vInt (.one 9 vInt))))))
def ends1B : BL (Iv × Iv × Iv) := .cons 0 (bS cdIv) (.cons 1 (bS cdIv) (.one 2 (bS cdIv)))
def ends1V : View ends1S := view1 ends1C ends1B 400 none
def ends1T (x : ends1S) : Tr (Ex × ends1S) :=
  .n (decide (x.1.2.2.2 < 4))
    (.n ((x.1.2.2.2.tmod 2) == 1)
      (.n ((w64 (x.1.2.2.2.tdiv 2)) == 1)
        (.n x.1.1
          (.n (!((div1R x.2.1.hi x.2.2.1.hi false).2))
            (.l (.ret, ((x.1.1, x.1.2.1, x.1.2.2.1, x.1.2.2.2), (x.2.1, x.2.2.1, nul1))))
            (.n (!((div1R x.2.1.hi x.2.2.1.hi true).2))
              (.l (.ret, ((x.1.1, x.1.2.1, x.1.2.2.1, x.1.2.2.2), (x.2.1, x.2.2.1, nul1))))
              (.n (x.1.2.2.2 == 0)
                (.n (x.1.2.2.2 == 0)
                  (.l (.normal, ((x.1.1, (div1R x.2.1.hi x.2.2.1.hi false).1, (div1R x.2.1.hi x.2.2.1.hi true).1, w64 (x.1.2.2.2 + 1)), (x.2.1, x.2.2.1, x.2.2.2))))
                  (.n (decide (((div1R x.2.1.hi x.2.2.1.hi true).1) > x.1.2.2.1))
                    (.l (.normal, ((x.1.1, (div1R x.2.1.hi x.2.2.1.hi false).1, (div1R x.2.1.hi x.2.2.1.hi true).1, w64 (x.1.2.2.2 + 1)), (x.2.1, x.2.2.1, x.2.2.2))))
                    (.l (.normal, ((x.1.1, (div1R x.2.1.hi x.2.2.1.hi false).1, x.1.2.2.1, w64 (x.1.2.2.2 + 1)), (x.2.1, x.2.2.1, x.2.2.2))))))
                (.n (decide (((div1R x.2.1.hi x.2.2.1.hi false).1) < x.1.2.1))
                  (.n (x.1.2.2.2 == 0)
                    (.l (.normal, ((x.1.1, (div1R x.2.1.hi x.2.2.1.hi false).1, (div1R x.2.1.hi x.2.2.1.hi true).1, w64 (x.1.2.2.2 + 1)), (x.2.1, x.2.2.1, x.2.2.2))))
                    (.n (decide (((div1R x.2.1.hi x.2.2.1.hi true).1) > x.1.2.2.1))
                      (.l (.normal, ((x.1.1, (div1R x.2.1.hi x.2.2.1.hi false).1, (div1R x.2.1.hi x.2.2.1.hi true).1, w64 (x.1.2.2.2 + 1)), (x.2.1, x.2.2.1, x.2.2.2))))
                      (.l (.normal, ((x.1.1, (div1R x.2.1.hi x.2.2.1.hi false).1, x.1.2.2.1, w64 (x.1.2.2.2 + 1)), (x.2.1, x.2.2.1, x.2.2.2))))))
                  (.n (x.1.2.2.2 == 0)
                    (.l (.normal, ((x.1.1, x.1.2.1, (div1R x.2.1.hi x.2.2.1.hi true).1, w64 (x.1.2.2.2 + 1)), (x.2.1, x.2.2.1, x.2.2.2))))
                    (.n (decide (((div1R x.2.1.hi x.2.2.1.hi true).1) > x.1.2.2.1))
                      (.l (.normal, ((x.1.1, x.1.2.1, (div1R x.2.1.hi x.2.2.1.hi true).1, w64 (x.1.2.2.2 + 1)), (x.2.1, x.2.2.1, x.2.2.2))))
                      (.l (.normal, ((x.1.1, x.1.2.1, x.1.2.2.1, w64 (x.1.2.2.2 + 1)), (x.2.1, x.2.2.1, x.2.2.2))))))))))
          (.n (!((mul1R x.2.1.hi x.2.2.1.hi false).2))
            (.l (.ret, ((x.1.1, x.1.2.1, x.1.2.2.1, x.1.2.2.2), (x.2.1, x.2.2.1, nul1))))
            (.n (!((mul1R x.2.1.hi x.2.2.1.hi true).2))
              (.l (.ret, ((x.1.1, x.1.2.1, x.1.2.2.1, x.1.2.2.2), (x.2.1, x.2.2.1, nul1))))
              (.n (x.1.2.2.2 == 0)
                (.n (x.1.2.2.2 == 0)
                  (.l (.normal, ((x.1.1, (mul1R x.2.1.hi x.2.2.1.hi false).1, (mul1R x.2.1.hi x.2.2.1.hi true).1, w64 (x.1.2.2.2 + 1)), (x.2.1, x.2.2.1, x.2.2.2))))
                  (.n (decide (((mul1R x.2.1.hi x.2.2.1.hi true).1) > x.1.2.2.1))
                    (.l (.normal, ((x.1.1, (mul1R x.2.1.hi x.2.2.1.hi false).1, (mul1R x.2.1.hi x.2.2.1.hi true).1, w64 (x.1.2.2.2 + 1)), (x.2.1, x.2.2.1, x.2.2.2))))
                    (.l (.normal, ((x.1.1, (mul1R x.2.1.hi x.2.2.1.hi false).1, x.1.2.2.1, w64 (x.1.2.2.2 + 1)), (x.2.1, x.2.2.1, x.2.2.2))))))
                (.n (decide (((mul1R x.2.1.hi x.2.2.1.hi false).1) < x.1.2.1))
                  (.n (x.1.2.2.2 == 0)
                    (.l (.normal, ((x.1.1, (mul1R x.2.1.hi x.2.2.1.hi false).1, (mul1R x.2.1.hi x.2.2.1.hi true).1, w64 (x.1.2.2.2 + 1)), (x.2.1, x.2.2.1, x.2.2.2))))
                    (.n (decide (((mul1R x.2.1.hi x.2.2.1.hi true).1) > x.1.2.2.1))
                      (.l (.normal, ((x.1.1, (mul1R x.2.1.hi x.2.2.1.hi false).1, (mul1R x.2.1.hi x.2.2.1.hi true).1, w64 (x.1.2.2.2 + 1)), (x.2.1, x.2.2.1, x.2.2.2))))
                      (.l (.normal, ((x.1.1, (mul1R x.2.1.hi x.2.2.1.hi false).1, x.1.2.2.1, w64 (x.1.2.2.2 + 1)), (x.2.1, x.2.2.1, x.2.2.2))))))
                  (.n (x.1.2.2.2 == 0)
                    (.l (.normal, ((x.1.1, x.1.2.1, (mul1R x.2.1.hi x.2.2.1.hi true).1, w64 (x.1.2.2.2 + 1)), (x.2.1, x.2.2.1, x.2.2.2))))
                    (.n (decide (((mul1R x.2.1.hi x.2.2.1.hi true).1) > x.1.2.2.1))
                      (.l (.normal, ((x.1.1, x.1.2.1, (mul1R x.2.1.hi x.2.2.1.hi true).1, w64 (x.1.2.2.2 + 1)), (x.2.1, x.2.2.1, x.2.2.2))))
                      (.l (.normal, ((x.1.1, x.1.2.1, x.1.2.2.1, w64 (x.1.2.2.2 + 1)), (x.2.1, x.2.2.1, x.2.2.2)))))))))))
        (.n x.1.1
          (.n (!((div1R x.2.1.hi x.2.2.1.lo false).2))
            (.l (.ret, ((x.1.1, x.1.2.1, x.1.2.2.1, x.1.2.2.2), (x.2.1, x.2.2.1, nul1))))
            (.n (!((div1R x.2.1.hi x.2.2.1.lo true).2))
              (.l (.ret, ((x.1.1, x.1.2.1, x.1.2.2.1, x.1.2.2.2), (x.2.1, x.2.2.1, nul1))))
              (.n (x.1.2.2.2 == 0)
                (.n (x.1.2.2.2 == 0)
                  (.l (.normal, ((x.1.1, (div1R x.2.1.hi x.2.2.1.lo false).1, (div1R x.2.1.hi x.2.2.1.lo true).1, w64 (x.1.2.2.2 + 1)), (x.2.1, x.2.2.1, x.2.2.2))))
                  (.n (decide (((div1R x.2.1.hi x.2.2.1.lo true).1) > x.1.2.2.1))
                    (.l (.normal, ((x.1.1, (div1R x.2.1.hi x.2.2.1.lo false).1, (div1R x.2.1.hi x.2.2.1.lo true).1, w64 (x.1.2.2.2 + 1)), (x.2.1, x.2.2.1, x.2.2.2))))
                    (.l (.normal, ((x.1.1, (div1R x.2.1.hi x.2.2.1.lo false).1, x.1.2.2.1, w64 (x.1.2.2.2 + 1)), (x.2.1, x.2.2.1, x.2.2.2))))))
                (.n (decide (((div1R x.2.1.hi x.2.2.1.lo false).1) < x.1.2.1))
                  (.n (x.1.2.2.2 == 0)
                    (.l (.normal, ((x.1.1, (div1R x.2.1.hi x.2.2.1.lo false).1, (div1R x.2.1.hi x.2.2.1.lo true).1, w64 (x.1.2.2.2 + 1)), (x.2.1, x.2.2.1, x.2.2.2))))
                    (.n (decide (((div1R x.2.1.hi x.2.2.1.lo true).1) > x.1.2.2.1))
                      (.l (.normal, ((x.1.1, (div1R x.2.1.hi x.2.2.1.lo false).1, (div1R x.2.1.hi x.2.2.1.lo true).1, w64 (x.1.2.2.2 + 1)), (x.2.1, x.2.2.1, x.2.2.2))))
                      (.l (.normal, ((x.1.1, (div1R x.2.1.hi x.2.2.1.lo false).1, x.1.2.2.1, w64 (x.1.2.2.2 + 1)), (x.2.1, x.2.2.1, x.2.2.2))))))
                  (.n (x.1.2.2.2 == 0)
                    (.l (.normal, ((x.1.1, x.1.2.1, (div1R x.2.1.hi x.2.2.1.lo true).1, w64 (x.1.2.2.2 + 1)), (x.2.1, x.2.2.1, x.2.2.2))))
                    (.n (decide (((div1R x.2.1.hi x.2.2.1.lo true).1) > x.1.2.2.1))
                      (.l (.normal, ((x.1.1, x.1.2.1, (div1R x.2.1.hi x.2.2.1.lo true).1, w64 (x.1.2.2.2 + 1)), (x.2.1, x.2.2.1, x.2.2.2))))
                      (.l (.normal, ((x.1.1, x.1.2.1, x.1.2.2.1, w64 (x.1.2.2.2 + 1)), (x.2.1, x.2.2.1, x.2.2.2))))))))))
          (.n (!((mul1R x.2.1.hi x.2.2.1.lo false).2))
            (.l (.ret, ((x.1.1, x.1.2.1, x.1.2.2.1, x.1.2.2.2), (x.2.1, x.2.2.1, nul1))))
            (.n (!((mul1R x.2.1.hi x.2.2.1.lo true).2))
              (.l (.ret, ((x.1.1, x.1.2.1, x.1.2.2.1, x.1.2.2.2), (x.2.1, x.2.2.1, nul1))))
              (.n (x.1.2.2.2 == 0)
                (.n (x.1.2.2.2 == 0)
                  (.l (.normal, ((x.1.1, (mul1R x.2.1.hi x.2.2.1.lo false).1, (mul1R x.2.1.hi x.2.2.1.lo true).1, w64 (x.1.2.2.2 + 1)), (x.2.1, x.2.2.1, x.2.2.2))))
                  (.n (decide (((mul1R x.2.1.hi x.2.2.1.lo true).1) > x.1.2.2.1))
                    (.l (.normal, ((x.1.1, (mul1R x.2.1.hi x.2.2.1.lo false).1, (mul1R x.2.1.hi x.2.2.1.lo true).1, w64 (x.1.2.2.2 + 1)), (x.2.1, x.2.2.1, x.2.2.2))))
                    (.l (.normal, ((x.1.1, (mul1R x.2.1.hi x.2.2.1.lo false).1, x.1.2.2.1, w64 (x.1.2.2.2 + 1)), (x.2.1, x.2.2.1, x.2.2.2))))))
                (.n (decide (((mul1R x.2.1.hi x.2.2.1.lo false).1) < x.1.2.1))
                  (.n (x.1.2.2.2 == 0)
                    (.l (.normal, ((x.1.1, (mul1R x.2.1.hi x.2.2.1.lo false).1, (mul1R x.2.1.hi x.2.2.1.lo true).1, w64 (x.1.2.2.2 + 1)), (x.2.1, x.2.2.1, x.2.2.2))))
                    (.n (decide (((mul1R x.2.1.hi x.2.2.1.lo true).1) > x.1.2.2.1))
                      (.l (.normal, ((x.1.1, (mul1R x.2.1.hi x.2.2.1.lo false).1, (mul1R x.2.1.hi x.2.2.1.lo true).1, w64 (x.1.2.2.2 + 1)), (x.2.1, x.2.2.1, x.2.2.2))))
                      (.l (.normal, ((x.1.1, (mul1R x.2.1.hi x.2.2.1.lo false).1, x.1.2.2.1, w64 (x.1.2.2.2 + 1)), (x.2.1, x.2.2.1, x.2.2.2))))))
                  (.n (x.1.2.2.2 == 0)
                    (.l (.normal, ((x.1.1, x.1.2.1, (mul1R x.2.1.hi x.2.2.1.lo true).1, w64 (x.1.2.2.2 + 1)), (x.2.1, x.2.2.1, x.2.2.2))))
                    (.n (decide (((mul1R x.2.1.hi x.2.2.1.lo true).1) > x.1.2.2.1))
                      (.l (.normal, ((x.1.1, x.1.2.1, (mul1R x.2.1.hi x.2.2.1.lo true).1, w64 (x.1.2.2.2 + 1)), (x.2.1, x.2.2.1, x.2.2.2))))
                      (.l (.normal, ((x.1.1, x.1.2.1, x.1.2.2.1, w64 (x.1.2.2.2 + 1)), (x.2.1, x.2.2.1, x.2.2.2))))))))))))
      (.n ((w64 (x.1.2.2.2.tdiv 2)) == 1)
        (.n x.1.1
          (.n (!((div1R x.2.1.lo x.2.2.1.hi false).2))
            (.l (.ret, ((x.1.1, x.1.2.1, x.1.2.2.1, x.1.2.2.2), (x.2.1, x.2.2.1, nul1))))
            (.n (!((div1R x.2.1.lo x.2.2.1.hi true).2))
              (.l (.ret, ((x.1.1, x.1.2.1, x.1.2.2.1, x.1.2.2.2), (x.2.1, x.2.2.1, nul1))))
              (.n (x.1.2.2.2 == 0)
                (.n (x.1.2.2.2 == 0)
                  (.l (.normal, ((x.1.1, (div1R x.2.1.lo x.2.2.1.hi false).1, (div1R x.2.1.lo x.2.2.1.hi true).1, w64 (x.1.2.2.2 + 1)), (x.2.1, x.2.2.1, x.2.2.2))))
                  (.n (decide (((div1R x.2.1.lo x.2.2.1.hi true).1) > x.1.2.2.1))
                    (.l (.normal, ((x.1.1, (div1R x.2.1.lo x.2.2.1.hi false).1, (div1R x.2.1.lo x.2.2.1.hi true).1, w64 (x.1.2.2.2 + 1)), (x.2.1, x.2.2.1, x.2.2.2))))
                    (.l (.normal, ((x.1.1, (div1R x.2.1.lo x.2.2.1.hi false).1, x.1.2.2.1, w64 (x.1.2.2.2 + 1)), (x.2.1, x.2.2.1, x.2.2.2))))))
                (.n (decide (((div1R x.2.1.lo x.2.2.1.hi false).1) < x.1.2.1))
                  (.n (x.1.2.2.2 == 0)
                    (.l (.normal, ((x.1.1, (div1R x.2.1.lo x.2.2.1.hi false).1, (div1R x.2.1.lo x.2.2.1.hi true).1, w64 (x.1.2.2.2 + 1)), (x.2.1, x.2.2.1, x.2.2.2))))
                    (.n (decide (((div1R x.2.1.lo x.2.2.1.hi true).1) > x.1.2.2.1))
                      (.l (.normal, ((x.1.1, (div1R x.2.1.lo x.2.2.1.hi false).1, (div1R x.2.1.lo x.2.2.1.hi true).1, w64 (x.1.2.2.2 + 1)), (x.2.1, x.2.2.1, x.2.2.2))))
                      (.l (.normal, ((x.1.1, (div1R x.2.1.lo x.2.2.1.hi false).1, x.1.2.2.1, w64 (x.1.2.2.2 + 1)), (x.2.1, x.2.2.1, x.2.2.2))))))
                  (.n (x.1.2.2.2 == 0)
                    (.l (.normal, ((x.1.1, x.1.2.1, (div1R x.2.1.lo x.2.2.1.hi true).1, w64 (x.1.2.2.2 + 1)), (x.2.1, x.2.2.1, x.2.2.2))))
                    (.n (decide (((div1R x.2.1.lo x.2.2.1.hi true).1) > x.1.2.2.1))
                      (.l (.normal, ((x.1.1, x.1.2.1, (div1R x.2.1.lo x.2.2.1.hi true).1, w64 (x.1.2.2.2 + 1)), (x.2.1, x.2.2.1, x.2.2.2))))
                      (.l (.normal, ((x.1.1, x.1.2.1, x.1.2.2.1, w64 (x.1.2.2.2 + 1)), (x.2.1, x.2.2.1, x.2.2.2))))))))))
          (.n (!((mul1R x.2.1.lo x.2.2.1.hi false).2))
            (.l (.ret, ((x.1.1, x.1.2.1, x.1.2.2.1, x.1.2.2.2), (x.2.1, x.2.2.1, nul1))))
            (.n (!((mul1R x.2.1.lo x.2.2.1.hi true).2))
              (.l (.ret, ((x.1.1, x.1.2.1, x.1.2.2.1, x.1.2.2.2), (x.2.1, x.2.2.1, nul1))))
              (.n (x.1.2.2.2 == 0)
                (.n (x.1.2.2.2 == 0)
                  (.l (.normal, ((x.1.1, (mul1R x.2.1.lo x.2.2.1.hi false).1, (mul1R x.2.1.lo x.2.2.1.hi true).1, w64 (x.1.2.2.2 + 1)), (x.2.1, x.2.2.1, x.2.2.2))))
                  (.n (decide (((mul1R x.2.1.lo x.2.2.1.hi true).1) > x.1.2.2.1))
                    (.l (.normal, ((x.1.1, (mul1R x.2.1.lo x.2.2.1.hi false).1, (mul1R x.2.1.lo x.2.2.1.hi true).1, w64 (x.1.2.2.2 + 1)), (x.2.1, x.2.2.1, x.2.2.2))))
                    (.l (.normal, ((x.1.1, (mul1R x.2.1.lo x.2.2.1.hi false).1, x.1.2.2.1, w64 (x.1.2.2.2 + 1)), (x.2.1, x.2.2.1, x.2.2.2))))))
                (.n (decide (((mul1R x.2.1.lo x.2.2.1.hi false).1) < x.1.2.1))
                  (.n (x.1.2.2.2 == 0)
                    (.l (.normal, ((x.1.1, (mul1R x.2.1.lo x.2.2.1.hi false).1, (mul1R x.2.1.lo x.2.2.1.hi true).1, w64 (x.1.2.2.2 + 1)), (x.2.1, x.2.2.1, x.2.2.2))))
                    (.n (decide (((mul1R x.2.1.lo x.2.2.1.hi true).1) > x.1.2.2.1))
                      (.l (.normal, ((x.1.1, (mul1R x.2.1.lo x.2.2.1.hi false).1, (mul1R x.2.1.lo x.2.2.1.hi true).1, w64 (x.1.2.2.2 + 1)), (x.2.1, x.2.2.1, x.2.2.2))))
                      (.l (.normal, ((x.1.1, (mul1R x.2.1.lo x.2.2.1.hi false).1, x.1.2.2.1, w64 (x.1.2.2.2 + 1)), (x.2.1, x.2.2.1, x.2.2.2))))))
                  (.n (x.1.2.2.2 == 0)
                    (.l (.normal, ((x.1.1, x.1.2.1, (mul1R x.2.1.lo x.2.2.1.hi true).1, w64 (x.1.2.2.2 + 1)), (x.2.1, x.2.2.1, x.2.2.2))))
                    (.n (decide (((mul1R x.2.1.lo x.2.2.1.hi true).1) > x.1.2.2.1))
                      (.l (.normal, ((x.1.1, x.1.2.1, (mul1R x.2.1.lo x.2.2.1.hi true).1, w64 (x.1.2.2.2 + 1)), (x.2.1, x.2.2.1, x.2.2.2))))
                      (.l (.normal, ((x.1.1, x.1.2.1, x.1.2.2.1, w64 (x.1.2.2.2 + 1)), (x.2.1, x.2.2.1, x.2.2.2)))))))))))
        (.n x.1.1
          (.n (!((div1R x.2.1.lo x.2.2.1.lo false).2))
            (.l (.ret, ((x.1.1, x.1.2.1, x.1.2.2.1, x.1.2.2.2), (x.2.1, x.2.2.1, nul1))))
            (.n (!((div1R x.2.1.lo x.2.2.1.lo true).2))
              (.l (.ret, ((x.1.1, x.1.2.1, x.1.2.2.1, x.1.2.2.2), (x.2.1, x.2.2.1, nul1))))
              (.n (x.1.2.2.2 == 0)
                (.n (x.1.2.2.2 == 0)
                  (.l (.normal, ((x.1.1, (div1R x.2.1.lo x.2.2.1.lo false).1, (div1R x.2.1.lo x.2.2.1.lo true).1, w64 (x.1.2.2.2 + 1)), (x.2.1, x.2.2.1, x.2.2.2))))
                  (.n (decide (((div1R x.2.1.lo x.2.2.1.lo true).1) > x.1.2.2.1))
                    (.l (.normal, ((x.1.1, (div1R x.2.1.lo x.2.2.1.lo false).1, (div1R x.2.1.lo x.2.2.1.lo true).1, w64 (x.1.2.2.2 + 1)), (x.2.1, x.2.2.1, x.2.2.2))))
                    (.l (.normal, ((x.1.1, (div1R x.2.1.lo x.2.2.1.lo false).1, x.1.2.2.1, w64 (x.1.2.2.2 + 1)), (x.2.1, x.2.2.1, x.2.2.2))))))
                (.n (decide (((div1R x.2.1.lo x.2.2.1.lo false).1) < x.1.2.1))
                  (.n (x.1.2.2.2 == 0)
                    (.l (.normal, ((x.1.1, (div1R x.2.1.lo x.2.2.1.lo false).1, (div1R x.2.1.lo x.2.2.1.lo true).1, w64 (x.1.2.2.2 + 1)), (x.2.1, x.2.2.1, x.2.2.2))))
                    (.n (decide (((div1R x.2.1.lo x.2.2.1.lo true).1) > x.1.2.2.1))
                      (.l (.normal, ((x.1.1, (div1R x.2.1.lo x.2.2.1.lo false).1, (div1R x.2.1.lo x.2.2.1.lo true).1, w64 (x.1.2.2.2 + 1)), (x.2.1, x.2.2.1, x.2.2.2))))
                      (.l (.normal, ((x.1.1, (div1R x.2.1.lo x.2.2.1.lo false).1, x.1.2.2.1, w64 (x.1.2.2.2 + 1)), (x.2.1, x.2.2.1, x.2.2.2))))))
                  (.n (x.1.2.2.2 == 0)
                    (.l (.normal, ((x.1.1, x.1.2.1, (div1R x.2.1.lo x.2.2.1.lo true).1, w64 (x.1.2.2.2 + 1)), (x.2.1, x.2.2.1, x.2.2.2))))
                    (.n (decide (((div1R x.2.1.lo x.2.2.1.lo true).1) > x.1.2.2.1))
                      (.l (.normal, ((x.1.1, x.1.2.1, (div1R x.2.1.lo x.2.2.1.lo true).1, w64 (x.1.2.2.2 + 1)), (x.2.1, x.2.2.1, x.2.2.2))))
                      (.l (.normal, ((x.1.1, x.1.2.1, x.1.2.2.1, w64 (x.1.2.2.2 + 1)), (x.2.1, x.2.2.1, x.2.2.2))))))))))
          (.n (!((mul1R x.2.1.lo x.2.2.1.lo false).2))
            (.l (.ret, ((x.1.1, x.1.2.1, x.1.2.2.1, x.1.2.2.2), (x.2.1, x.2.2.1, nul1))))
            (.n (!((mul1R x.2.1.lo x.2.2.1.lo true).2))
              (.l (.ret, ((x.1.1, x.1.2.1, x.1.2.2.1, x.1.2.2.2), (x.2.1, x.2.2.1, nul1))))
              (.n (x.1.2.2.2 == 0)
                (.n (x.1.2.2.2 == 0)
                  (.l (.normal, ((x.1.1, (mul1R x.2.1.lo x.2.2.1.lo false).1, (mul1R x.2.1.lo x.2.2.1.lo true).1, w64 (x.1.2.2.2 + 1)), (x.2.1, x.2.2.1, x.2.2.2))))
                  (.n (decide (((mul1R x.2.1.lo x.2.2.1.lo true).1) > x.1.2.2.1))
                    (.l (.normal, ((x.1.1, (mul1R x.2.1.lo x.2.2.1.lo false).1, (mul1R x.2.1.lo x.2.2.1.lo true).1, w64 (x.1.2.2.2 + 1)), (x.2.1, x.2.2.1, x.2.2.2))))
                    (.l (.normal, ((x.1.1, (mul1R x.2.1.lo x.2.2.1.lo false).1, x.1.2.2.1, w64 (x.1.2.2.2 + 1)), (x.2.1, x.2.2.1, x.2.2.2))))))
                (.n (decide (((mul1R x.2.1.lo x.2.2.1.lo false).1) < x.1.2.1))
                  (.n (x.1.2.2.2 == 0)
                    (.l (.normal, ((x.1.1, (mul1R x.2.1.lo x.2.2.1.lo false).1, (mul1R x.2.1.lo x.2.2.1.lo true).1, w64 (x.1.2.2.2 + 1)), (x.2.1, x.2.2.1, x.2.2.2))))
                    (.n (decide (((mul1R x.2.1.lo x.2.2.1.lo true).1) > x.1.2.2.1))
                      (.l (.normal, ((x.1.1, (mul1R x.2.1.lo x.2.2.1.lo false).1, (mul1R x.2.1.lo x.2.2.1.lo true).1, w64 (x.1.2.2.2 + 1)), (x.2.1, x.2.2.1, x.2.2.2))))
                      (.l (.normal, ((x.1.1, (mul1R x.2.1.lo x.2.2.1.lo false).1, x.1.2.2.1, w64 (x.1.2.2.2 + 1)), (x.2.1, x.2.2.1, x.2.2.2))))))
                  (.n (x.1.2.2.2 == 0)
                    (.l (.normal, ((x.1.1, x.1.2.1, (mul1R x.2.1.lo x.2.2.1.lo true).1, w64 (x.1.2.2.2 + 1)), (x.2.1, x.2.2.1, x.2.2.2))))
                    (.n (decide (((mul1R x.2.1.lo x.2.2.1.lo true).1) > x.1.2.2.1))
                      (.l (.normal, ((x.1.1, x.1.2.1, (mul1R x.2.1.lo x.2.2.1.lo true).1, w64 (x.1.2.2.2 + 1)), (x.2.1, x.2.2.1, x.2.2.2))))
                      (.l (.normal, ((x.1.1, x.1.2.1, x.1.2.2.1, w64 (x.1.2.2.2 + 1)), (x.2.1, x.2.2.1, x.2.2.2)))))))))))))
    (.l ((.exit 0), ((x.1.1, x.1.2.1, x.1.2.2.1, x.1.2.2.2), (x.2.1, x.2.2.1, x.2.2.2))))
def ends1M (x : ends1S) : Nat := (4 - x.1.2.2.2).toNat
def ends1G (x : ends1S) : Bool := decide (0 ≤ x.1.2.2.2) && decide (x.1.2.2.2 ≤ 4)
def ends1E (x : ends1S) : Ex × ends1S := runT ends1T (ends1M x) x
theorem ends1_step (x : ends1S) (h : ends1G x = true) : LoopStep [.exit 0, .ret] ends1G ends1M x (ends1T x).run := by
  obtain ⟨⟨d, lo, hi, k⟩, a, b, z⟩ := x
  simp only [ends1G, Bool.and_eq_true, decide_eq_true_eq] at h
  have hw : w64 (k + 1) = k + 1 := IntWalk.i64_in _ ⟨by omega, by omega⟩
  refine Tr.allL_run (P := LoopStep _ _ _ _) ?_
  simp only [ends1T, Tr.allL]
  repeat' (first | apply And.intro | intro _)
  all_goals first | rfl | (simp only [LoopStep, ends1G, ends1M, Bool.and_eq_true, decide_eq_true_eq, hw] at *; omega)
noncomputable def ends1_hint : Hn Try.f130 := mkHn Try.f130 0 ends1V (by kernel_rfl) (dec1 ends1C ends1B) (dec1_ok ends1C ends1B 400 none) (env [meniscusref1_Mul_c, meniscusref1_Div_c, meniscusref1_None_c]) (env_ok [meniscusref1_Mul_c, meniscusref1_Div_c, meniscusref1_None_c]) ([] : List (Hn Try.f130)) (by kernel_rfl) (fun q h => by cases h) 0 0 ends1T (finT ends1T ends1M [.exit 0, .ret]) ends1G ends1M
  (fun x => by kernel_rfl) (loop_fin ends1T [.exit 0, .ret] ends1G ends1M ends1_step)

def ends1RT (a : Iv) (b : Iv) (d : Bool) : Tr (Iv) :=
  .n (ends1G ((d, 0, 0, 0), (a, b, ⟨0, 0, false⟩)))
    (.n (exEq (ends1E ((d, 0, 0, 0), (a, b, ⟨0, 0, false⟩))).1 (.exit 0))
      (.l (of1 (((((ends1E ((d, 0, 0, 0), (a, b, ⟨0, 0, false⟩))).2).1).2).1) ((((((ends1E ((d, 0, 0, 0), (a, b, ⟨0, 0, false⟩))).2).1).2).2).1)))
      (.l (((((ends1E ((d, 0, 0, 0), (a, b, ⟨0, 0, false⟩))).2).2).2).2)))
    .f
def ends1R (a : Iv) (b : Iv) (d : Bool) : Iv := (ends1RT a b d).ev
noncomputable def meniscusref1_ends_c : Ct := ⟨130, pf3 acIv acIv acBool fun a b d => fIv (ends1R a b d), pf3_ok fun a b d => ct_tr (x := (ends1RT a b d).ev) (t := ends1RT a b d) (env [meniscusref1_Of_c]) (env_ok [meniscusref1_Of_c]) Try.func130 (by kernel_rfl) ([ends1_hint] : List (Hn Try.f130)) (by kernel_rfl) (by kernel_rfl) (by kernel_rfl)
  (show evH (env [meniscusref1_Of_c]) (hl ([ends1_hint] : List (Hn Try.f130))) none 0 0 Try.f130 [acIv.enc a, acIv.enc b, acBool.enc d] = (ends1RT a b d).fold fun x => some (fIv x) by kernel_rfl) (by apply run_of_ne; unfold ends1RT; simp [ends1G]; split <;> simp)⟩

def mul1T (a : Iv) (b : Iv) : Tr (Iv) :=
  .n (!(right1 a)) (.l nul1) (.n (!(right1 b)) (.l nul1) (.l (ends1R a b false)))
def mul1 (a : Iv) (b : Iv) : Iv := (mul1T a b).ev
noncomputable def meniscusref1_MulIv_c : Ct := ⟨88, pf2 acIv acIv fun a b => fIv (mul1 a b), pf2_ok fun a b => ct_tr (x := (mul1T a b).ev) (t := mul1T a b) (env [meniscusref1_Right_c, meniscusref1_None_c, meniscusref1_ends_c]) (env_ok [meniscusref1_Right_c, meniscusref1_None_c, meniscusref1_ends_c]) Try.func88 (by kernel_rfl) ([] : List (Hn Try.f88)) (by kernel_rfl) (by kernel_rfl) (by kernel_rfl)
  (show evH (env [meniscusref1_Right_c, meniscusref1_None_c, meniscusref1_ends_c]) (hl ([] : List (Hn Try.f88))) none 0 0 Try.f88 [acIv.enc a, acIv.enc b] = (mul1T a b).fold fun x => some (fIv x) by kernel_rfl) (Tr.run_ev _ (by kernel_rfl))⟩

def times1T (a : Iv) (k : Int) : Tr (Iv) :=
  .n (!(right1 a)) (.l nul1) (.n (!(inR1 k)) (.l nul1) (.l (of1 (mn (w64 (k * a.lo)) (w64 (k * a.hi))) (mx (w64 (k * a.lo)) (w64 (k * a.hi))))))
def times1 (a : Iv) (k : Int) : Iv := (times1T a k).ev
noncomputable def meniscusref1_Times_c : Ct := ⟨91, pf2 acIv acInt fun a k => fIv (times1 a k), pf2_ok fun a k => ct_tr (x := (times1T a k).ev) (t := times1T a k) (env [meniscusref1_Right_c, meniscusref1_None_c, meniscusref1_In_c, meniscusref1_Of_c]) (env_ok [meniscusref1_Right_c, meniscusref1_None_c, meniscusref1_In_c, meniscusref1_Of_c]) Try.func91 (by kernel_rfl) ([] : List (Hn Try.f91)) (by kernel_rfl) (by kernel_rfl) (by kernel_rfl)
  (show evH (env [meniscusref1_Right_c, meniscusref1_None_c, meniscusref1_In_c, meniscusref1_Of_c]) (hl ([] : List (Hn Try.f91))) none 0 0 Try.f91 [acIv.enc a, acInt.enc k] = (times1T a k).fold fun x => some (fIv x) by kernel_rfl) (Tr.run_ev _ (by kernel_rfl))⟩

def sqr1T (a : Iv) : Tr (Iv) :=
  .n (!(right1 a))
    (.l nul1)
    (.n (decide (a.lo ≤ 0))
      (.n (decide (a.hi ≥ 0))
        (.n (!((mul1R (mx (mx (mx a.lo (w64 (0 - a.lo))) a.hi) (w64 (0 - a.hi))) (mx (mx (mx a.lo (w64 (0 - a.lo))) a.hi) (w64 (0 - a.hi))) true).2))
          (.l nul1)
          (.l (of1 ((mul1R 0 0 false).1) ((mul1R (mx (mx (mx a.lo (w64 (0 - a.lo))) a.hi) (w64 (0 - a.hi))) (mx (mx (mx a.lo (w64 (0 - a.lo))) a.hi) (w64 (0 - a.hi))) true).1))))
        (.n (!((mul1R (mx (mx (mx a.lo (w64 (0 - a.lo))) a.hi) (w64 (0 - a.hi))) (mx (mx (mx a.lo (w64 (0 - a.lo))) a.hi) (w64 (0 - a.hi))) true).2))
          (.l nul1)
          (.l (of1 ((mul1R (mn (mx a.lo (w64 (0 - a.lo))) (mx a.hi (w64 (0 - a.hi)))) (mn (mx a.lo (w64 (0 - a.lo))) (mx a.hi (w64 (0 - a.hi)))) false).1) ((mul1R (mx (mx (mx a.lo (w64 (0 - a.lo))) a.hi) (w64 (0 - a.hi))) (mx (mx (mx a.lo (w64 (0 - a.lo))) a.hi) (w64 (0 - a.hi))) true).1)))))
      (.n (!((mul1R (mx (mx (mx a.lo (w64 (0 - a.lo))) a.hi) (w64 (0 - a.hi))) (mx (mx (mx a.lo (w64 (0 - a.lo))) a.hi) (w64 (0 - a.hi))) true).2))
        (.l nul1)
        (.l (of1 ((mul1R (mn (mx a.lo (w64 (0 - a.lo))) (mx a.hi (w64 (0 - a.hi)))) (mn (mx a.lo (w64 (0 - a.lo))) (mx a.hi (w64 (0 - a.hi)))) false).1) ((mul1R (mx (mx (mx a.lo (w64 (0 - a.lo))) a.hi) (w64 (0 - a.hi))) (mx (mx (mx a.lo (w64 (0 - a.lo))) a.hi) (w64 (0 - a.hi))) true).1)))))
def sqr1 (a : Iv) : Iv := (sqr1T a).ev
noncomputable def meniscusref1_Sqr_c : Ct := ⟨139, pf1 acIv fun a => fIv (sqr1 a), pf1_ok fun a => ct_tr (x := (sqr1T a).ev) (t := sqr1T a) (env [meniscusref1_Right_c, meniscusref1_None_c, meniscusref1_Mul_c, meniscusref1_Of_c]) (env_ok [meniscusref1_Right_c, meniscusref1_None_c, meniscusref1_Mul_c, meniscusref1_Of_c]) Try.func139 (by kernel_rfl) ([] : List (Hn Try.f139)) (by kernel_rfl) (by kernel_rfl) (by kernel_rfl)
  (show evH (env [meniscusref1_Right_c, meniscusref1_None_c, meniscusref1_Mul_c, meniscusref1_Of_c]) (hl ([] : List (Hn Try.f139))) none 0 0 Try.f139 [acIv.enc a] = (sqr1T a).fold fun x => some (fIv x) by kernel_rfl) (Tr.run_ev _ (by kernel_rfl))⟩

def div1T (a : Iv) (b : Iv) : Tr (Iv) :=
  .n (!(right1 a))
    (.l nul1)
    (.n (!(right1 b)) (.l nul1) (.n (decide (b.lo ≤ 0)) (.n (decide (b.hi ≥ 0)) (.l nul1) (.l (ends1R a b true))) (.l (ends1R a b true))))
def div1 (a : Iv) (b : Iv) : Iv := (div1T a b).ev
noncomputable def meniscusref1_DivIv_c : Ct := ⟨140, pf2 acIv acIv fun a b => fIv (div1 a b), pf2_ok fun a b => ct_tr (x := (div1T a b).ev) (t := div1T a b) (env [meniscusref1_Right_c, meniscusref1_None_c, meniscusref1_ends_c]) (env_ok [meniscusref1_Right_c, meniscusref1_None_c, meniscusref1_ends_c]) Try.func140 (by kernel_rfl) ([] : List (Hn Try.f140)) (by kernel_rfl) (by kernel_rfl) (by kernel_rfl)
  (show evH (env [meniscusref1_Right_c, meniscusref1_None_c, meniscusref1_ends_c]) (hl ([] : List (Hn Try.f140))) none 0 0 Try.f140 [acIv.enc a, acIv.enc b] = (div1T a b).fold fun x => some (fIv x) by kernel_rfl) (Tr.run_ev _ (by kernel_rfl))⟩

def rootI1T (a : Iv) : Tr (Iv) :=
  .n (!(right1 a)) (.l nul1) (.n (decide (a.lo < 0)) (.l nul1) (.l (of1 ((root1R a.lo false).1) ((root1R a.hi true).1))))
def rootI1 (a : Iv) : Iv := (rootI1T a).ev
noncomputable def meniscusref1_RootIv_c : Ct := ⟨144, pf1 acIv fun a => fIv (rootI1 a), pf1_ok fun a => ct_tr (x := (rootI1T a).ev) (t := rootI1T a) (env [meniscusref1_Right_c, meniscusref1_None_c, meniscusref1_Root_c, meniscusref1_Of_c]) (env_ok [meniscusref1_Right_c, meniscusref1_None_c, meniscusref1_Root_c, meniscusref1_Of_c]) Try.func144 (by kernel_rfl) ([] : List (Hn Try.f144)) (by kernel_rfl) (by kernel_rfl) (by kernel_rfl)
  (show evH (env [meniscusref1_Right_c, meniscusref1_None_c, meniscusref1_Root_c, meniscusref1_Of_c]) (hl ([] : List (Hn Try.f144))) none 0 0 Try.f144 [acIv.enc a] = (rootI1T a).fold fun x => some (fIv x) by kernel_rfl) (Tr.run_ev _ (by kernel_rfl))⟩












def len21 (a : V3) : Iv :=
  add1 (add1 (sqr1 a.x) (sqr1 a.y)) (sqr1 a.z)
noncomputable def meniscusref1_Len2_c : Ct := ⟨145, pf1 acV3 fun a => fIv (len21 a), pf1_ok fun a => ct_ok (env [meniscusref1_Sqr_c, meniscusref1_Add_c]) (env_ok [meniscusref1_Sqr_c, meniscusref1_Add_c]) Try.func145 (by kernel_rfl) ([] : List (Hn Try.f145)) (by kernel_rfl) (by kernel_rfl) (by kernel_rfl)
  (show evH (env [meniscusref1_Sqr_c, meniscusref1_Add_c]) (hl ([] : List (Hn Try.f145))) none 0 0 Try.f145 [acV3.enc a] = some (fIv (len21 a)) by kernel_rfl)⟩

def unit1 (a : V3) : V3 :=
  ⟨div1 a.x (rootI1 (len21 a)), div1 a.y (rootI1 (len21 a)), div1 a.z (rootI1 (len21 a))⟩
noncomputable def meniscusref1_Unit_c : Ct := ⟨103, pf1 acV3 fun a => fV3 (unit1 a), pf1_ok fun a => ct_ok (env [meniscusref1_Len2_c, meniscusref1_RootIv_c, meniscusref1_DivIv_c]) (env_ok [meniscusref1_Len2_c, meniscusref1_RootIv_c, meniscusref1_DivIv_c]) Try.func103 (by kernel_rfl) ([] : List (Hn Try.f103)) (by kernel_rfl) (by kernel_rfl) (by kernel_rfl)
  (show evH (env [meniscusref1_Len2_c, meniscusref1_RootIv_c, meniscusref1_DivIv_c]) (hl ([] : List (Hn Try.f103))) none 0 0 Try.f103 [acV3.enc a] = some (fV3 (unit1 a)) by kernel_rfl)⟩




end Go.Proofs.Ytmmlpaehehgfnaa.Sx
