/-
  What this text proves: what the operations on intervals say of the numbers that lie in them.
  Conditions: none.
-/
import Derived.Test.YtmmlpaehehgfnaaL7
namespace Go.Proofs.Ytmmlpaehehgfnaa.Sx
set_option linter.unusedSimpArgs false
set_option linter.unusedVariables false

abbrev most : Int := 1073741824

theorem inR_iff (n : Int) : inR n = true ↔ -1073741824 ≤ n ∧ n ≤ 1073741824 := by
  simp only [inR, inRT, Tr.ev_n, Tr.ev_l]
  by_cases h : n ≥ -1073741824 <;> simp [h]

theorem right_iff (a : Iv) : right a = true ↔ a.no = false ∧ (-1073741824 ≤ a.lo ∧ a.lo ≤ 1073741824) ∧ (-1073741824 ≤ a.hi ∧ a.hi ≤ 1073741824) ∧ a.lo ≤ a.hi := by
  simp only [right, rightT, Tr.ev_n, Tr.ev_l]
  cases a.no <;> simp only [Bool.not_false, Bool.not_true, if_true, Bool.false_eq_true, if_false] <;> simp [inR_iff]

theorem right_nul : right nul = false := by rfl

/-- An interval of two ends: it is right, or none. -/
theorem of_eq (lo hi : Int) : of lo hi = if right ⟨lo, hi, false⟩ then ⟨lo, hi, false⟩ else nul := by
  simp only [of, ofT, Tr.ev_n, Tr.ev_l]
  cases right ⟨lo, hi, false⟩ <;> rfl

theorem of_of {lo hi : Int} (h1 : -1073741824 ≤ lo) (h2 : lo ≤ hi) (h3 : hi ≤ 1073741824) : of lo hi = ⟨lo, hi, false⟩ := by
  rw [of_eq, if_pos]
  rw [right_iff]
  refine ⟨rfl, ?_, ?_, ?_⟩ <;> simp only <;> omega

theorem of_no {lo hi : Int} (h : (of lo hi).no = false) : (-1073741824 ≤ lo ∧ lo ≤ hi ∧ hi ≤ 1073741824) ∧ of lo hi = ⟨lo, hi, false⟩ := by
  rw [of_eq] at h ⊢
  split at h
  · rename_i hr
    have := (right_iff _).1 hr
    simp only at this
    refine ⟨by omega, by rw [if_pos hr]⟩
  · simp [nul] at h

/-- What is made of two ends and is not none is right. -/
theorem of_right {lo hi : Int} (h : (of lo hi).no = false) : right (of lo hi) = true := by
  obtain ⟨h1, h2⟩ := of_no h
  rw [h2, right_iff]
  refine ⟨rfl, ?_, ?_, ?_⟩ <;> simp only <;> omega

/-- A number lies in an interval. -/
def In (x : Int) (a : Iv) : Prop := right a = true ∧ a.lo ≤ x ∧ x ≤ a.hi

theorem has_iff (a : Iv) (n : Int) : has a n = true ↔ In n a := by
  simp only [has, hasT, Tr.ev_n, Tr.ev_l, In]
  cases right a <;> simp

theorem both_iff (a b : Iv) : both a b = true ↔ right a = true ∧ right b = true := by
  simp only [both, bothT, Tr.ev_n, Tr.ev_l]
  cases right a <;> simp

theorem w64_in {n : Int} (h1 : -9223372036854775808 ≤ n) (h2 : n ≤ 9223372036854775807) : w64 n = n := IntWalk.i64_in n ⟨h1, h2⟩

theorem nul_no : nul.no = true := rfl

/-! ### Sums -/

theorem add_eq {a b : Iv} (ha : right a = true) (hb : right b = true) : add a b = of (a.lo + b.lo) (a.hi + b.hi) := by
  have ra := (right_iff a).1 ha
  have rb := (right_iff b).1 hb
  simp only [add, addT, Tr.ev_n, Tr.ev_l, (both_iff a b).2 ⟨ha, hb⟩]
  rw [w64_in (by omega) (by omega), w64_in (by omega) (by omega)]
  rfl

theorem add_no {a b : Iv} (h : (add a b).no = false) : right a = true ∧ right b = true := by
  simp only [add, addT, Tr.ev_n, Tr.ev_l] at h
  cases hb : both a b with
  | true => exact (both_iff a b).1 hb
  | false => simp [hb, nul] at h

theorem neg_eq {a : Iv} (ha : right a = true) : neg a = ⟨-a.hi, -a.lo, false⟩ := by
  have ra := (right_iff a).1 ha
  simp only [neg, negT, Tr.ev_n, Tr.ev_l, ha]
  rw [w64_in (by omega) (by omega), w64_in (by omega) (by omega)]
  simp only [Bool.not_true, Bool.false_eq_true, if_false]
  rw [of_of (by omega) (by omega) (by omega)]
  simp

theorem neg_right {a : Iv} (ha : right a = true) : right (neg a) = true := by
  have ra := (right_iff a).1 ha
  rw [neg_eq ha, right_iff]
  refine ⟨rfl, ?_, ?_, ?_⟩ <;> simp only <;> omega

theorem neg_no {a : Iv} (h : (neg a).no = false) : right a = true := by
  simp only [neg, negT, Tr.ev_n, Tr.ev_l] at h
  cases hb : right a with
  | true => rfl
  | false => simp [hb, nul] at h

theorem sub_eq {a b : Iv} (ha : right a = true) (hb : right b = true) : sub a b = of (a.lo - b.hi) (a.hi - b.lo) := by
  simp only [sub]
  rw [add_eq ha (neg_right hb), neg_eq hb]
  rfl

theorem sub_no {a b : Iv} (h : (sub a b).no = false) : right a = true ∧ right b = true := by
  obtain ⟨h1, h2⟩ := add_no h
  refine ⟨h1, ?_⟩
  cases hb : right b with
  | true => rfl
  | false =>
    have : neg b = nul := by simp [neg, negT, hb]
    rw [this] at h2
    cases h2

theorem add_in {x y : Int} {a b : Iv} (hx : In x a) (hy : In y b) (h : (add a b).no = false) : In (x + y) (add a b) := by
  obtain ⟨ra, x1, x2⟩ := hx
  obtain ⟨rb, y1, y2⟩ := hy
  rw [add_eq ra rb] at h ⊢
  obtain ⟨_, h2⟩ := of_no h
  exact ⟨of_right h, by rw [h2]; simp only; omega, by rw [h2]; simp only; omega⟩

theorem sub_in {x y : Int} {a b : Iv} (hx : In x a) (hy : In y b) (h : (sub a b).no = false) : In (x - y) (sub a b) := by
  obtain ⟨ra, x1, x2⟩ := hx
  obtain ⟨rb, y1, y2⟩ := hy
  rw [sub_eq ra rb] at h ⊢
  obtain ⟨_, h2⟩ := of_no h
  exact ⟨of_right h, by rw [h2]; simp only; omega, by rw [h2]; simp only; omega⟩

/-! ### Quotients -/

/-- The floor of a quotient. -/
theorem floor_eq {a b : Int} (hb : b ≠ 0) (ha : -9223372036854775807 ≤ a) (ha2 : a ≤ 9223372036854775807) : floor a b = a.fdiv b := by
  have h1 := Int.fdiv_eq_tdiv (a := a) (b := b)
  have hbb : (b == 0) = false := by simp [hb]
  have hlo : -9223372036854775807 ≤ a.tdiv b := by
    have := Int.natAbs_tdiv_le_natAbs a b
    omega
  have hhi : a.tdiv b ≤ 9223372036854775807 := by
    have := Int.natAbs_tdiv_le_natAbs a b
    omega
  have hw1 : w64 (a.tdiv b) = a.tdiv b := w64_in (by omega) (by omega)
  have hw2 : w64 (a.tdiv b - 1) = a.tdiv b - 1 := w64_in (by omega) (by omega)
  simp only [floor, floorT, Tr.ev_n, Tr.ev_l, hb, hbb, decide_false, Bool.not_false, if_true, Bool.false_eq_true, if_false, hw1, hw2]
  by_cases hd : b ∣ a
  · have hz : a.tmod b = 0 := Int.tmod_eq_zero_of_dvd hd
    rw [if_pos hd] at h1
    simp [hz, h1]
  · have hz : ¬ a.tmod b = 0 := fun h => hd (Int.dvd_of_tmod_eq_zero h)
    rw [if_neg hd] at h1
    simp only [bne_iff_ne, ne_eq, hz, not_false_eq_true, if_true]
    rw [h1]
    by_cases ha0 : 0 ≤ a <;> by_cases hb0 : 0 ≤ b
    · have e1 : ¬ a < 0 := by omega
      have e2 : ¬ b < 0 := by omega
      simp [e1, e2, ha0, hb0]
    · have e1 : ¬ a < 0 := by omega
      have e2 : b < 0 := by omega
      simp [e1, e2, ha0, hb0]
    · have e1 : a < 0 := by omega
      have e2 : ¬ b < 0 := by omega
      simp [e1, e2, ha0, hb0, Int.sign_eq_one_of_pos (show 0 < b by omega)]
    · have e1 : a < 0 := by omega
      have e2 : b < 0 := by omega
      simp [e1, e2, ha0, hb0, Int.sign_eq_neg_one_of_neg e2]

/-- The ceiling. -/
def cdiv (a b : Int) : Int := -((-a).fdiv b)

theorem cdiv_eq {a b : Int} (hb : b ≠ 0) : cdiv a b = if a.tmod b = 0 then a.fdiv b else a.fdiv b + 1 := by
  unfold cdiv
  rw [Int.neg_fdiv]
  by_cases hd : b ∣ a
  · have hz : a.tmod b = 0 := Int.tmod_eq_zero_of_dvd hd
    simp [hd, hz]
  · have hz : ¬ a.tmod b = 0 := fun h => hd (Int.dvd_of_tmod_eq_zero h)
    simp [hd, hz, hb]
    omega

theorem le_fdiv_pos {a b k : Int} (hb : 0 < b) : k ≤ a.fdiv b ↔ k * b ≤ a := by
  rw [Int.fdiv_eq_ediv_of_nonneg a (by omega)]
  exact Int.le_ediv_iff_mul_le hb

theorem le_fdiv_neg {a b k : Int} (hb : b < 0) : k ≤ a.fdiv b ↔ a ≤ k * b := by
  rw [← Int.neg_fdiv_neg, le_fdiv_pos (by omega)]
  rw [Int.mul_neg]
  omega

theorem cdiv_le_pos {a b k : Int} (hb : 0 < b) : cdiv a b ≤ k ↔ a ≤ k * b := by
  unfold cdiv
  have := le_fdiv_pos (a := -a) (k := -k) hb
  rw [Int.neg_mul] at this
  omega

theorem cdiv_le_neg {a b k : Int} (hb : b < 0) : cdiv a b ≤ k ↔ k * b ≤ a := by
  unfold cdiv
  have := le_fdiv_neg (a := -a) (k := -k) hb
  rw [Int.neg_mul] at this
  omega

theorem fdiv_le_cdiv {a b : Int} (hb : b ≠ 0) : a.fdiv b ≤ cdiv a b := by
  rw [cdiv_eq hb]
  split <;> omega

theorem fdiv_bound {a b : Int} (B : Int) (h1 : -B ≤ a) (h2 : a ≤ B) : -B ≤ a.fdiv b ∧ a.fdiv b ≤ B := by
  have := Int.natAbs_fdiv_le_natAbs a b
  omega

/-- What a rounded quotient is. -/
def q1 (a b : Int) (up : Bool) : Int := if up then cdiv a b else a.fdiv b

theorem rounded_eq {a b : Int} (up : Bool) (hb : b ≠ 0) (h1 : -4611686018427387904 ≤ a) (h2 : a ≤ 4611686018427387904) : rounded a b up = if inR (q1 a b up) then (q1 a b up, true) else (0, false) := by
  have hf := floor_eq hb (by omega) (by omega : a ≤ 9223372036854775807)
  have hbd := fdiv_bound (b := b) 4611686018427387904 (by omega) h2
  have hw : w64 (a.fdiv b + 1) = a.fdiv b + 1 := w64_in (by omega) (by omega)
  simp only [rounded, roundedT, Tr.ev_n, Tr.ev_l, hb, hf, decide_false, Bool.not_false, if_true, q1, hw]
  cases up
  · simp only [Bool.false_eq_true, if_false]
    cases inR (a.fdiv b) <;> rfl
  · simp only [if_true, cdiv_eq hb]
    by_cases hz : a.tmod b = 0
    · simp [hz]
      cases inR (a.fdiv b) <;> rfl
    · simp [hz]
      cases inR (a.fdiv b + 1) <;> rfl

theorem mul_bound {a b A B : Int} (ha : -A ≤ a ∧ a ≤ A) (hb : -B ≤ b ∧ b ≤ B) : -(A * B) ≤ a * b ∧ a * b ≤ A * B := by
  have h1 : (a * b).natAbs = a.natAbs * b.natAbs := Int.natAbs_mul a b
  have h2 : a.natAbs * b.natAbs ≤ A.toNat * B.toNat := Nat.mul_le_mul (by omega) (by omega)
  have h3 : ((A.toNat * B.toNat : Nat) : Int) = A * B := by
    rw [Int.natCast_mul, Int.toNat_of_nonneg (by omega), Int.toNat_of_nonneg (by omega)]
  omega

theorem mulR_eq {a b : Int} (up : Bool) (ha : inR a = true) (hb : inR b = true) : mulR a b up = if inR (q1 (a * b) 65536 up) then (q1 (a * b) 65536 up, true) else (0, false) := by
  have h1 := (inR_iff a).1 ha
  have h2 := (inR_iff b).1 hb
  have hm := mul_bound (a := a) (b := b) (A := 1073741824) (B := 1073741824) (by omega) (by omega)
  simp only [mulR, mulRT, Tr.ev_n, Tr.ev_l, ha, hb, Bool.not_true, Bool.false_eq_true, if_false]
  rw [w64_in (by omega) (by omega), rounded_eq up (by omega) (by omega) (by omega)]

theorem divR_eq {a b : Int} (up : Bool) (ha : inR a = true) (hb : inR b = true) (h0 : b ≠ 0) : divR a b up = if inR (q1 (a * 65536) b up) then (q1 (a * 65536) b up, true) else (0, false) := by
  have h1 := (inR_iff a).1 ha
  have h2 := (inR_iff b).1 hb
  have hz : (b == 0) = false := by simp [h0]
  simp only [divR, divRT, Tr.ev_n, Tr.ev_l, ha, hb, hz, h0, decide_false, Bool.not_false, Bool.not_true, Bool.false_eq_true, if_false, if_true]
  rw [w64_in (by omega) (by omega), rounded_eq up h0 (by omega) (by omega)]

/-! ### All ends -/

/-- What is asked of an operation on two numbers. -/
structure GoodG (g : Int → Int → Bool → Int × Bool) (a b : Iv) (q : Int → Int → Bool → Int) : Prop where
  eq : ∀ x y up, (x = a.lo ∨ x = a.hi) → (y = b.lo ∨ y = b.hi) → g x y up = if inR (q x y up) then (q x y up, true) else (0, false)
  le : ∀ x y, (x = a.lo ∨ x = a.hi) → (y = b.lo ∨ y = b.hi) → q x y false ≤ q x y true

theorem mn_eq (x y : Int) : mn x y = min x y := by simp only [mn]; omega
theorem mx_eq (x y : Int) : mx x y = max x y := by simp only [mx]; omega

theorem ends_spec {g : Int → Int → Bool → Int × Bool} {a b : Iv} {q : Int → Int → Bool → Int} (G : GoodG g a b q) (h : (ends g a b).no = false) :
    (∀ x y, (x = a.lo ∨ x = a.hi) → (y = b.lo ∨ y = b.hi) → inR (q x y false) = true ∧ inR (q x y true) = true) ∧
    ends g a b = ⟨min (min (min (q a.lo b.lo false) (q a.lo b.hi false)) (q a.hi b.lo false)) (q a.hi b.hi false), max (max (max (q a.lo b.lo true) (q a.lo b.hi true)) (q a.hi b.lo true)) (q a.hi b.hi true), false⟩ := by
  have e1 := G.eq a.lo b.lo; have e2 := G.eq a.lo b.hi; have e3 := G.eq a.hi b.lo; have e4 := G.eq a.hi b.hi
  simp only [true_or, or_true, true_implies, forall_const] at e1 e2 e3 e4
  have l1 := G.le a.lo b.lo (.inl rfl) (.inl rfl); have l2 := G.le a.lo b.hi (.inl rfl) (.inr rfl); have l3 := G.le a.hi b.lo (.inr rfl) (.inl rfl); have l4 := G.le a.hi b.hi (.inr rfl) (.inr rfl)
  have hall : inR (q a.lo b.lo false) = true ∧ inR (q a.lo b.lo true) = true ∧ inR (q a.lo b.hi false) = true ∧ inR (q a.lo b.hi true) = true ∧ inR (q a.hi b.lo false) = true ∧ inR (q a.hi b.lo true) = true ∧ inR (q a.hi b.hi false) = true ∧ inR (q a.hi b.hi true) = true := by
    simp only [ends, endsT, endS1, endS, Tr.ev_n, Tr.ev_l, e1, e2, e3, e4] at h
    refine ⟨?_, ?_, ?_, ?_, ?_, ?_, ?_, ?_⟩ <;> (apply Classical.byContradiction; intro hc; simp only [Bool.not_eq_true] at hc; simp [hc, nul] at h)
  obtain ⟨i1, i2, i3, i4, i5, i6, i7, i8⟩ := hall
  refine ⟨?_, ?_⟩
  · rintro x y (rfl | rfl) (rfl | rfl) <;> exact ⟨by assumption, by assumption⟩
  · simp only [inR_iff] at i1 i2 i3 i4 i5 i6 i7 i8
    simp only [ends, endsT, endS1, endS, Tr.ev_n, Tr.ev_l, e1, e2, e3, e4, (inR_iff _).2 i1, (inR_iff _).2 i2, (inR_iff _).2 i3, (inR_iff _).2 i4, (inR_iff _).2 i5, (inR_iff _).2 i6, (inR_iff _).2 i7, (inR_iff _).2 i8, if_true, Bool.not_true, Bool.false_eq_true, if_false, mn_eq, mx_eq]
    have o1 : of (q a.lo b.lo false) (q a.lo b.lo true) = ⟨q a.lo b.lo false, q a.lo b.lo true, false⟩ := of_of (by omega) (by omega) (by omega)
    simp only [o1, Int.min_self, Int.max_self]
    have o2 : of (min (q a.lo b.lo false) (q a.lo b.hi false)) (max (q a.lo b.lo true) (q a.lo b.hi true)) = ⟨min (q a.lo b.lo false) (q a.lo b.hi false), max (q a.lo b.lo true) (q a.lo b.hi true), false⟩ := of_of (by omega) (by omega) (by omega)
    simp only [o2]
    have o3 : of (min (min (q a.lo b.lo false) (q a.lo b.hi false)) (q a.hi b.lo false)) (max (max (q a.lo b.lo true) (q a.lo b.hi true)) (q a.hi b.lo true)) = ⟨min (min (q a.lo b.lo false) (q a.lo b.hi false)) (q a.hi b.lo false), max (max (q a.lo b.lo true) (q a.lo b.hi true)) (q a.hi b.lo true), false⟩ := of_of (by omega) (by omega) (by omega)
    simp only [o3]
    exact of_of (by omega) (by omega) (by omega)

theorem mul_good {a b : Iv} (ha : right a = true) (hb : right b = true) : GoodG mulR a b fun x y up => q1 (x * y) 65536 up := by
  have ra := (right_iff a).1 ha
  have rb := (right_iff b).1 hb
  refine ⟨fun x y up hx hy => mulR_eq up ((inR_iff x).2 ?_) ((inR_iff y).2 ?_), fun x y _ _ => fdiv_le_cdiv (by omega)⟩
  · rcases hx with rfl | rfl <;> omega
  · rcases hy with rfl | rfl <;> omega

theorem has0 {b : Iv} (hb : right b = true) (h : has b 0 = false) : 0 < b.lo ∨ b.hi < 0 := by
  apply Classical.byContradiction
  intro hc
  have : has b 0 = true := (has_iff b 0).2 ⟨hb, by omega, by omega⟩
  rw [h] at this; cases this

theorem div_good {a b : Iv} (ha : right a = true) (hb : right b = true) (h0 : has b 0 = false) : GoodG divR a b fun x y up => q1 (x * 65536) y up := by
  have ra := (right_iff a).1 ha
  have rb := (right_iff b).1 hb
  have hz := has0 hb h0
  refine ⟨fun x y up hx hy => divR_eq up ((inR_iff x).2 ?_) ((inR_iff y).2 ?_) ?_, fun x y _ hy => fdiv_le_cdiv ?_⟩
  · rcases hx with rfl | rfl <;> omega
  · rcases hy with rfl | rfl <;> omega
  · rcases hy with rfl | rfl <;> omega
  · rcases hy with rfl | rfl <;> omega

theorem mul_no {a b : Iv} (h : (mul a b).no = false) : right a = true ∧ right b = true ∧ mul a b = ends mulR a b := by
  simp only [mul, mulT, Tr.ev_n, Tr.ev_l] at h ⊢
  cases hb : both a b with
  | true => obtain ⟨h1, h2⟩ := (both_iff a b).1 hb; exact ⟨h1, h2, by simp⟩
  | false => simp [hb, nul] at h

theorem div_no {a b : Iv} (h : (div a b).no = false) : right a = true ∧ right b = true ∧ has b 0 = false ∧ div a b = ends divR a b := by
  simp only [div, divT, Tr.ev_n, Tr.ev_l] at h ⊢
  cases hb : both a b with
  | true =>
    obtain ⟨h1, h2⟩ := (both_iff a b).1 hb
    simp only [hb, Bool.not_true, Bool.false_eq_true, if_false] at h ⊢
    cases h0 : has b 0 with
    | true => simp [h0, nul] at h
    | false => exact ⟨h1, h2, rfl, by simp⟩
  | false => simp [hb, nul] at h

end Go.Proofs.Ytmmlpaehehgfnaa.Sx
