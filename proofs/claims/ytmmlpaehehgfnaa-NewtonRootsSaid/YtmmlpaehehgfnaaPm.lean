/-
  What this text proves: products and quotients of intervals have the products and quotients of the numbers that lie in them.
  Conditions: none.
-/
import Derived.Test.YtmmlpaehehgfnaaPl
namespace Go.Proofs.Ytmmlpaehehgfnaa.Sx
set_option linter.unusedSimpArgs false
set_option linter.unusedVariables false

theorem mul_le_l {a b c : Int} (h : a ≤ b) (hc : 0 ≤ c) : c * a ≤ c * b := Int.mul_le_mul_of_nonneg_left h hc
theorem mul_le_r {a b c : Int} (h : a ≤ b) (hc : 0 ≤ c) : a * c ≤ b * c := Int.mul_le_mul_of_nonneg_right h hc
theorem mul_le_ln {a b c : Int} (h : a ≤ b) (hc : c ≤ 0) : c * b ≤ c * a := Int.mul_le_mul_of_nonpos_left hc h
theorem mul_le_rn {a b c : Int} (h : a ≤ b) (hc : c ≤ 0) : b * c ≤ a * c := Int.mul_le_mul_of_nonpos_right h hc

/-- A product is not below all that the ends make. -/
theorem corner_lo {xl xh yl yh x y : Int} (hx : xl ≤ x ∧ x ≤ xh) (hy : yl ≤ y ∧ y ≤ yh) : ∃ x0 y0, (x0 = xl ∨ x0 = xh) ∧ (y0 = yl ∨ y0 = yh) ∧ x0 * y0 ≤ x * y := by
  by_cases h : 0 ≤ y
  · have h1 := mul_le_r hx.1 h
    by_cases h2 : 0 ≤ xl
    · exact ⟨xl, yl, .inl rfl, .inl rfl, Int.le_trans (mul_le_l hy.1 h2) h1⟩
    · exact ⟨xl, yh, .inl rfl, .inr rfl, Int.le_trans (mul_le_ln hy.2 (by omega)) h1⟩
  · have h1 := mul_le_rn hx.2 (show y ≤ 0 by omega)
    by_cases h2 : 0 ≤ xh
    · exact ⟨xh, yl, .inr rfl, .inl rfl, Int.le_trans (mul_le_l hy.1 h2) h1⟩
    · exact ⟨xh, yh, .inr rfl, .inr rfl, Int.le_trans (mul_le_ln hy.2 (by omega)) h1⟩

theorem corner_hi {xl xh yl yh x y : Int} (hx : xl ≤ x ∧ x ≤ xh) (hy : yl ≤ y ∧ y ≤ yh) : ∃ x0 y0, (x0 = xl ∨ x0 = xh) ∧ (y0 = yl ∨ y0 = yh) ∧ x * y ≤ x0 * y0 := by
  by_cases h : 0 ≤ y
  · have h1 := mul_le_r hx.2 h
    by_cases h2 : 0 ≤ xh
    · exact ⟨xh, yh, .inr rfl, .inr rfl, Int.le_trans h1 (mul_le_l hy.2 h2)⟩
    · exact ⟨xh, yl, .inr rfl, .inl rfl, Int.le_trans h1 (mul_le_ln hy.1 (by omega))⟩
  · have h1 := mul_le_rn hx.1 (show y ≤ 0 by omega)
    by_cases h2 : 0 ≤ xl
    · exact ⟨xl, yh, .inl rfl, .inr rfl, Int.le_trans h1 (mul_le_l hy.2 h2)⟩
    · exact ⟨xl, yl, .inl rfl, .inl rfl, Int.le_trans h1 (mul_le_ln hy.1 (by omega))⟩

/-- The ends of what 'ends' makes. -/
theorem ends_bound {g : Int → Int → Bool → Int × Bool} {a b : Iv} {q : Int → Int → Bool → Int} (G : GoodG g a b q) (h : (ends g a b).no = false) :
    right (ends g a b) = true ∧ ∀ x y, (x = a.lo ∨ x = a.hi) → (y = b.lo ∨ y = b.hi) → (ends g a b).lo ≤ q x y false ∧ q x y true ≤ (ends g a b).hi := by
  obtain ⟨h1, h2⟩ := ends_spec G h
  have i1 := h1 a.lo b.lo (.inl rfl) (.inl rfl); have i2 := h1 a.lo b.hi (.inl rfl) (.inr rfl); have i3 := h1 a.hi b.lo (.inr rfl) (.inl rfl); have i4 := h1 a.hi b.hi (.inr rfl) (.inr rfl)
  simp only [inR_iff] at i1 i2 i3 i4
  have l1 := G.le a.lo b.lo (.inl rfl) (.inl rfl)
  rw [h2]
  refine ⟨?_, ?_⟩
  · rw [right_iff]; refine ⟨rfl, ?_, ?_, ?_⟩ <;> simp only <;> omega
  · rintro x y (rfl | rfl) (rfl | rfl) <;> simp only <;> omega

theorem mul_in {x y : Int} {a b : Iv} (hx : In x a) (hy : In y b) (h : (mul a b).no = false) : right (mul a b) = true ∧ (mul a b).lo * 65536 ≤ x * y ∧ x * y ≤ (mul a b).hi * 65536 := by
  obtain ⟨ra, x1, x2⟩ := hx
  obtain ⟨rb, y1, y2⟩ := hy
  obtain ⟨_, _, he⟩ := mul_no h
  rw [he] at h ⊢
  obtain ⟨hr, hb⟩ := ends_bound (mul_good ra rb) h
  refine ⟨hr, ?_, ?_⟩
  · obtain ⟨x0, y0, hx0, hy0, hle⟩ := corner_lo ⟨x1, x2⟩ ⟨y1, y2⟩
    have := (hb x0 y0 hx0 hy0).1
    have := (le_fdiv_pos (by omega : (0 : Int) < 65536)).1 this
    omega
  · obtain ⟨x0, y0, hx0, hy0, hle⟩ := corner_hi ⟨x1, x2⟩ ⟨y1, y2⟩
    have := (hb x0 y0 hx0 hy0).2
    have := (cdiv_le_pos (by omega : (0 : Int) < 65536)).1 this
    omega

/-- A quotient, times what it is divided by. -/
theorem div_in {N s : Int} {a b : Iv} (h1 : a.lo * 65536 ≤ N) (h2 : N ≤ a.hi * 65536) (hs : In s b) (h : (div a b).no = false) : right (div a b) = true ∧
    (0 < b.lo → (div a b).lo * s ≤ N ∧ N ≤ (div a b).hi * s) ∧ (b.hi < 0 → N ≤ (div a b).lo * s ∧ (div a b).hi * s ≤ N) := by
  obtain ⟨_, s1, s2⟩ := hs
  obtain ⟨ra, rb, h0, he⟩ := div_no h
  rw [he] at h ⊢
  obtain ⟨hr, hb⟩ := ends_bound (div_good ra rb h0) h
  have rb' := (right_iff b).1 rb
  refine ⟨hr, fun hp => ⟨?_, ?_⟩, fun hn => ⟨?_, ?_⟩⟩
  · by_cases hL : 0 ≤ (ends divR a b).lo
    · have := (le_fdiv_pos (by omega)).1 (hb a.lo b.hi (.inl rfl) (.inr rfl)).1
      have := mul_le_l s2 hL
      omega
    · have := (le_fdiv_pos (by omega)).1 (hb a.lo b.lo (.inl rfl) (.inl rfl)).1
      have := mul_le_ln s1 (show (ends divR a b).lo ≤ 0 by omega)
      omega
  · by_cases hH : 0 ≤ (ends divR a b).hi
    · have := (cdiv_le_pos (by omega)).1 (hb a.hi b.lo (.inr rfl) (.inl rfl)).2
      have := mul_le_l s1 hH
      omega
    · have := (cdiv_le_pos (by omega)).1 (hb a.hi b.hi (.inr rfl) (.inr rfl)).2
      have := mul_le_ln s2 (show (ends divR a b).hi ≤ 0 by omega)
      omega
  · by_cases hL : 0 ≤ (ends divR a b).lo
    · have := (le_fdiv_neg (by omega)).1 (hb a.hi b.lo (.inr rfl) (.inl rfl)).1
      have := mul_le_l s1 hL
      omega
    · have := (le_fdiv_neg (by omega)).1 (hb a.hi b.hi (.inr rfl) (.inr rfl)).1
      have := mul_le_ln s2 (show (ends divR a b).lo ≤ 0 by omega)
      omega
  · by_cases hH : 0 ≤ (ends divR a b).hi
    · have := (cdiv_le_neg (by omega)).1 (hb a.lo b.hi (.inl rfl) (.inr rfl)).2
      have := mul_le_l s2 hH
      omega
    · have := (cdiv_le_neg (by omega)).1 (hb a.lo b.lo (.inl rfl) (.inl rfl)).2
      have := mul_le_ln s1 (show (ends divR a b).hi ≤ 0 by omega)
      omega

/-! ### Whole numbers, halves, meets -/

theorem point_eq {n : Int} (h1 : -1073741824 ≤ n) (h2 : n ≤ 1073741824) : point n = ⟨n, n, false⟩ := of_of h1 (Int.le_refl _) h2

theorem whole_eq {n : Int} (h1 : -16384 ≤ n) (h2 : n ≤ 16384) : whole n = ⟨n * 65536, n * 65536, false⟩ := by
  have hi : inR n = true := (inR_iff n).2 (by omega)
  simp only [whole, wholeT, Tr.ev_n, Tr.ev_l, hi, Bool.not_true, Bool.false_eq_true, if_false]
  rw [w64_in (by omega) (by omega), point_eq (by omega) (by omega)]

theorem times_eq {a : Iv} {k : Int} (ha : right a = true) (h1 : 0 ≤ k) (h2 : k ≤ 1000000) : times a k = of (k * a.lo) (k * a.hi) := by
  have ra := (right_iff a).1 ha
  have hi : inR k = true := (inR_iff k).2 (by omega)
  have m1 := mul_bound (a := k) (b := a.lo) (A := 1000000) (B := 1073741824) (by omega) (by omega)
  have m2 := mul_bound (a := k) (b := a.hi) (A := 1000000) (B := 1073741824) (by omega) (by omega)
  have hle := mul_le_l ra.2.2.2 h1
  simp only [times, timesT, Tr.ev_n, Tr.ev_l, ha, hi, Bool.not_true, Bool.false_eq_true, if_false, mn_eq, mx_eq]
  rw [w64_in (by omega) (by omega), w64_in (by omega) (by omega)]
  congr 1 <;> omega

theorem mid_eq {a : Iv} (ha : right a = true) : mid a = (a.lo + a.hi).fdiv 2 ∧ a.lo ≤ mid a ∧ mid a ≤ a.hi := by
  have ra := (right_iff a).1 ha
  have he : mid a = (a.lo + a.hi).fdiv 2 := by
    simp only [mid, midT, Tr.ev_n, Tr.ev_l, ha, Bool.not_true, Bool.false_eq_true, if_false]
    rw [w64_in (by omega) (by omega)]
  refine ⟨he, ?_, ?_⟩ <;> rw [he, Int.fdiv_eq_ediv_of_nonneg _ (by omega)] <;> omega

theorem split_eq {a : Iv} (ha : right a = true) : split a = (⟨a.lo, mid a, false⟩, ⟨mid a, a.hi, false⟩) := by
  have ra := (right_iff a).1 ha
  obtain ⟨_, h1, h2⟩ := mid_eq ha
  simp only [split, splitT, Tr.ev_n, Tr.ev_l, ha, Bool.not_true, Bool.false_eq_true, if_false]
  rw [of_of (by omega) h1 (by omega), of_of (by omega) h2 (by omega)]

theorem meet_no {a b : Iv} (h : (meet a b).no = false) : right a = true ∧ right b = true := by
  simp only [meet, meetT, Tr.ev_n, Tr.ev_l] at h
  cases hb : both a b with
  | true => exact (both_iff a b).1 hb
  | false => simp [hb, nul] at h

theorem meet_eq {a b : Iv} (ha : right a = true) (hb : right b = true) : meet a b = of (max a.lo b.lo) (min a.hi b.hi) := by
  simp only [meet, meetT, Tr.ev_n, Tr.ev_l, (both_iff a b).2 ⟨ha, hb⟩, Bool.not_true, Bool.false_eq_true, if_false, mn_eq, mx_eq]

end Go.Proofs.Ytmmlpaehehgfnaa.Sx
