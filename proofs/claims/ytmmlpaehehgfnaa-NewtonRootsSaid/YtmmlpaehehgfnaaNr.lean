/-
  What this text proves: newton.Solve of a product of two whole steps: a zero that is told is the one that lies in the beginning; what is told to be none has none in it ('newtonRoots_true').
  Conditions: none.
-/
import Derived.Test.YtmmlpaehehgfnaaPm
namespace Go.Proofs.Ytmmlpaehehgfnaa.Sx
set_option linter.unusedSimpArgs false
set_option linter.unusedVariables false

theorem in_self {n : Int} (h1 : -1073741824 ≤ n) (h2 : n ≤ 1073741824) : In n ⟨n, n, false⟩ := by
  refine ⟨?_, Int.le_refl _, Int.le_refl _⟩
  rw [right_iff]; refine ⟨rfl, ?_, ?_, ?_⟩ <;> simp only <;> omega

/-- Two whole steps. -/
structure Two (P Q : Int) : Prop where
  lo : -6 ≤ P
  lt : P + 1 ≤ Q
  hi : Q ≤ 12

section
variable {P Q : Int} (W : Two P Q)
 include W

theorem whP : whole P = ⟨P * 65536, P * 65536, false⟩ := by have := W.lo; have := W.lt; have := W.hi; exact whole_eq (by omega) (by omega)
theorem whQ : whole Q = ⟨Q * 65536, Q * 65536, false⟩ := by have := W.lo; have := W.lt; have := W.hi; exact whole_eq (by omega) (by omega)
theorem whPQ : whole (w64 (P + Q)) = ⟨(P + Q) * 65536, (P + Q) * 65536, false⟩ := by
  have := W.lo; have := W.lt; have := W.hi
  rw [w64_in (by omega) (by omega)]
  exact whole_eq (by omega) (by omega)

theorem val_in {t : Iv} {x : Int} (hx : In x t) (h : ((rootsF P Q t).1).no = false) :
    right (rootsF P Q t).1 = true ∧ (rootsF P Q t).1.lo * 65536 ≤ (x - P * 65536) * (x - Q * 65536) ∧ (x - P * 65536) * (x - Q * 65536) ≤ (rootsF P Q t).1.hi * 65536 := by
  have := W.lo; have := W.lt; have := W.hi
  simp only [rootsF] at h ⊢
  obtain ⟨r1, r2, _⟩ := mul_no h
  rw [whP W] at r1; rw [whQ W] at r2
  have n1 := ((right_iff _).1 r1).1
  have n2 := ((right_iff _).1 r2).1
  rw [whP W, whQ W] at h ⊢
  exact mul_in (sub_in hx (in_self (by omega) (by omega)) n1) (sub_in hx (in_self (by omega) (by omega)) n2) h

theorem slope_eq {t : Iv} (ht : right t = true) (h : ((rootsF P Q t).2).no = false) : (rootsF P Q t).2 = ⟨2 * t.lo - (P + Q) * 65536, 2 * t.hi - (P + Q) * 65536, false⟩ := by
  have := W.lo; have := W.lt; have := W.hi
  simp only [rootsF] at h ⊢
  rw [whPQ W] at h ⊢
  obtain ⟨r1, r2⟩ := sub_no h
  rw [sub_eq r1 r2] at h ⊢
  rw [times_eq ht (by omega) (by omega)] at r1 h ⊢
  obtain ⟨_, e1⟩ := of_no ((right_iff _).1 r1).1
  rw [e1] at h ⊢
  obtain ⟨_, e2⟩ := of_no h
  exact e2

/-- What is known of a Newton's step that is not none. -/
theorem newton_facts {t : Iv} (ht : right t = true) (h : (nwN (rootsF P Q) t).no = false) :
    ∃ m D V, t.lo ≤ m ∧ m ≤ t.hi ∧ right D = true ∧ nwN (rootsF P Q) t = ⟨m - D.hi, m - D.lo, false⟩ ∧ right (nwN (rootsF P Q) t) = true ∧
      (0 < 2 * t.lo - (P + Q) * 65536 ∨ 2 * t.hi - (P + Q) * 65536 < 0) ∧
      ∀ s, 2 * t.lo - (P + Q) * 65536 ≤ s → s ≤ 2 * t.hi - (P + Q) * 65536 →
        (0 < 2 * t.lo - (P + Q) * 65536 → D.lo * s ≤ V ∧ V ≤ D.hi * s) ∧ (2 * t.hi - (P + Q) * 65536 < 0 → V ≤ D.lo * s ∧ D.hi * s ≤ V) ∧ V = (m - P * 65536) * (m - Q * 65536) := by
  have ht' := (right_iff t).1 ht
  obtain ⟨_, m1, m2⟩ := mid_eq ht
  have hm : nwM t = ⟨mid t, mid t, false⟩ := point_eq (by omega) (by omega)
  have him : In (mid t) (nwM t) := by rw [hm]; exact in_self (by omega) (by omega)
  simp only [nwN] at h ⊢
  obtain ⟨r1, r2⟩ := sub_no h
  have hdn := ((right_iff _).1 r2).1
  obtain ⟨rv, rs, h0, _⟩ := div_no hdn
  have hvn := ((right_iff _).1 rv).1
  have hsn := ((right_iff _).1 rs).1
  obtain ⟨_, v1, v2⟩ := val_in W him hvn
  have hS := slope_eq W ht hsn
  have hz := has0 rs h0
  rw [hS] at hz
  have hsub := sub_eq r1 r2
  have l1 : (nwM t).lo = mid t := by rw [hm]
  have l2 : (nwM t).hi = mid t := by rw [hm]
  rw [l1, l2] at hsub
  rw [hsub] at h
  obtain ⟨_, e2⟩ := of_no h
  refine ⟨mid t, div (rootsF P Q (nwM t)).1 (rootsF P Q t).2, (mid t - P * 65536) * (mid t - Q * 65536), m1, m2, r2, ?_, ?_, hz, fun s hs1 hs2 => ?_⟩
  · rw [hsub, e2]
  · rw [hsub]; exact of_right h
  · have hin : In s (rootsF P Q t).2 := ⟨rs, by rw [hS]; exact hs1, by rw [hS]; exact hs2⟩
    obtain ⟨_, d1, d2⟩ := div_in v1 v2 hin hdn
    exact ⟨fun hp => d1 (by rw [hS]; exact hp), fun hn => d2 (by rw [hS]; exact hn), rfl⟩

/-- No zero is lost. -/
theorem newton_in {t : Iv} {z : Int} (hz : z = P * 65536 ∨ z = Q * 65536) (hin : In z t) (h : (nwN (rootsF P Q) t).no = false) : In z (nwN (rootsF P Q) t) := by
  obtain ⟨ht, z1, z2⟩ := hin
  obtain ⟨m, D, V, m1, m2, hD, he, hr, hsg, hall⟩ := newton_facts W ht h
  have key : ∀ s, 2 * t.lo - (P + Q) * 65536 ≤ s → s ≤ 2 * t.hi - (P + Q) * 65536 → (m - z) * s = (m - P * 65536) * (m - Q * 65536) → D.lo ≤ m - z ∧ m - z ≤ D.hi := by
    intro s s1 s2 hs
    obtain ⟨a1, a2, a3⟩ := hall s s1 s2
    rw [a3, ← hs] at a1 a2
    rcases hsg with hp | hn
    · obtain ⟨b1, b2⟩ := a1 hp
      exact ⟨Int.le_of_mul_le_mul_right b1 (by omega), Int.le_of_mul_le_mul_right b2 (by omega)⟩
    · obtain ⟨b1, b2⟩ := a2 hn
      have c1 : D.lo * (-s) ≤ (m - z) * (-s) := by rw [Int.mul_neg, Int.mul_neg]; omega
      have c2 : (m - z) * (-s) ≤ D.hi * (-s) := by rw [Int.mul_neg, Int.mul_neg]; omega
      exact ⟨Int.le_of_mul_le_mul_right c1 (by omega), Int.le_of_mul_le_mul_right c2 (by omega)⟩
  have hres : D.lo ≤ m - z ∧ m - z ≤ D.hi := by
    rcases hz with rfl | rfl
    · exact key (m - Q * 65536) (by rw [Int.add_mul]; omega) (by rw [Int.add_mul]; omega) rfl
    · exact key (m - P * 65536) (by rw [Int.add_mul]; omega) (by rw [Int.add_mul]; omega) (Int.mul_comm _ _)
  refine ⟨hr, ?_, ?_⟩ <;> rw [he] <;> simp only <;> omega

/-- Not both lie in what has a slope. -/
theorem not_both {t : Iv} (ht : right t = true) (h : (nwN (rootsF P Q) t).no = false) (h1 : In (P * 65536) t) (h2 : In (Q * 65536) t) : False := by
  have := W.lt
  obtain ⟨m, D, V, m1, m2, hD, he, hr, hsg, hall⟩ := newton_facts W ht h
  obtain ⟨_, a1, a2⟩ := h1
  obtain ⟨_, b1, b2⟩ := h2
  rw [Int.add_mul] at hsg
  omega

/-- What is strictly within has one. -/
theorem strict_has {t : Iv} (ht : right t = true) (h : (nwN (rootsF P Q) t).no = false) (s1 : t.lo < (nwN (rootsF P Q) t).lo) (s2 : (nwN (rootsF P Q) t).hi < t.hi) : In (P * 65536) t ∨ In (Q * 65536) t := by
  have hlt := W.lt
  obtain ⟨m, D, V, m1, m2, hD, he, hr, hsg, hall⟩ := newton_facts W ht h
  rw [he] at s1 s2
  simp only at s1 s2
  apply Classical.byContradiction
  intro hc
  have hnp : P * 65536 < t.lo ∨ t.hi < P * 65536 := by
    apply Classical.byContradiction; intro hn; exact hc (.inl ⟨ht, by omega, by omega⟩)
  have hnq : Q * 65536 < t.lo ∨ t.hi < Q * 65536 := by
    apply Classical.byContradiction; intro hn; exact hc (.inr ⟨ht, by omega, by omega⟩)
  have hPQ : (P + Q) * 65536 = P * 65536 + Q * 65536 := Int.add_mul _ _ _
  rw [hPQ] at hsg hall
  generalize P * 65536 = p at *
  generalize hq' : Q * 65536 = q at *
  have hpq : p < q := by
    have := ht
    omega
  have hD1 : D.hi ≤ m - t.lo - 1 := by omega
  have hD2 : m - t.hi + 1 ≤ D.lo := by omega
  have hlohi : t.lo ≤ t.hi := by omega
  generalize D.hi = dh at *
  generalize D.lo = dl at *
  generalize t.lo = lo at *
  generalize t.hi = hi at *
  rcases hnq with hq | hq
  · -- beyond both
    have hp : p < lo := by omega
    obtain ⟨a1, _, a3⟩ := hall (2 * lo - (p + q)) (Int.le_refl _) (by omega)
    obtain ⟨_, b2⟩ := a1 (by omega)
    have c1 : dh * (2 * lo - (p + q)) ≤ (m - lo - 1) * (2 * lo - (p + q)) := mul_le_r hD1 (by omega)
    have e : (m - p) * (m - q) = (lo - p) * (lo - q) + (m - lo) * (2 * lo - (p + q)) + (m - lo) * (m - lo) := by grind
    have f1 : 0 < (lo - p) * (lo - q) := Int.mul_pos (by omega) (by omega)
    have f2 : 0 ≤ (m - lo) * (m - lo) := Int.mul_nonneg (by omega) (by omega)
    have e2 : (m - lo - 1) * (2 * lo - (p + q)) = (m - lo) * (2 * lo - (p + q)) - (2 * lo - (p + q)) := by grind
    omega
  · rcases hnp with hp | hp
    · -- between
      rcases hsg with hs | hs
      · obtain ⟨a1, _, a3⟩ := hall (2 * lo - (p + q)) (Int.le_refl _) (by omega)
        obtain ⟨b1, _⟩ := a1 hs
        have c1 : (2 - (q - m)) * (2 * lo - (p + q)) ≤ dl * (2 * lo - (p + q)) := mul_le_r (by omega) (by omega)
        have e : (m - p) * (m - q) = -((m - p) * (q - m)) := by grind
        have f1 : 0 < (m - p) * (q - m) := Int.mul_pos (by omega) (by omega)
        by_cases hB : q - m ≤ 2
        · have : 0 ≤ (2 - (q - m)) * (2 * lo - (p + q)) := Int.mul_nonneg (by omega) (by omega)
          omega
        · have g1 : (q - m - 2) * (2 * lo - (p + q)) ≤ (q - m - 2) * ((m - p) - (q - m)) := mul_le_l (by omega) (by omega)
          have e2 : (2 - (q - m)) * (2 * lo - (p + q)) = -((q - m - 2) * (2 * lo - (p + q))) := by grind
          have e3 : (q - m - 2) * ((m - p) - (q - m)) = (m - p) * (q - m) - (q - m) * (q - m) - 2 * (m - p) + 2 * (q - m) := by grind
          have g2 : 0 ≤ (q - m) * (q - m) := Int.mul_nonneg (by omega) (by omega)
          omega
      · obtain ⟨_, a2, a3⟩ := hall (2 * hi - (p + q)) (by omega) (Int.le_refl _)
        obtain ⟨_, b2⟩ := a2 hs
        have c1 : (m - p - 2) * (2 * hi - (p + q)) ≤ dh * (2 * hi - (p + q)) := mul_le_rn (by omega) (by omega)
        have e : (m - p) * (m - q) = -((m - p) * (q - m)) := by grind
        have f1 : 0 < (m - p) * (q - m) := Int.mul_pos (by omega) (by omega)
        by_cases hA : m - p ≤ 2
        · have : 0 ≤ (m - p - 2) * (2 * hi - (p + q)) := Int.mul_nonneg_of_nonpos_of_nonpos (by omega) (by omega)
          omega
        · have g1 : (m - p - 2) * ((m - p) - (q - m)) ≤ (m - p - 2) * (2 * hi - (p + q)) := mul_le_l (by omega) (by omega)
          have e3 : (m - p - 2) * ((m - p) - (q - m)) = (m - p) * (m - p) - (m - p) * (q - m) - 2 * (m - p) + 2 * (q - m) := by grind
          have g2 : 0 ≤ (m - p) * (m - p) := Int.mul_nonneg (by omega) (by omega)
          omega
    · -- ahead of both
      obtain ⟨_, a2, a3⟩ := hall (2 * hi - (p + q)) (by omega) (Int.le_refl _)
      obtain ⟨b1, _⟩ := a2 (by omega)
      have c1 : dl * (2 * hi - (p + q)) ≤ (m - hi + 1) * (2 * hi - (p + q)) := mul_le_rn hD2 (by omega)
      have e : (m - p) * (m - q) = (p - hi) * (q - hi) + (m - hi) * (2 * hi - (p + q)) + (m - hi) * (m - hi) := by grind
      have f1 : 0 < (p - hi) * (q - hi) := Int.mul_pos (by omega) (by omega)
      have f2 : 0 ≤ (m - hi) * (m - hi) := Int.mul_nonneg_of_nonpos_of_nonpos (by omega) (by omega)
      have e2 : (m - hi + 1) * (2 * hi - (p + q)) = (m - hi) * (2 * hi - (p + q)) + (2 * hi - (p + q)) := by grind
      omega

/-- Where a value is not nothing there is no zero. -/
theorem without_in {a : Iv} {z : Int} (hz : z = P * 65536 ∨ z = Q * 65536) (h : without (rootsF P Q) a = true) : ¬ In z a := by
  intro hin
  simp only [without, withoutT, Tr.ev_n, Tr.ev_l] at h
  cases hr : right (rootsF P Q a).1 with
  | false => simp [hr] at h
  | true =>
    simp only [hr, if_true, Bool.not_eq_true'] at h
    obtain ⟨_, v1, v2⟩ := val_in W hin ((right_iff _).1 hr).1
    have h0 : (z - P * 65536) * (z - Q * 65536) = 0 := by
      rcases hz with rfl | rfl
      · rw [Int.sub_self, Int.zero_mul]
      · rw [Int.sub_self, Int.mul_zero]
    have : has (rootsF P Q a).1 0 = true := (has_iff _ _).2 ⟨hr, by omega, by omega⟩
    rw [h] at this; cases this
/-! ### From round to round -/

variable {t0 : Iv}

/-- What is so ahead of each round. -/
structure NrInv (P Q : Int) (t0 t : Iv) (sure : Bool) : Prop where
  right : right t = true
  lo : t0.lo ≤ t.lo
  hi : t.hi ≤ t0.hi
  p : In (P * 65536) t0 → In (P * 65536) t
  q : In (Q * 65536) t0 → In (Q * 65536) t
  sure : sure = true → ((In (P * 65536) t0 ∨ In (Q * 65536) t0) ∧ ¬ (In (P * 65536) t0 ∧ In (Q * 65536) t0))

 omit W in
theorem NrInv.back {t : Iv} {z : Int} {sure : Bool} (I : NrInv P Q t0 t sure) (h0 : Sx.right t0 = true) (h : In z t) : In z t0 :=
  ⟨h0, by have := I.lo; have := h.2.1; omega, by have := I.hi; have := h.2.2; omega⟩

def nrPost (P Q : Int) (t0 : Iv) (p : Ex × NwS) : Prop := match p with
  | (.normal, S) => NrInv P Q t0 S.2.1 S.1.2.2.1
  | (.exit _, S) => NrInv P Q t0 S.2.1 S.1.2.2.1
  | (.ret, S) => S.2.2.1 = nul ∧ S.1.2.1 = 2 ∧ ¬ In (P * 65536) t0 ∧ ¬ In (Q * 65536) t0
  | (.goto _, _) => True

theorem nr_meet {t : Iv} {sure s2 : Bool} (h0 : Sx.right t0 = true) (I : NrInv P Q t0 t sure) (h : (nwN (rootsF P Q) t).no = false)
    (hs : s2 = true → sure = true ∨ (t.lo < (nwN (rootsF P Q) t).lo ∧ (nwN (rootsF P Q) t).hi < t.hi)) :
    ((meet t (nwN (rootsF P Q) t)).no = false → NrInv P Q t0 (meet t (nwN (rootsF P Q) t)) s2 ∧ NrInv P Q t0 t s2) ∧
    ((meet t (nwN (rootsF P Q) t)).no = true → ¬ In (P * 65536) t0 ∧ ¬ In (Q * 65536) t0) := by
  obtain ⟨_, _, _, _, _, _, _, hr, _⟩ := newton_facts W I.right h
  have hin : ∀ z, (z = P * 65536 ∨ z = Q * 65536) → In z t → In z (nwN (rootsF P Q) t) := fun z hz hi => newton_in W hz hi h
  have hmeet := meet_eq I.right hr
  have it := (right_iff t).1 I.right
  have inn := (right_iff _).1 hr
  have hsure : s2 = true → ((In (P * 65536) t0 ∨ In (Q * 65536) t0) ∧ ¬ (In (P * 65536) t0 ∧ In (Q * 65536) t0)) := by
    intro h2
    rcases hs h2 with h3 | ⟨h3, h4⟩
    · exact I.sure h3
    · refine ⟨?_, fun ⟨a, b⟩ => not_both W I.right h (I.p a) (I.q b)⟩
      rcases strict_has W I.right h h3 h4 with h5 | h5
      · exact .inl (I.back h0 h5)
      · exact .inr (I.back h0 h5)
  refine ⟨fun hm => ?_, fun hm => ?_⟩
  · rw [hmeet] at hm
    obtain ⟨_, e⟩ := of_no hm
    have hrm := of_right hm
    rw [hmeet]
    have hz : ∀ z, (z = P * 65536 ∨ z = Q * 65536) → In z t → In z (of (max t.lo (nwN (rootsF P Q) t).lo) (min t.hi (nwN (rootsF P Q) t).hi)) := by
      intro z hz hi
      have h1 := hin z hz hi
      refine ⟨hrm, ?_, ?_⟩ <;> rw [e] <;> have := hi.2 <;> have := h1.2 <;> simp only <;> omega
    have hlo := I.lo; have hhi := I.hi
    exact ⟨⟨hrm, by rw [e]; simp only; omega, by rw [e]; simp only; omega, fun a => hz _ (.inl rfl) (I.p a), fun a => hz _ (.inr rfl) (I.q a), hsure⟩, ⟨I.right, I.lo, I.hi, I.p, I.q, hsure⟩⟩
  · have hno : ∀ z, (z = P * 65536 ∨ z = Q * 65536) → ¬ In z t := by
      intro z hz hi
      have h1 := hin z hz hi
      rw [hmeet] at hm
      rw [of_of (by omega) (by have := hi.2; have := h1.2; omega) (by omega)] at hm
      cases hm
    exact ⟨fun a => hno _ (.inl rfl) (I.p a), fun a => hno _ (.inr rfl) (I.q a)⟩

theorem nr_half {t a b : Iv} {sure : Bool} (hab : split t = (a, b)) (I : NrInv P Q t0 t sure) :
    (without (rootsF P Q) a = true → NrInv P Q t0 b sure) ∧ (without (rootsF P Q) b = true → NrInv P Q t0 a sure) := by
  have it := (right_iff t).1 I.right
  obtain ⟨_, m1, m2⟩ := mid_eq I.right
  rw [split_eq I.right] at hab
  cases hab
  have ra : right ⟨t.lo, mid t, false⟩ = true := by rw [right_iff]; refine ⟨rfl, ?_, ?_, ?_⟩ <;> simp only <;> omega
  have rb : right ⟨mid t, t.hi, false⟩ = true := by rw [right_iff]; refine ⟨rfl, ?_, ?_, ?_⟩ <;> simp only <;> omega
  have hlo := I.lo; have hhi := I.hi
  refine ⟨fun hw => ⟨rb, by simp only; omega, by simp only; omega, fun h => ?_, fun h => ?_, I.sure⟩, fun hw => ⟨ra, by simp only; omega, by simp only; omega, fun h => ?_, fun h => ?_, I.sure⟩⟩
  · have h1 := I.p h
    have h2 := without_in W (.inl rfl) hw
    refine ⟨rb, ?_, h1.2.2⟩
    apply Classical.byContradiction; intro hc
    exact h2 ⟨ra, h1.2.1, by simp only at hc ⊢; omega⟩
  · have h1 := I.q h
    have h2 := without_in W (.inr rfl) hw
    refine ⟨rb, ?_, h1.2.2⟩
    apply Classical.byContradiction; intro hc
    exact h2 ⟨ra, h1.2.1, by simp only at hc ⊢; omega⟩
  · have h1 := I.p h
    have h2 := without_in W (.inl rfl) hw
    refine ⟨ra, h1.2.1, ?_⟩
    apply Classical.byContradiction; intro hc
    exact h2 ⟨rb, by simp only at hc ⊢; omega, h1.2.2⟩
  · have h1 := I.q h
    have h2 := without_in W (.inr rfl) hw
    refine ⟨ra, h1.2.1, ?_⟩
    apply Classical.byContradiction; intro hc
    exact h2 ⟨rb, by simp only at hc ⊢; omega, h1.2.2⟩

theorem nr_step (h0 : Sx.right t0 = true) (S : NwS) (I : NrInv P Q t0 S.2.1 S.1.2.2.1) : nrPost P Q t0 (nwT (rootsF P Q) S).ev := by
  obtain ⟨⟨u0, is, sure, rounds⟩, t, x, n, m, u, a, b, v, s⟩ := S
  simp only at I
  simp only [nwT, nwStep, Tr.ev_n, Tr.ev_l]
  split
  · cases hn : (nwN (rootsF P Q) t).no with
    | true =>
      simp only [if_true]
      obtain ⟨h1, h2⟩ := nr_half W (a := (split t).1) (b := (split t).2) rfl I
      split
      · rename_i hw; exact h1 hw
      · split
        · trivial
        · rename_i hw
          simp only [Bool.not_eq_true', Bool.not_eq_false] at hw
          exact h2 hw
    | false =>
      simp only [Bool.false_eq_true, if_false]
      have rest : ∀ s2 : Bool, (s2 = true → sure = true ∨ (t.lo < (nwN (rootsF P Q) t).lo ∧ (nwN (rootsF P Q) t).hi < t.hi)) → nrPost P Q t0 (nwRest (rootsF P Q) is rounds t x a b s2).ev := by
        intro s2 hs2
        obtain ⟨h1, h2⟩ := nr_meet W h0 I hn hs2
        simp only [nwRest, Tr.ev_n, Tr.ev_l]
        cases hm : (meet t (nwN (rootsF P Q) t)).no with
        | true => exact ⟨rfl, rfl, h2 hm⟩
        | false =>
          simp only [Bool.false_eq_true, if_false]
          split
          · exact (h1 hm).2
          · exact (h1 hm).1
      split
      · rename_i hsu; exact rest true fun _ => .inl hsu
      · split
        · rename_i hlo
          refine rest _ fun h => .inr ⟨of_decide_eq_true hlo, of_decide_eq_true h⟩
        · exact rest false fun h => by cases h
  · exact I

theorem nr_run (h0 : Sx.right t0 = true) : ∀ (k : Nat) (S : NwS), NrInv P Q t0 S.2.1 S.1.2.2.1 →
    ((nwRun (rootsF P Q) k S).1 = 0 → NrInv P Q t0 (nwRun (rootsF P Q) k S).2.2.1 (nwRun (rootsF P Q) k S).2.1.2.2.1) ∧
    ((nwRun (rootsF P Q) k S).1 = 1 → (nwRun (rootsF P Q) k S).2.2.2.1 = nul ∧ (nwRun (rootsF P Q) k S).2.1.2.1 = 2 ∧ ¬ In (P * 65536) t0 ∧ ¬ In (Q * 65536) t0)
  | 0, S, I => ⟨fun _ => I, fun h => by simp [nwRun] at h⟩
  | k + 1, S, I => by
    have h := nr_step W h0 S I
    simp only [nwRun]
    cases hev : (nwT (rootsF P Q) S).ev with
    | mk e y =>
      rw [hev] at h
      cases e with
      | normal => exact nr_run h0 k y h
      | exit i => exact ⟨fun _ => h, fun h => by simp at h⟩
      | ret => exact ⟨fun h => by simp at h, fun _ => h⟩
      | goto l => exact ⟨fun h => by simp at h, fun h => by simp at h⟩

/-- What is told of a product of two whole steps. -/
theorem nr_solve (h0 : Sx.right t0 = true) (most : Int) :
    ((solve (rootsF P Q) t0 most).2 = 1 ∧ NrInv P Q t0 (solve (rootsF P Q) t0 most).1 true) ∨
    ((solve (rootsF P Q) t0 most).2 = 2 ∧ (solve (rootsF P Q) t0 most).1 = nul ∧ ¬ In (P * 65536) t0 ∧ ¬ In (Q * 65536) t0) ∨
    ((solve (rootsF P Q) t0 most).2 = 0 ∧ (solve (rootsF P Q) t0 most).1 = nul) := by
  have hg : nwGood (nwS0 t0 most) = true := by
    simp only [nwGood, nwS0, mx, mn, Bool.and_eq_true]
    refine ⟨decide_eq_true ?_, decide_eq_true ?_⟩ <;> (repeat' split) <;> omega
  obtain ⟨r1, r2⟩ := nr_run W h0 (nwS0 t0 most).1.2.2.2.toNat (nwS0 t0 most) ⟨h0, Int.le_refl _, Int.le_refl _, id, id, fun h => by cases h⟩
  simp only [solve, solveT, Tr.ev_n, Tr.ev_l, h0, hg, Bool.not_true, Bool.false_eq_true, if_false, if_true, nwEnd]
  generalize nwRun (rootsF P Q) (nwS0 t0 most).1.2.2.2.toNat (nwS0 t0 most) = R at *
  obtain ⟨e, S⟩ := R
  by_cases he : Nat.beq e 0 = true
  · have h1 := r1 (Nat.eq_of_beq_eq_true he)
    simp only [he, if_true]
    cases hs : S.1.2.2.1 with
    | true => rw [hs] at h1; exact .inl ⟨rfl, h1⟩
    | false => exact .inr (.inr ⟨rfl, rfl⟩)
  · simp only [he, if_false]
    by_cases he1 : Nat.beq e 1 = true
    · obtain ⟨a1, a2, a3⟩ := r2 (Nat.eq_of_beq_eq_true he1)
      simp only [he1, if_true]
      exact .inr (.inl ⟨a2, a1, a3⟩)
    · simp only [he1, if_false]
      exact .inr (.inr ⟨rfl, rfl⟩)
end

end Go.Proofs.Ytmmlpaehehgfnaa.Sx
