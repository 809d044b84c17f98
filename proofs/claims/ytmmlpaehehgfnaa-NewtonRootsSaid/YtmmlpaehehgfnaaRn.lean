/-
  What this text proves: NewtonRoots answers true, whatever it is asked.
  Conditions: none.
-/
import Derived.Test.YtmmlpaehehgfnaaNr
namespace Go.Proofs.Ytmmlpaehehgfnaa.Sx
set_option linter.unusedSimpArgs false
set_option linter.unusedVariables false

theorem pick_range (n : Int) {m : Int} (hm : 0 < m) (hm2 : m ≤ 4611686018427387904) : 0 ≤ pick n m ∧ pick n m < m := by
  have hne : ¬ m = 0 := by omega
  have h1 : (n.tmod m).natAbs < m.natAbs := by
    rw [Int.natAbs_tmod]
    exact Nat.mod_lt _ (by omega)
  simp only [pick, pickT, Tr.ev_n, Tr.ev_l, hne, decide_false, Bool.not_false, if_true]
  by_cases h : n.tmod m < 0
  · simp only [h, decide_true, if_true]
    rw [w64_in (by omega) (by omega)]
    omega
  · simp only [h, decide_false, Bool.false_eq_true, if_false]
    omega

theorem wide_right {x w : Int} (hw : 0 ≤ w) (hw2 : w ≤ 4611686018427387904) : right (wide x w) = true := by
  have h1 : -1073741824 ≤ within x (-1073741824) 1073741824 ∧ within x (-1073741824) 1073741824 ≤ 1073741824 := by
    simp only [within, mn_eq, mx_eq]; omega
  simp only [wide, mn_eq]
  rw [w64_in (by omega) (by omega), right_iff]
  refine ⟨rfl, ?_, ?_, ?_⟩ <;> simp only <;> omega

theorem known7_true : known7 = true := by kernel_rfl

theorem newtonRoots_true (p q a b : Int) : newtonRoots p q a b = true := by
  have hp := pick_range p (m := 13) (by omega) (by omega)
  have hq := pick_range q (m := 6) (by omega) (by omega)
  have hb := pick_range b (m := 262144) (by omega) (by omega)
  have eP : nrP p = pick p 13 - 6 := w64_in (by omega) (by omega)
  have eQ : nrQ p q = nrP p + 1 + pick q 6 := by
    simp only [nrQ]
    rw [w64_in (n := nrP p + 1) (by omega) (by omega), w64_in (by omega) (by omega)]
  have W : Two (nrP p) (nrQ p q) := ⟨by omega, by omega, by omega⟩
  have h0 : right (nrT a b) = true := wide_right hb.1 (by omega)
  have wp : w64 (nrP p * 65536) = nrP p * 65536 := w64_in (by omega) (by omega)
  have wq : w64 (nrQ p q * 65536) = nrQ p q * 65536 := w64_in (by omega) (by omega)
  have hs := nr_solve W h0 30
  have f1 : nrFirst p a b = true ↔ In (nrP p * 65536) (nrT a b) := by simp only [nrFirst, wp]; exact has_iff _ _
  have f2 : nrSecond p q a b = true ↔ In (nrQ p q * 65536) (nrT a b) := by simp only [nrSecond, wq]; exact has_iff _ _
  have hx : nrX p q a b = solve (rootsF (nrP p) (nrQ p q)) (nrT a b) 30 := rfl
  rw [← hx] at hs
  simp only [newtonRoots, newtonRootsT, nrEnd, Tr.ev_n, Tr.ev_l, known7_true, if_true, wp, wq]
  rcases hs with ⟨h1, I⟩ | ⟨h1, h2, h3, h4⟩ | ⟨h1, h2⟩
  · obtain ⟨s1, s2⟩ := I.sure rfl
    have hin : inside (nrX p q a b).1 (nrT a b) = true := by
      have := I.lo; have := I.hi
      simp only [inside, insideT, Tr.ev_n, Tr.ev_l, (both_iff _ _).2 ⟨I.right, h0⟩, if_true]
      simp [I.lo, I.hi]
    have k1 : nrFirst p a b = true → has (nrX p q a b).1 (nrP p * 65536) = true := fun h => (has_iff _ _).2 (I.p (f1.1 h))
    have k2 : nrSecond p q a b = true → has (nrX p q a b).1 (nrQ p q * 65536) = true := fun h => (has_iff _ _).2 (I.q (f2.1 h))
    rw [← f1, ← f2] at s1 s2
    rw [h1]
    cases e1 : nrFirst p a b <;> cases e2 : nrSecond p q a b <;> simp_all
  · rw [← f1] at h3
    rw [← f2] at h4
    rw [h1, h2]
    have e1 : nrFirst p a b = false := by simpa using h3
    have e2 : nrSecond p q a b = false := by simpa using h4
    simp [e1, e2]
    rfl
  · rw [h1, h2]
    rfl

end Go.Proofs.Ytmmlpaehehgfnaa.Sx
