/-
  What this text proves: chapter 25's closed sentence is so.
  Conditions: none.
-/
import Derived.Test.YtmmlpaehehgfnaaKs
namespace Go.Proofs.Ytmmlpaehehgfnaa.Sx
set_option linter.unusedSimpArgs false
set_option linter.unusedVariables false

def shut25 : Sys := ⟨open25.surfs.set 0 ⟨(open25.surfs.getD 0 KN.surf.cd.z).stop, (open25.surfs.getD 0 KN.surf.cd.z).bent, (open25.surfs.getD 0 KN.surf.cd.z).curve, (open25.surfs.getD 0 KN.surf.cd.z).conic, (open25.surfs.getD 0 KN.surf.cd.z).a4, (open25.surfs.getD 0 KN.surf.cd.z).a6, (open25.surfs.getD 0 KN.surf.cd.z).at_, point 1, (open25.surfs.getD 0 KN.surf.cd.z).ratio⟩, open25.open_⟩

theorem sp25_a : ((spotOfT shut25 (whole 9) (point 0) 4 (point 0)).run.map fun p => p.2 == 0 && p.1.count == 0 && p.1.lost == 32 && eqIv p.1.x nul && eqIv p.1.mean nul) = some true := by kernel_rfl
theorem sp25_b : ((spotOfT ⟨[], ⟨0, 0, false⟩⟩ (point 0) (point 0) 4 (point 0)).run.map fun p => p.2 == 1) = some true := by kernel_rfl
theorem sp25_c : ((spotOfT open25 (point 0) nul 4 (point 0)).run.map fun p => p.2 == 1) = some true := by kernel_rfl
theorem sp25_d : ((spotOfT open25 (point 0) (point 0) 0 (point 0)).run.map fun p => p.2 == 1) = some true := by kernel_rfl
theorem sp25_e : ((spotOfT open25 (point 0) (point 0) 1 (point 0)).run.map fun p => p.2 == 0 && p.1.count == 0 && p.1.lost == 0) = some true := by kernel_rfl
theorem sp25_f : ((spotOfT open25 (point 0) (point 0) 4 nul).run.map fun p => p.2 == 0 && p.1.lost == 32) = some true := by kernel_rfl

theorem sp_of {s : Sys} {x y f : Iv} {n : Int} {g : Spot × Int → Bool} (h : ((spotOfT s x y n f).run.map g) = some true) : spotOfOk s x y n f = true ∧ g (spotOf s x y n f) = true := by
  cases hr : (spotOfT s x y n f).run with
  | none => rw [hr] at h; cases h
  | some p =>
    rw [hr] at h
    refine ⟨by rw [spotOfOk, hr]; rfl, ?_⟩
    rw [spotOf, Tr.run_of hr]
    simpa using h

theorem spotKnown_true : (spotKnownT open25 open25Ok spotOf spotOfOk true).run = some true := by
  have ha := sp_of sp25_a
  have hb := sp_of sp25_b
  have hc := sp_of sp25_c
  have hd := sp_of sp25_d
  have he := sp_of sp25_e
  have hf := sp_of sp25_f
  have ho : open25Ok = true := by kernel_rfl
  have hl : inB open25.surfs.length 0 = true := by kernel_rfl
  unfold shut25 at ha
  simp only [Bool.and_eq_true] at ha hb hc hd he hf
  obtain ⟨a0, ⟨⟨⟨a1, a2⟩, a3⟩, a4⟩, a5⟩ := ha
  obtain ⟨e0, ⟨e1, e2⟩, e3⟩ := he
  obtain ⟨f0, f1, f2⟩ := hf
  unfold spotKnownT
  simp only [Tr.run_n, Tr.run_l, ho, hl, a0, a1, a2, a3, a4, a5, hb.1, hb.2, hc.1, hc.2, hd.1, hd.2, e0, e1, e2, e3, f0, f1, f2, if_true]

end Go.Proofs.Ytmmlpaehehgfnaa.Sx
