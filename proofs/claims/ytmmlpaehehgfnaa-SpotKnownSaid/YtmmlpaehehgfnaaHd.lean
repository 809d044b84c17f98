/-
  What this text proves: the contracts of the numbers of package meniscushand.
  Conditions: none.
-/
import Derived.Test.YtmmlpaehehgfnaaNw
namespace Go.Proofs.Ytmmlpaehehgfnaa.Sx
set_option linter.unusedSimpArgs false
set_option linter.unusedVariables false

def pickT (n m : Int) : Tr Int := .n (!decide (m = 0)) (.n (decide (n.tmod m < 0)) (.l (w64 (n.tmod m + m))) (.l (n.tmod m))) .f
def pick (n m : Int) : Int := (pickT n m).ev
theorem pick_run (n m : Int) (h : (!decide (m = 0)) = true) : (pickT n m).run = some (pick n m) := by
  apply run_of_ne
  unfold pickT
  simp only [Tr.run_n, Tr.run_l, Tr.run_f, h, if_true]
  split <;> simp

noncomputable def meniscushand_Pick_c : Ct := ⟨13, pf2g acInt acInt (fun n m => !decide (m = 0)) fun n m => fInt (pick n m), pf2g_ok fun n m hg => ct_tr (x := (pickT n m).ev) (t := pickT n m) (env []) (env_ok []) Try.func13 (by kernel_rfl) ([] : List (Hn Try.f13)) (by kernel_rfl) (by kernel_rfl) (by kernel_rfl)
  (show evH (env []) (hl ([] : List (Hn Try.f13))) none 0 0 Try.f13 [acInt.enc n, acInt.enc m] = (pickT n m).fold fun x => some (fInt x) by kernel_rfl) (pick_run n m hg)⟩


def within (n : Int) (low : Int) (high : Int) : Int :=
  mx low (mn high n)
noncomputable def meniscusref8_Within_c : Ct := ⟨70, pf3 acInt acInt acInt fun n low high => fInt (within n low high), pf3_ok fun n low high => ct_ok (env []) (env_ok []) Try.func70 (by kernel_rfl) ([] : List (Hn Try.f70)) (by kernel_rfl) (by kernel_rfl) (by kernel_rfl)
  (show evH (env []) (hl ([] : List (Hn Try.f70))) none 0 0 Try.f70 [acInt.enc n, acInt.enc low, acInt.enc high] = some (fInt (within n low high)) by kernel_rfl)⟩


def wide (x : Int) (w : Int) : Iv :=
  ⟨within x (-1073741824) 1073741824, mn 1073741824 (w64 (within x (-1073741824) 1073741824 + w)), false⟩
noncomputable def meniscushand_Wide_c : Ct := ⟨30, pf2 acInt acInt fun x w => fIv (wide x w), pf2_ok fun x w => ct_ok (env [meniscusref8_Within_c]) (env_ok [meniscusref8_Within_c]) Try.func30 (by kernel_rfl) ([] : List (Hn Try.f30)) (by kernel_rfl) (by kernel_rfl) (by kernel_rfl)
  (show evH (env [meniscusref8_Within_c]) (hl ([] : List (Hn Try.f30))) none 0 0 Try.f30 [acInt.enc x, acInt.enc w] = some (fIv (wide x w)) by kernel_rfl)⟩


end Go.Proofs.Ytmmlpaehehgfnaa.Sx
