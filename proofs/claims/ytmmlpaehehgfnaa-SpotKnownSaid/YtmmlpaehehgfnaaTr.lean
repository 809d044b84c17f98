/-
  What this text proves: the contract of math.Trunc, of what is no NaN.
  Conditions: none.
-/
import Derived.Stop.CallBack
import Derived.Laws.Externs
import Derived.WalkKit
import Derived.OwnWalkIn
import Derived.TacticsInMore
import Derived.Test.YtmmlpaehehgfnaaTc
namespace Go.Proofs.Ytmmlpaehehgfnaa.Sx
open Go.RowKit
set_option linter.unusedSimpArgs false
set_option linter.unusedVariables false

attribute [local go_sem] Oper.semAt_some

def isNum (x : Nat) : Bool := !(FloatKind.f64.decode x).isNaN
def truncF (x : Nat) : Nat := FloatKind.f64.encode ((FloatKind.f64.decode x).integral .zero)

theorem arch_run (x : Nat) (hx : isNum x = true) (w : World) : (callFunc 154 #[.float .f64 x]).run Try.prog w = .ok (.value (.float .f64 (truncF x))) w := by
  have h1 : (Go.Extern.MathFloor.toIntegral "math.archTrunc" .zero #[.float .f64 x]).run Try.prog w = .ok (.float .f64 (truncF x)) w := by
    have h2 : Go.Extern.MathFloor.toIntegral "math.archTrunc" .zero #[.float .f64 x] = (match FloatKind.f64.decode x with
      | .nan s t =>
        if FloatKind.f64.format.quiet t = t then pure (.float .f64 x) else do
        let kept ← choose (.extern "math.Floor,Ceil,Trunc,RoundToEven.signallingNaN kept" 2)
        pure (.float .f64 (if kept == 1 then x else FloatKind.f64.encode (.nan s (FloatKind.f64.format.quiet t))))
      | d => pure (.float .f64 (FloatKind.f64.encode (d.integral .zero)))) := rfl
    rw [h2]
    unfold isNum at hx
    unfold truncF
    generalize FloatKind.f64.decode x = d at *
    cases d <;> first | rfl | cases hx
  rw [run_callFunc_extern Try.func154 (by kernel_rfl) (by kernel_rfl) (by kernel_rfl) (e := Go.Extern.MathFloor.toIntegral "math.archTrunc" .zero) (by kernel_rfl), h1]
  rfl

theorem trunc_in (x : Nat) (hx : isNum x = true) (w : World) : CallsIn Fence.wide 9 Try.prog 127 #[.float .f64 x] w fun e w' => e = .returned (.float .f64 (truncF x)) ∧ w' = w := by
  refine callsIn_of_wp Try.func127 rfl trivial ?_ rfl
  have ha := arch_run x hx
  simp only [Try.ntmps127, List.size_toArray, List.length_cons, List.length_nil, Nat.reduceAdd, Nat.reduceSub, Array.replicate_succ, Array.replicate_zero, List.push_toArray, List.append_toArray, List.nil_append, List.cons_append]
  gi_wp2
  refine ⟨trivial, ?_⟩
  gi_wp2
  go_ret
  exact ⟨rfl, rfl⟩

abbrev fFlo (x : Nat) : RD := .a (acFlo.enc x)

theorem trunc_snd (x : Nat) (hx : isNum x = true) : Snd 127 [acFlo.enc x] (fFlo (truncF x)) := by
  intro F I hF hI _
  refine ⟨callable_of (c := bodyOf Try.f127) Try.func127 (by kernel_rfl) (by kernel_rfl), fun w vs hw hv => ?_⟩
  match vs, hv with
  | [v], hv =>
    obtain ⟨⟨rfl, _⟩, _⟩ := hv
    refine (callsIn_wide.1 (trunc_in x hx w)).mono fun e w' h => ?_
    obtain ⟨rfl, rfl⟩ := h
    exact ⟨_, rfl, RowKit.Below.refl _ _, rfl, rfl⟩

end Go.Proofs.Ytmmlpaehehgfnaa.Sx
