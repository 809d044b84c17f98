/-
  What this text proves: the facts on the structs that are compared ('Qs_ok').
  Conditions: none.
-/
import Derived.Test.YtmmlpaehehgfnaaLp
namespace Go.Proofs.Ytmmlpaehehgfnaa.Sx
set_option linter.unusedSimpArgs false
set_option linter.unusedVariables false

def Qs : EqT := [(56, [.int .i64, .int .i64, .bool]), (79, [.int .i64, .int .i64, .bool, .int .i64, .int .i64, .bool, .int .i64, .int .i64, .bool]), (81, [.int .i64, .int .i64, .bool, .int .i64, .int .i64, .bool, .int .i64, .int .i64, .bool, .int .i64, .int .i64, .bool, .int .i64, .int .i64, .bool, .int .i64, .int .i64, .bool]), (26, [.int .i64, .int .i64]), (133, [.int .i64, .int .i64]), (100, [.int .i64, .int .i64, .int .i64, .bool, .cx .f64, .cx .f64])]

theorem Qs_ok : ∀ p ∈ Qs, EqOk Try.prog p.1 p.2 := by
  intro p hp
  simp only [Qs, List.mem_cons, List.not_mem_nil, or_false] at hp
  rcases hp with rfl | rfl | rfl | rfl | rfl | rfl
  all_goals exact eqOk (d := 10000) rfl (by kernel_rfl) (by kernel_rfl) (by kernel_rfl)


end Go.Proofs.Ytmmlpaehehgfnaa.Sx
