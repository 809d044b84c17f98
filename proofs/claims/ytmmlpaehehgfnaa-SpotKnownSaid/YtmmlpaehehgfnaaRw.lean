/-
  What this text proves: a law's row follows from its contract: it answers true, and what it was given reads as it did ('row_post').
  Conditions: none.
-/
import Derived.Test.YtmmlpaehehgfnaaFn
import Derived.WalkKit
import Derived.ProofKit
import Derived.OpenShut
namespace Go.Proofs.Ytmmlpaehehgfnaa.Sx
open Go.ChangeShapes Go.WideShapes Go.ChangeAt Go.RowKit
set_option linter.unusedSimpArgs false
set_option linter.unusedVariables false

theorem laid_out : laidOutB Try.prog = true := by kernel_rfl

section
variable {H : Type} {enc : TypeId × Value → H} {W W' : World}

theorem trodAll_below (hb : RowKit.Below W.heap.size W W') : ∀ {ts : List TypeId} {vs : List Value} {ds : List (DataW H)} {ps : List MemPlace},
    (∀ t ∈ ts, Try.prog.readableRec t = true ∧ t < Try.prog.types.size) → DataW.TrodAll enc Try.prog W 0 (fun _ => true) true ts vs ds ps → (∀ x ∈ ps, x.block < W.heap.size) →
    DataW.TrodAll enc Try.prog W' 0 (fun b => decide (b < W.heap.size)) true ts vs ds ps
  | [], vs, ds, ps, _, h, _ => by
    obtain ⟨rfl, rfl, rfl⟩ := trodAll_nil h
    exact trodAll_mk0
  | t :: ts, vs, ds, ps, ht, h, hlt => by
    obtain ⟨v, vs', d, ds', p, q, rfl, rfl, rfl, h1, h2⟩ := trodAll_cons h
    obtain ⟨t1, t2⟩ := ht t List.mem_cons_self
    exact trodAll_cons_mk (RowKit.Below.trod laid_out t1 t2 h1 hb fun x hx => hlt x (List.mem_append.2 (.inl hx)))
      (trodAll_below hb (fun t h => ht t (List.mem_cons_of_mem _ h)) h2 fun x hx => hlt x (List.mem_append.2 (.inr hx)))

/-- Behind a call that answers true. -/
theorem row_post {f : Func} {s : ChangeSpec} {args : Array Value} {ds : List (DataW H)} {before : List MemPlace} (hvars : s.vars = [])
    (hW : DataW.Whole enc Try.prog f.params.toList s.vars false W args.toList ds [] before)
    (hA : DataW.TrodAll enc Try.prog W 0 (fun _ => true) true f.params.toList args.toList ds before)
    (ht : ∀ t ∈ f.params.toList, Try.prog.readableRec t = true ∧ t < Try.prog.types.size)
    (hb : RowKit.Below W.heap.size W W') (hfn : s.fn H (ds ++ []) = { results := [.lit (.bool true)], args := ds })
    (hres : DataW.TrodAll enc Try.prog W' W.heap.size (fun _ => false) false f.resultTypes.toList ((Value.bool true).resultList f.resultTypes.size) [.lit (.bool true)] []) :
    s.post enc Try.prog f false true false false W args (.bool true) W' := by
  refine ⟨ds, [], before, [], before, [], hW, ?_, ?_, ?_, ?_, fun h => by cases h⟩
  · rw [hfn]; exact hres
  · rw [hfn]; exact trodAll_below hb ht hA fun x hx => by simpa using hW.lt x hx
  · rw [hfn, hvars]; exact rfl
  · exact RowKit.Below.frame hb _
end

theorem trodVars_nil {H : Type} {enc : TypeId × Value → H} {P : Program} {W : World} {spare : Nat → Bool} {gs : List (DataW H)} {q : List MemPlace} (h : DataW.TrodVars enc P W spare [] gs q) : gs = [] ∧ q = [] := by
  cases gs <;> simp [DataW.TrodVars] at h
  exact ⟨rfl, h⟩

/-- A contract's call of plain cells. -/
theorem calls_true {f : FuncId} {l : List AD} {w : World} {vs : List Value} (h : Snd f l (.a (.s (.v (.bool true))))) (hv : holdsA .nilFunc w l vs) :
    Calls Try.prog f vs.toArray w fun e w' => e = .returned (.bool true) ∧ RowKit.Below w.heap.size w w' := by
  have := (h .nilFunc (fun _ => True) rfl (fun _ _ _ _ => trivial) trivial).run w vs trivial hv
  refine this.mono fun e w' hc => ?_
  obtain ⟨v, rfl, hb, hr⟩ := hc
  obtain ⟨rfl, _⟩ := hr
  exact ⟨rfl, hb⟩

end Go.Proofs.Ytmmlpaehehgfnaa.Sx
