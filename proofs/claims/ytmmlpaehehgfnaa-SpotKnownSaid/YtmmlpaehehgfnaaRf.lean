/-
  What this text proves: from a walk outside of a range over a function to the walk of its rounds.
  Conditions: no operation of the code defers a call.
-/
import Derived.RangeFuncBox
import Derived.RangeFuncLeaves
import Derived.RangeFuncNested
import Derived.OrdersIn
import Derived.OwnWalkIn
import Derived.Test.YtmmlpaehehgfnaaFn
namespace Go.Proofs.Ytmmlpaehehgfnaa.Sx
open Go.RowKit
set_option linter.unusedSimpArgs false
set_option linter.unusedVariables false

section
variable {P : Program} {o : Oper} {a : Act} {w : World} {K : Act → World → Prop} {Q : Exit → Act → World → Prop} {n l : Nat} {ops : Array Oper}

theorem rows_in {row : String} {args : Array Value} {R : Value → World → Prop} (h : Rows P row args w R) : RowsIn (Fence.wide.inRound l) n P row args w R :=
  fun c cs _ => let ⟨v, w', r, s⟩ := h c cs; ⟨v, w', r, stepsIn_wide.2 s⟩

theorem op_in (hd : ∀ c, o.op ≠ .defer c) (h : o.wp P a w K Q) : o.wpIn (Fence.wide.inRound l) n P a w K Q := by
  refine ⟨fun _ _ => trivial, ?_⟩
  rw [Oper.semAt_eq _ _ _ hd]
  unfold Oper.wp at h
  generalize (execOp a.eval o).run P w = r at *
  cases r with
  | ok x w' =>
    cases x <;> simp only [Oper.upon, Oper.uponIn] at h ⊢ <;>
      first
        | exact h
        | exact h.elim
        | exact ⟨fun h => (by cases h), CallsIn.inRound l (callsIn_wide.2 h)⟩
        | exact ⟨fun h => (by cases h), rows_in h⟩
  | halt x w' => cases x <;> simp only [Oper.upon, Oper.uponIn] at h ⊢ <;> exact h

theorem any_in (hd : ∀ o ∈ ops, ∀ c, o.op ≠ .defer c) (hq : ¬ LetsOut Q) : ∀ (k : Nat) (listed : Array Bool) (a : Act) (w : World), wpAny P .any ops Q k listed a w → wpAnyIn (Fence.wide.inRound l) n P .any ops Q k listed a w
  | 0, _, _, _, h => h
  | k + 1, listed, a, w, h => by
    refine ⟨h.1, fun i hi => ?_⟩
    have h2 := h.2 i hi
    unfold wpOp at h2
    unfold wpOpIn
    split at h2
    · rename_i ho; rw [ho]; exact any_in hd hq k _ _ _ h2
    · rename_i o ho
      rw [ho]
      simp only
      split at h2
      · rename_i hw
        rw [if_pos hw]
        rcases h2 with h2 | h2
        · exact Oper.wpIn_mono (fun a w h => any_in hd hq k _ _ _ h) (op_in (hd o (Array.mem_of_getElem? ho)) h2)
        · exact absurd h2.2 hq
      · rename_i hw
        rw [if_neg hw]
        exact ⟨fun _ _ => trivial, any_in hd hq k _ _ _ h2⟩

theorem list_in (hq : ¬ LetsOut Q) : ∀ (L : List Oper) (a : Act) (w : World), (∀ o ∈ L, ∀ c, o.op ≠ .defer c) → wpList P ops Q L a w → wpListIn (Fence.wide.inRound l) n P ops Q L a w
  | [], _, _, _, h => h
  | o :: L, a, w, hd, h => by
    unfold wpList at h
    unfold wpListIn
    split at h
    · rename_i hw
      rw [if_pos hw]
      rcases h with h | h
      · have := op_in (n := n) (l := l) (hd o List.mem_cons_self) h
        refine ⟨this.1, ?_⟩
        have h3 := Oper.wpIn_mono (K' := wpListIn (Fence.wide.inRound l) n P ops Q L) (fun a w h => list_in hq L a w (fun o ho => hd o (List.mem_cons_of_mem _ ho)) h) this
        exact h3.2
      · exact absurd h.2 hq
    · rename_i hw
      rw [if_neg hw]
      exact ⟨fun _ _ => trivial, list_in hq L _ _ (fun o ho => hd o (List.mem_cons_of_mem _ ho)) h⟩

/-- One list of operations behind another. -/
theorem wpList_app {L2 : List Oper} : ∀ (L1 : List Oper) (a : Act) (w : World), wpList P ops (fun e a w => match e with | .normal => wpList P ops Q L2 a w | e => Q e a w) L1 a w → wpList P ops Q (L1 ++ L2) a w
  | [], _, _, h => h
  | o :: L, a, w, h => by
    unfold wpList at h
    rw [List.cons_append]
    unfold wpList
    split at h
    · rename_i hw
      rw [if_pos hw]
      rcases h with h | h
      · refine .inl ?_
        have h2 := Oper.wp_mono (K' := wpList P ops Q (L ++ L2)) (fun a w h => wpList_app L a w h) h
        unfold Oper.wp at h2 ⊢
        generalize (execOp a.eval o).run P w = r at *
        cases r with
        | ok x w' => cases x <;> exact h2
        | halt x w' => cases x <;> exact h2
      · exact .inr h
    · rename_i hw
      rw [if_neg hw]
      exact wpList_app L _ _ h
end

/-- A place of evaluation, whatever may be written and is deferred. -/
theorem envM_ok (Q : EqT) (L : List Ct) (h : ∀ p ∈ Q, EqOk Try.prog p.1 p.2) (m : Nat → Prop) (d : List Deferred) (p : Option Nat) : EnvOk (envq Q L) ⟨.nilFunc, m, d, p⟩ (fun _ => True) :=
  ⟨T_ok, fun f l r hr => envL_ok L f l r hr .nilFunc (fun _ => True) rfl (fun _ _ _ _ => trivial) trivial, h, fun h => (by cases h), fun l r h => (by cases h), fun _ _ _ _ => trivial⟩

/-- The one block that may be written. -/
abbrev fmB (b : Nat) (d : List Deferred) : FM := ⟨.nilFunc, (· = b), d, some b⟩
abbrev nmB (b : Nat) (d : List Deferred) : Nm := ⟨fun _ => b, fun _ => undef, fmB b d⟩

theorem rel_pin {W : World} {a : Act} {N b t : Nat} {d : List Deferred} {cs : List Value} (hb : W.heap[b]? = some (.cells cs.toArray t (0, 0))) (hone : ∀ v ∈ cs, v.oneCell' = true) (hsize : a.tmps.size = N) (hdef : a.defers = d)
    {ks : List Nat} {rs : List RD} {vs : List Value} {ns : List Src} (hfit : FitRs W W (nmB b d) [0] rs vs ns) (hns : ∀ p ∈ ns, p.1 = none) (hks : ∀ (r t : Nat) (v : Value), ks[r]? = some t → vs[r]? = some v → a.tmps.getD t undef = v) :
    ∃ ρ', Rel W (fmB b d) N ρ' (mkSt ks rs [0] [cs.map .v] 1) a W := by
  have hmap : ∀ (ρ : Nm), (cs.map Sc.v).map (Sc.con ρ) = cs := fun ρ => by
    rw [List.map_map]
    conv => rhs; rw [← List.map_id cs]
    exact List.map_congr_left fun x _ => rfl
  have hW : WR W (nmB b d) (fun i => if i = 0 then some (.own (cs.map .v)) else none) W := by
    refine ⟨BelM.refl _ _, rfl, fun i bk hi => ?_, fun i bk hi => ?_, fun i j g hi hj => ?_, fun g hg => ?_⟩
    · by_cases h : i = 0
      · subst h
        simp only [if_true, Option.some.injEq] at hi
        subst hi
        exact ⟨.inr rfl, t, by rw [hmap]; exact hb⟩
      · simp [h] at hi
    · by_cases h : i = 0
      · subst h
        simp only [if_true, Option.some.injEq] at hi
        subst hi
        intro x hx
        obtain ⟨v, hv, rfl⟩ := List.mem_map.1 hx
        exact hone v hv
      · simp [h] at hi
    · have key : ∀ i, blkOf (nmB b d) (fun i => if i = 0 then some (.own (cs.map .v)) else none) i = some g → i = 0 := by
        intro i hi
        by_cases h : i = 0
        · exact h
        · simp [blkOf, h] at hi
      rw [key i hi, key j hj]
    · cases hg
      exact ⟨rfl, rfl⟩
  have hfl : ∀ (l : List Value), (∀ v ∈ l, v.oneCell' = true) → FitL W W (nmB b d) [0] (l.map .v) l [] := by
    intro l
    induction l with
    | nil => intro _; exact rfl
    | cons x l ih => intro h; exact ⟨[], [], rfl, ⟨rfl, h x List.mem_cons_self, rfl⟩, ih fun v hv => h v (List.mem_cons_of_mem _ hv)⟩
  refine mk_rel (n2 := []) (cvs := [cs]) hW rfl hsize hdef hfit ⟨[], [], rfl, hfl cs hone, rfl⟩ ?_ ?_ hks ?_ rfl (by simp) (.inr (by simp))
  · intro r s i p q h1 _ h3 _
    rw [hns p (by simpa using List.mem_of_getElem? h1)] at h3
    cases h3
  · intro p i hp h3
    rw [hns p (by simpa using hp)] at h3
    cases h3
  · intro r i cv h1 h2
    cases r with
    | zero =>
      simp at h1 h2
      subst h1; subst h2
      exact ⟨cs.map .v, rfl, hmap _⟩
    | succ r => simp at h1

/-- No block of one's own. -/
theorem rel_none {W : World} {a : Act} {N : Nat} (hsize : a.tmps.size = N) (hdef : a.defers = []) {ks : List Nat} {rs : List RD} {vs : List Value} {ns : List Src} (hfit : FitRs W W ⟨fun _ => 0, fun _ => undef, fm .nilFunc⟩ [] rs vs ns) (hns : ∀ p ∈ ns, p.1 = none)
    (hks : ∀ (r t : Nat) (v : Value), ks[r]? = some t → vs[r]? = some v → a.tmps.getD t undef = v) : ∃ ρ', Rel W (fm .nilFunc) N ρ' (mkSt ks rs [] [] 0) a W := by
  have hW : WR W ⟨fun _ => 0, fun _ => undef, fm .nilFunc⟩ (fun _ => none) W := ⟨BelM.refl _ _, rfl, fun i b h => (by cases h), fun i b h => (by cases h), fun i j b h => (by cases h), fun b h => (by cases h)⟩
  refine mk_rel (n2 := []) (cvs := []) hW rfl hsize hdef hfit rfl ?_ ?_ hks (by simp) rfl (by simp) (.inl rfl)
  · intro r s i p q h1 _ h3 _
    rw [hns p (by simpa using List.mem_of_getElem? h1)] at h3
    cases h3
  · intro p i hp h3
    rw [hns p (by simpa using hp)] at h3
    cases h3

/-- What the one block holds then. -/
theorem pin_fact {W : World} {b N : Nat} {d : List Deferred} {ρ : Nm} {σ : St} {a : Act} {w : World} (h : Rel W (fmB b d) N ρ σ a w) {cs : List Value} (hb : σ.hp 0 = some (.own (cs.map .v))) : (∃ t, w.heap[b]? = some (.cells cs.toArray t (0, 0))) ∧ BelM (· = b) W w := by
  obtain ⟨_, t, ht⟩ := h.wr.fact 0 _ hb
  have hp := h.wr.pin b (by rw [h.f])
  rw [hp.1, List.map_map] at ht
  have : cs.map (Sc.con ρ ∘ Sc.v) = cs := by
    conv => rhs; rw [← List.map_id cs]
    exact List.map_congr_left fun x _ => rfl
  rw [this] at ht
  refine ⟨⟨t, ht⟩, ?_⟩
  have := h.wr.below
  rw [h.f] at this
  exact this

end Go.Proofs.Ytmmlpaehehgfnaa.Sx
