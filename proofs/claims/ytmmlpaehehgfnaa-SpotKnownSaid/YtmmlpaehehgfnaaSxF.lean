/-
  What this text proves: a list of operations in the order of the text, and a region that draws its order, do what the evaluator of 'Sx' says ('ops_sound', 'any_sound').
  Conditions: the tables of types ('TEok') and the contracts of the functions that are called ('EnvOk') are handed to it.
-/
import Derived.Test.YtmmlpaehehgfnaaSxE
namespace Go.Proofs.Ytmmlpaehehgfnaa.Sx
open Go.RowKit
set_option linter.unusedSimpArgs false
set_option linter.unusedVariables false

def boolF (b : Bool) : FV := .a (.s (.v (.bool b)))

def gcond {R : Type} (b want : Bool) (x y : Option R) : Option R :=
  match want with
  | true => cond b x y
  | false => cond b y x

def dstOk (N : Nat) : Option Tmp → Bool
  | none => true
  | some d => Nat.blt d N

def stepK {R : Type} (X : Env) (N : Nat) (ops : Array Oper) (σ : St) (id : Nat) (o : Oper) (K : St → Option R) : Option R :=
  bif dstOk N o.dst then
    match o.guard with
    | none => opK X σ.fr σ.hp id o.op o.type fun v e => K ⟨putF σ.fr o.dst v, e.on id σ.hp, σ.nx⟩
    | some (j, want) =>
      match (ops[j]?).bind (·.dst) with
      | some d => match σ.fr d with
        | .a (.s (.v (.bool b))) =>
          gcond b want (opK X (upd σ.fr d (boolF want)) σ.hp id o.op o.type fun v e => K ⟨putF (upd σ.fr d (boolF want)) o.dst v, e.on id σ.hp, σ.nx⟩)
            (K ⟨putF (upd σ.fr d (boolF !want)) o.dst undefF, σ.hp, σ.nx⟩)
        | .tup [] => K ⟨putF σ.fr o.dst undefF, σ.hp, σ.nx⟩
        | _ => none
      | none => none
  else none

def wantD (ops : Array Oper) (fr : Nat → FV) (o : Oper) : Option Bool :=
  match o.guard with
  | none => some true
  | some (j, want) => match (ops[j]?).bind (·.dst) with
    | some d => match fr d with
      | .a (.s (.v (.bool b))) => some (b == want)
      | .tup [] => some false
      | _ => none
    | none => none

def stepD (X : Env) (N : Nat) (ops : Array Oper) (σ : St) (id : Nat) (o : Oper) : Option St :=
  bif dstOk N o.dst then
    match wantD ops σ.fr o with
    | some true => match opD X σ.fr σ.hp id o.op o.type with
      | some (v, e) => some ⟨putF σ.fr o.dst v, e.on id σ.hp, σ.nx⟩
      | none => none
    | some false => some ⟨putF σ.fr o.dst undefF, σ.hp, σ.nx⟩
    | none => none
  else none

theorem upd_self {α : Type} {f : Nat → α} {k : Nat} {v : α} (h : f k = v) : upd f k v = f := by
  funext t
  by_cases ht : t = k
  · subst ht; rw [upd_same, h]
  · rw [upd_ne ht]

theorem stepK_eq {R : Type} (X : Env) (N : Nat) (ops : Array Oper) (σ : St) (id : Nat) (o : Oper) (K : St → Option R) :
    stepK X N ops σ id o K = match stepD X N ops σ id o with | some σ' => K σ' | none => none := by
  unfold stepK stepD wantD
  cases dstOk N o.dst with
  | false => rfl
  | true =>
    simp only [cond_true]
    cases o.guard with
    | none =>
      simp only [opK_eq]
      cases opD X σ.fr σ.hp id o.op o.type with
      | none => rfl
      | some ve => rfl
    | some jw =>
      obtain ⟨j, want⟩ := jw
      simp only
      cases (ops[j]?).bind (·.dst) with
      | none => rfl
      | some d =>
        simp only
        split
        · rename_i b hb
          simp only [opK_eq]
          cases want <;> cases b <;> simp only [gcond, cond_true, cond_false, Bool.not_true, Bool.not_false, upd_self hb, boolF] <;>
            first
            | rfl
            | (cases opD X σ.fr σ.hp id o.op o.type <;> rfl)
        · rfl
        · rfl

theorem tmps_get {ρ : Nm} {hp : Nat → Option Bk} {fr : Nat → FV} {N : Nat} {a : Act} (hF : FR ρ hp fr N a) (d : Nat) (hnb : fr d ≠ .bad) :
    a.tmps[d]? = if d < N then some ((fr d).con ρ) else none := by
  have h := hF.val d hnb
  have hs := hF.size
  by_cases hd : d < N
  · rw [if_pos hd, ← h]
    have : d < a.tmps.size := by omega
    simp [this]
  · rw [if_neg hd]
    exact Array.getElem?_eq_none (by omega)

theorem wanted_eq {ρ : Nm} {hp : Nat → Option Bk} {fr : Nat → FV} {N : Nat} {a : Act} (hF : FR ρ hp fr N a) {ops : Array Oper} {o : Oper} {b : Bool}
    (h : wantD ops fr o = some b) : Region.wanted o (yielded ops a.tmps) = b := by
  unfold wantD at h
  unfold Region.wanted
  cases hg : o.guard with
  | none => simp [hg] at h; simp [h]
  | some jw =>
    obtain ⟨j, want⟩ := jw
    simp only [hg] at h
    cases hj : (ops[j]?).bind (·.dst) with
    | none => simp [hj] at h
    | some d =>
      simp only [hj] at h
      have hnb : fr d ≠ .bad := by intro e; rw [e] at h; simp at h
      have hN : (fr d).con ρ ≠ undef → d < N := by
        intro hne
        by_cases hd : d < N
        · exact hd
        · exfalso; apply hne
          rw [← hF.val d hnb]
          have : ¬ d < a.tmps.size := by rw [hF.size]; exact hd
          simp [this]
      have hget := tmps_get hF d hnb
      simp only [yielded, hj, Option.bind_some, hget]
      split at h
      · rename_i b' hb
        simp at h; subst h
        have hlt := hN (by rw [hb]; simp [FV.con, AV.con, Sc.con, undef])
        rw [if_pos hlt, hb]
        cases b' <;> cases want <;> rfl
      · rename_i hb
        simp at h; subst h
        rw [hb]
        by_cases hd : d < N <;> simp [hd, FV.con]
      · cases h

section
variable {X : Env} {I : World → Prop} {w0 w : World} {ρ : Nm} {a : Act} {N : Nat} {ops : Array Oper} {σ σ' : St} {id : Nat} {o : Oper}

theorem dst_lt (h : dstOk N o.dst = true) : ∀ d, o.dst = some d → d < N := by
  intro d hd
  rw [hd] at h
  exact Nat.le_of_ble_eq_true h

theorem stepD_ok (h : stepD X N ops σ id o = some σ') : dstOk N o.dst = true := by
  unfold stepD at h
  cases hd : dstOk N o.dst with
  | false => simp [hd] at h
  | true => rfl

theorem step_sound (HX : EnvOk X ρ.f I) (hI : I w0) (hW : WR w0 ρ σ.hp w) (hF : FR ρ σ.hp σ.fr N a) (hid : σ.hp id = none)
    (h : stepD X N ops σ id o = some σ') {K : Act → World → Prop} {Q : Exit → Act → World → Prop}
    (hK : ∀ ρ' a' w', ρ'.f = ρ.f → WR w0 ρ' σ'.hp w' → FR ρ' σ'.hp σ'.fr N a' → K a' w') :
    if Region.wanted o (yielded ops a.tmps) then o.wp X.P a w K Q else K (a.put o.dst undef) w := by
  have hd := dst_lt (stepD_ok h)
  unfold stepD at h
  rw [stepD_ok (by unfold stepD; exact h)] at h
  simp only [cond_true] at h
  split at h
  · rename_i hw
    rw [wanted_eq hF hw]
    simp only [if_true]
    split at h
    · rename_i v e hop
      cases h
      obtain ⟨hok, hb⟩ := op_sound HX hI hW hF hid hop
      refine hok K Q fun ρ' w' hW' hE hv => ?_
      exact hK ρ' _ w' hE.f hW' (hF.put hE hd hv)
    · cases h
  · rename_i hw
    rw [wanted_eq hF hw]
    cases h
    simp only [Bool.false_eq_true, if_false]
    have := hF.put (dst := o.dst) (Ext.refl ρ σ.hp) hd (v := undefF) (by intro y hy; simp [undefF, FV.scs] at hy)
    exact hK ρ _ w rfl hW this
  · cases h

theorem pickD_no {c : Bool} {x y v : FV} {e : Eff} (h : pickD c x y = some (v, e)) : e = .no := by
  unfold pickD at h
  split at h
  · cases h; rfl
  · cases h
  · cases h
  · cases c <;> simp at h <;> exact h.2.symm

/-- What an effect touches was there. -/
def Eff.old (hp : Nat → Option Bk) : Eff → Prop
  | .set i _ | .app i _ => (hp i).isSome = true
  | _ => True

theorem idx_no {X : Env} {fr : Nat → FV} {hp : Nat → Option Bk} {t : TypeId} {x i : Operand} {g : Bool} {v : FV} {e : Eff} (h : idxD X fr hp t x i = some (g, v, e)) : e = .no := by
  unfold idxD at h
  repeat' (split at h)
  all_goals first
    | (cases h; done)
    | (simp only [Option.some.injEq, Prod.mk.injEq] at h; exact h.2.2.symm)
    | (simp only [Bool.cond_eq_ite] at h; split at h <;> first | (cases h; done) | (simp only [Option.some.injEq, Prod.mk.injEq] at h; exact h.2.2.symm))

theorem bin_no {X : Env} {fr : Nat → FV} {op : BinOp} {t : TypeId} {x y : Operand} {g : Bool} {v : FV} {e : Eff} (h : binD X fr op t x y = some (g, v, e)) : e = .no := by
  unfold binD at h
  simp only [Bool.cond_eq_ite] at h
  repeat' (split at h)
  all_goals first
    | (cases h; done)
    | (simp only [Option.some.injEq, Prod.mk.injEq] at h; exact h.2.2.symm)

theorem ix_no {X : Env} {t : TypeId} {x : FV} {i : Option Value} {g : Bool} {v : FV} {e : Eff} (h : ixD X t x i = some (g, v, e)) : e = .no := by
  unfold ixD at h
  simp only [Bool.cond_eq_ite] at h
  repeat' (split at h)
  all_goals first
    | (cases h; done)
    | (simp only [Option.some.injEq, Prod.mk.injEq] at h; exact h.2.2.symm)

theorem cv_no {P : Program} {s d : TypeId} {x : Option Value} {g : Bool} {v : FV} {e : Eff} (h : cvF P s d x = some (g, v, e)) : e = .no := by
  unfold cvF cvD at h
  simp only [Bool.cond_eq_ite] at h
  repeat' (split at h)
  all_goals first
    | (cases h; done)
    | (simp only [Option.some.injEq, Prod.mk.injEq] at h; exact h.2.2.symm)

theorem built_no {X : Env} {b : Builtin} {c : Call} {ty : TypeId} {l : List FV} {g : Bool} {v : FV} {e : Eff} (h : builtD X b c ty l = some (g, v, e)) : e = .no := by
  unfold builtD at h
  repeat' (split at h)
  all_goals first
    | (cases h; done)
    | (simp only [Option.some.injEq, Prod.mk.injEq] at h; exact h.2.2.symm)

theorem len_no {X : Env} {hp : Nat → Option Bk} {c : Call} {l : List FV} {g : Bool} {v : FV} {e : Eff} (h : lenD X hp c l = some (g, v, e)) : e = .no := by
  unfold lenD at h
  repeat' (split at h)
  all_goals first
    | (cases h; done)
    | (simp only [Option.some.injEq, Prod.mk.injEq] at h; exact h.2.2.symm)

/-- No effect, or a new name alone. -/
def Eff.fresh : Eff → Prop
  | .no | .new _ => True
  | _ => False

theorem Eff.fresh_old {hp : Nat → Option Bk} {e : Eff} (h : e.fresh) : e.old hp := by
  cases e <;> first | trivial | exact h.elim

theorem effD_fresh (b : Option Dat) : (effD b).fresh := by cases b <;> trivial

theorem outD_fresh {id : Nat} {q : Option (Bool × RD)} {g : Bool} {v : FV} {e : Eff} (h : outD id q = some (g, v, e)) : e.fresh := by
  unfold outD at h
  repeat' (split at h)
  all_goals first
    | (cases h; done)
    | skip
  rename_i r x hx
  simp only [Option.some.injEq, Prod.mk.injEq] at h
  obtain ⟨_, rfl⟩ := h
  unfold ofR at hx
  repeat' (split at hx)
  all_goals first
    | (cases hx; done)
    | (simp only [Option.some.injEq, Prod.mk.injEq] at hx; rw [← hx.2]; exact effD_fresh _)

theorem apply_fresh {X : Env} {hp : Nat → Option Bk} {id : Nat} {cal : FV} {l : List FV} {g : Bool} {v : FV} {e : Eff} (h : applyD X hp id cal l = some (g, v, e)) : e.fresh := by
  unfold applyD at h
  repeat' (split at h)
  all_goals first
    | (cases h; done)
    | exact outD_fresh h

theorem str_no {P : Program} {t : TypeId} {x : FV} {lo hi : Option FV} {g : Bool} {v : FV} {e : Eff} (h : strS P t x lo hi = some (g, v, e)) : e = .no := by
  unfold strS at h
  simp only [Bool.cond_eq_ite] at h
  repeat' (split at h)
  all_goals first
    | (cases h; done)
    | (simp only [Option.some.injEq, Prod.mk.injEq] at h; exact h.2.2.symm)

theorem sl_fresh {X : Env} {fr : Nat → FV} {hp : Nat → Option Bk} {id : Nat} {t : TypeId} {x : Operand} {lo hi mx : Option Operand} {g : Bool} {v : FV} {e : Eff} (h : slD X fr hp id t x lo hi mx = some (g, v, e)) : e.fresh := by
  unfold slD at h
  repeat' (split at h)
  all_goals first
    | (cases h; done)
    | (rw [str_no h]; trivial)
    | (simp only [Option.some.injEq, Prod.mk.injEq] at h; rw [← h.2.2]; trivial)

theorem app2_old {id : Nat} {k : KN} {by_ el : Nat} {hp : Nat → Option Bk} {x : FV} {d : Dat} {na : Nat} {g : Bool} {v : FV} {e : Eff} (h : app2 id k by_ el hp x d na = some (g, v, e)) : e.old hp := by
  unfold app2 at h
  split at h
  · cases h
  · simp only [Bool.cond_eq_ite] at h
    repeat' (split at h)
    all_goals first
      | (cases h; done)
      | (simp only [Option.some.injEq, Prod.mk.injEq] at h; rw [← h.2.2]; first | trivial | simp_all [Eff.old])

theorem app_old {X : Env} {hp : Nat → Option Bk} {id : Nat} {c : Call} {l : List FV} {g : Bool} {v : FV} {e : Eff} (h : appD X hp id c l = some (g, v, e)) : e.old hp := by
  unfold appD at h
  split at h
  · simp only [Bool.cond_eq_ite] at h
    repeat' (split at h)
    all_goals first
      | (cases h; done)
      | exact app2_old h
  · cases h

theorem call_old {X : Env} {hp : Nat → Option Bk} {id : Nat} {c : Call} {ty : TypeId} {cal : FV} {l : List FV} {g : Bool} {v : FV} {e : Eff} (h : callD X hp id c ty cal l = some (g, v, e)) : e.old hp := by
  unfold callD at h
  split at h
  · exact Eff.fresh_old (apply_fresh h)
  · split at h
    · exact app_old h
    · simp only [Bool.cond_eq_ite] at h
      split at h
      · rw [len_no h]; trivial
      · rw [built_no h]; trivial
    · rw [built_no h]; trivial
  · cases h

theorem opD_old {fr : Nat → FV} {hp : Nat → Option Bk} {op : Op} {ty : TypeId} {v : FV} {e : Eff} (h : opD X fr hp id op ty = some (v, e)) : e.old hp := by
  have hno : ∀ x : Option FV, no x = some (v, e) → e.old hp := by
    intro x hx
    rw [(no_some hx).2]; trivial
  cases op <;> simp only [opD] at h
  case call c =>
    obtain ⟨v', e', hb, rfl, rfl⟩ := gate_some h
    exact call_old hb
  case binOp =>
    obtain ⟨v', e', hb, rfl, rfl⟩ := gate_some h
    rw [bin_no hb]; trivial
  case indexAddr =>
    obtain ⟨v', e', hb, rfl, rfl⟩ := gate_some h
    rw [idx_no hb]; trivial
  case index =>
    obtain ⟨v', e', hb, rfl, rfl⟩ := gate_some h
    rw [ix_no hb]; trivial
  case convert =>
    obtain ⟨v', e', hb, rfl, rfl⟩ := gate_some h
    rw [cv_no hb]; trivial
  case slice =>
    obtain ⟨v', e', hb, rfl, rfl⟩ := gate_some h
    exact Eff.fresh_old (sl_fresh hb)
  all_goals (try simp only [Bool.cond_eq_ite] at h)
  all_goals (repeat' (split at h))
  all_goals first
    | (cases h; done)
    | exact hno _ h
    | (rw [pickD_no h]; trivial)
    | (simp only [Option.some.injEq, Prod.mk.injEq] at h; rw [← h.2]; first | trivial | simp_all [Eff.old])

theorem stepD_free (h : stepD X N ops σ id o = some σ') {i : Nat} (hi : i ≠ id) (hn : σ.hp i = none) : σ'.hp i = none := by
  unfold stepD at h
  rw [stepD_ok (by unfold stepD; exact h)] at h
  simp only [cond_true] at h
  split at h
  · split at h
    · rename_i v e hop
      cases h
      have hold := opD_old hop
      cases e with
      | no => exact hn
      | new cs => simp only [Eff.on]; rw [upd_ne hi]; exact hn
      | set k cs =>
        simp only [Eff.on]
        rw [upd_ne (fun e => by subst e; simp [Eff.old, hn] at hold)]
        exact hn
      | app k cs =>
        simp only [Eff.on]
        rw [upd_ne hi, upd_ne (fun e => by subst e; simp [Eff.old, hn] at hold)]
        exact hn
    · cases h
  · cases h; exact hn
  · cases h

theorem stepD_nx (h : stepD X N ops σ id o = some σ') : σ'.nx = σ.nx := by
  unfold stepD at h
  rw [stepD_ok (by unfold stepD; exact h)] at h
  simp only [cond_true] at h
  split at h
  · split at h
    · cases h; rfl
    · cases h
  · cases h; rfl
  · cases h
end

/-! ### The order of the text -/

def evOps {R : Type} (X : Env) (N : Nat) (ops : Array Oper) : Nat → List Oper → St → (St → Option R) → Option R
  | _, [], σ, K => K σ
  | id, o :: r, σ, K => stepK X N ops σ id o fun σ' => evOps X N ops (id + 1) r σ' K

theorem ops_sound {R : Type} {X : Env} {F : FM} {I : World → Prop} {w0 : World} {N : Nat} {ops : Array Oper} (HX : EnvOk X F I) (hI : I w0) {r : R} {Q : Exit → Act → World → Prop} {K : St → Option R} :
    ∀ (l : List Oper) (id : Nat) (σ : St) (ρ : Nm) (a : Act) (w : World), ρ.f = F → WR w0 ρ σ.hp w → FR ρ σ.hp σ.fr N a → (∀ i, id ≤ i → σ.hp i = none) →
      evOps X N ops id l σ K = some r → (∀ σ' ρ' a' w', ρ'.f = F → WR w0 ρ' σ'.hp w' → FR ρ' σ'.hp σ'.fr N a' → (∀ i, id + l.length ≤ i → σ'.hp i = none) → σ'.nx = σ.nx → K σ' = some r → Q .normal a' w') →
      wpList X.P ops Q l a w
  | [], id, σ, ρ, a, w, hf, hW, hF, hid, h, hK => hK σ ρ a w hf hW hF (by simpa using hid) rfl h
  | o :: l, id, σ, ρ, a, w, hf, hW, hF, hid, h, hK => by
    subst hf
    simp only [evOps, stepK_eq] at h
    cases hs : stepD X N ops σ id o with
    | none => simp [hs] at h
    | some σ' =>
      simp only [hs] at h
      have hfree : ∀ i, id + 1 ≤ i → σ'.hp i = none := fun i hi => stepD_free hs (by omega) (hid i (by omega))
      have hnx := stepD_nx hs
      have := step_sound HX hI hW hF (hid id (Nat.le_refl _)) hs (K := wpList X.P ops Q l) (Q := Q) fun ρ' a' w' hf' hW' hF' =>
        ops_sound HX hI l (id + 1) σ' ρ' a' w' hf' hW' hF' hfree h fun σ2 ρ2 a2 w2 h0 h1 h2 h3 h4 h5 => hK σ2 ρ2 a2 w2 h0 h1 h2 (fun i hi => h3 i (by simp at hi; omega)) (h4.trans hnx) h5
      unfold wpList
      split
      · rename_i hw; rw [if_pos hw] at this; exact .inl this
      · rename_i hw; rw [if_neg hw] at this; exact this

end Go.Proofs.Ytmmlpaehehgfnaa.Sx
