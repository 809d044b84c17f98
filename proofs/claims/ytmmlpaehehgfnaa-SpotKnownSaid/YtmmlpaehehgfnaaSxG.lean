/-
  What this text proves: a region that draws its order does, in whatever order, what the evaluator of 'Sx' says of the order of the text ('any_sound').
  Conditions: the tables of types ('TEok') and the contracts of the functions that are called ('EnvOk') are handed to it; the region passes 'drawOk'.
-/
import Derived.Test.YtmmlpaehehgfnaaSxF
namespace Go.Proofs.Ytmmlpaehehgfnaa.Sx
open Go.RowKit
set_option linter.unusedSimpArgs false
set_option linter.unusedVariables false

/-- What an operation has to do with the blocks: nothing; it looks at them; it makes new ones; it does more; it looks at them and perhaps makes new ones. -/
inductive Cl where
  | pure
  | ld
  | nw
  | wr
  | cn

/-- 'q': calls by value make no new blocks of the caller's. -/
def clOf (q : Bool) : Op → Cl
  | .load .. | .fieldAddr .. | .indexAddr .. => .ld
  | .alloc _ | .box .. | .buildSlice .. => .nw
  | .store .. | .slice .. => .wr
  | .call c => match c.callee with
    | .builtin .append => .wr
    | .builtin _ => .ld
    | _ => bif q then .ld else .cn
  | _ => .pure

def Cl.indep : Cl → Cl → Bool
  | .pure, _ => true
  | _, .pure => true
  | .ld, .ld => true
  | .ld, .nw => true
  | .nw, .nw => true
  | .ld, .cn => true
  | .cn, .nw => true
  | _, _ => false

/-- Through which slot a block is loaded from, or stored into. -/
def adrOf : Op → Option Nat
  | .load _ (.tmp t) => some t
  | .store _ (.tmp t) _ => some t
  | _ => none

abbrev Adr := Nat → Option Nat

def far (A : Adr) (x y : Op) : Bool :=
  match adrOf x, adrOf y with
  | some s, some t => match A s, A t with
    | some i, some j => !Nat.beq i j
    | _, _ => false
  | _, _ => false

/-- Through which slot a block is looked at. -/
def lookOf : Op → Option Nat
  | .load _ (.tmp t) => some t
  | .fieldAddr _ (.tmp t) _ => some t
  | _ => none

def Cl.makes : Cl → Bool
  | .nw | .cn => true
  | _ => false

/-- What makes blocks, and a look at one that was there. -/
def far2 (q : Bool) (A : Adr) (x y : Op) : Bool := (clOf q x).makes && (match lookOf y with
  | some t => (A t).isSome
  | none => false)

/-- A field's address, of a block that is known: no block is looked at. -/
def pureLook (A : Adr) : Op → Bool
  | .fieldAddr _ (.tmp t) _ => (A t).isSome
  | _ => false

def offDst (t : Nat) (o : Oper) : Bool := match o.dst with
  | some d => !Nat.beq d t
  | none => true

/-- The slots that hold addresses of blocks throughout a region. -/
def adrs0 (fr : Nat → FV) (ops : Array Oper) : Adr := fun t =>
  match fr t with
  | .a (.s (.p i _)) => bif ops.all (offDst t) then some i else none
  | _ => none

def faFrom (t b : Nat) (o : Oper) : Bool := offDst t o || match o.op with
  | .fieldAddr _ (.tmp b') _ => Nat.beq b' b
  | _ => false

def baseOf : List Oper → Nat → Option Nat
  | [], _ => none
  | o :: r, t => bif offDst t o then baseOf r t else match o.op with
    | .fieldAddr _ (.tmp b) _ => some b
    | _ => none

def noOther (i : Nat) : FV → Bool
  | .a (.s (.p i' _)) => Nat.beq i' i
  | .a (.s _) => false
  | _ => true

/-- .. and those that come to hold a field's address. -/
def adrsN (fr : Nat → FV) (ops : Array Oper) : Nat → Adr
  | 0 => adrs0 fr ops
  | n + 1 => fun t => match adrsN fr ops n t with
    | some i => some i
    | none => match baseOf ops.toList t with
      | some b => match adrsN fr ops n b with
        | some i => bif ops.all (faFrom t b) && noOther i (fr t) then some i else none
        | none => none
      | none => none

def adrs (fr : Nat → FV) (ops : Array Oper) : Adr := adrsN fr ops 3

def indep (q : Bool) (A : Adr) (ops : Array Oper) (oj oi : Oper) : Bool :=
  oj.apart ops oi && ((clOf q oj.op).indep (clOf q oi.op) || (far A oj.op oi.op || (far2 q A oj.op oi.op || (pureLook A oj.op || pureLook A oi.op))))

def edge (oi : Oper) (j : Nat) : Bool := oi.after.any fun e => Region.binds .any e && Nat.beq e.on j

/-- Is 'j' waited for, at one or more removes? -/
def reach (ops : Array Oper) : Nat → Nat → Nat → Bool
  | 0, _, _ => false
  | n + 1, i, j => match ops[i]? with
    | some o => o.after.any fun e => Region.binds .any e && (Nat.beq e.on j || reach ops n e.on j)
    | none => false

def drawOk (q : Bool) (A : Adr) (ops : Array Oper) : Bool :=
  (List.range ops.size).all fun i => match ops[i]? with
    | some oi => oi.after.all (fun e => !Region.binds .any e || Nat.blt e.on i) &&
        (List.range i).all fun j => edge oi j || match ops[j]? with
          | some oj => indep q A ops oj oi || reach ops 6 i j
          | none => true
    | none => true

/-- With 'q': a call by value whose effect is none. -/
def calm (q : Bool) (op : Op) (e : Eff) : Bool :=
  match q, op, e with
  | true, .call c, .new _ => match c.callee with
    | .builtin _ => true
    | _ => false
  | _, _, _ => true

def stepQ (X : Env) (N : Nat) (ops : Array Oper) (q : Bool) (σ : St) (id : Nat) (o : Oper) : Option St :=
  bif dstOk N o.dst then
    match wantD ops σ.fr o with
    | some true => match opD X σ.fr σ.hp id o.op o.type with
      | some (v, e) => bif calm q o.op e then some ⟨putF σ.fr o.dst v, e.on id σ.hp, σ.nx⟩ else none
      | none => none
    | some false => some ⟨putF σ.fr o.dst undefF, σ.hp, σ.nx⟩
    | none => none
  else none

theorem stepQ_D {X : Env} {N : Nat} {ops : Array Oper} {q : Bool} {σ σ' : St} {id : Nat} {o : Oper} (h : stepQ X N ops q σ id o = some σ') : stepD X N ops σ id o = some σ' := by
  unfold stepQ at h
  unfold stepD
  cases hd : dstOk N o.dst with
  | false => simp [hd] at h
  | true =>
    simp only [hd, cond_true] at h ⊢
    split at h
    · rename_i hw
      split at h
      · rename_i v e hop
        cases hc : calm q o.op e with
        | false => simp [hc] at h
        | true => simp only [hc, cond_true] at h; simp only [hw, hop]; exact h
      · cases h
    · rename_i hw; simp only [hw]; exact h
    · cases h

def stepQK {R : Type} (X : Env) (N : Nat) (ops : Array Oper) (q : Bool) (σ : St) (id : Nat) (o : Oper) (K : St → Option R) : Option R :=
  bif dstOk N o.dst then
    match o.guard with
    | none => opK X σ.fr σ.hp id o.op o.type fun v e => bif calm q o.op e then K ⟨putF σ.fr o.dst v, e.on id σ.hp, σ.nx⟩ else none
    | some (j, want) =>
      match (ops[j]?).bind (·.dst) with
      | some d => match σ.fr d with
        | .a (.s (.v (.bool b))) =>
          gcond b want (opK X (upd σ.fr d (boolF want)) σ.hp id o.op o.type fun v e => bif calm q o.op e then K ⟨putF (upd σ.fr d (boolF want)) o.dst v, e.on id σ.hp, σ.nx⟩ else none)
            (K ⟨putF (upd σ.fr d (boolF !want)) o.dst undefF, σ.hp, σ.nx⟩)
        | .tup [] => K ⟨putF σ.fr o.dst undefF, σ.hp, σ.nx⟩
        | _ => none
      | none => none
  else none

theorem stepQK_eq {R : Type} (X : Env) (N : Nat) (ops : Array Oper) (q : Bool) (σ : St) (id : Nat) (o : Oper) (K : St → Option R) :
    stepQK X N ops q σ id o K = match stepQ X N ops q σ id o with | some σ' => K σ' | none => none := by
  unfold stepQK stepQ wantD
  cases dstOk N o.dst with
  | false => rfl
  | true =>
    simp only [cond_true]
    have hcase : ∀ (fr : Nat → FV), (match opD X fr σ.hp id o.op o.type with | some (v, e) => bif calm q o.op e then K ⟨putF fr o.dst v, e.on id σ.hp, σ.nx⟩ else none | none => none) =
        (match (match opD X fr σ.hp id o.op o.type with | some (v, e) => bif calm q o.op e then some (⟨putF fr o.dst v, e.on id σ.hp, σ.nx⟩ : St) else none | none => none) with | some σ' => K σ' | none => none) := by
      intro fr
      cases opD X fr σ.hp id o.op o.type with
      | none => rfl
      | some ve =>
        obtain ⟨v, e⟩ := ve
        simp only
        cases calm q o.op e <;> rfl
    cases o.guard with
    | none =>
      simp only [opK_eq]
      exact hcase σ.fr
    | some jw =>
      obtain ⟨j, want⟩ := jw
      simp only
      cases (ops[j]?).bind (·.dst) with
      | none => rfl
      | some d =>
        simp only
        split
        · rename_i b hb
          simp only [opK_eq, hb]
          cases want <;> cases b <;> simp only [gcond, cond_true, cond_false, Bool.not_true, Bool.not_false, upd_self hb, boolF] <;>
            first
            | rfl
            | exact hcase σ.fr
        · rename_i hb
          simp only [hb]
        · rename_i h1 h2
          have : (match σ.fr d with | .a (.s (.v (.bool b))) => some (b == want) | .tup [] => some false | _ => none : Option Bool) = none := by
            split
            · rename_i b hb; exact absurd hb (h1 b)
            · rename_i hb; exact absurd hb h2
            · rfl
          simp only [this]

def evOpsQ {R : Type} (X : Env) (N : Nat) (ops : Array Oper) (q : Bool) : Nat → List Oper → St → (St → Option R) → Option R
  | _, [], σ, K => K σ
  | id, o :: r, σ, K => stepQK X N ops q σ id o fun σ' => evOpsQ X N ops q (id + 1) r σ' K

/-! ### What an operation looks at -/

section
variable {X : Env} {fr fr' : Nat → FV} {hp hp' : Nat → Option Bk} {id : Nat} {op : Op} {ty : TypeId} {v : FV} {e : Eff}

theorem rd_congr {x : Operand} (h : ∀ t, x = .tmp t → fr t = fr' t) : rd fr x = rd fr' x := by
  cases x with
  | tmp t => exact h t rfl
  | _ => rfl

/-- What is known of slots that hold addresses. -/
def Holds' (A : Adr) (fr : Nat → FV) : Prop := ∀ t i, A t = some i → ∀ x, fr t = .a (.s x) → ∃ off, x = .p i off

theorem opD_congr (h : ∀ x ∈ op.operands.toList, rd fr x = rd fr' x) : opD X fr hp id op ty = opD X fr' hp id op ty := by
  have hparts : ∀ {parts : Array (Nat × Operand)}, (∀ x ∈ ((parts.toList.map (·.2)).toArray).toList, rd fr x = rd fr' x) → parts.toList.map (fun x => (x.1, rd fr x.2)) = parts.toList.map (fun x => (x.1, rd fr' x.2)) := by
    intro parts h
    apply List.map_congr_left
    intro p hp'
    have := h p.2 (List.mem_map_of_mem (f := fun x : Nat × Operand => x.2) hp')
    rw [this]
  cases op <;> simp only [opD] <;> simp only [Op.operands] at h
  case build t parts => rw [hparts h]
  case buildSlice t n parts => rw [hparts h]
  case makeFunc f first cs =>
    have hm : cs.toList.map (rd fr) = cs.toList.map (rd fr') := by
      apply List.map_congr_left
      intro p hp'
      exact h p (by simp only [Array.toList_append, List.mem_append]; exact .inr hp')
    rw [hm]
  case call c =>
    have hm : c.args.toList.map (rd fr) = c.args.toList.map (rd fr') := by
      apply List.map_congr_left
      intro p hp'
      exact h p (by simp only [Call.operands, Array.toList_append, List.mem_append]; exact .inr hp')
    rw [hm]
    cases hc : c.callee with
    | value x =>
      simp only
      rw [h x (by simp only [Call.operands, hc, Array.toList_append, List.mem_append]; exact .inl (by simp))]
    | _ => rfl
  case slice t x lo hi mx =>
    congr 1
    have hx : rd fr x = rd fr' x := h x (by simp)
    have hlo : lo.map (rd fr) = lo.map (rd fr') := by
      cases lo with
      | none => rfl
      | some y => simp only [Option.map_some]; rw [h y (by simp)]
    have hhi : hi.map (rd fr) = hi.map (rd fr') := by
      cases hi with
      | none => rfl
      | some y => simp only [Option.map_some]; rw [h y (by simp)]
    unfold slD
    rw [hx, hlo, hhi]
  case binOp o t x y yt =>
    congr 1
    unfold binD
    rw [h x (by simp), h y (by simp)]
  case indexAddr t x i =>
    congr 1
    unfold idxD
    rw [h x (by simp), h i (by simp)]
  all_goals (try rfl)
  all_goals (simp at h; try simp only [h])

theorem opD_pure {q : Bool} (hm : clOf q op = .pure) : opD X fr hp id op ty = opD X fr hp' id op ty := by
  cases op <;> first | rfl | (simp [clOf] at hm; done) | skip
  case call c =>
    simp only [clOf] at hm
    split at hm
    · cases hm
    · cases hm
    · cases q <;> cases hm

theorem opD_nw {q : Bool} (hm : clOf q op = .nw) : opD X fr hp id op ty = opD X fr hp' id op ty := by
  cases op <;> first | rfl | (simp [clOf] at hm; done) | skip
  case call c =>
    simp only [clOf] at hm
    split at hm
    · cases hm
    · cases hm
    · cases q <;> cases hm

def Sub (hp hp' : Nat → Option Bk) : Prop := ∀ i b, hp i = some b → hp' i = some b

theorem contents_sub (hs : Sub hp hp') {i : Nat} {c : List Value} (h : contents hp i = some c) : contents hp' i = some c := by
  unfold contents at h ⊢
  split at h
  · rename_i cs hi; rw [hs _ _ hi]; exact h
  · rename_i cs hi; rw [hs _ _ hi]; exact h
  · cases h

theorem conts_sub (hs : Sub hp hp') : ∀ {l : List Nat} {m : List (List Value)}, conts hp l = some m → conts hp' l = some m
  | [], m, h => h
  | i :: r, m, h => by
    simp only [conts] at h ⊢
    split at h
    · rename_i c l hc hl
      rw [contents_sub hs hc, conts_sub hs hl]
      exact h
    · cases h

theorem toD_sub (hs : Sub hp hp') {x : Sc} {y : Sd} (h : toD hp x = some y) : toD hp' x = some y := by
  unfold toD at h ⊢
  split at h
  · exact h
  · split at h
    · rename_i hi; rw [hs _ _ hi]; exact h
    · cases h
  · rename_i i off
    cases hb : Nat.beq off 0 with
    | false => simp [hb] at h
    | true =>
      simp only [hb, cond_true] at h ⊢
      split at h
      · rename_i c hc; rw [contents_sub hs hc]; exact h
      · cases h
  · split at h
    · rename_i l hl; rw [conts_sub hs hl]; exact h
    · cases h
  · exact h
  · cases h

theorem toDs_sub (hs : Sub hp hp') : ∀ {l : List Sc} {m : List Sd}, toDs hp l = some m → toDs hp' l = some m
  | [], m, h => h
  | x :: r, m, h => by
    simp only [toDs] at h ⊢
    split at h
    · rename_i y l hy hl
      rw [toD_sub hs hy, toDs_sub hs hl]
      exact h
    · cases h

theorem toA_sub (hs : Sub hp hp') {x : AV} {y : AD} (h : toA hp x = some y) : toA hp' x = some y := by
  unfold toA at h ⊢
  split at h
  · split at h
    · rename_i y' hy; simp only [toD_sub hs hy]; exact h
    · cases h
  · split at h
    · rename_i m hm; simp only [toDs_sub hs hm]; exact h
    · cases h

theorem toAs_sub (hs : Sub hp hp') : ∀ {l : List FV} {m : List AD}, toAs hp l = some m → toAs hp' l = some m
  | [], m, h => h
  | .a x :: r, m, h => by
    simp only [toAs] at h ⊢
    split at h
    · rename_i y l hy hl
      rw [toA_sub hs hy, toAs_sub hs hl]
      exact h
    · cases h
  | .tup _ :: _, m, h => by simp [toAs] at h
  | .bad :: _, m, h => by simp [toAs] at h

/-- Another name for what comes: it matters to a call alone whose effect is not none. -/
theorem ofS_none {id id' : Nat} : ∀ {l : List Sd} {b : Option Dat} {cs : List Sc}, ofS id l b = some (cs, none) → ofS id' l b = some (cs, none)
  | [], b, cs, h => h
  | .v x :: r, b, cs, h => by
    simp only [ofS] at h ⊢
    split at h
    · rename_i l b' hl
      simp only [Option.some.injEq, Prod.mk.injEq] at h
      obtain ⟨rfl, rfl⟩ := h
      rw [ofS_none hl]
    · cases h
  | .sl d m :: r, none, cs, h => by
    simp only [ofS] at h
    split at h
    · rename_i l b' hl
      simp only [Option.some.injEq, Prod.mk.injEq] at h
      obtain ⟨rfl, rfl⟩ := h
      exact absurd hl (ofS_some _ _ _)
    · cases h
  | .sl d m :: r, some _, cs, h => by simp [ofS] at h
  | .r _ :: _, b, cs, h => by cases b <;> simp [ofS] at h
  | .opq :: _, b, cs, h => by cases b <;> simp [ofS] at h
  | .clo .. :: _, b, cs, h => by cases b <;> simp [ofS] at h
  | .p .. :: _, b, cs, h => by cases b <;> simp [ofS] at h
 where
  ofS_some {id : Nat} : ∀ (l : List Sd) (d : Dat) (cs : List Sc), ofS id l (some d) ≠ some (cs, none)
  | [], d, cs, h => by simp [ofS] at h
  | .v x :: r, d, cs, h => by
    simp only [ofS] at h
    split at h
    · rename_i l b' hl
      simp only [Option.some.injEq, Prod.mk.injEq] at h
      obtain ⟨rfl, rfl⟩ := h
      exact ofS_some r d _ hl
    · cases h
  | .sl d m :: r, _, cs, h => by simp [ofS] at h
  | .r _ :: _, d, cs, h => by simp [ofS] at h
  | .opq :: _, d, cs, h => by simp [ofS] at h
  | .clo .. :: _, d, cs, h => by simp [ofS] at h
  | .p .. :: _, d, cs, h => by simp [ofS] at h

theorem applyD_sub (hs : Sub hp hp') {cal : FV} {l : List FV} {x : Bool × FV × Eff} (h : applyD X hp id cal l = some x) : applyD X hp' id cal l = some x := by
  unfold applyD at h ⊢
  split at h
  · cases h
  · rename_i m hm
    rw [toAs_sub hs hm]
    split at h
    · exact h
    · split at h
      · rename_i c hc
        simp only [conts_sub hs hc]
        exact h
      · cases h
    · exact h
    · cases h

theorem lenD_sub (hs : Sub hp hp') {c : Call} {l : List FV} {x : Bool × FV × Eff} (h : lenD X hp c l = some x) : lenD X hp' c l = some x := by
  unfold lenD at h ⊢
  split at h
  · split at h
    · rename_i hi he
      simp only [hs _ _ hi, he]
      exact h
    · cases h
  · cases h

theorem idxD_sub (hs : Sub hp hp') {t : TypeId} {x i : Operand} {y : Bool × FV × Eff} (h : idxD X fr hp t x i = some y) : idxD X fr hp' t x i = some y := by
  unfold idxD at h ⊢
  split at h
  · rename_i he
    split at h
    · rename_i hk hx hi
      split at h
      · rename_i hnm
        simp only [hk, hx, hi, hs _ _ hnm]
        exact h
      · cases h
    · rename_i hk hx hi
      first | exact h | (simp only [hk, hx, hi]; exact h)
    · cases h
  · cases h

theorem gate_sub {x y : Option (Bool × FV × Eff)} (hxy : ∀ z, x = some z → y = some z) {z : FV × Eff} (h : gate x = some z) : gate y = some z := by
  cases x with
  | none => simp [gate] at h
  | some w => rw [hxy w rfl]; exact h

theorem opD_ld {q : Bool} (hm : clOf q op = .ld) (h : opD X fr hp id op ty = some (v, e)) (hs : Sub hp hp') : opD X fr hp' id op ty = some (v, e) := by
  cases op <;> first | (simp [clOf] at hm; done) | skip
  case load t a =>
    simp only [opD] at h ⊢
    split at h
    · split at h
      · split at h
        · rename_i hcs; rw [hs _ _ hcs]; exact h
        · rename_i hcs; rw [hs _ _ hcs]; exact h
        · cases h
      · split at h
        · rename_i hcs; rw [hs _ _ hcs]; exact h
        · cases h
      · cases h
    · cases h
  case fieldAddr t x f =>
    simp only [opD] at h ⊢
    split at h
    · split at h
      · split at h
        · exact h
        · split at h
          · rename_i hcs; rw [hs _ _ hcs]; exact h
          · cases h
        · cases h
      · cases h
    · cases h
  case indexAddr t x i =>
    simp only [opD] at h ⊢
    exact gate_sub (fun z hz => idxD_sub hs hz) h
  case call c =>
    simp only [opD] at h ⊢
    refine gate_sub (fun z hz => ?_) h
    unfold callD at hz ⊢
    split at hz
    · exact applyD_sub hs hz
    · rename_i b hc
      split at hz
      · simp [clOf, hc] at hm
      · cases hsl : isSl1 (c.args.toList.map (rd fr)) with
        | true => simp only [hsl, cond_true] at hz ⊢; exact lenD_sub hs hz
        | false => simp only [hsl, cond_false] at hz ⊢; exact hz
      · exact hz
    · cases hz

theorem opD_cn {q : Bool} (hm : clOf q op = .cn) (h : opD X fr hp id op ty = some (v, e)) (hs : Sub hp hp') : opD X fr hp' id op ty = some (v, e) := by
  cases op <;> first | (simp [clOf] at hm; done) | skip
  case call c =>
    simp only [opD] at h ⊢
    refine gate_sub (fun z hz => ?_) h
    unfold callD at hz ⊢
    split at hz
    · exact applyD_sub hs hz
    · rename_i b hc
      exfalso; revert hm; cases b <;> simp [clOf, hc]
    · cases hz

theorem opD_cneff {q : Bool} (hm : clOf q op = .cn) (h : opD X fr hp id op ty = some (v, e)) : e.fresh := by
  cases op <;> first | (simp [clOf] at hm; done) | skip
  case call c =>
    simp only [opD] at h
    obtain ⟨v', e', hb, rfl, rfl⟩ := gate_some h
    unfold callD at hb
    split at hb
    · exact apply_fresh hb
    · rename_i b hc
      exfalso; revert hm; cases b <;> simp [clOf, hc]
    · cases hb

/-- A look at a block looks at that alone. -/
theorem opD_look {t i off : Nat} (ha : lookOf op = some t) (hf : fr t = .a (.s (.p i off))) (hi : hp i = hp' i) : opD X fr hp id op ty = opD X fr hp' id op ty := by
  cases op <;> first | (simp [lookOf] at ha; done) | skip
  case load ty a =>
    cases a <;> simp [lookOf] at ha
    subst ha
    simp only [opD, rd, hf, hi]
  case fieldAddr ty a f =>
    cases a <;> simp [lookOf] at ha
    subst ha
    simp only [opD, rd, hf]

theorem opD_lookeff {t i off : Nat} (ha : lookOf op = some t) (hf : fr t = .a (.s (.p i off))) (h : opD X fr hp id op ty = some (v, e)) : e = .no := by
  cases op <;> first | (simp [lookOf] at ha; done) | skip
  case load ty a =>
    cases a <;> simp [lookOf] at ha
    subst ha
    simp only [opD, rd, hf] at h
    repeat' (split at h)
    all_goals first | (cases h; done) | exact (no_some h).2
  case fieldAddr ty a f =>
    cases a <;> simp [lookOf] at ha
    subst ha
    simp only [opD, rd, hf] at h
    repeat' (split at h)
    all_goals first | (cases h; done) | (cases h; rfl)

theorem pureLook_spec {A : Adr} (h : pureLook A op = true) : ∃ t, lookOf op = some t ∧ (A t).isSome = true ∧ ∀ {off i : Nat}, fr t = .a (.s (.p i off)) → ∀ hp hp' id id', opD X fr hp id op ty = opD X fr hp' id' op ty := by
  cases op <;> first | (simp [pureLook] at h; done) | skip
  case fieldAddr ty a f =>
    cases a <;> simp [pureLook] at h
    refine ⟨_, rfl, h, fun hf hp hp' id id' => ?_⟩
    simp only [opD, rd, hf]

theorem opD_eff {q : Bool} (hm : clOf q op = .pure) (h : opD X fr hp id op ty = some (v, e)) : e = .no := by
  cases op <;> first | (simp [clOf] at hm; done) | skip
  case call c =>
    simp only [clOf] at hm
    split at hm
    · cases hm
    · cases hm
    · cases q <;> cases hm
  case binOp =>
    simp only [opD] at h
    obtain ⟨v', e', hb, rfl, rfl⟩ := gate_some h
    exact bin_no hb
  case index =>
    simp only [opD] at h
    obtain ⟨v', e', hb, rfl, rfl⟩ := gate_some h
    exact ix_no hb
  case convert =>
    simp only [opD] at h
    obtain ⟨v', e', hb, rfl, rfl⟩ := gate_some h
    exact cv_no hb
  all_goals (simp only [opD] at h; try simp only [Bool.cond_eq_ite] at h)
  all_goals (repeat' (split at h))
  all_goals first
    | (cases h; done)
    | (cases h; rfl)
    | exact (no_some h).2
    | exact pickD_no h

theorem opD_ldeff {q : Bool} (hm : clOf q op = .ld) (h : opD X fr hp id op ty = some (v, e)) (hc : calm q op e = true) : e = .no := by
  cases op <;> first | (simp [clOf] at hm; done) | skip
  case load t a =>
    simp only [opD] at h
    repeat' (split at h)
    all_goals first | (cases h; done) | exact (no_some h).2
  case fieldAddr t x f =>
    simp only [opD] at h
    repeat' (split at h)
    all_goals first | (cases h; done) | (cases h; rfl)
  case indexAddr t x i =>
    simp only [opD] at h
    obtain ⟨v', e', hb, rfl, rfl⟩ := gate_some h
    exact idx_no hb
  case call c =>
    simp only [opD] at h
    obtain ⟨v', e', hb, rfl, rfl⟩ := gate_some h
    unfold callD at hb
    split at hb
    · rename_i x hcal
      have hf := apply_fresh hb
      simp only [clOf, hcal] at hm
      cases q with
      | false => cases hm
      | true =>
        cases e with
        | no => rfl
        | new b => simp [calm, hcal] at hc
        | set i b => exact hf.elim
        | app i b => exact hf.elim
    · rename_i b hcal
      split at hb
      · simp [clOf, hcal] at hm
      · simp only [Bool.cond_eq_ite] at hb
        split at hb
        · exact len_no hb
        · exact built_no hb
      · exact built_no hb
    · cases hb

theorem opD_nweff {q : Bool} (hm : clOf q op = .nw) (h : opD X fr hp id op ty = some (v, e)) : ∃ cs, e = .new cs := by
  cases op <;> first | (simp [clOf] at hm; done) | skip
  case call c =>
    simp only [clOf] at hm
    split at hm
    · cases hm
    · cases hm
    · cases q <;> cases hm
  all_goals (simp only [opD] at h; try simp only [Bool.cond_eq_ite] at h)
  all_goals (repeat' (split at h))
  all_goals first | (cases h; done) | (cases h; exact ⟨_, rfl⟩)

/-- What is carried out through a slot finds an address there. -/
theorem adr_of {A : Adr} {t i : Nat} (hA : Holds' A fr) (ha : adrOf op = some t) (hi : A t = some i) (h : opD X fr hp id op ty = some (v, e)) : ∃ off, fr t = .a (.s (.p i off)) := by
  cases op <;> first | (simp [adrOf] at ha; done) | skip
  case load ty a =>
    cases a <;> simp [adrOf] at ha
    subst ha
    simp only [opD] at h
    split at h
    · split at h
      · rename_i j off hj
        obtain ⟨off', he⟩ := hA _ _ hi _ hj
        cases he
        exact ⟨_, hj⟩
      · rename_i hj
        obtain ⟨off', he⟩ := hA _ _ hi _ hj
        cases he
      · cases h
    · cases h
  case store ty a x =>
    cases a <;> simp [adrOf] at ha
    subst ha
    simp only [opD] at h
    split at h
    · split at h
      · rename_i j off y hj _
        obtain ⟨off', he⟩ := hA _ _ hi _ hj
        cases he
        exact ⟨_, hj⟩
      · rename_i hj _
        obtain ⟨off', he⟩ := hA _ _ hi _ hj
        cases he
      · cases h
    · cases h

theorem look_of {A : Adr} {t i : Nat} (hA : Holds' A fr) (ha : lookOf op = some t) (hi : A t = some i) (h : opD X fr hp id op ty = some (v, e)) : ∃ off, fr t = .a (.s (.p i off)) := by
  cases op <;> first | (simp [lookOf] at ha; done) | skip
  case load ty a =>
    cases a <;> simp [lookOf] at ha
    subst ha
    exact adr_of hA rfl hi h
  case fieldAddr ty a f =>
    cases a <;> simp [lookOf] at ha
    subst ha
    simp only [opD] at h
    split at h
    · split at h
      · split at h
        · rename_i j off hj
          obtain ⟨off', he⟩ := hA _ _ hi _ hj
          cases he
          exact ⟨_, hj⟩
        · rename_i hj
          obtain ⟨off', he⟩ := hA _ _ hi _ hj
          cases he
        · cases h
      · cases h
    · cases h

/-- A load, or a store, looks at its block alone. -/
theorem opD_at {t i off : Nat} (ha : adrOf op = some t) (hf : fr t = .a (.s (.p i off))) (hi : hp i = hp' i) : opD X fr hp id op ty = opD X fr hp' id op ty := by
  cases op <;> first | (simp [adrOf] at ha; done) | skip
  case load ty a =>
    cases a <;> simp [adrOf] at ha
    subst ha
    simp only [opD, rd, hf, hi]
  case store ty a x =>
    cases a <;> simp [adrOf] at ha
    subst ha
    simp only [opD]
    rw [show rd fr (.tmp _) = .a (.s (.p i off)) from hf]
    cases rd fr x <;> first | rfl | simp only [hi]

theorem opD_ateff {t i off : Nat} (ha : adrOf op = some t) (hf : fr t = .a (.s (.p i off))) (h : opD X fr hp id op ty = some (v, e)) : e = .no ∨ ∃ b, e = .set i b := by
  cases op <;> first | (simp [adrOf] at ha; done) | skip
  case load ty a =>
    cases a <;> simp [adrOf] at ha
    subst ha
    simp only [opD, rd, hf] at h
    repeat' (split at h)
    all_goals first | (cases h; done) | exact .inl (no_some h).2
  case store ty a x =>
    cases a <;> simp [adrOf] at ha
    subst ha
    simp only [opD] at h
    rw [show rd fr (.tmp _) = .a (.s (.p i off)) from hf] at h
    cases hx : rd fr x with
    | a y =>
      simp only [hx, Bool.cond_eq_ite] at h
      repeat' (split at h)
      all_goals first | (cases h; done) | (cases h; exact .inr ⟨_, rfl⟩)
    | tup l => simp only [hx] at h; split at h <;> cases h
    | bad => simp only [hx] at h; split at h <;> cases h

theorem mem_lookAt {ops : Array Oper} {o : Oper} {t : Tmp} (h : Operand.tmp t ∈ o.op.operands.toList) : t ∈ o.looksAt ops := by
  unfold Oper.looksAt
  rw [List.mem_append]
  exact .inl (List.mem_filterMap.2 ⟨_, h, rfl⟩)

theorem putF_ne {dst : Option Tmp} {u : FV} {t : Nat} (h : ∀ d, dst = some d → t ≠ d) : putF fr dst u t = fr t := by
  cases dst with
  | none => rfl
  | some d => exact upd_ne (h d rfl)

theorem putF_comm {x y : Option Tmp} {u u' : FV} (h : ∀ d, x = some d → y ≠ some d) : putF (putF fr x u) y u' = putF (putF fr y u') x u := by
  cases x with
  | none => rfl
  | some i =>
    cases y with
    | none => rfl
    | some j => exact upd_comm _ _ _ (fun e => h i rfl (by rw [e]))

theorem opD_put {ops : Array Oper} {o : Oper} {dst : Option Tmp} {u : FV} (h : ∀ d, dst = some d → d ∉ o.looksAt ops) : opD X (putF fr dst u) hp id o.op ty = opD X fr hp id o.op ty := by
  apply opD_congr
  intro x hx
  apply rd_congr
  intro t ht
  subst ht
  exact putF_ne fun d hd e => h d hd (by rw [← e]; exact mem_lookAt hx)

theorem wantD_put {ops : Array Oper} {o : Oper} {dst : Option Tmp} {u : FV} (h : ∀ d, dst = some d → d ∉ o.looksAt ops) : wantD ops (putF fr dst u) o = wantD ops fr o := by
  unfold wantD
  cases hg : o.guard with
  | none => rfl
  | some jw =>
    obtain ⟨j, want⟩ := jw
    simp only
    cases hj : (ops[j]?).bind (·.dst) with
    | none => rfl
    | some d =>
      simp only
      rw [putF_ne]
      intro d' hd' e
      refine h d' hd' ?_
      unfold Oper.looksAt
      rw [List.mem_append]
      right
      simp only [hg, hj, Option.toList_some, List.mem_singleton]
      exact e.symm
end

section
variable {X : Env} {N : Nat} {ops : Array Oper} {σ σ1 σ2 : St} {oi oj : Oper} {ii ij : Nat}

/-- What a step does, opened. -/
theorem stepQ_open {q : Bool} {id : Nat} {o : Oper} (h : stepQ X N ops q σ id o = some σ1) : dstOk N o.dst = true ∧
    ((wantD ops σ.fr o = some true ∧ ∃ v e, opD X σ.fr σ.hp id o.op o.type = some (v, e) ∧ calm q o.op e = true ∧ σ1 = ⟨putF σ.fr o.dst v, e.on id σ.hp, σ.nx⟩) ∨
     (wantD ops σ.fr o = some false ∧ σ1 = ⟨putF σ.fr o.dst undefF, σ.hp, σ.nx⟩)) := by
  unfold stepQ at h
  cases hd : dstOk N o.dst with
  | false => simp [hd] at h
  | true =>
  refine ⟨rfl, ?_⟩
  simp only [hd, cond_true] at h
  split at h
  · rename_i hw
    split at h
    · rename_i v e hop
      cases hc : calm q o.op e with
      | false => simp [hc] at h
      | true => simp only [hc, cond_true] at h; cases h; exact .inl ⟨hw, v, e, hop, hc, rfl⟩
    · cases h
  · rename_i hw
    cases h
    exact .inr ⟨hw, rfl⟩
  · cases h

theorem stepQ_exec {q : Bool} {id : Nat} {o : Oper} {v : FV} {e : Eff} (hd : dstOk N o.dst = true) (hw : wantD ops σ.fr o = some true) (h : opD X σ.fr σ.hp id o.op o.type = some (v, e)) (hc : calm q o.op e = true) :
    stepQ X N ops q σ id o = some ⟨putF σ.fr o.dst v, e.on id σ.hp, σ.nx⟩ := by
  unfold stepQ; rw [hd, hw]; simp [h, hc]

theorem stepQ_skip {q : Bool} {id : Nat} {o : Oper} (hd : dstOk N o.dst = true) (hw : wantD ops σ.fr o = some false) :
    stepQ X N ops q σ id o = some ⟨putF σ.fr o.dst undefF, σ.hp, σ.nx⟩ := by
  unfold stepQ; rw [hd, hw]; simp

/-- The slots hold those addresses. -/
def Holds (A : Adr) (fr : Nat → FV) (hp : Nat → Option Bk) : Prop := ∀ t i, A t = some i → (∀ x, fr t = .a (.s x) → ∃ off, x = .p i off) ∧ hp i ≠ none

def Kept (A : Adr) (ops : Array Oper) : Prop := ∀ o ∈ ops, ∀ d, o.dst = some d → A d = none ∨ ∃ i b ty f, A d = some i ∧ o.op = .fieldAddr ty (.tmp b) f ∧ A b = some i

theorem Eff.on_some {e : Eff} {id i : Nat} {hp : Nat → Option Bk} (h : hp i ≠ none) : e.on id hp i ≠ none := by
  cases e with
  | no => exact h
  | new b =>
    simp only [Eff.on]
    by_cases he : i = id
    · subst he; rw [upd_same]; simp
    · rw [upd_ne he]; exact h
  | set k b =>
    simp only [Eff.on]
    by_cases he : i = k
    · subst he; rw [upd_same]; simp
    · rw [upd_ne he]; exact h
  | app k b =>
    simp only [Eff.on]
    by_cases he : i = id
    · subst he; rw [upd_same]; simp
    · rw [upd_ne he]
      by_cases he2 : i = k
      · subst he2; rw [upd_same]; simp
      · rw [upd_ne he2]; exact h

theorem Holds.step {A : Adr} {q : Bool} {id : Nat} {o : Oper} (h : Holds A σ.fr σ.hp) (hk : Kept A ops) (ho : o ∈ ops) (hs : stepQ X N ops q σ id o = some σ1) : Holds A σ1.fr σ1.hp := by
  have key : ∀ u hp', (∀ i, σ.hp i ≠ none → hp' i ≠ none) → (∀ i b ty f x, o.op = .fieldAddr ty (.tmp b) f → A b = some i → u = .a (.s x) → ∃ off, x = .p i off) → Holds A (putF σ.fr o.dst u) hp' := by
    intro u hp' hh hu t i hA
    refine ⟨fun x hx => ?_, hh i (h t i hA).2⟩
    by_cases hd : o.dst = some t
    · rcases hk o ho t hd with hn | ⟨i', b, ty, f, hA', hop, hAb⟩
      · rw [hn] at hA; cases hA
      · rw [hA] at hA'; cases hA'
        rw [hd] at hx
        simp only [putF, upd_same] at hx
        exact hu i b ty f x hop hAb hx
    · rw [putF_ne (fun d hd' e => hd (by rw [hd', e]))] at hx
      exact (h t i hA).1 x hx
  obtain ⟨_, ⟨_, v, e, hop, _, rfl⟩ | ⟨_, rfl⟩⟩ := stepQ_open hs
  · refine key v _ (fun i hi => Eff.on_some hi) fun i b ty f x ho' hAb hx => ?_
    rw [ho'] at hop
    simp only [opD] at hop
    split at hop
    · split at hop
      · split at hop
        · rename_i j off hj
          obtain ⟨off', he⟩ := (h b i hAb).1 _ hj
          cases he
          cases hop
          cases hx
          exact ⟨_, rfl⟩
        · rename_i j sz idx off hj
          obtain ⟨off', he⟩ := (h b i hAb).1 _ hj
          cases he
        · cases hop
      · cases hop
    · cases hop
  · exact key undefF _ (fun i hi => hi) fun i b ty f x _ _ hx => by cases hx

theorem Sub.upd {hp : Nat → Option Bk} {i : Nat} {b : Bk} (h : hp i = none) : Sub hp (upd hp i (some b)) := by
  intro k c hk
  rw [upd_ne (fun e => by subst e; rw [h] at hk; cases hk)]
  exact hk

theorem swap {q : Bool} {A : Adr} (hA : Holds A σ.fr σ.hp) (hin : indep q A ops oj oi = true) (hne : ij ≠ ii) (hfree : σ.hp ii = none) (hfreej : σ.hp ij = none) (h1 : stepQ X N ops q σ ij oj = some σ1) (h2 : stepQ X N ops q σ1 ii oi = some σ2) :
    ∃ σ', stepQ X N ops q σ ii oi = some σ' ∧ stepQ X N ops q σ' ij oj = some σ2 := by
  simp only [indep, Bool.and_eq_true] at hin
  obtain ⟨hap, hmem⟩ := hin
  obtain ⟨a1, a2, a3⟩ := Oper.apart_spec hap
  obtain ⟨hdj, hj⟩ := stepQ_open h1
  obtain ⟨hdi, hi⟩ := stepQ_open h2
  rcases hj with ⟨hwj, vj, ej, hoj, hcj, rfl⟩ | ⟨hwj, rfl⟩
  · rcases hi with ⟨hwi, vi, ei, hoi, hci, rfl⟩ | ⟨hwi, rfl⟩
    · simp only at hwi hoi
      rw [wantD_put a1] at hwi
      rw [opD_put a1] at hoi
      have hwj' : ∀ u, wantD ops (putF σ.fr oi.dst u) oj = some true := fun u => by rw [wantD_put a3]; exact hwj
      have hoj' : ∀ u hp id, opD X (putF σ.fr oi.dst u) hp id oj.op oj.type = opD X σ.fr hp id oj.op oj.type := fun u hp id => opD_put a3
      -- the blocks
      have key : opD X σ.fr σ.hp ii oi.op oi.type = some (vi, ei) ∧ opD X σ.fr (ei.on ii σ.hp) ij oj.op oj.type = some (vj, ej) ∧ ej.on ij (ei.on ii σ.hp) = ei.on ii (ej.on ij σ.hp) := by
        rw [Bool.or_eq_true] at hmem
        rcases hmem with hmem | hmem
        rotate_left
        rw [Bool.or_eq_true] at hmem
        rcases hmem with hmem | hmem
        rotate_left
        rw [Bool.or_eq_true] at hmem
        rcases hmem with hmem | hmem
        rotate_left
        · rw [Bool.or_eq_true] at hmem
          rcases hmem with hmem | hmem
          · obtain ⟨t, ht, hA1, hall⟩ := pureLook_spec (X := X) (fr := σ.fr) (ty := oj.type) hmem
            obtain ⟨bi, hbi⟩ := Option.isSome_iff_exists.1 hA1
            obtain ⟨off, f1⟩ := look_of (fun t i h => (hA t i h).1) ht hbi hoj
            have hej := opD_lookeff ht f1 hoj
            subst hej
            exact ⟨hoi, by rw [hall f1 _ σ.hp _ ij]; exact hoj, rfl⟩
          · obtain ⟨t, ht, hA1, hall⟩ := pureLook_spec (X := X) (fr := σ.fr) (ty := oi.type) hmem
            obtain ⟨bi, hbi⟩ := Option.isSome_iff_exists.1 hA1
            obtain ⟨off, f1⟩ := look_of (fun t i h => (hA t i h).1) ht hbi hoi
            have hei := opD_lookeff ht f1 hoi
            subst hei
            exact ⟨by rw [hall f1 _ (ej.on ij σ.hp) _ ii]; exact hoi, hoj, rfl⟩
        rotate_right
        · unfold far2 at hmem
          rw [Bool.and_eq_true] at hmem
          obtain ⟨hm1, hm2⟩ := hmem
          split at hm2
          rotate_left
          · cases hm2
          rename_i t ht
          obtain ⟨bi, hbi⟩ := Option.isSome_iff_exists.1 hm2
          have hsome := (hA t bi hbi).2
          obtain ⟨off, f1⟩ := look_of (fun t i h => (hA t i h).1) ht hbi hoi
          have hbij : bi ≠ ij := fun e => by subst e; exact hsome hfreej
          have hei := opD_lookeff ht f1 hoi
          subst hei
          have hfr : ej.fresh := by
            cases hclj : clOf q oj.op with
            | nw => obtain ⟨cs, rfl⟩ := opD_nweff hclj hoj; trivial
            | cn => exact opD_cneff hclj hoj
            | pure => rw [hclj] at hm1; cases hm1
            | ld => rw [hclj] at hm1; cases hm1
            | wr => rw [hclj] at hm1; cases hm1
          refine ⟨?_, hoj, rfl⟩
          rw [opD_look (hp' := ej.on ij σ.hp) ht f1 ?_]
          · exact hoi
          · cases ej with
            | no => rfl
            | new b => simp only [Eff.on]; rw [upd_ne hbij]
            | set k b => exact hfr.elim
            | app k b => exact hfr.elim
        · cases hclj : clOf q oj.op with
          | pure =>
            have hej := opD_eff hclj hoj
            subst hej
            simp only [Eff.on] at hoi ⊢
            exact ⟨hoi, by rw [opD_pure (hp' := σ.hp) hclj]; exact hoj, trivial⟩
          | ld =>
            have hej := opD_ldeff hclj hoj hcj
            subst hej
            simp only [Eff.on] at hoi ⊢
            refine ⟨hoi, ?_, trivial⟩
            cases hcli : clOf q oi.op with
            | pure =>
              have hei := opD_eff hcli hoi
              subst hei
              exact hoj
            | ld =>
              have hei := opD_ldeff hcli hoi hci
              subst hei
              exact hoj
            | nw =>
              obtain ⟨cs, rfl⟩ := opD_nweff hcli hoi
              exact opD_ld hclj hoj (Sub.upd hfree)
            | wr => rw [hclj, hcli] at hmem; cases hmem
            | cn =>
              have hfr := opD_cneff hcli hoi
              cases ei with
              | no => exact hoj
              | new b => exact opD_ld hclj hoj (Sub.upd hfree)
              | set k b => exact hfr.elim
              | app k b => exact hfr.elim
          | nw =>
            obtain ⟨cj, rfl⟩ := opD_nweff hclj hoj
            cases hcli : clOf q oi.op with
            | pure =>
              have hei := opD_eff hcli hoi
              subst hei
              exact ⟨by rw [opD_pure (hp' := Eff.on (.new cj) ij σ.hp) hcli]; exact hoi, hoj, rfl⟩
            | ld => rw [hclj, hcli] at hmem; cases hmem
            | nw =>
              obtain ⟨ci, rfl⟩ := opD_nweff hcli hoi
              simp only [Eff.on] at hoi ⊢
              exact ⟨by rw [opD_nw (hp' := upd σ.hp ij (some cj)) hcli]; exact hoi, by rw [opD_nw (hp' := σ.hp) hclj]; exact hoj, upd_comm _ _ _ (Ne.symm hne)⟩
            | wr => rw [hclj, hcli] at hmem; cases hmem
            | cn => rw [hclj, hcli] at hmem; cases hmem
          | cn =>
            have hfr := opD_cneff hclj hoj
            cases hcli : clOf q oi.op with
            | pure =>
              have hei := opD_eff hcli hoi
              subst hei
              exact ⟨by rw [opD_pure (hp' := Eff.on ej ij σ.hp) hcli]; exact hoi, hoj, rfl⟩
            | ld => rw [hclj, hcli] at hmem; cases hmem
            | cn => rw [hclj, hcli] at hmem; cases hmem
            | wr => rw [hclj, hcli] at hmem; cases hmem
            | nw =>
              obtain ⟨ci, rfl⟩ := opD_nweff hcli hoi
              refine ⟨by rw [opD_nw (hp' := Eff.on ej ij σ.hp) hcli]; exact hoi, opD_cn hclj hoj (Sub.upd hfree), ?_⟩
              cases ej with
              | no => rfl
              | new b => simp only [Eff.on]; exact upd_comm _ _ _ (Ne.symm hne)
              | set k b => exact hfr.elim
              | app k b => exact hfr.elim
          | wr =>
            cases hcli : clOf q oi.op with
            | pure =>
              have hei := opD_eff hcli hoi
              subst hei
              exact ⟨by rw [opD_pure (hp' := Eff.on ej ij σ.hp) hcli]; exact hoi, hoj, rfl⟩
            | ld => rw [hclj, hcli] at hmem; cases hmem
            | nw => rw [hclj, hcli] at hmem; cases hmem
            | wr => rw [hclj, hcli] at hmem; cases hmem
            | cn => rw [hclj, hcli] at hmem; cases hmem
        · unfold far at hmem
          split at hmem
          · rename_i s t hs ht
            split at hmem
            · rename_i bi bj hbi hbj
              have hbne : bi ≠ bj := fun e => by subst e; simp at hmem
              obtain ⟨o1, f1⟩ := adr_of (fun t i h => (hA t i h).1) hs hbi hoj
              obtain ⟨o2, f2⟩ := adr_of (fun t i h => (hA t i h).1) ht hbj hoi
              rcases opD_ateff hs f1 hoj with rfl | ⟨b1, rfl⟩
              · rcases opD_ateff ht f2 hoi with rfl | ⟨b2, rfl⟩
                · exact ⟨hoi, hoj, rfl⟩
                · exact ⟨hoi, by rw [opD_at (hp' := σ.hp) hs f1 (by simp only [Eff.on]; rw [upd_ne hbne])]; exact hoj, rfl⟩
              · have hoi' : opD X σ.fr σ.hp ii oi.op oi.type = some (vi, ei) := by
                  rw [opD_at (hp' := Eff.on (.set bi b1) ij σ.hp) ht f2 (by simp only [Eff.on]; rw [upd_ne (Ne.symm hbne)])]; exact hoi
                rcases opD_ateff ht f2 hoi with rfl | ⟨b2, rfl⟩
                · exact ⟨hoi', hoj, rfl⟩
                · exact ⟨hoi', by rw [opD_at (hp' := σ.hp) hs f1 (by simp only [Eff.on]; rw [upd_ne hbne])]; exact hoj, by simp only [Eff.on]; exact upd_comm _ _ _ (Ne.symm hbne)⟩
            · cases hmem
          · cases hmem
      obtain ⟨k1, k2, k3⟩ := key
      refine ⟨_, stepQ_exec hdi hwi k1 hci, ?_⟩
      rw [stepQ_exec (σ := ⟨putF σ.fr oi.dst vi, ei.on ii σ.hp, σ.nx⟩) hdj (hwj' vi) (by rw [hoj']; exact k2) hcj]
      simp only [k3]
      rw [putF_comm (fun d hd e => a2 d e hd)]
    · simp only at hwi
      rw [wantD_put a1] at hwi
      refine ⟨_, stepQ_skip hdi hwi, ?_⟩
      rw [stepQ_exec (σ := ⟨putF σ.fr oi.dst undefF, σ.hp, σ.nx⟩) hdj (by rw [wantD_put a3]; exact hwj) (by rw [opD_put a3]; exact hoj) hcj]
      simp only
      rw [putF_comm (fun d hd e => a2 d e hd)]
  · rcases hi with ⟨hwi, vi, ei, hoi, hci, rfl⟩ | ⟨hwi, rfl⟩
    · simp only at hwi hoi
      rw [wantD_put a1] at hwi
      rw [opD_put a1] at hoi
      refine ⟨_, stepQ_exec hdi hwi hoi hci, ?_⟩
      rw [stepQ_skip (σ := ⟨putF σ.fr oi.dst vi, ei.on ii σ.hp, σ.nx⟩) hdj (by rw [wantD_put a3]; exact hwj)]
      simp only
      rw [putF_comm (fun d hd e => a2 d e hd)]
    · simp only at hwi
      rw [wantD_put a1] at hwi
      refine ⟨_, stepQ_skip hdi hwi, ?_⟩
      rw [stepQ_skip (σ := ⟨putF σ.fr oi.dst undefF, σ.hp, σ.nx⟩) hdj (by rw [wantD_put a3]; exact hwj)]
      simp only
      rw [putF_comm (fun d hd e => a2 d e hd)]
end

/-! ### Whatever order -/

def runD (X : Env) (N : Nat) (ops : Array Oper) (q : Bool) (nx : Nat) : List Nat → St → Option St
  | [], σ => some σ
  | i :: l, σ => match ops[i]? with
    | some o => match stepQ X N ops q σ (nx + i) o with
      | some σ' => runD X N ops q nx l σ'
      | none => none
    | none => none

theorem runD_cons {X : Env} {N : Nat} {ops : Array Oper} {q : Bool} {nx i : Nat} {l : List Nat} {σ σn : St} (h : runD X N ops q nx (i :: l) σ = some σn) :
    ∃ o σ', ops[i]? = some o ∧ stepQ X N ops q σ (nx + i) o = some σ' ∧ runD X N ops q nx l σ' = some σn := by
  simp only [runD] at h
  cases ho : ops[i]? with
  | none => simp [ho] at h
  | some o =>
    simp only [ho] at h
    cases hs : stepQ X N ops q σ (nx + i) o with
    | none => simp [hs] at h
    | some σ' => simp only [hs] at h; exact ⟨o, σ', rfl, hs, h⟩

theorem runD_mk {X : Env} {N : Nat} {ops : Array Oper} {q : Bool} {nx i : Nat} {l : List Nat} {σ σ' σn : St} {o : Oper} (ho : ops[i]? = some o) (hs : stepQ X N ops q σ (nx + i) o = some σ')
    (h : runD X N ops q nx l σ' = some σn) : runD X N ops q nx (i :: l) σ = some σn := by
  simp only [runD, ho, hs]; exact h

/-- An operation that nothing ahead of it waits for may be taken first. -/
theorem runD_front {X : Env} {N : Nat} {ops : Array Oper} {q : Bool} {A : Adr} (hK : Kept A ops) {nx i : Nat} {σn : St} {oi : Oper} (hoi : ops[i]? = some oi) : ∀ (p l : List Nat) (σ : St),
    Holds A σ.fr σ.hp → p.Pairwise (· < ·) → (∀ k ∈ p, σ.hp (nx + k) = none) → (∀ j ∈ p, j ≠ i ∧ ∀ oj, ops[j]? = some oj → indep q A ops oj oi = true) → (σ.hp (nx + i) = none) → runD X N ops q nx (p ++ i :: l) σ = some σn → runD X N ops q nx (i :: (p ++ l)) σ = some σn
  | [], l, σ, _, _, _, _, _, h => h
  | j :: p, l, σ, hA, hsort, hfrs, hp, hfree, h => by
    obtain ⟨oj, σ1, hoj, hs, hr⟩ := runD_cons h
    obtain ⟨hji, hin⟩ := hp j List.mem_cons_self
    have hfree1 : σ1.hp (nx + i) = none := stepD_free (stepQ_D hs) (by omega) hfree
    have hsort' := List.pairwise_cons.1 hsort
    have h1 := runD_front hK hoi p l σ1 (hA.step hK (Array.mem_of_getElem? hoj) hs) hsort'.2 (fun k hk => stepD_free (stepQ_D hs) (by have := hsort'.1 k hk; omega) (hfrs k (List.mem_cons_of_mem _ hk))) (fun k hk => hp k (List.mem_cons_of_mem _ hk)) hfree1 hr
    obtain ⟨oi', σ2, hoi', hs2, hr2⟩ := runD_cons h1
    rw [hoi] at hoi'
    cases hoi'
    obtain ⟨σ', e1, e2⟩ := swap hA (hin oj hoj) (by omega) hfree (hfrs j List.mem_cons_self) hs hs2
    exact runD_mk hoi e1 (runD_mk hoj e2 hr2)

theorem evOps_runD {R : Type} {X : Env} {N : Nat} {ops : Array Oper} {q : Bool} {nx : Nat} {K : St → Option R} {r : R} : ∀ (l : List Oper) (k : Nat) (σ : St), (∀ j, l[j]? = ops[k + j]?) →
    evOpsQ X N ops q (nx + k) l σ K = some r → ∃ σn, runD X N ops q nx (List.range' k l.length) σ = some σn ∧ K σn = some r
  | [], k, σ, _, h => ⟨σ, rfl, h⟩
  | o :: l, k, σ, hl, h => by
    simp only [evOpsQ, stepQK_eq] at h
    cases hs : stepQ X N ops q σ (nx + k) o with
    | none => simp [hs] at h
    | some σ' =>
      simp only [hs] at h
      have h0 : ops[k]? = some o := by simpa using (hl 0).symm
      obtain ⟨σn, h1, h2⟩ := evOps_runD l (k + 1) σ' (fun j => by have := hl (j + 1); simpa [Nat.add_assoc, Nat.add_comm 1 j] using this) (by rw [← Nat.add_assoc]; exact h)
      exact ⟨σn, by simp only [List.length_cons, List.range'_succ]; exact runD_mk h0 hs h1, h2⟩

theorem reach_listed {ops : Array Oper} {listed : Array Bool} (hcl : ∀ k o, ops[k]? = some o → listed.getD k false = true → ∀ e ∈ o.after, Region.binds .any e = true → listed.getD e.on false = true) :
    ∀ (n i j : Nat) (oi : Oper), ops[i]? = some oi → (∀ e ∈ oi.after, Region.binds .any e = true → listed.getD e.on false = true) → reach ops n i j = true → listed.getD j false = true
  | 0, i, j, oi, hi, hall, h => by simp [reach] at h
  | n + 1, i, j, oi, hi, hall, h => by
    simp only [reach, hi] at h
    rw [Array.any_eq_true] at h
    obtain ⟨k, hk, hb⟩ := h
    simp only [Bool.and_eq_true, Bool.or_eq_true] at hb
    obtain ⟨hbind, hb⟩ := hb
    have hmem := Array.getElem_mem hk
    have hl := hall _ hmem hbind
    rcases hb with hb | hb
    · rw [← Nat.eq_of_beq_eq_true hb]; exact hl
    · cases ho : ops[(oi.after[k]).on]? with
      | none => cases n <;> simp [reach, ho] at hb
      | some o' => exact reach_listed hcl n _ j o' ho (hcl _ o' ho hl) hb

theorem drawOk_edge {q : Bool} {A : Adr} {ops : Array Oper} (h : drawOk q A ops = true) {i : Nat} {oi : Oper} (hi : ops[i]? = some oi) :
    (∀ e ∈ oi.after, Region.binds .any e = true → e.on < i) ∧ ∀ j oj, j < i → ops[j]? = some oj → (∀ e ∈ oi.after, Region.binds .any e = true → e.on ≠ j) → indep q A ops oj oi = true ∨ reach ops 6 i j = true := by
  unfold drawOk at h
  rw [List.all_eq_true] at h
  have hlt : i < ops.size := (Array.getElem?_eq_some_iff.1 hi).1
  have := h i (by simpa using hlt)
  rw [hi] at this
  simp only [Bool.and_eq_true, List.all_eq_true, Array.all_eq_true_iff_forall_mem] at this
  obtain ⟨h1, h2⟩ := this
  refine ⟨fun e he hb => ?_, fun j oj hj hoj hno => ?_⟩
  · have := h1 e he
    rw [hb] at this
    simpa [Nat.blt_eq] using this
  · have := h2 j (by simpa using hj)
    rw [hoj] at this
    simp only [Bool.or_eq_true] at this
    rcases this with hedge | hin
    · unfold edge at hedge
      rw [Array.any_eq_true] at hedge
      obtain ⟨k, hk, hb⟩ := hedge
      simp only [Bool.and_eq_true] at hb
      exact absurd (Nat.eq_of_beq_eq_true hb.2) (hno _ (Array.getElem_mem hk) hb.1)
    · exact hin

theorem any_sound {X : Env} {F : FM} {I : World → Prop} {w0 : World} {N : Nat} {ops : Array Oper} {q : Bool} {A : Adr} {nx : Nat} (HX : EnvOk X F I) (hI : I w0) (hok : drawOk q A ops = true) (hKA : Kept A ops) {σn : St} {Q : Exit → Act → World → Prop}
    (hQ : ∀ ρ a w, ρ.f = F → WR w0 ρ σn.hp w → FR ρ σn.hp σn.fr N a → Q .normal a w) :
    ∀ (n : Nat) (l : List Nat) (listed : Array Bool) (σ : St) (ρ : Nm) (a : Act) (w : World), ρ.f = F → Holds A σ.fr σ.hp → l.length = n → l.Pairwise (· < ·) → (∀ i, i ∈ l ↔ i < ops.size ∧ listed.getD i true = false) → listed.size = ops.size → (∀ k o, ops[k]? = some o → listed.getD k false = true → ∀ e ∈ o.after, Region.binds .any e = true → listed.getD e.on false = true) →
      WR w0 ρ σ.hp w → FR ρ σ.hp σ.fr N a → (∀ i ∈ l, σ.hp (nx + i) = none) → runD X N ops q nx l σ = some σn → wpAny X.P .any ops Q n listed a w
  | 0, l, listed, σ, ρ, a, w, hf, hA, hl, hsort, hmem, hsz, hcl, hW, hF, hfree, hrun => by
    have : l = [] := List.eq_nil_of_length_eq_zero hl
    subst this
    simp only [runD] at hrun
    cases hrun
    refine ⟨?_, hQ ρ a w hf hW hF⟩
    rw [List.eq_nil_iff_forall_not_mem]
    intro i hi
    obtain ⟨h1, oi, hoi, _⟩ := mem_ready.1 hi
    have := (hmem i).2 ⟨(Array.getElem?_eq_some_iff.1 hoi).1, h1⟩
    cases this
  | n + 1, l, listed, σ, ρ, a, w, hf, hA, hl, hsort, hmem, hsz, hcl, hW, hF, hfree, hrun => by
    refine ⟨fun hnil => ?_, fun i hi => ?_⟩
    · exfalso
      match l, hl with
      | k :: l', _ =>
        obtain ⟨hk1, hk2⟩ := (hmem k).1 List.mem_cons_self
        have hok' : ops[k]? = some ops[k] := Array.getElem?_eq_getElem hk1
        obtain ⟨he, _⟩ := drawOk_edge hok hok'
        have : k ∈ Region.ready .any ops listed := by
          refine mem_ready.2 ⟨hk2, ops[k], hok', fun e hee hb => ?_⟩
          have hlt := he e hee hb
          cases hle : listed.getD e.on false with
          | true => rfl
          | false =>
            exfalso
            have hes : e.on < listed.size := by omega
            have : e.on ∈ k :: l' := (hmem e.on).2 ⟨by omega, by simp [hes] at hle ⊢; exact hle⟩
            rcases List.mem_cons.1 this with h | h
            · omega
            · have := (List.pairwise_cons.1 hsort).1 _ h
              omega
        rw [hnil] at this
        cases this
    · obtain ⟨h1, oi, hoi, hall⟩ := mem_ready.1 hi
      have hilt : i < ops.size := (Array.getElem?_eq_some_iff.1 hoi).1
      have hil : i ∈ l := (hmem i).2 ⟨hilt, h1⟩
      obtain ⟨p, p2, rfl⟩ := List.append_of_mem hil
      have hsort' := List.pairwise_append.1 hsort
      have hpi : ∀ j ∈ p, j < i := fun j hj => hsort'.2.2 j hj i List.mem_cons_self
      have hiq : ∀ j ∈ p2, i < j := fun j hj => (List.pairwise_cons.1 hsort'.2.1).1 j hj
      have hrun' := runD_front hKA hoi p p2 σ hA hsort'.1 (fun k hk => hfree k (by simp [hk])) (fun j hj => ⟨by have := hpi j hj; omega, fun oj hoj => by
        obtain ⟨h3, h4⟩ := (hmem j).1 (by simp [hj])
        have hjs : j < listed.size := by omega
        rcases (drawOk_edge hok hoi).2 j oj (hpi j hj) hoj (fun e he hb heq => by
          have h2 := hall e he hb
          rw [heq] at h2
          simp [hjs] at h2 h4
          rw [h4] at h2
          cases h2) with h5 | h5
        · exact h5
        · have h2 := reach_listed hcl 6 i j oi hoi hall h5
          simp [hjs] at h2 h4
          rw [h4] at h2
          cases h2⟩) (hfree i (by simp)) hrun
      obtain ⟨o', σ', ho', hs, hr⟩ := runD_cons hrun'
      rw [hoi] at ho'
      cases ho'
      have := step_sound (by rw [hf]; exact HX) hI hW hF (hfree i (by simp)) (stepQ_D hs) (K := wpAny X.P .any ops Q n (listed.setIfInBounds i true)) (Q := Q) fun ρ' a' w' hf' hW' hF' => by
        refine any_sound HX hI hok hKA hQ n (p ++ p2) _ σ' ρ' a' w' (hf'.trans hf) (hA.step hKA (Array.mem_of_getElem? hoi) hs) (by simp at hl ⊢; omega) ?_ (fun j => ?_) (by simp [hsz]) (fun k o hk hlk e he hb => ?_) hW' hF' (fun j hj => ?_) hr
        · refine List.pairwise_append.2 ⟨hsort'.1, (List.pairwise_cons.1 hsort'.2.1).2, fun x hx y hy => hsort'.2.2 x hx y (List.mem_cons_of_mem _ hy)⟩
        · constructor
          · intro hj
            have hne : j ≠ i := by
              rcases List.mem_append.1 hj with h | h
              · have := hpi j h; omega
              · have := hiq j h; omega
            obtain ⟨h3, h4⟩ := (hmem j).1 (by rcases List.mem_append.1 hj with h | h <;> simp [h])
            exact ⟨h3, by rw [getD_set_ne true (Ne.symm hne)]; exact h4⟩
          · rintro ⟨h3, h4⟩
            by_cases hji : j = i
            · subst hji
              have hjs : j < listed.size := by omega
              simp [hjs] at h4
            · rw [getD_set_ne true (Ne.symm hji)] at h4
              have := (hmem j).2 ⟨h3, h4⟩
              simp at this ⊢
              rcases this with h | h | h
              · exact .inl h
              · exact absurd h hji
              · exact .inr h
        · by_cases hki : k = i
          · subst hki
            rw [hoi] at hk
            cases hk
            exact getD_set_true (hall e he hb)
          · rw [getD_set_ne false (Ne.symm hki)] at hlk
            exact getD_set_true (hcl k o hk hlk e he hb)
        · refine stepD_free (stepQ_D hs) ?_ (hfree j (by rcases List.mem_append.1 hj with h | h <;> simp [h]))
          rcases List.mem_append.1 hj with h | h
          · have := hpi j h; omega
          · have := hiq j h; omega
      unfold wpOp
      rw [hoi]
      simp only
      split
      · rename_i hw; rw [if_pos hw] at this; exact .inl this
      · rename_i hw; rw [if_neg hw] at this; exact this

end Go.Proofs.Ytmmlpaehehgfnaa.Sx
