/-
  What this text proves: what the evaluator of 'Sx' says of a function's body is what a call of it does ('sound_of_ev').
  Conditions: the tables of types ('TEok') and the contracts of the functions that are called ('EnvOk') are handed to it.
-/
import Derived.Test.YtmmlpaehehgfnaaSxV
namespace Go.Proofs.Ytmmlpaehehgfnaa.Sx
open Go.RowKit
set_option linter.unusedSimpArgs false
set_option linter.unusedVariables false

/-! ### A state's data, read back -/

def dpS (hp : Nat → Option Bk) (nk : Option (KN × Nat)) (hs : List Nat) : Sc → Option (Sd × List (Option Nat))
  | .v (.slice none 0 0) => match nk with
    | some (k, el) => some (.sl ⟨k, []⟩ (.mine (some el)), [none])
    | none => some (.v (.slice none 0 0), [])
  | .v x => some (.v x, [])
  | .p i off => match hp i with
    | some (.own _) => bif memN hs i then some (.p i off, []) else none
    | _ => none
  | .sl i => match hp i with
    | some (.sl d .ro) => some (.sl d .ro, [none])
    | some (.sl d (.mine m)) => some (.sl d (.mine m), [some i])
    | _ => none
  | .opq => some (.opq, [])
  | _ => none

section
variable (hp : Nat → Option Bk) (nk : Option (KN × Nat)) (hs : List Nat)

def dpL : List Sc → Option (List Sd × List (Option Nat))
  | [] => some ([], [])
  | x :: l => match dpS hp nk hs x, dpL l with
    | some (y, s), some (ys, t) => some (y :: ys, s ++ t)
    | _, _ => none

def dpA : AV → Option (AD × List (Option Nat))
  | .s x => match dpS hp nk hs x with
    | some (y, s) => some (.s y, s)
    | none => none
  | .agg l => match dpL hp nk hs l with
    | some (ys, s) => some (.agg ys, s)
    | none => none

def dpAs : List AV → Option (List AD × List (Option Nat))
  | [] => some ([], [])
  | x :: l => match dpA hp nk hs x, dpAs l with
    | some (y, s), some (ys, t) => some (y :: ys, s ++ t)
    | _, _ => none

def dpR : FV → Option (RD × List (Option Nat))
  | .a x => match dpA hp nk hs x with
    | some (y, s) => some (.a y, s)
    | none => none
  | .tup l => match dpAs hp nk hs l with
    | some (ys, s) => some (.tup ys, s)
    | none => none
  | .bad => none

def dpRs : List FV → Option (List RD × List (Option Nat))
  | [] => some ([], [])
  | x :: l => match dpR hp nk hs x, dpRs l with
    | some (y, s), some (ys, t) => some (y :: ys, s ++ t)
    | _, _ => none

def dpB (i : Nat) : Option (List Sd × List (Option Nat)) := match hp i with
  | some (.own cs) => dpL hp nk hs cs
  | _ => none

def dpBs : List Nat → Option (List (List Sd) × List (Option Nat))
  | [] => some ([], [])
  | i :: l => match dpB hp nk hs i, dpBs l with
    | some (y, s), some (ys, t) => some (y :: ys, s ++ t)
    | _, _ => none
end

def nodupO : List (Option Nat) → Bool
  | [] => true
  | none :: l => nodupO l
  | some i :: l => (l.all fun o => match o with | some j => !Nat.beq i j | none => true) && nodupO l

theorem nodup_apart : ∀ {ns : List Src}, nodupO (ns.map (·.1)) = true → Apart ns
  | [], _, r, s, i, p, q, h, _, _, _ => by simp at h
  | a :: l, hn, r, s, i, p, q, h1, h2, h3, h4 => by
    simp only [List.map_cons] at hn
    have htail : nodupO (l.map (·.1)) = true ∧ (∀ j, a.1 = some j → ∀ b ∈ l, b.1 ≠ some j) := by
      cases ha : a.1 with
      | none => rw [ha] at hn; exact ⟨hn, fun j h => by cases h⟩
      | some j =>
        rw [ha] at hn
        simp only [nodupO, Bool.and_eq_true, List.all_eq_true] at hn
        refine ⟨hn.2, fun j' h b hb e => ?_⟩
        cases h
        have := hn.1 b.1 (List.mem_map_of_mem (f := fun x : Src => x.1) hb)
        rw [e] at this
        simp at this
    cases r with
    | zero =>
      cases s with
      | zero => rfl
      | succ s =>
        simp only [List.getElem?_cons_zero, Option.some.injEq, List.getElem?_cons_succ] at h1 h2
        subst h1
        exact absurd h4 (htail.2 i h3 q (List.mem_of_getElem? h2))
    | succ r =>
      cases s with
      | zero =>
        simp only [List.getElem?_cons_zero, Option.some.injEq, List.getElem?_cons_succ] at h1 h2
        subst h2
        exact absurd h3 (htail.2 i h4 p (List.mem_of_getElem? h1))
      | succ s =>
        simp only [List.getElem?_cons_succ] at h1 h2
        rw [nodup_apart htail.1 r s i p q h1 h2 h3 h4]

section
variable {w0 w : World} {ρ : Nm} {hp : Nat → Option Bk} {nk : Option (KN × Nat)} {hs : List Nat}

/-- Whence one's own rows come. -/
def From (ρ : Nm) (hp : Nat → Option Bk) (ns : List Src) (src : List (Option Nat)) : Prop :=
  ns.map (·.1) = src ∧ ∀ (p : Src) (i : Nat), p ∈ ns → p.1 = some i → ∀ g, p.2.2.ownBlock = some g → blkOf ρ hp i = some g ∧ ∀ cs, hp i ≠ some (.own cs)

theorem From.append {n1 n2 : List Src} {s1 s2 : List (Option Nat)} (h1 : From ρ hp n1 s1) (h2 : From ρ hp n2 s2) : From ρ hp (n1 ++ n2) (s1 ++ s2) :=
  ⟨by rw [List.map_append, h1.1, h2.1], fun p i hp => (List.mem_append.1 hp).elim (h1.2 p i) (h2.2 p i)⟩

theorem From.nil : From ρ hp [] [] := ⟨rfl, by simp⟩

theorem memN_of : ∀ {l : List Nat} {t : Nat}, memN l t = true → t ∈ l := memN_mem

theorem dpS_ok (hW : WR w0 ρ hp w) {x : Sc} {y : Sd} {s : List (Option Nat)} (hx : x.ok hp) (h : dpS hp nk hs x = some (y, s)) : ∃ ns, Fit w0 w ρ hs y (x.con ρ) ns ∧ From ρ hp ns s := by
  unfold dpS at h
  split at h
  · split at h
    · rename_i k el
      cases h
      exact ⟨[(none, 0, .slice none 0 0)], ⟨none, rfl, ⟨rfl, el, by simp, World.ownsRow_nil _ _ _ _⟩, by simp, fun _ _ => rfl⟩, rfl, fun p i hp h => by rw [List.mem_singleton.1 hp] at h; cases h⟩
    · cases h
      exact ⟨[], ⟨rfl, rfl, rfl⟩, From.nil⟩
  · cases h
    exact ⟨[], ⟨rfl, hx, rfl⟩, From.nil⟩
  · rename_i i off
    split at h
    · rename_i cs hi
      cases hm : memN hs i with
      | false => simp [hm] at h
      | true =>
        simp only [hm, cond_true] at h
        cases h
        exact ⟨[], ⟨rfl, memN_of hm, rfl⟩, From.nil⟩
    · cases h
  · rename_i i
    split at h
    · rename_i d hi
      cases h
      have hf := hW.fact i _ hi
      exact ⟨[(none, 0, ρ.s i)], ⟨none, rfl, hf, by simp, fun _ h => by obtain ⟨e, he⟩ := h; cases he⟩, rfl, fun p i hp h => by rw [List.mem_singleton.1 hp] at h; cases h⟩
    · rename_i d m hi
      cases h
      have hf := hW.fact i _ hi
      refine ⟨[(some i, 0, ρ.s i)], ⟨some i, rfl, hf, fun j h => by cases h; rfl, fun h => by cases h⟩, rfl, fun p j hp hj g hg => ?_⟩
      simp only [List.mem_singleton] at hp
      subst hp
      cases hj
      exact ⟨by simp only [blkOf, hi]; exact hg, fun cs h => by rw [hi] at h; cases h⟩
    · cases h
  · cases h
    exact ⟨[], ⟨rfl, rfl⟩, From.nil⟩
  · cases h

theorem dpL_ok (hW : WR w0 ρ hp w) : ∀ {l : List Sc} {y : List Sd} {s : List (Option Nat)}, (∀ x ∈ l, x.ok hp) → dpL hp nk hs l = some (y, s) → ∃ ns, FitL w0 w ρ hs y (l.map (Sc.con ρ)) ns ∧ From ρ hp ns s
  | [], y, s, _, h => by cases h; exact ⟨[], rfl, From.nil⟩
  | x :: l, y, s, hx, h => by
    simp only [dpL] at h
    split at h
    · rename_i y1 s1 ys t h1 h2
      cases h
      obtain ⟨n1, f1, g1⟩ := dpS_ok hW (hx x List.mem_cons_self) h1
      obtain ⟨n2, f2, g2⟩ := dpL_ok hW (fun z hz => hx z (List.mem_cons_of_mem _ hz)) h2
      exact ⟨n1 ++ n2, ⟨n1, n2, rfl, f1, f2⟩, g1.append g2⟩
    · cases h

theorem dpA_ok (hW : WR w0 ρ hp w) {x : AV} {y : AD} {s : List (Option Nat)} (hx : ∀ z ∈ x.cells, z.ok hp) (h : dpA hp nk hs x = some (y, s)) : ∃ ns, FitA w0 w ρ hs y (x.con ρ) ns ∧ From ρ hp ns s := by
  unfold dpA at h
  split at h
  · split at h
    · rename_i h1
      cases h
      exact dpS_ok hW (hx _ (by simp [AV.cells])) h1
    · cases h
  · split at h
    · rename_i l _ _ h1
      cases h
      obtain ⟨ns, f, g⟩ := dpL_ok hW hx h1
      exact ⟨ns, ⟨_, rfl, f⟩, g⟩
    · cases h

theorem dpAs_ok (hW : WR w0 ρ hp w) : ∀ {l : List AV} {y : List AD} {s : List (Option Nat)}, (∀ x ∈ l, ∀ z ∈ x.cells, z.ok hp) → dpAs hp nk hs l = some (y, s) → ∃ ns, FitAs w0 w ρ hs y (l.map (AV.con ρ)) ns ∧ From ρ hp ns s
  | [], y, s, _, h => by cases h; exact ⟨[], rfl, From.nil⟩
  | x :: l, y, s, hx, h => by
    simp only [dpAs] at h
    split at h
    · rename_i y1 s1 ys t h1 h2
      cases h
      obtain ⟨n1, f1, g1⟩ := dpA_ok hW (hx x List.mem_cons_self) h1
      obtain ⟨n2, f2, g2⟩ := dpAs_ok hW (fun z hz => hx z (List.mem_cons_of_mem _ hz)) h2
      exact ⟨n1 ++ n2, ⟨n1, n2, rfl, f1, f2⟩, g1.append g2⟩
    · cases h

theorem dpR_ok (hW : WR w0 ρ hp w) {x : FV} {y : RD} {s : List (Option Nat)} (hx : x.ok hp) (h : dpR hp nk hs x = some (y, s)) : (∃ ns, FitR w0 w ρ hs y (x.con ρ) ns ∧ From ρ hp ns s) ∧ x ≠ .bad := by
  unfold dpR at h
  split at h
  · split at h
    · rename_i h1
      cases h
      exact ⟨dpA_ok hW hx h1, by simp⟩
    · cases h
  · split at h
    · rename_i l _ _ h1
      cases h
      obtain ⟨ns, f, g⟩ := dpAs_ok hW (fun z hz u hu => hx u (by simp only [FV.scs, List.mem_flatMap]; exact ⟨z, hz, hu⟩)) h1
      exact ⟨⟨ns, ⟨_, rfl, f⟩, g⟩, by simp⟩
    · cases h
  · cases h

theorem dpRs_ok (hW : WR w0 ρ hp w) : ∀ {l : List FV} {y : List RD} {s : List (Option Nat)}, (∀ x ∈ l, x.ok hp) → dpRs hp nk hs l = some (y, s) → (∃ ns, FitRs w0 w ρ hs y (l.map (FV.con ρ)) ns ∧ From ρ hp ns s) ∧ ∀ x ∈ l, x ≠ .bad
  | [], y, s, _, h => by cases h; exact ⟨⟨[], rfl, From.nil⟩, by simp⟩
  | x :: l, y, s, hx, h => by
    simp only [dpRs] at h
    split at h
    · rename_i y1 s1 ys t h1 h2
      cases h
      obtain ⟨⟨n1, f1, g1⟩, b1⟩ := dpR_ok hW (hx x List.mem_cons_self) h1
      obtain ⟨⟨n2, f2, g2⟩, b2⟩ := dpRs_ok hW (fun z hz => hx z (List.mem_cons_of_mem _ hz)) h2
      refine ⟨⟨n1 ++ n2, ⟨n1, n2, rfl, f1, f2⟩, g1.append g2⟩, fun z hz => ?_⟩
      rcases List.mem_cons.1 hz with rfl | hz
      · exact b1
      · exact b2 z hz
    · cases h

theorem dpBs_ok (hW : WR w0 ρ hp w) : ∀ {l : List Nat} {y : List (List Sd)} {s : List (Option Nat)}, dpBs hp nk hs l = some (y, s) →
    ∃ cvs ns, FitBs w0 w ρ hs y cvs ns ∧ From ρ hp ns s ∧ l.length = y.length ∧ ∀ (r i : Nat) (cv : List Value), l[r]? = some i → cvs[r]? = some cv → ∃ cs, hp i = some (.own cs) ∧ cs.map (Sc.con ρ) = cv
  | [], y, s, h => by cases h; exact ⟨[], [], rfl, From.nil, rfl, by simp⟩
  | i :: l, y, s, h => by
    simp only [dpBs] at h
    split at h
    · rename_i y1 s1 ys t h1 h2
      cases h
      unfold dpB at h1
      split at h1
      · rename_i cs hi
        obtain ⟨n1, f1, g1⟩ := dpL_ok hW (hW.ok i _ hi) h1
        obtain ⟨cvs, n2, f2, g2, hl, hc⟩ := dpBs_ok hW h2
        refine ⟨cs.map (Sc.con ρ) :: cvs, n1 ++ n2, ⟨n1, n2, rfl, f1, f2⟩, g1.append g2, by simp [hl], fun r j cv hr hcv => ?_⟩
        cases r with
        | zero =>
          simp only [List.getElem?_cons_zero, Option.some.injEq] at hr hcv
          subst hr
          exact ⟨cs, hi, hcv⟩
        | succ r => exact hc r j cv (by simpa using hr) (by simpa using hcv)
      · cases h1
    · cases h
end

/-- What a loop keeps from round to round: some slots, some blocks of its own; 'nk': what slices are made of that are not there yet. -/
structure View (α : Type) where
  ks : List Nat
  hs : List Nat
  n : Nat
  nk : Option (KN × Nat)
  fv : α → List RD
  hv : α → List (List Sd)

def View.st {α : Type} (V : View α) (a : α) : St := mkSt V.ks (V.fv a) V.hs (V.hv a) V.n

def View.rd {α : Type} (V : View α) (σ : St) : Option (List RD × List (List Sd)) :=
  match dpRs σ.hp V.nk V.hs (V.ks.map σ.fr), dpBs σ.hp V.nk V.hs V.hs with
  | some (rs, s), some (bs, t) => bif nodupO (s ++ t) then some (rs, bs) else none
  | _, _ => none

def View.ok {α : Type} (V : View α) : Bool := V.hs.all fun i => Nat.blt i V.n

theorem Rel.view {w0 w : World} {F : FM} {N : Nat} {ρ : Nm} {σ : St} {a : Act} (h : Rel w0 F N ρ σ a w) (hpF : F.p = none) {α : Type} (V : View α) (hV : V.ok = true) (y : α) (hr : V.rd σ = some (V.fv y, V.hv y)) : ∃ ρ', Rel w0 F N ρ' (V.st y) a w := by
  unfold View.rd at hr
  split at hr
  · rename_i rs s bs t h1 h2
    cases hn : nodupO (s ++ t) with
    | false => simp [hn] at hr
    | true =>
      simp only [hn, cond_true, Option.some.injEq, Prod.mk.injEq] at hr
      obtain ⟨rfl, rfl⟩ := hr
      obtain ⟨⟨n1, f1, g1⟩, hb⟩ := dpRs_ok h.wr (fun x hx => by obtain ⟨t', _, rfl⟩ := List.mem_map.1 hx; exact h.fr.ok t') h1
      obtain ⟨cvs, n2, f2, g2, hl, hc⟩ := dpBs_ok h.wr h2
      have hg := g1.append g2
      refine mk_rel h.wr h.f h.fr.size (by rw [← h.f]; exact h.fr.nodef) f1 f2 (nodup_apart (by rw [hg.1]; exact hn)) hg.2 (fun r t' v hr hv => ?_) hc hl (fun i hi => ?_) (.inl hpF)
      · rw [List.map_map, List.getElem?_map, hr] at hv
        simp only [Option.map_some, Option.some.injEq] at hv
        subst hv
        exact h.fr.val t' (hb _ (List.mem_map_of_mem (List.mem_of_getElem? hr)))
      · unfold View.ok at hV
        rw [List.all_eq_true] at hV
        exact Nat.le_of_ble_eq_true (hV i hi)
  · cases hr

inductive Ex where
  | normal
  | exit (id : Nat)
  | goto (l : Nat)
  | ret

def Ex.ex : Ex → Exit
  | .normal => .normal
  | .exit id => .exit id
  | .goto l => .goto l
  | .ret => .ret

abbrev Kont (R : Type) := Ex → St → Option R

def rounds {R : Type} (body : St → Kont R → Option R) : Nat → St → Kont R → Option R
  | 0, _, _ => none
  | n + 1, σ, K => body σ fun x σ' => match x with
    | .normal => rounds body n σ' K
    | .exit i => K (.exit i) σ'
    | .goto l => K (.goto l) σ'
    | .ret => K .ret σ'

def jumps {R : Type} (J : Code → St → Kont R → Option R) (c : Code) : Nat → Code → St → Kont R → Option R
  | 0, _, _, _ => none
  | m + 1, code, σ, K => J code σ fun x σ' => match x with
    | .goto l => match findLabel c l with
      | some rest => jumps J c m rest σ' K
      | none => K (.goto l) σ'
    | .normal => K .normal σ'
    | .exit i => K (.exit i) σ'
    | .ret => K .ret σ'

def known (σ : St) (c : Operand) (b : Bool) : St :=
  match c with
  | .tmp t => ⟨upd σ.fr t (boolF b), σ.hp, σ.nx⟩
  | _ => σ

def regK {R : Type} (X : Env) (N : Nat) (ops : Array Oper) (σ : St) (K : Kont R) : Option R :=
  evOps X N ops σ.nx ops.toList σ fun σ' => K .normal ⟨σ'.fr, σ'.hp, σ.nx + ops.size⟩

def regQ {R : Type} (X : Env) (N : Nat) (ops : Array Oper) (q : Bool) (σ : St) (K : Kont R) : Option R :=
  evOpsQ X N ops q σ.nx ops.toList σ fun σ' => K .normal ⟨σ'.fr, σ'.hp, σ.nx + ops.size⟩

/-- Trees of tests. -/
inductive Tr (α : Type) where
  | l (x : α)
  | f
  | n (b : Bool) (t e : Tr α)

/-- What it comes to; '.f': it is not said. -/
def Tr.fold {α R : Type} (f : α → Option R) : Tr α → Option R
  | .l x => f x
  | .f => none
  | .n b t e => cond b (t.fold f) (e.fold f)

def Tr.run {α : Type} : Tr α → Option α
  | .l x => some x
  | .f => none
  | .n b t e => cond b t.run e.run

theorem Tr.fold_run {α R : Type} (f : α → Option R) : ∀ t : Tr α, t.fold f = t.run.bind f
  | .l x => rfl
  | .f => rfl
  | .n b t e => by
    simp only [Tr.fold, Tr.run, Tr.fold_run f t, Tr.fold_run f e]
    cases b <;> rfl

/-- What is known of a loop's block: from a state, how it is left, and the state then. -/
abbrev Hints := Nat → Option (St → Tr (Ex × St))

def evC {R : Type} (X : Env) (LH : Hints) (N n : Nat) (J : Code → St → Kont R → Option R) : Code → St → Kont R → Option R
  | .skip, σ, K => K .normal σ
  | .region _ ops draw, σ, K => match draw with
    | false => regK X N ops σ K
    | true => bif drawOk false (adrs σ.fr ops) ops then regQ X N ops false σ K else bif drawOk true (adrs σ.fr ops) ops then regQ X N ops true σ K else none
  | .seq a b, σ, K => evC X LH N n J a σ fun x σ' => match x with
    | .normal => evC X LH N n J b σ' K
    | .exit i => K (.exit i) σ'
    | .goto l => K (.goto l) σ'
    | .ret => K .ret σ'
  | .cond c a b, σ, K => match rd σ.fr c with
    | .a (.s (.v (.bool t))) => cond t (evC X LH N n J a (known σ c true) K) (evC X LH N n J b (known σ c false) K)
    | _ => none
  | .block id c, σ, K => match LH id with
    | some L => (L σ).fold fun p => K p.1 p.2
    | none => evC X LH N n J c σ fun x σ' => match x with
      | .exit i => bif Nat.beq i id then K .normal σ' else K (.exit i) σ'
      | .normal => K .normal σ'
      | .goto l => K (.goto l) σ'
      | .ret => K .ret σ'
  | .loop c, σ, K => rounds (evC X LH N n J c) n σ K
  | .exit id, σ, K => K (.exit id) σ
  | .ret, σ, K => K .ret σ
  | .goto l, σ, K => K (.goto l) σ
  | .label _, σ, K => K .normal σ
  | .scope c, σ, K => evC X LH N n J c σ fun x σ' => match x with
    | .goto l => match findLabel c l with
      | some rest => jumps J c n rest σ' K
      | none => K (.goto l) σ'
    | .normal => K .normal σ'
    | .exit i => K (.exit i) σ'
    | .ret => K .ret σ'
  | _, _, _ => none

def evG {R : Type} (X : Env) (LH : Hints) (N n : Nat) : Nat → Code → St → Kont R → Option R
  | 0, c, σ, K => evC X LH N n (fun _ _ _ => none) c σ K
  | d + 1, c, σ, K => evC X LH N n (evG X LH N n d) c σ K

/-- What the evaluator comes to, the model comes to. -/
def EvOk {R : Type} (P : Program) (w0 : World) (F : FM) (N : Nat) (c : Code) (ev : St → Kont R → Option R) : Prop :=
  ∀ (σ : St) (K : Kont R) (r : R) (ρ : Nm) (a : Act) (w : World) (Q : Exit → Act → World → Prop), Rel w0 F N ρ σ a w → ev σ K = some r →
    (∀ x σ' ρ' a' w', Rel w0 F N ρ' σ' a' w' → K x σ' = some r → Q x.ex a' w') → c.wp P Q a w

/-- A block does as its hint says. -/
def HintOk (P : Program) (w0 : World) (F : FM) (N : Nat) (id : Nat) (c : Code) (L : St → Tr (Ex × St)) : Prop :=
  ∀ (σ : St) (ρ : Nm) (a : Act) (w : World) (Q : Exit → Act → World → Prop) (x : Ex) (σ' : St), Rel w0 F N ρ σ a w → (L σ).run = some (x, σ') →
    (∀ ρ' a' w', Rel w0 F N ρ' σ' a' w' → Q x.ex a' w') → (Code.block id c).wp P Q a w

/-- The blocks of a code. -/
def blocks : Code → List (Nat × Code)
  | .seq a b => blocks a ++ blocks b
  | .cond _ a b => blocks a ++ blocks b
  | .block id c => (id, c) :: blocks c
  | .loop c => blocks c
  | .scope c => blocks c
  | _ => []

def HintsOk (P : Program) (w0 : World) (F : FM) (N : Nat) (LH : Hints) (c : Code) : Prop :=
  ∀ p ∈ blocks c, ∀ L, LH p.1 = some L → HintOk P w0 F N p.1 p.2 L

theorem known_eq {σ : St} {c : Operand} {b : Bool} (h : rd σ.fr c = boolF b) : known σ c b = σ := by
  unfold known
  cases c with
  | tmp t => simp only; rw [upd_self h]
  | _ => rfl

section
variable {R : Type} {X : Env} {F : FM} {I : World → Prop} {w0 : World} {N : Nat}

theorem reg_sound (HX : EnvOk X F I) (hI : I w0) (id : Nat) (ops : Array Oper) : EvOk (R := R) X.P w0 F N (.region id ops false) (regK X N ops) := by
  intro σ K r ρ a w Q hR h hK
  refine wp_region_list ?_
  refine ops_sound HX hI ops.toList σ.nx σ ρ a w hR.f hR.wr hR.fr hR.free h fun σ' ρ' a' w' h0 h1 h2 h3 h4 h5 => ?_
  exact hK .normal ⟨σ'.fr, σ'.hp, σ.nx + ops.size⟩ ρ' a' w' ⟨h1, h2, by simpa using h3, h0⟩ h5

theorem adrsN_ok (fr : Nat → FV) (ops : Array Oper) {hp : Nat → Option Bk} (hok : ∀ t, (fr t).ok hp) : ∀ n, Holds (adrsN fr ops n) fr hp ∧ Kept (adrsN fr ops n) ops := by
  intro n
  induction n with
  | zero =>
    refine ⟨fun t i h => ?_, fun o ho d hd => .inl ?_⟩
    · simp only [adrsN] at h
      unfold adrs0 at h
      split at h
      · rename_i j off hf
        cases hb : (ops.all (offDst t)) with
        | false => rw [hb] at h; simp at h
        | true =>
          rw [hb] at h; simp at h; subst h
          refine ⟨fun x hx => ?_, fun hn => ?_⟩
          · rw [hf] at hx; cases hx; exact ⟨off, rfl⟩
          have := hok t
          rw [hf] at this
          have h2 : (Sc.p j off).ok hp := this _ (by simp [FV.scs, AV.cells])
          simp [Sc.ok, hn, isBlk] at h2
      · cases h
    · simp only [adrsN]
      unfold adrs0
      split
      · rename_i j off hf
        cases hb : (ops.all (offDst d)) with
        | false => rfl
        | true =>
          rw [Array.all_eq_true_iff_forall_mem] at hb
          have := hb o ho
          simp [offDst, hd] at this
      · rfl
  | succ n ih =>
    obtain ⟨ih1, ih2⟩ := ih
    have up : ∀ t i, adrsN fr ops n t = some i → adrsN fr ops (n + 1) t = some i := fun t i h => by simp only [adrsN, h]
    have down : ∀ t i, adrsN fr ops (n + 1) t = some i → adrsN fr ops n t = some i ∨ ∃ b, adrsN fr ops n b = some i ∧ ops.all (faFrom t b) = true ∧ noOther i (fr t) = true := by
      intro t i h
      simp only [adrsN] at h
      split at h
      · rename_i j hj; cases h; exact .inl hj
      · split at h
        · rename_i b hb
          split at h
          · rename_i j hj
            cases hc : (ops.all (faFrom t b) && noOther j (fr t)) with
            | false => rw [hc] at h; cases h
            | true =>
              rw [hc] at h
              cases h
              rw [Bool.and_eq_true] at hc
              exact .inr ⟨b, hj, hc.1, hc.2⟩
          · cases h
        · cases h
    refine ⟨fun t i h => ?_, fun o ho d hd => ?_⟩
    · rcases down t i h with h | ⟨b, hb, _, hno⟩
      · exact ih1 t i h
      · refine ⟨fun x hx => ?_, (ih1 b i hb).2⟩
        rw [hx] at hno
        cases x with
        | p i' off => exact ⟨off, by rw [Nat.eq_of_beq_eq_true hno]⟩
        | _ => cases hno
    · cases hA : adrsN fr ops (n + 1) d with
      | none => exact .inl rfl
      | some i =>
        right
        rcases down d i hA with h | ⟨b, hb, hall, _⟩
        · rcases ih2 o ho d hd with hn | ⟨i', b, ty, f, h1, h2, h3⟩
          · rw [hn] at h; cases h
          · rw [h] at h1; cases h1
            exact ⟨i, b, ty, f, rfl, h2, up b i h3⟩
        · rw [Array.all_eq_true_iff_forall_mem] at hall
          have := hall o ho
          unfold faFrom at this
          rw [Bool.or_eq_true] at this
          rcases this with h | h
          · simp [offDst, hd] at h
          · split at h
            · rename_i ty b' f hop
              rw [Nat.eq_of_beq_eq_true h] at hop
              exact ⟨i, b, ty, f, rfl, hop, up b i hb⟩
            · cases h

theorem adrs_ok (fr : Nat → FV) (ops : Array Oper) {hp : Nat → Option Bk} (hok : ∀ t, (fr t).ok hp) : Holds (adrs fr ops) fr hp ∧ Kept (adrs fr ops) ops := adrsN_ok fr ops hok 3

theorem regQ_any (HX : EnvOk X F I) (hI : I w0) (ops : Array Oper) (q : Bool) (σ : St) (K : Kont R) (r : R) (ρ : Nm) (a : Act) (w : World) (Q : Exit → Act → World → Prop)
    (hd : drawOk q (adrs σ.fr ops) ops = true) (hR : Rel w0 F N ρ σ a w) (h : regQ X N ops q σ K = some r)
    (hK : ∀ x σ' ρ' a' w', Rel w0 F N ρ' σ' a' w' → K x σ' = some r → Q x.ex a' w') : wpAny X.P .any ops Q ops.size (Array.replicate ops.size false) a { w with drawn := w.drawn + 1 } := by
  obtain ⟨σn, h1, h2⟩ := evOps_runD (ops := ops) (q := q) (nx := σ.nx) ops.toList 0 σ (by simp) (by simpa [regQ] using h)
  have hfree : ∀ (l : List Nat) (σ1 : St) (σ2 : St), runD X N ops q σ.nx l σ1 = some σ2 → (∀ i ∈ l, i < ops.size) → (∀ i, σ.nx + ops.size ≤ i → σ1.hp i = none) → ∀ i, σ.nx + ops.size ≤ i → σ2.hp i = none := by
    intro l
    induction l with
    | nil => intro σ1 σ2 hr _ hf; simp [runD] at hr; subst hr; exact hf
    | cons k l ih =>
      intro σ1 σ2 hr hl hf
      obtain ⟨o, σ', _, hs, hr'⟩ := runD_cons hr
      exact ih σ' σ2 hr' (fun i hi => hl i (List.mem_cons_of_mem _ hi)) fun i hi => stepD_free (stepQ_D hs) (by have := hl k List.mem_cons_self; omega) (hf i hi)
  have hW : WR w0 ρ σ.hp { w with drawn := w.drawn + 1 } := by
    refine hR.wr.world ⟨hR.wr.below.os, hR.wr.below.tape, hR.wr.below.output, hR.wr.below.size, hR.wr.below.block⟩ fun i b _ => rfl
  have hlen : (List.range' 0 ops.toList.length).length = ops.size := by simp
  obtain ⟨hA, hKA⟩ := adrs_ok σ.fr ops (hp := σ.hp) hR.fr.ok
  refine any_sound HX hI hd hKA (σn := σn) (nx := σ.nx) ?_ ops.size (List.range' 0 ops.toList.length) (Array.replicate ops.size false) σ ρ a _ hR.f hA hlen ?_ ?_ (by simp) (fun k o hk hlk => by by_cases hs : k < ops.size <;> simp [hs] at hlk) hW hR.fr ?_ h1
  · intro ρ' a' w' h0 h3 h4
    exact hK .normal ⟨σn.fr, σn.hp, σ.nx + ops.size⟩ ρ' a' w' ⟨h3, h4, hfree _ σ σn h1 (by intro i hi; simpa using hi) fun i hi => hR.free i (by omega), h0⟩ h2
  · exact List.pairwise_lt_range'
  · intro i
    constructor
    · intro hi
      have hlt : i < ops.size := by simpa using hi
      exact ⟨hlt, by simp [hlt]⟩
    · rintro ⟨hlt, _⟩; simpa using hlt
  · intro i _; exact hR.free _ (by omega)

theorem regQ_sound (HX : EnvOk X F I) (hm : X.P.follows .mixedOrders = true) (hI : I w0) (id : Nat) (ops : Array Oper) (q : Bool) (σ : St) (K : Kont R) (r : R) (ρ : Nm) (a : Act) (w : World) (Q : Exit → Act → World → Prop)
    (hd : drawOk q (adrs σ.fr ops) ops = true) (hR : Rel w0 F N ρ σ a w) (h : regQ X N ops q σ K = some r)
    (hK : ∀ x σ' ρ' a' w', Rel w0 F N ρ' σ' a' w' → K x σ' = some r → Q x.ex a' w') : (Code.region id ops true).wp X.P Q a w :=
  wp_region_any hm (regQ_any HX hI ops q σ K r ρ a w Q hd hR h hK)

theorem rounds_sound {c : Code} {ev : St → Kont R → Option R} (h : EvOk X.P w0 F N c ev) : ∀ (n : Nat) (σ : St) (K : Kont R) (r : R) (ρ : Nm) (a : Act) (w : World) (Q : Exit → Act → World → Prop),
    Rel w0 F N ρ σ a w → rounds ev n σ K = some r → (∀ x σ' ρ' a' w', Rel w0 F N ρ' σ' a' w' → K x σ' = some r → Q x.ex a' w') → Code.rounds X.P c Q n a w
  | 0, σ, K, r, ρ, a, w, Q, hR, he, hK => by simp [rounds] at he
  | n + 1, σ, K, r, ρ, a, w, Q, hR, he, hK => by
    rw [rounds_succ]
    refine h σ _ r ρ a w _ hR he fun x σ' ρ' a' w' hR' hx => ?_
    cases x with
    | normal => exact rounds_sound h n σ' K r ρ' a' w' Q hR' hx hK
    | exit i => exact hK (.exit i) σ' ρ' a' w' hR' hx
    | goto l => exact hK (.goto l) σ' ρ' a' w' hR' hx
    | ret => exact hK .ret σ' ρ' a' w' hR' hx

/-- From a place in a scope on, a bounded number of jumps. -/
def scopeR (P : Program) (c : Code) (Q : Exit → Act → World → Prop) : Nat → Code → Act → World → Prop
  | 0, _, _, _ => False
  | m + 1, code, a, w => code.wp P (fun x a' w' => match x with
    | .goto l => (∃ rest, findLabel c l = some rest ∧ scopeR P c Q m rest a' w') ∨ (findLabel c l = none ∧ Q (.goto l) a' w')
    | x => Q x a' w') a w

theorem scope_in {P : Program} {c : Code} {Q : Exit → Act → World → Prop} : ∀ (m : Nat) (code : Code) (a : Act) (w : World), scopeR P c Q m code a w →
    ∀ (b : Frame) (k : List Item) (cs : List Frame), ∃ e a' w', Q e a' w' ∧ Arrives P (lone (b.at a (.code code :: .inScope c :: k)) cs w) b k cs e a' w'
  | 0, _, _, _, h => h.elim
  | m + 1, code, a, w, h => by
    intro b k cs
    obtain ⟨e, a₁, w₁, hq, harr⟩ := h b (.inScope c :: k) cs
    cases e with
    | normal => exact ⟨.normal, a₁, w₁, hq, Steps.trans harr (.one step_inScope)⟩
    | exit id => exact ⟨.exit id, a₁, w₁, hq, fun k' hk => harr k' (by simp [exitTo, hk])⟩
    | goto l =>
      rcases hq with ⟨rest, hf, hr⟩ | ⟨hf, hq⟩
      · obtain ⟨e₂, a₂, w₂, hq₂, harr₂⟩ := scope_in m rest a₁ w₁ hr b k cs
        exact ⟨e₂, a₂, w₂, hq₂, .of_steps (harr _ (by simp [gotoIn, hf])) harr₂⟩
      · exact ⟨.goto l, a₁, w₁, hq, fun k' hk => harr k' (by simp [gotoIn, hf, hk])⟩
    | ret => exact ⟨_, a₁, w₁, hq, harr⟩
    | panic ch => exact ⟨_, a₁, w₁, hq, harr⟩
    | outgrown => exact ⟨_, a₁, w₁, hq, harr⟩

theorem wp_scope_rounds {P : Program} {c : Code} {Q : Exit → Act → World → Prop} (m : Nat) {a : Act} {w : World} (h : scopeR P c Q m c a w) : (Code.scope c).wp P Q a w := by
  intro b k cs
  obtain ⟨e, a₁, w₁, hq, harr⟩ := scope_in m c a w h b k cs
  exact ⟨e, a₁, w₁, hq, .of_steps (.one step_scope) harr⟩

theorem findLabel_blocks : ∀ {c : Code} {l : Nat} {rest : Code}, findLabel c l = some rest → ∀ p ∈ blocks rest, p ∈ blocks c
  | .seq a b, l, rest, h, p, hp => by
    simp only [findLabel] at h
    simp only [blocks, List.mem_append]
    split at h
    · rename_i r hr
      cases h
      simp only [blocks, List.mem_append] at hp
      rcases hp with hp | hp
      · exact .inl (findLabel_blocks hr p hp)
      · exact .inr hp
    · exact .inr (findLabel_blocks h p hp)
  | .label l', l, rest, h, p, hp => by
    simp only [findLabel] at h
    split at h
    · cases h; simp [blocks] at hp
    · cases h
  | .skip, _, _, h, _, _ => by simp [findLabel] at h
  | .region .., _, _, h, _, _ => by simp [findLabel] at h
  | .cond .., _, _, h, _, _ => by simp [findLabel] at h
  | .block .., _, _, h, _, _ => by simp [findLabel] at h
  | .loop .., _, _, h, _, _ => by simp [findLabel] at h
  | .rangeFunc .., _, _, h, _, _ => by simp [findLabel] at h
  | .exit .., _, _, h, _, _ => by simp [findLabel] at h
  | .scope .., _, _, h, _, _ => by simp [findLabel] at h
  | .goto .., _, _, h, _, _ => by simp [findLabel] at h
  | .ret, _, _, h, _, _ => by simp [findLabel] at h
  | .refuse .., _, _, h, _, _ => by simp [findLabel] at h

theorem jumps_sound {LH : Hints} {J : Code → St → Kont R → Option R} (hJ : ∀ c, HintsOk X.P w0 F N LH c → EvOk X.P w0 F N c (J c)) (c : Code) (hL : HintsOk X.P w0 F N LH c) : ∀ (m : Nat) (code : Code) (hC : ∀ p ∈ blocks code, p ∈ blocks c) (σ : St) (K : Kont R) (r : R) (ρ : Nm) (a : Act) (w : World) (Q : Exit → Act → World → Prop),
    Rel w0 F N ρ σ a w → jumps J c m code σ K = some r → (∀ x σ' ρ' a' w', Rel w0 F N ρ' σ' a' w' → K x σ' = some r → Q x.ex a' w') → scopeR X.P c Q m code a w
  | 0, code, hC, σ, K, r, ρ, a, w, Q, hR, he, hK => by simp [jumps] at he
  | m + 1, code, hC, σ, K, r, ρ, a, w, Q, hR, he, hK => by
    refine hJ code (fun p hp => hL p (hC p hp)) σ _ r ρ a w _ hR he fun x σ' ρ' a' w' hR' hx => ?_
    cases x with
    | normal => exact hK .normal σ' ρ' a' w' hR' hx
    | exit i => exact hK (.exit i) σ' ρ' a' w' hR' hx
    | ret => exact hK .ret σ' ρ' a' w' hR' hx
    | goto l =>
      simp only at hx
      cases hf : findLabel c l with
      | none =>
        simp only [hf] at hx
        exact .inr ⟨hf, hK (.goto l) σ' ρ' a' w' hR' hx⟩
      | some rest =>
        simp only [hf] at hx
        refine .inl ⟨rest, hf, ?_⟩
        exact jumps_sound hJ c hL m rest (findLabel_blocks hf) σ' K r ρ' a' w' Q hR' hx hK

theorem evC_sound {LH : Hints} (HX : EnvOk X F I) (hm : X.P.follows .mixedOrders = true) (hI : I w0) {n : Nat} {J : Code → St → Kont R → Option R} (hJ : ∀ c, HintsOk X.P w0 F N LH c → EvOk X.P w0 F N c (J c)) :
    ∀ c, HintsOk X.P w0 F N LH c → EvOk X.P w0 F N c (evC X LH N n J c) := by
  intro c
  induction c with
  | skip => intro _ σ K r ρ a w Q hR h hK; exact wp_skip (hK .normal σ ρ a w hR h)
  | region id ops draw =>
    intro _ σ K r ρ a w Q hR h hK
    cases draw with
    | false => exact reg_sound HX hI id ops σ K r ρ a w Q hR h hK
    | true =>
      simp only [evC] at h
      cases hd : drawOk false (adrs σ.fr ops) ops with
      | true =>
        simp only [hd, cond_true] at h
        exact regQ_sound HX hm hI id ops false σ K r ρ a w Q hd hR h hK
      | false =>
        simp only [hd, cond_false] at h
        cases hd2 : drawOk true (adrs σ.fr ops) ops with
        | false => simp [hd2] at h
        | true =>
          simp only [hd2, cond_true] at h
          exact regQ_sound HX hm hI id ops true σ K r ρ a w Q hd2 hR h hK
  | seq x y ihx ihy =>
    intro hL σ K r ρ a w Q hR h hK
    have ihx := ihx fun p hp => hL p (by simp only [blocks, List.mem_append]; exact .inl hp)
    have ihy := ihy fun p hp => hL p (by simp only [blocks, List.mem_append]; exact .inr hp)
    refine wp_seq ?_
    refine ihx σ _ r ρ a w _ hR h fun z σ' ρ' a' w' hR' hz => ?_
    cases z with
    | normal => exact ihy σ' K r ρ' a' w' Q hR' hz hK
    | exit i => exact hK (.exit i) σ' ρ' a' w' hR' hz
    | goto l => exact hK (.goto l) σ' ρ' a' w' hR' hz
    | ret => exact hK .ret σ' ρ' a' w' hR' hz
  | cond c x y ihx ihy =>
    intro hL σ K r ρ a w Q hR h hK
    have ihx := ihx fun p hp => hL p (by simp only [blocks, List.mem_append]; exact .inl hp)
    have ihy := ihy fun p hp => hL p (by simp only [blocks, List.mem_append]; exact .inr hp)
    simp only [evC] at h
    split at h
    · rename_i t ht
      have hev := hR.fr.eval' ht (by simp)
      refine wp_cond (t := t) hev ?_
      cases t with
      | true => simp only [cond_true] at h; rw [known_eq ht] at h; exact ihx σ K r ρ a w Q hR h hK
      | false => simp only [cond_false] at h; rw [known_eq ht] at h; exact ihy σ K r ρ a w Q hR h hK
    · cases h
  | block id x ih =>
    intro hL σ K r ρ a w Q hR h hK
    have ih := ih fun p hp => hL p (by simp only [blocks, List.mem_cons]; exact .inr hp)
    simp only [evC] at h
    cases hl : LH id with
    | some L =>
      simp only [hl, Tr.fold_run] at h
      cases hr : (L σ).run with
      | none => simp [hr] at h
      | some p =>
        simp only [hr, Option.bind_some] at h
        exact hL (id, x) (by simp [blocks]) L hl σ ρ a w Q p.1 p.2 hR hr fun ρ' a' w' hR' => hK p.1 p.2 ρ' a' w' hR' h
    | none =>
    simp only [hl] at h
    refine wp_block ?_
    refine ih σ _ r ρ a w _ hR h fun z σ' ρ' a' w' hR' hz => ?_
    cases z with
    | normal => exact hK .normal σ' ρ' a' w' hR' hz
    | exit i =>
      simp only at hz
      cases hi : Nat.beq i id with
      | true =>
        rw [hi] at hz
        have := Nat.eq_of_beq_eq_true hi
        subst this
        simp only [Ex.ex, Exit.inBlock, if_true]
        exact hK .normal σ' ρ' a' w' hR' hz
      | false =>
        rw [hi] at hz
        have hne : i ≠ id := fun e => by subst e; simp at hi
        simp only [Ex.ex, Exit.inBlock, if_neg hne]
        exact hK (.exit i) σ' ρ' a' w' hR' hz
    | goto l => exact hK (.goto l) σ' ρ' a' w' hR' hz
    | ret => exact hK .ret σ' ρ' a' w' hR' hz
  | loop x ih =>
    intro hL σ K r ρ a w Q hR h hK
    have ih := ih fun p hp => hL p hp
    exact wp_loop_rounds n (rounds_sound ih n σ K r ρ a w Q hR h hK)
  | exit id => intro _ σ K r ρ a w Q hR h hK; exact wp_exit (hK (.exit id) σ ρ a w hR h)
  | ret => intro _ σ K r ρ a w Q hR h hK; exact wp_ret (hK .ret σ ρ a w hR h)
  | goto l => intro _ σ K r ρ a w Q hR h hK; exact wp_goto (hK (.goto l) σ ρ a w hR h)
  | label l => intro _ σ K r ρ a w Q hR h hK; exact wp_label (hK .normal σ ρ a w hR h)
  | scope x ih =>
    intro hL σ K r ρ a w Q hR h hK
    have ih := ih fun p hp => hL p hp
    refine wp_scope_rounds (n + 1) ?_
    refine ih σ _ r ρ a w _ hR h fun z σ' ρ' a' w' hR' hz => ?_
    cases z with
    | normal => exact hK .normal σ' ρ' a' w' hR' hz
    | exit i => exact hK (.exit i) σ' ρ' a' w' hR' hz
    | ret => exact hK .ret σ' ρ' a' w' hR' hz
    | goto l =>
      simp only at hz
      cases hf : findLabel x l with
      | none =>
        simp only [hf] at hz
        exact .inr ⟨hf, hK (.goto l) σ' ρ' a' w' hR' hz⟩
      | some rest =>
        simp only [hf] at hz
        refine .inl ⟨rest, hf, ?_⟩
        exact jumps_sound hJ x hL n rest (findLabel_blocks hf) σ' K r ρ' a' w' Q hR' hz hK
  | rangeFunc f ps as x ih1 ih2 => intro _ σ K r ρ a w Q hR h hK; simp [evC] at h
  | refuse why => intro _ σ K r ρ a w Q hR h hK; simp [evC] at h

theorem evG_sound {LH : Hints} (HX : EnvOk X F I) (hm : X.P.follows .mixedOrders = true) (hI : I w0) {n : Nat} : ∀ (d : Nat) (c : Code), HintsOk X.P w0 F N LH c → EvOk (R := R) X.P w0 F N c (evG X LH N n d c)
  | 0, c, hL => evC_sound HX hm hI (fun c _ σ K r ρ a w Q hR h hK => by cases h) c hL
  | d + 1, c, hL => evC_sound HX hm hI (fun c hc => evG_sound HX hm hI d c hc) c hL

end

/-! ### Loops -/

/-- One round: how it ends, and the view then. -/
def roundK {α : Type} (V : View α) (x : Ex) (σ : St) : Option (Ex × List RD × List (List Sd)) := match V.rd σ with
  | some p => some (x, p)
  | none => none

def outK {α : Type} (V : View α) (p : Ex × α) : Option (Ex × List RD × List (List Sd)) := some (p.1, V.fv p.2, V.hv p.2)

def StepOk {α : Type} (fin : α → Option (Ex × α)) (good : α → Prop) (μ : α → Nat) (x : α) : Option (Ex × α) → Prop
  | some (.normal, y) => good y ∧ μ y < μ x ∧ fin x = fin y
  | r => r ≠ none ∧ fin x = r

/-- Round by round. -/
theorem loop_sound {w0 : World} {F : FM} (hpF : F.p = none) {N : Nat} {P : Program} {c : Code} {α : Type} (V : View α) (hV : V.ok = true) (T : α → Tr (Ex × α)) {ev : St → Kont (Ex × List RD × List (List Sd)) → Option (Ex × List RD × List (List Sd))}
    (hev : EvOk P w0 F N c ev) (hT : ∀ x, ev (V.st x) (roundK V) = (T x).fold (outK V)) (fin : α → Option (Ex × α)) (good : α → Prop) (μ : α → Nat)
    (hfin : ∀ x, good x → StepOk fin good μ x (T x).run) :
    ∀ (x : α) (ρ : Nm) (a : Act) (w : World) (Q : Exit → Act → World → Prop), good x → Rel w0 F N ρ (V.st x) a w →
      (∀ e y ρ' a' w', fin x = some (e, y) → Rel w0 F N ρ' (V.st y) a' w' → Q e.ex a' w') → (Code.loop c).wp P Q a w := by
  have key : ∀ (m : Nat) (x : α) (ρ : Nm) (a : Act) (w : World) (Q : Exit → Act → World → Prop), μ x < m → good x → Rel w0 F N ρ (V.st x) a w →
      (∀ e y ρ' a' w', fin x = some (e, y) → Rel w0 F N ρ' (V.st y) a' w' → Q e.ex a' w') → Code.rounds P c Q m a w := by
    intro m
    induction m with
    | zero => intro x ρ a w Q hm; omega
    | succ m ih =>
      intro x ρ a w Q hm hg hR hQ
      rw [rounds_succ]
      have h1 := hfin x hg
      have h2 := hT x
      rw [Tr.fold_run] at h2
      cases hr : (T x).run with
      | none => rw [hr] at h1; exact absurd rfl h1.1
      | some p =>
        obtain ⟨e, y⟩ := p
        rw [hr] at h1 h2
        simp only [Option.bind_some, outK] at h2
        refine hev (V.st x) _ _ ρ a w _ hR h2 fun x' σ' ρ' a' w' hR' hx => ?_
        unfold roundK at hx
        split at hx
        rotate_left
        · cases hx
        rename_i q hq
        obtain ⟨q1, q2⟩ := q
        simp only [Option.some.injEq, Prod.mk.injEq] at hx
        obtain ⟨rfl, rfl, rfl⟩ := hx
        obtain ⟨ρ2, hR2⟩ := hR'.view hpF V hV y hq
        cases x' with
        | normal =>
          obtain ⟨g1, g2, g3⟩ := h1
          exact ih y ρ2 a' w' Q (by omega) g1 hR2 fun e z ρ2 a2 w2 hz => hQ e z ρ2 a2 w2 (by rw [g3]; exact hz)
        | exit i => exact hQ (.exit i) y ρ2 a' w' h1.2 hR2
        | goto l => exact hQ (.goto l) y ρ2 a' w' h1.2 hR2
        | ret => exact hQ .ret y ρ2 a' w' h1.2 hR2
  intro x ρ a w Q hg hR hQ
  exact wp_loop_rounds (μ x + 1) (key (μ x + 1) x ρ a w Q (by omega) hg hR hQ)

/-- A loop's view, read from a state: the data, and the state when it has ended. -/
def hintL {α : Type} (V : View α) (dec : List RD × List (List Sd) → Option α) (good : α → Bool) (id : Nat) (fin : α → Tr (Ex × α)) (σ : St) : Tr (Ex × St) :=
  match V.rd σ with
  | some p => match dec p with
    | some x => .n (good x) (leave V id (fin x)) .f
    | none => .f
  | none => .f
 where
  leave {α : Type} (V : View α) (id : Nat) : Tr (Ex × α) → Tr (Ex × St)
    | .l (.exit i, y) => bif Nat.beq i id then .l (.normal, V.st y) else .l (.exit i, V.st y)
    | .l (e, y) => .l (e, V.st y)
    | .f => .f
    | .n b t e => .n b (leave V id t) (leave V id e)

theorem leave_run {α : Type} (V : View α) (id : Nat) : ∀ (t : Tr (Ex × α)) {e : Ex} {σ' : St}, (hintL.leave V id t).run = some (e, σ') → ∃ e' y, t.run = some (e', y) ∧ σ' = V.st y ∧ ((e' = .exit id ∧ e = .normal) ∨ ((∀ i, e' = .exit i → i ≠ id) ∧ e = e'))
  | .l (.exit i, y), e, σ', h => by
    simp only [hintL.leave] at h
    cases hb : Nat.beq i id with
    | true =>
      rw [hb] at h
      simp only [cond_true, Tr.run, Option.some.injEq, Prod.mk.injEq] at h
      exact ⟨_, y, rfl, h.2.symm, .inl ⟨by rw [Nat.eq_of_beq_eq_true hb], h.1.symm⟩⟩
    | false =>
      rw [hb] at h
      simp only [cond_false, Tr.run, Option.some.injEq, Prod.mk.injEq] at h
      exact ⟨_, y, rfl, h.2.symm, .inr ⟨fun j hj e => by cases hj; subst e; simp at hb, h.1.symm⟩⟩
  | .l (.normal, y), e, σ', h => by
    simp only [hintL.leave, Tr.run, Option.some.injEq, Prod.mk.injEq] at h
    exact ⟨_, y, rfl, h.2.symm, .inr ⟨fun j hj => (by cases hj), h.1.symm⟩⟩
  | .l (.goto l, y), e, σ', h => by
    simp only [hintL.leave, Tr.run, Option.some.injEq, Prod.mk.injEq] at h
    exact ⟨_, y, rfl, h.2.symm, .inr ⟨fun j hj => (by cases hj), h.1.symm⟩⟩
  | .l (.ret, y), e, σ', h => by
    simp only [hintL.leave, Tr.run, Option.some.injEq, Prod.mk.injEq] at h
    exact ⟨_, y, rfl, h.2.symm, .inr ⟨fun j hj => (by cases hj), h.1.symm⟩⟩
  | .f, e, σ', h => by simp [hintL.leave, Tr.run] at h
  | .n b t u, e, σ', h => by
    simp only [hintL.leave, Tr.run] at h ⊢
    cases b
    · exact leave_run V id u h
    · exact leave_run V id t h

/-- A block that is a loop. -/
theorem hint_loop {w0 : World} {F : FM} (hpF : F.p = none) {N : Nat} {P : Program} {c : Code} {id : Nat} {α : Type} (V : View α) (hV : V.ok = true) (dec : List RD × List (List Sd) → Option α) (hdec : ∀ p x, dec p = some x → p = (V.fv x, V.hv x)) (T : α → Tr (Ex × α)) {ev : St → Kont (Ex × List RD × List (List Sd)) → Option (Ex × List RD × List (List Sd))}
    (hev : EvOk P w0 F N c ev) (hT : ∀ x, ev (V.st x) (roundK V) = (T x).fold (outK V)) (fin : α → Tr (Ex × α)) (good : α → Bool) (μ : α → Nat)
    (hfin : ∀ x, good x = true → StepOk (fun x => (fin x).run) (fun x => good x = true) μ x (T x).run) : HintOk P w0 F N id (.loop c) (hintL V dec good id fin) := by
  intro σ ρ a w Q e σ' hR hr hQ
  unfold hintL at hr
  split at hr
  rotate_left
  · cases hr
  rename_i p hp
  split at hr
  rotate_left
  · cases hr
  rename_i x hx
  have hpx := hdec p x hx
  subst hpx
  simp only [Tr.run] at hr
  cases hg : good x with
  | false => rw [hg] at hr; cases hr
  | true =>
    rw [hg] at hr
    simp only [cond_true] at hr
    obtain ⟨e', y, h1, rfl, h2⟩ := leave_run V id _ hr
    obtain ⟨ρ2, hR2⟩ := hR.view hpF V hV x hp
    refine wp_block ?_
    refine loop_sound hpF V hV T hev hT (fun x => (fin x).run) (fun x => good x = true) μ hfin x ρ2 a w _ hg hR2 fun e2 y2 ρ' a' w' hy hR' => ?_
    simp only [h1, Option.some.injEq, Prod.mk.injEq] at hy
    obtain ⟨rfl, rfl⟩ := hy
    rcases h2 with ⟨rfl, rfl⟩ | ⟨h3, rfl⟩
    · simp only [Ex.ex, Exit.inBlock, if_true]
      exact hQ ρ' a' w' hR'
    · cases e with
      | exit i =>
        simp only [Ex.ex, Exit.inBlock, if_neg (h3 i rfl)]
        exact hQ ρ' a' w' hR'
      | normal => exact hQ ρ' a' w' hR'
      | goto l => exact hQ ρ' a' w' hR'
      | ret => exact hQ ρ' a' w' hR'

/-! ### Where a function's loops lie -/

def cntAt : List (Nat × Code) → Nat → Nat
  | [], _ => 0
  | p :: l, i => bif Nat.beq p.1 i then cntAt l i + 1 else cntAt l i

def codeAt : List (Nat × Code) → Nat → Code
  | [], _ => .skip
  | p :: l, i => bif Nat.beq p.1 i then p.2 else codeAt l i

def inLoop : Code → Code
  | .loop c => c
  | _ => .skip

def bodyOf (fn : Func) : Code := fn.body.getD .skip

/-- The body of the loop in block 'i' of a code. -/
def loopAt (c : Code) (i : Nat) : Code := inLoop (codeAt (blocks c) i)

def isLoop : Code → Bool
  | .loop _ => true
  | _ => false

theorem cnt_zero : ∀ {l : List (Nat × Code)} {i : Nat}, cntAt l i = 0 → ∀ p ∈ l, p.1 ≠ i
  | q :: l, i, h, p, hp => by
    simp only [cntAt] at h
    cases hb : Nat.beq q.1 i with
    | true => rw [hb] at h; simp at h
    | false =>
      rw [hb] at h
      rcases List.mem_cons.1 hp with rfl | hp
      · intro e; subst e; simp at hb
      · exact cnt_zero (by simpa using h) p hp

theorem codeAt_eq : ∀ {l : List (Nat × Code)} {i : Nat}, cntAt l i = 1 → ∀ p ∈ l, p.1 = i → p.2 = codeAt l i
  | q :: l, i, h, p, hp, hi => by
    simp only [cntAt, codeAt] at h ⊢
    cases hb : Nat.beq q.1 i with
    | true =>
      rw [hb] at h
      simp only [cond_true] at h ⊢
      rcases List.mem_cons.1 hp with rfl | hp
      · rfl
      · exact absurd hi (cnt_zero (by omega) p hp)
    | false =>
      rw [hb] at h
      simp only [cond_false] at h ⊢
      rcases List.mem_cons.1 hp with rfl | hp
      · subst hi; simp at hb
      · exact codeAt_eq h p hp hi

abbrev Hl := List (Nat × (St → Tr (Ex × St)))

def lh : Hl → Hints
  | [], _ => none
  | q :: r, i => bif Nat.beq q.1 i then some q.2 else lh r i

def hlOk (c : Code) (h : Hl) : Bool := h.all fun q => Nat.beq (cntAt (blocks c) q.1) 1 && isLoop (codeAt (blocks c) q.1)

theorem hints_of {P : Program} {w0 : World} {F : FM} {N : Nat} {c : Code} : ∀ {h : Hl}, hlOk c h = true → (∀ q ∈ h, HintOk P w0 F N q.1 (.loop (loopAt c q.1)) q.2) → HintsOk P w0 F N (lh h) c
  | [], _, _, p, hp, L, hL => by cases hL
  | q :: r, hc, h, p, hp, L, hL => by
    simp only [hlOk, List.all_cons, Bool.and_eq_true] at hc
    simp only [lh] at hL
    cases hb : Nat.beq q.1 p.1 with
    | true =>
      rw [hb] at hL
      simp only [cond_true, Option.some.injEq] at hL
      subst hL
      have hq := Nat.eq_of_beq_eq_true hb
      have h1 := codeAt_eq (Nat.eq_of_beq_eq_true hc.1.1) p hp hq.symm
      have h2 := h q List.mem_cons_self
      rw [← hq, h1]
      unfold loopAt at h2
      cases hco : codeAt (blocks c) q.1 with
      | loop b => rw [hco] at h2; exact h2
      | _ => rw [hco] at hc; simp [isLoop] at hc
    | false =>
      rw [hb] at hL
      exact hints_of (by simp only [hlOk]; exact hc.2) (fun q hq => h q (List.mem_cons_of_mem _ hq)) p hp L hL

/-! ### A function -/

def st0 (args : List AD) : St := mkSt (List.range args.length) (args.map .a) [] [] 0

/-- What is handed back: 'nk': what a slice is made of that is nil. -/
def bkS (hp : Nat → Option Bk) (nk : Option KN) : Sc → Option Sd
  | .v (.slice none 0 0) => match nk with
    | some k => some (.sl ⟨k, []⟩ .ro)
    | none => some (.v (.slice none 0 0))
  | .v x => some (.v x)
  | .sl i => match hp i with
    | some (.sl d (.mine _)) => some (.sl d .ro)
    | _ => none
  | _ => none

def bkL (hp : Nat → Option Bk) (nk : Option KN) : List Sc → Option (List Sd)
  | [] => some []
  | x :: l => match bkS hp nk x, bkL hp nk l with
    | some y, some ys => some (y :: ys)
    | _, _ => none

def bkA (hp : Nat → Option Bk) (nk : Option KN) : AV → Option AD
  | .s x => match bkS hp nk x with
    | some y => some (.s y)
    | none => none
  | .agg l => match bkL hp nk l with
    | some m => some (.agg m)
    | none => none

def bkAs (hp : Nat → Option Bk) (nk : Option KN) : List AV → Option (List AD)
  | [] => some []
  | x :: l => match bkA hp nk x, bkAs hp nk l with
    | some y, some ys => some (y :: ys)
    | _, _ => none

def resF (X : Env) (σ : St) : List ResultVar → Option (List AV)
  | [] => some []
  | .tmp t :: r => match σ.fr t, resF X σ r with
    | .a x, some l => some (x :: l)
    | _, _ => none
  | .cell t ty :: r => match tget X.T ty, σ.fr t, resF X σ r with
    | some e, .a (.s (.p i off)), some l => match σ.hp i with
      | some (.own cs) => match ldS e cs off with
        | some (.a x) => some (x :: l)
        | _ => none
      | _ => none
    | _, _, _ => none

def outF (X : Env) (nk : Option KN) (σ : St) (rs : List ResultVar) : Option RD :=
  match resF X σ rs with
  | some l => match bkAs σ.hp nk l with
    | some [x] => some (.a x)
    | some l => some (.tup l)
    | none => none
  | none => none

def evFL (X : Env) (LH : Hints) (nk : Option KN) (n d : Nat) (fn : Func) (args : List AD) : Option RD :=
  match fn.body with
  | some c => bif Nat.ble args.length fn.ntmps then evG X LH fn.ntmps n d c (st0 args) fun x σ => match x with
      | .normal => outF X nk σ fn.results.toList
      | .ret => outF X nk σ fn.results.toList
      | _ => none
    else none
  | none => none

def resM (tmps : Array Value) : ResultVar → Sem Value
  | .tmp t => pure (tmps.getD t undef)
  | .cell a t => do loadVar t (← asAddr (tmps.getD a undef))

theorem results_eq (fn : Func) (tmps : Array Value) : results fn tmps = (do
  let vs ← fn.results.mapM (resM tmps)
  pure (if h : vs.size = 1 then vs[0] else .tuple vs)) := rfl

theorem resF_sound {X : Env} {F : FM} {I : World → Prop} {w0 w : World} {N : Nat} {ρ : Nm} {σ : St} {a : Act} (HX : EnvOk X F I) (hR : Rel w0 F N ρ σ a w) : ∀ {rs : List ResultVar} {l : List AV}, resF X σ rs = some l →
    (rs.mapM (resM a.tmps)).run X.P w = .ok (l.map (AV.con ρ)) w ∧ ∀ x ∈ l, ∀ s ∈ x.cells, s.ok σ.hp
  | [], l, h => by simp [resF] at h; subst h; simp
  | .tmp t :: r, l, h => by
    simp only [resF] at h
    split at h
    · rename_i x l' hx hl
      cases h
      obtain ⟨e1, e2⟩ := resF_sound HX hR hl
      have hv := hR.fr.val t (by rw [hx]; simp)
      rw [hx] at hv
      refine ⟨?_, fun y hy => ?_⟩
      · simp only [List.mapM_cons, resM, Sem.run_bind, Sem.run_pure, Result.andThen_ok, e1, hv]
        rfl
      · rcases List.mem_cons.1 hy with rfl | hy
        · have := hR.fr.ok t
          rw [hx] at this
          exact this
        · exact e2 y hy
    · cases h
  | .cell t ty :: r, l, h => by
    simp only [resF] at h
    split at h
    · rename_i e0 i off l' he hx hl
      split at h
      · rename_i cs hcs
        split at h
        · rename_i x hld
          cases h
          obtain ⟨hmem, rfl⟩ := tget_mem he
          obtain ⟨e1, e2⟩ := resF_sound HX hR hl
          have hv := hR.fr.val t (by rw [hx]; simp)
          rw [hx] at hv
          obtain ⟨h1, h2, h3⟩ := ldS_sound (hp := σ.hp) (HX.T _ hmem) hld (hR.wr.ok i _ hcs) (blk_cells hR.wr hcs)
          simp only [Nat.zero_add] at h1
          have h1' : (loadVar e0.t ⟨ρ.b i, off, none⟩).run X.P w = .ok (x.con ρ) w := by simpa [Instr.loadAt, Instr.sureAddr, FV.con] using h1
          refine ⟨?_, fun y hy => ?_⟩
          · have hv' : a.tmps.getD t undef = .pointer (some ⟨ρ.b i, off, none⟩) := hv
            have ha : (asAddr (.pointer (some ⟨ρ.b i, off, none⟩))).run X.P w = .ok ⟨ρ.b i, off, none⟩ w := rfl
            simp only [List.mapM_cons, resM, Sem.run_bind, Sem.run_pure, Result.andThen_ok, e1, hv', ha, h1', List.map_cons]
          · rcases List.mem_cons.1 hy with rfl | hy
            · exact h2
            · exact e2 y hy
        · cases h
      · cases h
    · cases h

section
variable {w0 w : World} {ρ : Nm} {hp : Nat → Option Bk} {nk : Option KN}

theorem bkS_ok (hW : WR w0 ρ hp w) {x : Sc} {y : Sd} (hx : x.ok hp) (h : bkS hp nk x = some y) : y.back w0.heap.size w (x.con ρ) := by
  unfold bkS at h
  split at h
  · split at h
    · cases h
      exact ⟨rfl, 0, World.ownsRow_nil _ _ _ _⟩
    · cases h; exact ⟨rfl, rfl⟩
  · cases h; exact ⟨rfl, hx⟩
  · rename_i i
    split at h
    · rename_i d m hi
      cases h
      obtain ⟨h1, e, _, h2⟩ := hW.fact i _ hi
      exact ⟨h1, e, h2⟩
    · cases h
  · cases h

theorem bkL_ok (hW : WR w0 ρ hp w) : ∀ {l : List Sc} {m : List Sd}, (∀ x ∈ l, x.ok hp) → bkL hp nk l = some m → backL w0.heap.size w m (l.map (Sc.con ρ))
  | [], m, _, h => by cases h; trivial
  | x :: l, m, hx, h => by
    simp only [bkL] at h
    split at h
    · rename_i h1 h2
      cases h
      exact ⟨bkS_ok hW (hx x List.mem_cons_self) h1, bkL_ok hW (fun z hz => hx z (List.mem_cons_of_mem _ hz)) h2⟩
    · cases h

theorem bkA_ok (hW : WR w0 ρ hp w) {x : AV} {y : AD} (hx : ∀ z ∈ x.cells, z.ok hp) (h : bkA hp nk x = some y) : y.back w0.heap.size w (x.con ρ) := by
  unfold bkA at h
  split at h
  · split at h
    · rename_i h1
      cases h
      exact bkS_ok hW (hx _ (by simp [AV.cells])) h1
    · cases h
  · split at h
    · rename_i h1
      cases h
      exact ⟨_, rfl, bkL_ok hW hx h1⟩
    · cases h

theorem bkAs_ok (hW : WR w0 ρ hp w) : ∀ {l : List AV} {m : List AD}, (∀ x ∈ l, ∀ z ∈ x.cells, z.ok hp) → bkAs hp nk l = some m → backA w0.heap.size w m (l.map (AV.con ρ)) ∧ m.length = l.length
  | [], m, _, h => by cases h; exact ⟨trivial, rfl⟩
  | x :: l, m, hx, h => by
    simp only [bkAs] at h
    split at h
    · rename_i h1 h2
      cases h
      obtain ⟨e1, e2⟩ := bkAs_ok hW (fun z hz => hx z (List.mem_cons_of_mem _ hz)) h2
      exact ⟨⟨bkA_ok hW (hx x List.mem_cons_self) h1, e1⟩, by simp [e2]⟩
    · cases h
end

theorem outF_sound {X : Env} {F : FM} {I : World → Prop} {w0 w : World} {N : Nat} {ρ : Nm} {σ : St} {a : Act} (HX : EnvOk X F I) (hR : Rel w0 F N ρ σ a w) {fn : Func} {nk : Option KN} {r : RD} (h : outF X nk σ fn.results.toList = some r) :
    ∃ v, (results fn a.tmps).run X.P w = .ok v w ∧ r.back w0.heap.size w v := by
  unfold outF at h
  split at h
  rotate_left
  · cases h
  rename_i l hl
  obtain ⟨e1, e2⟩ := resF_sound HX hR hl
  have hres : (results fn a.tmps).run X.P w = .ok (if h : l.length = 1 then (l[0]'(by omega)).con ρ else .tuple (l.map (AV.con ρ)).toArray) w := by
    have hm : (fn.results.mapM (resM a.tmps)).run X.P w = .ok (l.map (AV.con ρ)).toArray w := by
      rw [Array.mapM_eq_mapM_toList]
      simp [e1]
    rw [results_eq]
    simp only [Sem.run_bind, hm, Result.andThen_ok, Sem.run_pure]
    congr 1
    by_cases h1 : l.length = 1
    · match l, h1 with
      | [x], _ => rfl
    · rw [dif_neg h1, dif_neg (by simpa using h1)]
  refine ⟨_, hres, ?_⟩
  split at h
  · rename_i x hx
    cases h
    obtain ⟨b1, b2⟩ := bkAs_ok hR.wr e2 hx
    match l, b2, b1 with
    | [z], _, b1 => exact b1.1
  · rename_i m hne hm
    cases h
    obtain ⟨b1, b2⟩ := bkAs_ok hR.wr e2 hm
    rw [dif_neg (fun hlen => by
      rw [← b2] at hlen
      match m, hlen with
      | [x], _ => exact hne x rfl)]
    exact ⟨_, rfl, b1⟩
  · cases h

theorem callable_of {P : Program} {f : FuncId} {fn : Func} {c : Code} (hf : P.funcs[f]? = some fn) (hb : fn.body = some c) (hn : (fn.name == "runtime.NumGoroutine") = false) : callable P f = true := by
  simp [callable, hf, hb]
  simpa using hn

/-- What a caller hands over lies there. -/
theorem fit_holds {F : Value} {w : World} {ρ : Nm} (hf : ρ.f = (fm F)) {x : Sd} {v : Value} (h : x.holds F w v) (hx : ∀ f cs, x ≠ .clo f cs) (hro : ∀ d e, x ≠ .sl d (.mine e)) : ∃ ns, Fit w w ρ [] x v ns ∧ ∀ p ∈ ns, p.1 = none := by
  cases x with
  | v x => exact ⟨[], ⟨h.1, h.2, rfl⟩, by simp⟩
  | opq => exact ⟨[], ⟨by rw [hf]; exact h.1, rfl⟩, by simp⟩
  | clo f cs => exact absurd rfl (hx f cs)
  | p i off => exact h.elim
  | r cs =>
    obtain ⟨h1, b, t, rfl, h2⟩ := h
    exact ⟨[(none, b, undef)], ⟨b, rfl, rfl, h1, by rw [hf]; exact id, t, h2⟩, by simp⟩
  | sl d m =>
    cases m with
    | mine e => exact absurd rfl (hro d e)
    | ro =>
      have hone : v.oneCell' = true := by obtain ⟨a, c, rfl, _⟩ := h; rfl
      exact ⟨[(none, 0, v)], ⟨none, rfl, ⟨hone, by rw [hf]; exact h⟩, by simp, fun _ h => by obtain ⟨e, he⟩ := h; cases he⟩, by simp⟩

def inS : Sd → Bool
  | .clo .. => false
  | .sl _ (.mine _) => false
  | _ => true
def inA : AD → Bool
  | .s x => inS x
  | .agg l => l.all inS

theorem inS_ok {x : Sd} (h : inS x = true) : (∀ f cs, x ≠ .clo f cs) ∧ ∀ d e, x ≠ .sl d (.mine e) :=
  ⟨fun f cs e => by subst e; simp [inS] at h, fun d e he => by subst he; simp [inS] at h⟩

theorem fitL_holds {F : Value} {w : World} {ρ : Nm} (hf : ρ.f = (fm F)) : ∀ {l : List Sd} {vs : List Value}, holdsL F w l vs → l.all inS = true → ∃ ns, FitL w w ρ [] l vs ns ∧ ∀ p ∈ ns, p.1 = none
  | [], [], _, _ => ⟨[], rfl, by simp⟩
  | x :: l, v :: vs, h, ha => by
    simp only [List.all_cons, Bool.and_eq_true] at ha
    obtain ⟨n1, f1, g1⟩ := fit_holds hf h.1 (inS_ok ha.1).1 (inS_ok ha.1).2
    obtain ⟨n2, f2, g2⟩ := fitL_holds hf h.2 ha.2
    exact ⟨n1 ++ n2, ⟨n1, n2, rfl, f1, f2⟩, fun p hp => (List.mem_append.1 hp).elim (g1 p) (g2 p)⟩
  | [], _ :: _, h, _ => h.elim
  | _ :: _, [], h, _ => h.elim

theorem fitRs_holds {F : Value} {w : World} {ρ : Nm} (hf : ρ.f = (fm F)) : ∀ {l : List AD} {vs : List Value}, holdsA F w l vs → l.all inA = true → ∃ ns, FitRs w w ρ [] (l.map .a) vs ns ∧ ∀ p ∈ ns, p.1 = none
  | [], [], _, _ => ⟨[], rfl, by simp⟩
  | x :: l, v :: vs, h, ha => by
    simp only [List.all_cons, Bool.and_eq_true] at ha
    have h1 : ∃ ns, FitA w w ρ [] x v ns ∧ ∀ p ∈ ns, p.1 = none := by
      cases x with
      | s x => exact fit_holds hf h.1 (inS_ok ha.1).1 (inS_ok ha.1).2
      | agg m =>
        obtain ⟨us, rfl, hu⟩ := h.1
        obtain ⟨ns, f, g⟩ := fitL_holds hf hu ha.1
        exact ⟨ns, ⟨us, rfl, f⟩, g⟩
    obtain ⟨n1, f1, g1⟩ := h1
    obtain ⟨n2, f2, g2⟩ := fitRs_holds hf h.2 ha.2
    exact ⟨n1 ++ n2, ⟨n1, n2, rfl, f1, f2⟩, fun p hp => (List.mem_append.1 hp).elim (g1 p) (g2 p)⟩
  | [], _ :: _, h, _ => h.elim
  | _ :: _, [], h, _ => h.elim

theorem holdsA_len {F : Value} {w : World} : ∀ {l : List AD} {vs : List Value}, holdsA F w l vs → l.length = vs.length
  | [], [], _ => rfl
  | _ :: _, _ :: _, h => by simp [holdsA_len h.2]
  | [], _ :: _, h => h.elim
  | _ :: _, [], h => h.elim

theorem rel0 {F : Value} {w : World} {args : List AD} {vs : List Value} (hone : F.oneCell' = true) (hok : holdsA F w args vs) (hin : args.all inA = true) {N : Nat} (hN : args.length ≤ N) :
    ∃ ρ, Rel w (fm F) N ρ (st0 args) { tmps := vs.toArray ++ Array.replicate (N - vs.toArray.size) undef, defers := [] } w := by
  have hlen := holdsA_len hok
  let ρ : Nm := ⟨fun _ => 0, fun _ => undef, (fm F)⟩
  have hW : WR w ρ (fun _ => none) w := ⟨BelM.refl _ _, hone, fun i b h => (by cases h), fun i b h => (by cases h), fun i j b h => (by cases h), fun b h => (by cases h)⟩
  obtain ⟨ns, f1, g1⟩ := fitRs_holds (ρ := ρ) rfl hok hin
  unfold st0
  refine mk_rel (n2 := []) (cvs := []) hW rfl (by simp; omega) rfl f1 rfl ?_ ?_ ?_ (by simp) rfl (by simp) (.inl rfl)
  · intro r s i p q h1 _ h3 _
    rw [g1 p (by simpa using List.mem_of_getElem? h1)] at h3
    cases h3
  · intro p i hp h3
    rw [g1 p (by simpa using hp)] at h3
    cases h3
  · intro r t v h1 h2
    have hr : r < vs.length := (List.getElem?_eq_some_iff.1 h2).1
    have ht : t = r := by
      rw [List.getElem?_range (by omega)] at h1
      exact (Option.some.inj h1).symm
    subst ht
    have hv : vs[t] = v := (List.getElem?_eq_some_iff.1 h2).2
    simp [Array.getD, Array.getElem_append, hr, hv]
    intro h; omega

theorem sound_of_evL {X : Env} {F : Value} {I : World → Prop} {LH : Hints} (HX : EnvOk X (fm F) I) (hone : F.oneCell' = true) (hm : X.P.follows .mixedOrders = true) {f : FuncId} {fn : Func} (hf : X.P.funcs[f]? = some fn) (hn : (fn.name == "runtime.NumGoroutine") = false) {nk : Option KN} {n d : Nat} {args : List AD} {r : RD}
    (hin : args.all inA = true) (hL : ∀ w c, I w → fn.body = some c → HintsOk X.P w (fm F) fn.ntmps LH c) (h : evFL X LH nk n d fn args = some r) : SoundAt X.P F I f args r := by
  unfold evFL at h
  cases hb : fn.body with
  | none => simp [hb] at h
  | some c =>
    simp only [hb] at h
    cases hl : Nat.ble args.length fn.ntmps with
    | false => simp [hl] at h
    | true =>
      simp only [hl, cond_true] at h
      have hl' := Nat.le_of_ble_eq_true hl
      refine ⟨callable_of hf hb hn, fun w vs hI hok => ?_⟩
      refine calls_of_wp hf hb ?_
      obtain ⟨ρ, hR⟩ := rel0 hone hok hin hl'
      refine evG_sound HX hm hI d c (hL w c hI hb) (st0 args) _ r ρ _ w _ hR h fun x σ' ρ' a' w' hR' hx => ?_
      cases x with
      | normal =>
        obtain ⟨v, h1, h2⟩ := outF_sound HX hR' hx
        exact ⟨by rw [hR'.fr.nodef, hR'.f], v, h1, v, rfl, (by have := hR'.wr.below; rw [hR'.f] at this; exact this.below), h2⟩
      | ret =>
        obtain ⟨v, h1, h2⟩ := outF_sound HX hR' hx
        exact ⟨by rw [hR'.fr.nodef, hR'.f], v, h1, v, rfl, (by have := hR'.wr.below; rw [hR'.f] at this; exact this.below), h2⟩
      | exit i => cases hx
      | goto l => cases hx

end Go.Proofs.Ytmmlpaehehgfnaa.Sx
