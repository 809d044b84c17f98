/-
  What this text proves: how names, blocks and worlds go together ('WR'), and how they go on ('WR.world', 'WR.add', 'WR.put').
  Conditions: none.
-/
import Derived.Test.YtmmlpaehehgfnaaSx
namespace Go.Proofs.Ytmmlpaehehgfnaa.Sx
open Go.RowKit
set_option linter.unusedSimpArgs false
set_option linter.unusedVariables false

/-! ### Worlds -/

def isBlk : Option Bk → Bool
  | some (.own _) | some (.ro _) => true
  | _ => false

def isSl : Option Bk → Bool
  | some (.sl ..) | some .dead => true
  | _ => false

def elOk : Option Bk → Nat → Nat → Prop
  | some (.sl d _), sz, idx => idx < d.n ∧ sz = d.sz
  | some .dead, _, _ => True
  | _, _, _ => False

def Sc.ok (hp : Nat → Option Bk) : Sc → Prop
  | .v x => x.oneCell' = true
  | .p i _ => isBlk (hp i) = true
  | .sl i => isSl (hp i) = true
  | .e i sz idx _ => elOk (hp i) sz idx
  | .fn _ caps => ∀ i ∈ caps, isBlk (hp i) = true
  | .opq => True

def FV.ok (hp : Nat → Option Bk) (x : FV) : Prop := ∀ y ∈ x.scs, y.ok hp

/-- A slice's length: within its room, and within what a slice may have. -/
def capOk (n c : Nat) : Prop := n ≤ c ∧ n ≤ maxLen

/-- A slice's elements lie in a world. -/
def SlM (m : Nat → Prop) (w : World) (v : Value) (d : Dat) : Prop :=
  ∃ a c, v = .slice a d.n c ∧ capOk d.n c ∧ (0 < d.n → ∃ b o, a = some ⟨b, o, none⟩ ∧ ¬ m b ∧ ∀ j u, d.flat[j]? = some u → w.cell? ⟨b, o + j, none⟩ = some u)

def SlAt (w : World) (v : Value) (d : Dat) : Prop := SlM noM w v d

/-- What was there is as it was, but for the blocks that may be written. -/
structure BelM (m : Nat → Prop) (w w' : World) : Prop where
  os : w'.os = w.os
  tape : w'.tape = w.tape
  output : w'.output = w.output
  size : w.heap.size ≤ w'.heap.size
  block : ∀ k, k < w.heap.size → ¬ m k → w'.heap[k]? = w.heap[k]?

theorem BelM.refl (m : Nat → Prop) (w : World) : BelM m w w := ⟨rfl, rfl, rfl, Nat.le_refl _, fun _ _ _ => rfl⟩
theorem BelM.of {m : Nat → Prop} {w w' : World} (h : Below w.heap.size w w') : BelM m w w' := ⟨h.os, h.tape, h.output, h.size, fun k hk _ => h.block k hk⟩
theorem BelM.below {w w' : World} (h : BelM noM w w') : Below w.heap.size w w' := ⟨h.os, h.tape, h.output, h.size, fun k hk => h.block k hk id⟩
theorem BelM.trans {m : Nat → Prop} {a b c : World} (h : BelM m a b) (k : Below b.heap.size b c) : BelM m a c :=
  ⟨k.os.trans h.os, k.tape.trans h.tape, k.output.trans h.output, Nat.le_trans h.size k.size, fun i hi hm => (k.block i (Nat.lt_of_lt_of_le hi h.size)).trans (h.block i hi hm)⟩

def blkOf (ρ : Nm) (hp : Nat → Option Bk) (i : Nat) : Option Nat :=
  match hp i with
  | some (.own _) => some (ρ.b i)
  | some (.sl _ (.mine _)) => (ρ.s i).ownBlock
  | _ => none

/-- What a block says, by its name's values, is so. -/
def Fact (w0 w : World) (ρ : Nm) (b : Nat) (s : Value) : Bk → Prop
  | .own cs => (w0.heap.size ≤ b ∨ ρ.f.m b) ∧ ∃ t, w.heap[b]? = some (.cells (cs.map (Sc.con ρ)).toArray t (0, 0))
  | .ro cs => (∀ v ∈ cs, v.oneCell' = true) ∧ ¬ ρ.f.m b ∧ ∃ t, w0.heap[b]? = some (.cells cs.toArray t (0, 0))
  | .sl d .ro => s.oneCell' = true ∧ SlM ρ.f.m w0 s d
  | .sl d (.mine m) => s.oneCell' = true ∧ ∃ e, (∀ e', m = some e' → e' = e) ∧ w.ownsRow w0.heap.size e d.sz s d.n d.flat
  | .dead => s.oneCell' = true

def Bk.ok (hp : Nat → Option Bk) : Bk → Prop
  | .own cs => ∀ x ∈ cs, x.ok hp
  | _ => True

structure WR (w0 : World) (ρ : Nm) (hp : Nat → Option Bk) (w : World) : Prop where
  below : BelM ρ.f.m w0 w
  fone : ρ.f.f.oneCell' = true
  fact : ∀ i b, hp i = some b → Fact w0 w ρ (ρ.b i) (ρ.s i) b
  ok : ∀ i b, hp i = some b → b.ok hp
  excl : ∀ i j b, blkOf ρ hp i = some b → blkOf ρ hp j = some b → i = j
  pin : ∀ b, ρ.f.p = some b → ρ.b 0 = b ∧ isBlk (hp 0) = true

structure Keep (x y : Option Bk) : Prop where
  blk : isBlk x = true → isBlk y = true
  sl : isSl x = true → isSl y = true
  el : ∀ sz idx, elOk x sz idx → elOk y sz idx

theorem Keep.refl (x : Option Bk) : Keep x x := ⟨id, id, fun _ _ => id⟩

structure Ext (ρ : Nm) (hp : Nat → Option Bk) (ρ' : Nm) (hp' : Nat → Option Bk) : Prop where
  keep : ∀ i, (hp i).isSome = true → Keep (hp i) (hp' i) ∧ ρ'.b i = ρ.b i ∧ ρ'.s i = ρ.s i
  f : ρ'.f = ρ.f

theorem Ext.refl (ρ : Nm) (hp : Nat → Option Bk) : Ext ρ hp ρ hp := ⟨fun _ _ => ⟨Keep.refl _, rfl, rfl⟩, rfl⟩

theorem blk_some {x : Option Bk} (h : isBlk x = true) : x.isSome = true := by
  cases x with
  | none => simp [isBlk] at h
  | some b => rfl
theorem sl_some {x : Option Bk} (h : isSl x = true) : x.isSome = true := by
  cases x with
  | none => simp [isSl] at h
  | some b => rfl
theorem el_sl {x : Option Bk} {sz idx : Nat} (h : elOk x sz idx) : isSl x = true := by
  cases x with
  | none => exact h.elim
  | some b => cases b <;> first | rfl | exact h.elim

section
variable {ρ ρ' : Nm} {hp hp' : Nat → Option Bk}

theorem Sc.con_ext (h : Ext ρ hp ρ' hp') {x : Sc} (hx : x.ok hp) : x.con ρ' = x.con ρ := by
  cases x with
  | p i off => simp only [Sc.con]; rw [(h.keep i (blk_some hx)).2.1]
  | sl i => simp only [Sc.con]; rw [(h.keep i (sl_some hx)).2.2]
  | e i sz idx off => simp only [Sc.con]; rw [(h.keep i (sl_some (el_sl hx))).2.2]
  | fn f caps =>
    simp only [Sc.con]
    congr 2
    apply List.map_congr_left
    intro i hi
    rw [(h.keep i (blk_some (hx i hi))).2.1]
  | opq => simp only [Sc.con, h.f]
  | v x => rfl

theorem Sc.ok_ext (h : ∀ i, (hp i).isSome = true → Keep (hp i) (hp' i)) {x : Sc} (hx : x.ok hp) : x.ok hp' := by
  cases x with
  | v x => exact hx
  | p i off => exact (h i (blk_some hx)).blk hx
  | sl i => exact (h i (sl_some hx)).sl hx
  | e i sz idx off => exact (h i (sl_some (el_sl hx))).el _ _ hx
  | fn f caps => exact fun i hi => (h i (blk_some (hx i hi))).blk (hx i hi)
  | opq => trivial

theorem AV.con_ext (h : Ext ρ hp ρ' hp') {x : AV} (hx : ∀ y ∈ x.cells, y.ok hp) : x.con ρ' = x.con ρ := by
  cases x with
  | s y => exact Sc.con_ext h (hx y (by simp [AV.cells]))
  | agg l =>
    simp only [AV.con]
    congr 2
    exact List.map_congr_left fun y hy => Sc.con_ext h (hx y hy)

theorem FV.con_ext (h : Ext ρ hp ρ' hp') {x : FV} (hx : x.ok hp) : x.con ρ' = x.con ρ := by
  cases x with
  | a y => exact AV.con_ext h hx
  | tup l =>
    simp only [FV.con]
    congr 2
    exact List.map_congr_left fun y hy => AV.con_ext h fun z hz => hx z (by simp only [FV.scs, List.mem_flatMap]; exact ⟨y, hy, hz⟩)
  | bad => rfl

theorem FV.ok_ext (h : ∀ i, (hp i).isSome = true → Keep (hp i) (hp' i)) {x : FV} (hx : x.ok hp) : x.ok hp' :=
  fun y hy => Sc.ok_ext h (hx y hy)
end

/-- A frame, named. -/
structure FR (ρ : Nm) (hp : Nat → Option Bk) (fr : Nat → FV) (N : Nat) (a : Act) : Prop where
  size : a.tmps.size = N
  val : ∀ t, fr t ≠ .bad → a.tmps.getD t undef = (fr t).con ρ
  ok : ∀ t, (fr t).ok hp
  nodef : a.defers = ρ.f.d

theorem undef_con (ρ : Nm) : undefF.con ρ = undef := rfl

theorem Ext.keeps {ρ ρ' : Nm} {hp hp' : Nat → Option Bk} (h : Ext ρ hp ρ' hp') : ∀ i, (hp i).isSome = true → Keep (hp i) (hp' i) := fun i hi => (h.keep i hi).1

theorem FR.put {ρ ρ' : Nm} {hp hp' : Nat → Option Bk} {fr : Nat → FV} {N : Nat} {a : Act} (h : FR ρ hp fr N a) (he : Ext ρ hp ρ' hp')
    {dst : Option Tmp} (hd : ∀ d, dst = some d → d < N) {v : FV} (hv : v.ok hp') : FR ρ' hp' (putF fr dst v) N (a.put dst (v.con ρ')) := by
  cases dst with
  | none =>
    exact ⟨h.size, fun t ht => by rw [show putF fr none v = fr from rfl] at ht ⊢; rw [FV.con_ext he (h.ok t)]; exact h.val t ht, fun t => FV.ok_ext he.keeps (h.ok t), by rw [he.f]; exact h.nodef⟩
  | some d =>
    have hd' := hd d rfl
    refine ⟨by simp [Act.put, h.size], fun t hnb => ?_, fun t => ?_, by rw [he.f]; exact h.nodef⟩
    · by_cases ht : t = d
      · subst ht
        simp only [putF, upd_same, Act.put]
        simp [h.size, hd']
      · simp only [putF, upd_ne ht, Act.put] at hnb ⊢
        rw [FV.con_ext he (h.ok t), ← h.val t hnb]
        simp [Array.getElem?_setIfInBounds_ne (Ne.symm ht)]
    · by_cases ht : t = d
      · subst ht; simp only [putF, upd_same]; exact hv
      · simp only [putF, upd_ne ht]; exact FV.ok_ext he.keeps (h.ok t)

section
variable {ρ : Nm} {hp : Nat → Option Bk} {fr : Nat → FV} {N : Nat} {a : Act}

theorem FR.eval (h : FR ρ hp fr N a) {x : Operand} (hx : rd fr x ≠ .bad) : a.eval x = (rd fr x).con ρ := by
  cases x with
  | tmp t => exact h.val t hx
  | const v =>
    simp only [rd, cst] at hx ⊢
    cases hv : v.oneCell' with
    | false => simp [hv] at hx
    | true => simp [hv, Act.eval, FV.con, AV.con, Sc.con]
  | global g => rfl
  | func f => rfl

theorem FR.rdok (h : FR ρ hp fr N a) (x : Operand) : (rd fr x).ok hp := by
  cases x with
  | tmp t => exact h.ok t
  | const v =>
    simp only [rd, cst]
    cases hv : v.oneCell' with
    | false => intro y hy; simp [FV.scs] at hy
    | true =>
      intro y hy
      simp [FV.scs, AV.cells] at hy
      subst hy
      exact hv
  | global g => intro y hy; simp [rd, FV.scs, AV.cells] at hy; subst hy; rfl
  | func f => intro y hy; simp [rd, FV.scs, AV.cells] at hy; subst hy; rfl

theorem FR.eval' (h : FR ρ hp fr N a) {x : Operand} {y : FV} (hx : rd fr x = y) (hy : y ≠ .bad) : a.eval x = y.con ρ := by
  rw [← hx]; exact h.eval (by rw [hx]; exact hy)

theorem FR.rdok1 (h : FR ρ hp fr N a) {x : Operand} {y : Sc} (hx : rd fr x = .a (.s y)) : y.ok hp := by
  have := h.rdok x
  rw [hx] at this
  exact this y (by simp [FV.scs, AV.cells])
end

/-! ### How worlds go on -/

theorem upd_some {hp : Nat → Option Bk} {id : Nat} {b : Bk} {i : Nat} {c : Bk} (h : upd hp id (some b) i = some c) : (i = id ∧ c = b) ∨ (i ≠ id ∧ hp i = some c) := by
  by_cases hi : i = id
  · subst hi; rw [upd_same] at h; cases h; exact .inl ⟨rfl, rfl⟩
  · rw [upd_ne hi] at h; exact .inr ⟨hi, h⟩

theorem Fact.world {w0 w w' : World} {ρ : Nm} {hp : Nat → Option Bk} {i : Nat} {b : Bk} (hi : hp i = some b) (h : Fact w0 w ρ (ρ.b i) (ρ.s i) b) (hblk : ∀ g, blkOf ρ hp i = some g → w'.heap[g]? = w.heap[g]?) : Fact w0 w' ρ (ρ.b i) (ρ.s i) b := by
  cases b with
  | own cs =>
    obtain ⟨h1, t, h2⟩ := h
    exact ⟨h1, t, by rw [hblk (ρ.b i) (by simp [blkOf, hi])]; exact h2⟩
  | ro cs => exact h
  | dead => exact h
  | sl d m =>
    cases m with
    | ro => exact h
    | mine m =>
      obtain ⟨h0, e, h1, h2, h3⟩ := h
      refine ⟨h0, e, h1, h2, ?_⟩
      rcases h3 with h3 | ⟨g, cap, cur, hv, hb, hg, rest⟩
      · exact .inl h3
      · refine .inr ⟨g, cap, cur, hv, hb, ?_, rest⟩
        rw [hblk g (by simp [blkOf, hi, hv, Value.ownBlock])]
        exact hg

/-- The blocks of one's own stay. -/
theorem WR.world {w0 w w' : World} {ρ : Nm} {hp : Nat → Option Bk} (h : WR w0 ρ hp w) (hb : BelM ρ.f.m w0 w') (hs : ∀ i b, blkOf ρ hp i = some b → w'.heap[b]? = w.heap[b]?) : WR w0 ρ hp w' :=
  ⟨hb, h.fone, fun i b hi => Fact.world hi (h.fact i b hi) fun g hg => hs i g hg, h.ok, h.excl, h.pin⟩

theorem WR.blk_lt {w0 w : World} {ρ : Nm} {hp : Nat → Option Bk} (h : WR w0 ρ hp w) {i b : Nat} (hb : blkOf ρ hp i = some b) : (w0.heap.size ≤ b ∨ ρ.f.m b) ∧ b < w.heap.size := by
  unfold blkOf at hb
  split at hb
  · rename_i cs hi
    cases hb
    obtain ⟨h1, t, h2⟩ := h.fact i _ hi
    exact ⟨h1, (Array.getElem?_eq_some_iff.1 h2).1⟩
  · rename_i d m hi
    obtain ⟨_, e, _, h2⟩ := h.fact i _ hi
    exact ⟨.inl (h2.lt b hb).1, (h2.lt b hb).2⟩
  · cases hb

def Nm.set (ρ : Nm) (id b : Nat) (s : Value) : Nm := ⟨upd ρ.b id b, upd ρ.s id s, ρ.f⟩

theorem Nm.set_ext {ρ : Nm} {hp : Nat → Option Bk} {id b : Nat} {s : Value} {bk : Bk} (hid : hp id = none) : Ext ρ hp (ρ.set id b s) (upd hp id (some bk)) := by
  refine ⟨fun i hi => ?_, rfl⟩
  have hne : i ≠ id := fun e => by subst e; rw [hid] at hi; cases hi
  exact ⟨by rw [upd_ne hne]; exact Keep.refl _, by simp only [Nm.set]; rw [upd_ne hne], by simp only [Nm.set]; rw [upd_ne hne]⟩

theorem Fact.ext {w0 w : World} {ρ ρ' : Nm} {b : Nat} {s : Value} {bk : Bk} (h : Fact w0 w ρ b s bk) (hm : ρ'.f = ρ.f) (hc : ∀ cs, bk = .own cs → cs.map (Sc.con ρ') = cs.map (Sc.con ρ)) : Fact w0 w ρ' b s bk := by
  cases bk with
  | own cs =>
    obtain ⟨h1, t, h2⟩ := h
    exact ⟨by rw [hm]; exact h1, t, by rw [hc cs rfl]; exact h2⟩
  | ro cs => simp only [Fact, hm]; exact h
  | dead => exact h
  | sl d m => cases m <;> simp only [Fact, hm] <;> exact h

theorem Bk.ok_ext {hp hp' : Nat → Option Bk} (h : ∀ i, (hp i).isSome = true → Keep (hp i) (hp' i)) {b : Bk} (hb : b.ok hp) : b.ok hp' := by
  cases b with
  | own cs => exact fun x hx => Sc.ok_ext h (hb x hx)
  | _ => trivial

/-- A name more. -/
theorem WR.add {w0 w : World} {ρ : Nm} {hp : Nat → Option Bk} (h : WR w0 ρ hp w) {id : Nat} (hid : hp id = none) {bk : Bk} (hok : bk.ok hp) {b : Nat} {s : Value} (hf : Fact w0 w ρ b s bk)
    (hx : ∀ g, blkOf (ρ.set id b s) (upd hp id (some bk)) id = some g → ∀ j, blkOf ρ hp j ≠ some g) : WR w0 (ρ.set id b s) (upd hp id (some bk)) w := by
  have hE : Ext ρ hp (ρ.set id b s) (upd hp id (some bk)) := Nm.set_ext hid
  have hcs : ∀ {c : Bk}, c.ok hp → ∀ cs, c = .own cs → cs.map (Sc.con (ρ.set id b s)) = cs.map (Sc.con ρ) := by
    intro c hc cs e
    subst e
    exact List.map_congr_left fun x hx => Sc.con_ext hE (hc x hx)
  have hbo : ∀ j, j ≠ id → blkOf (ρ.set id b s) (upd hp id (some bk)) j = blkOf ρ hp j := by
    intro j hj
    simp only [blkOf, upd_ne hj, Nm.set]
  refine ⟨h.below, h.fone, fun i c hi => ?_, fun i c hi => ?_, fun i j g hi hj => ?_, fun g hg => ?_⟩
  · rcases upd_some hi with ⟨rfl, rfl⟩ | ⟨hne, hi'⟩
    · have : Fact w0 w (ρ.set i b s) b s c := hf.ext rfl (hcs hok)
      simpa [Nm.set, upd_same] using this
    · have : Fact w0 w (ρ.set id b s) (ρ.b i) (ρ.s i) c := (h.fact i c hi').ext rfl (hcs (h.ok i c hi'))
      simpa [Nm.set, upd_ne hne] using this
  · rcases upd_some hi with ⟨rfl, rfl⟩ | ⟨hne, hi'⟩
    · exact Bk.ok_ext hE.keeps hok
    · exact Bk.ok_ext hE.keeps (h.ok i c hi')
  · by_cases h1 : i = id
    · by_cases h2 : j = id
      · rw [h1, h2]
      · subst h1
        rw [hbo j h2] at hj
        exact absurd hj (hx g hi j)
    · by_cases h2 : j = id
      · subst h2
        rw [hbo i h1] at hi
        exact absurd hi (hx g hj i)
      · rw [hbo i h1] at hi
        rw [hbo j h2] at hj
        exact h.excl i j g hi hj
  · obtain ⟨h1, h2⟩ := h.pin g hg
    have hne : (0 : Nat) ≠ id := fun e => by subst e; rw [hid] at h2; cases h2
    simp only [Nm.set]
    rw [upd_ne hne, upd_ne hne]
    exact ⟨h1, h2⟩

/-- A block that holds something else. -/
theorem WR.put {w0 w w' : World} {ρ : Nm} {hp : Nat → Option Bk} (h : WR w0 ρ hp w) {i : Nat} {bk : Bk} (hsome : (hp i).isSome = true) (hk : Keep (hp i) (some bk)) (hok : bk.ok hp) (hb : BelM ρ.f.m w0 w')
    (hs : ∀ j b, j ≠ i → blkOf ρ hp j = some b → w'.heap[b]? = w.heap[b]?) (hf : Fact w0 w' ρ (ρ.b i) (ρ.s i) bk)
    (hx : ∀ g, blkOf ρ (upd hp i (some bk)) i = some g → blkOf ρ hp i = some g) : WR w0 ρ (upd hp i (some bk)) w' := by
  have hkeep : ∀ j, (hp j).isSome = true → Keep (hp j) (upd hp i (some bk) j) := by
    intro j hj
    by_cases hji : j = i
    · subst hji; rw [upd_same]; exact hk
    · rw [upd_ne hji]; exact Keep.refl _
  have hbo : ∀ j, j ≠ i → blkOf ρ (upd hp i (some bk)) j = blkOf ρ hp j := by
    intro j hj
    simp only [blkOf, upd_ne hj]
  have hbo' : ∀ j g, blkOf ρ (upd hp i (some bk)) j = some g → blkOf ρ hp j = some g := by
    intro j g hj
    by_cases hji : j = i
    · subst hji; exact hx g hj
    · rw [← hbo j hji]; exact hj
  refine ⟨hb, h.fone, fun j c hj => ?_, fun j c hj => ?_, fun j k g hj hk => h.excl j k g (hbo' j g hj) (hbo' k g hk), fun g hg => ⟨(h.pin g hg).1, (hkeep 0 (blk_some (h.pin g hg).2)).blk (h.pin g hg).2⟩⟩
  · rcases upd_some hj with ⟨rfl, rfl⟩ | ⟨hne, hj'⟩
    · exact hf
    · exact Fact.world hj' (h.fact j c hj') fun g hg => hs j g hne hg
  · rcases upd_some hj with ⟨rfl, rfl⟩ | ⟨hne, hj'⟩
    · exact Bk.ok_ext hkeep hok
    · exact Bk.ok_ext hkeep (h.ok j c hj')

/-! ### What is asked of an operation -/

/-- Carried out in 'w', it leaves 'v' and the blocks as 'e' says. -/
def OpOk (P : Program) (o : Oper) (a : Act) (w0 : World) (ρ : Nm) (hp : Nat → Option Bk) (w : World) (id : Nat) (v : FV) (e : Eff) : Prop :=
  ∀ (K : Act → World → Prop) (Q : Exit → Act → World → Prop),
    (∀ ρ' w', WR w0 ρ' (e.on id hp) w' → Ext ρ hp ρ' (e.on id hp) → v.ok (e.on id hp) → K (a.put o.dst (v.con ρ')) w') → o.wp P a w K Q

theorem setRow_other (w : World) (g : Nat) (cur : Array Value) (b : Nat) (h : b ≠ g) : (w.setRow g cur).heap[b]? = w.heap[b]? := by
  unfold World.setRow
  simp only [Array.getElem?_modify]
  rw [if_neg (Ne.symm h)]

section
variable {P : Program} {o : Oper} {a : Act} {w0 w : World} {ρ : Nm} {hp : Nat → Option Bk} {id : Nat} {v : FV}

theorem OpOk.value (hW : WR w0 ρ hp w) (hv : v.ok hp) (hr : (execOp a.eval o).run P w = .ok (.value (v.con ρ)) w) : OpOk P o a w0 ρ hp w id v .no := by
  intro K Q hK
  unfold Oper.wp
  rw [hr]
  exact hK ρ w hW (Ext.refl _ _) hv

theorem OpOk.new (hW : WR w0 ρ hp w) (hid : hp id = none) {cs : List Sc} (hcs : ∀ x ∈ cs, x.ok hp) {t : TypeId}
    (hr : (execOp a.eval o).run P w = .ok (.value (.pointer (some ⟨w.heap.size, 0, none⟩))) (w.alloc (.cells (cs.map (Sc.con ρ)).toArray t (0, 0)))) :
    OpOk P o a w0 ρ hp w id (.a (.s (.p id 0))) (.new (.own cs)) := by
  intro K Q hK
  unfold Oper.wp
  rw [hr]
  have h1 : WR w0 ρ hp (w.alloc (.cells (cs.map (Sc.con ρ)).toArray t (0, 0))) :=
    hW.world (hW.below.trans ((Below.refl _ w).alloc (Nat.le_refl _) _)) fun i b hb => Below.heap_alloc w _ b (hW.blk_lt hb).2
  have h2 := h1.add hid (bk := .own cs) hcs (b := w.heap.size) (s := undef) ⟨.inl hW.below.size, t, heap_alloc_new w _⟩ (by
    intro g hg j hj
    simp [blkOf, upd_same, Nm.set] at hg
    subst hg
    have := (hW.blk_lt hj).2
    omega)
  have := hK _ _ h2 (Nm.set_ext hid) (by intro y hy; simp [FV.scs, AV.cells] at hy; subst hy; simp [Sc.ok, Eff.on, upd_same, isBlk])
  simpa [FV.con, AV.con, Sc.con, upd_same, Oper.upon, Nm.set] using this

/-- A new row. -/
theorem OpOk.row (hW : WR w0 ρ hp w) (hid : hp id = none) {d : Dat} {m : Option Nat} {e : Nat} {s : Value} {w' : World} (hone : s.oneCell' = true) (hm : ∀ e', m = some e' → e' = e)
    (how : w'.ownsRow w0.heap.size e d.sz s d.n d.flat) (hgr : Below w.heap.size w w') (hnew : ∀ g, s.ownBlock = some g → w.heap.size ≤ g)
    (hr : (execOp a.eval o).run P w = .ok (.value s) w') : OpOk P o a w0 ρ hp w id (.a (.s (.sl id))) (.new (.sl d (.mine m))) := by
  intro K Q hK
  unfold Oper.wp
  rw [hr]
  have h1 : WR w0 ρ hp w' := hW.world (hW.below.trans hgr) fun i b hb => hgr.block b (hW.blk_lt hb).2
  have h2 := h1.add hid (bk := .sl d (.mine m)) trivial (b := 0) (s := s) ⟨hone, e, hm, how⟩ (by
    intro g hg j hj
    simp [blkOf, upd_same, Nm.set] at hg
    have := (hW.blk_lt hj).2
    have := hnew g hg
    omega)
  have := hK _ _ h2 (Nm.set_ext hid) (by intro y hy; simp [FV.scs, AV.cells] at hy; subst hy; simp [Sc.ok, Eff.on, upd_same, isSl])
  simpa [FV.con, AV.con, Sc.con, upd_same, Oper.upon, Nm.set] using this

theorem OpOk.set (hW : WR w0 ρ hp w) {i : Nat} {old cs : List Sc} (hi : hp i = some (.own old)) (hcs : ∀ x ∈ cs, x.ok hp)
    (hr : (execOp a.eval o).run P w = .ok .skip (w.setRow (ρ.b i) (cs.map (Sc.con ρ)).toArray)) :
    OpOk P o a w0 ρ hp w id undefF (.set i (.own cs)) := by
  intro K Q hK
  unfold Oper.wp
  rw [hr]
  obtain ⟨hb0, t, hold⟩ := hW.fact i _ hi
  have h1 := hW.put (i := i) (bk := .own cs) (w' := w.setRow (ρ.b i) (cs.map (Sc.con ρ)).toArray) (by rw [hi]; rfl) (by rw [hi]; exact ⟨fun _ => rfl, fun h => h, fun _ _ h => h⟩) hcs
    ⟨hW.below.os, hW.below.tape, hW.below.output, Nat.le_trans hW.below.size (by simp [World.setRow]), fun k hk hm => (setRow_other _ _ _ _ (fun e => by subst e; rcases hb0 with h | h; omega; exact hm h)).trans (hW.below.block k hk hm)⟩
    (fun j b hj hb => setRow_other _ _ _ _ (fun e => hj (hW.excl j i b hb (by rw [e]; simp [blkOf, hi]))))
    ⟨hb0, t, setRow_heap w _ _ _ t _ hold⟩ (by intro g hg; simp [blkOf, upd_same] at hg; simp [blkOf, hi, hg])
  refine hK ρ _ h1 ⟨fun k hk => ⟨?_, rfl, rfl⟩, rfl⟩ (by intro y hy; simp [undefF, FV.scs] at hy)
  by_cases h : k = i
  · subst h; simp only [Eff.on, upd_same, hi]; exact ⟨fun _ => rfl, fun h => h, fun _ _ h => h⟩
  · simp only [Eff.on, upd_ne h]; exact Keep.refl _
end

end Go.Proofs.Ytmmlpaehehgfnaa.Sx
