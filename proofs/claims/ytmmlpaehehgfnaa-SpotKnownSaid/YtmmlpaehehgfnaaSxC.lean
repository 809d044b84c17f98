/-
  What this text proves: what is handed over and back ('toD', 'ofR'), and what a function's contract says ('SoundAt').
  Conditions: none.
-/
import Derived.Test.YtmmlpaehehgfnaaSxB
namespace Go.Proofs.Ytmmlpaehehgfnaa.Sx
open Go.RowKit
set_option linter.unusedSimpArgs false
set_option linter.unusedVariables false

def callable (P : Program) (f : FuncId) : Bool :=
  match P.funcs[f]? with
  | some fn => fn.body.isSome && !(fn.name == "runtime.NumGoroutine")
  | none => false

/-! ### What is handed over -/

def HoldC (w : World) : List Nat → List (List Value) → Prop
  | [], [] => True
  | b :: bs, c :: cs => ((∀ v ∈ c, v.oneCell' = true) ∧ ∃ t, w.heap[b]? = some (.cells c.toArray t (0, 0))) ∧ HoldC w bs cs
  | _, _ => False

def Sd.holds (F : Value) (w : World) : Sd → Value → Prop
  | .v x, y => y = x ∧ x.oneCell' = true
  | .sl d _, y => SlAt w y d
  | .r cs, y => (∀ v ∈ cs, v.oneCell' = true) ∧ ∃ b t, y = ptr b ∧ w.heap[b]? = some (.cells cs.toArray t (0, 0))
  | .opq, y => y = F ∧ F.oneCell' = true
  | .clo f cs, y => ∃ bs : List Nat, y = .func (.func f) #[] (bs.map ptr).toArray ∧ HoldC w bs cs
  | .p .., _ => False

def holdsL (F : Value) (w : World) : List Sd → List Value → Prop
  | [], [] => True
  | x :: l, y :: m => x.holds F w y ∧ holdsL F w l m
  | _, _ => False

def AD.holds (F : Value) (w : World) : AD → Value → Prop
  | .s x, y => x.holds F w y
  | .agg l, y => ∃ m, y = .agg (List.toArray m) ∧ holdsL F w l m

def holdsA (F : Value) (w : World) : List AD → List Value → Prop
  | [], [] => True
  | x :: l, y :: m => x.holds F w y ∧ holdsA F w l m
  | _, _ => False

/-! ### What is handed back -/

def Sd.back (base : Nat) (w : World) : Sd → Value → Prop
  | .v x, y => y = x ∧ x.oneCell' = true
  | .sl d _, y => y.oneCell' = true ∧ ∃ e, w.ownsRow base e d.sz y d.n d.flat
  | _, _ => False

def backL (base : Nat) (w : World) : List Sd → List Value → Prop
  | [], [] => True
  | x :: l, y :: m => x.back base w y ∧ backL base w l m
  | _, _ => False

def AD.back (base : Nat) (w : World) : AD → Value → Prop
  | .s x, y => x.back base w y
  | .agg l, y => ∃ m, y = .agg (List.toArray m) ∧ backL base w l m

def backA (base : Nat) (w : World) : List AD → List Value → Prop
  | [], [] => True
  | x :: l, y :: m => x.back base w y ∧ backA base w l m
  | _, _ => False

def RD.back (base : Nat) (w : World) : RD → Value → Prop
  | .a x, y => x.back base w y
  | .tup l, y => ∃ m, y = .tuple (List.toArray m) ∧ backA base w l m

def Comes (w : World) (r : RD) (e : Ending) (w' : World) : Prop := ∃ v, e = .returned v ∧ Below w.heap.size w w' ∧ r.back w.heap.size w' v

/-- Function f, called with these, hands back r, in whatever world of which 'I' holds, and makes new memory alone. F: the function that nothing is known of. -/
structure SoundAt (P : Program) (F : Value) (I : World → Prop) (f : FuncId) (args : List AD) (r : RD) : Prop where
  call : callable P f = true
  run : ∀ w vs, I w → holdsA F w args vs → Calls P f vs.toArray w (Comes w r)

/-- Equal, cell by cell, of values. -/
def eqV : List Lf → List Value → List Value → Option Bool
  | [], [], [] => some true
  | f :: s, x :: l, y :: m => match eqC f x y, eqV s l m with
    | some a, some r => some (a && r)
    | _, _ => none
  | _, _, _ => none

theorem eqS_V : ∀ {s : List Lf} {l m : List Sc} {b : Bool}, eqS s l m = some b → ∃ l' m' : List Value, l = l'.map .v ∧ m = m'.map .v ∧ eqV s l' m' = some b
  | [], [], [], b, h => ⟨[], [], rfl, rfl, h⟩
  | f :: s, .v x :: l, .v y :: m, b, h => by
    simp only [eqS] at h
    split at h
    · rename_i a r h1 h2
      obtain ⟨l', m', rfl, rfl, e⟩ := eqS_V h2
      exact ⟨x :: l', y :: m', rfl, rfl, by simp only [eqV, h1, e]; exact h⟩
    · cases h
  | [], _ :: _, _, _, h => by simp [eqS] at h
  | [], [], _ :: _, _, h => by simp [eqS] at h
  | _ :: _, [], _, _, h => by simp [eqS] at h
  | _ :: _, .v _ :: _, [], _, h => by simp [eqS] at h
  | _ :: _, .p .. :: _, _, _, h => by simp [eqS] at h
  | _ :: _, .sl _ :: _, _, _, h => by simp [eqS] at h
  | _ :: _, .e .. :: _, _, _, h => by simp [eqS] at h
  | _ :: _, .fn .. :: _, _, _, h => by simp [eqS] at h
  | _ :: _, .opq :: _, _, _, h => by simp [eqS] at h
  | _ :: _, .v _ :: _, .p .. :: _, _, h => by simp [eqS] at h
  | _ :: _, .v _ :: _, .sl _ :: _, _, h => by simp [eqS] at h
  | _ :: _, .v _ :: _, .e .. :: _, _, h => by simp [eqS] at h
  | _ :: _, .v _ :: _, .fn .. :: _, _, h => by simp [eqS] at h
  | _ :: _, .v _ :: _, .opq :: _, _, h => by simp [eqS] at h

def EqOk (P : Program) (t : TypeId) (s : List Lf) : Prop := ∀ l m b, eqV s l m = some b → ∀ (w : World) (x y : Operand),
  ((do eqGuard .eql t x y (.agg l.toArray) (.agg m.toArray); binOp .eql t (.agg l.toArray) (.agg m.toArray)) : Sem Value).run P w = .ok (.bool b) w ∧
  ((do eqGuard .neq t x y (.agg l.toArray) (.agg m.toArray); binOp .neq t (.agg l.toArray) (.agg m.toArray)) : Sem Value).run P w = .ok (.bool !b) w

structure EnvOk (X : Env) (F : FM) (I : World → Prop) : Prop where
  T : ∀ e ∈ X.T, TEok X.P e
  E : ∀ f l r, X.E f l = some (true, r) → SoundAt X.P F.f I f l r
  Q : ∀ p ∈ X.Q, EqOk X.P p.1 p.2
  fn : X.fn = true → ∃ f a b, F.f = .func f a b
  G : ∀ l r, X.G l = some (true, r) → ∃ f cs, F.f = .func (.func f) #[] cs ∧ callable X.P f = true ∧ ∀ w vs, I w → holdsA F.f w l vs → Calls X.P f (vs.toArray ++ cs) w (Comes w r)
  stab : ∀ w w', I w → BelM F.m w w' → I w'

/-! ### Types -/

section
variable {P : Program} {e : TE}

theorem TEok.zero (h : TEok P e) (w : World) : (zeroValue e.t).run P w = .ok (zeroV e.k e.zero) w := by
  have hi := h.info
  cases hq : P.info? e.t with
  | none => simp [hq] at hi
  | some i =>
    simp [hq] at hi
    simp [zeroValue, typeInfo, hq, hi.2]

theorem vmap_con (l : List Value) (ρ : Nm) : (l.map Sc.v).map (Sc.con ρ) = l := by
  rw [List.map_map]
  conv => rhs; rw [← List.map_id l]
  exact List.map_congr_left fun x _ => rfl

theorem TEok.zcells (h : TEok P e) (ρ : Nm) : (zeroV e.k e.zero).cells = ((e.zero.map Sc.v).map (Sc.con ρ)).toArray := by
  have hm : (e.zero.map Sc.v).map (Sc.con ρ) = e.zero := vmap_con _ ρ
  rw [hm]
  unfold zeroV
  split
  · rfl
  · rfl
  · rename_i h1 h2
    have hag : e.k.agg = false := by
      cases hk : e.k with
      | str fl => exact absurd hk (h1 fl)
      | arr n sz ag => exact absurd hk (h2 n sz ag)
      | scal => rfl
      | slc _ _ _ => rfl
    have hl := h.len
    rw [h.one hag] at hl
    match hz : e.zero, hl with
    | [x], _ =>
      have hc := h.cell
      rw [hz] at hc
      simp at hc
      cases x <;> simp_all [Value.cells, Value.oneCell']

theorem TEok.size_run (h : TEok P e) (w : World) : (sizeOf e.t).run P w = .ok e.size w := by
  have hi := h.info
  cases hq : P.info? e.t with
  | none => simp [hq] at hi
  | some i =>
    simp [hq] at hi
    simp [sizeOf, typeInfo, hq, hi.1]

theorem TEok.agg_run (h : TEok P e) (w : World) : (isAgg e.t).run P w = .ok e.k.agg w := by
  have hk := h.kind
  have hp : e.k.agg = e.k.plain.agg := by cases e.k <;> rfl
  rw [hp]
  unfold tdesc at hk
  cases hu : P.underlying e.t with
  | none => simp [hu] at hk
  | some d =>
    cases d <;> simp [hu] at hk <;> simp [isAgg, run_underlying hu, ← hk, TK.agg]

end

theorem av_cells (x : AV) (ρ : Nm) (h : ∀ y ∈ x.cells, (y.con ρ).oneCell' = true) : (x.con ρ).cells = (x.cells.map (Sc.con ρ)).toArray := by
  cases x with
  | s y =>
    simp only [AV.con, AV.cells]
    have := h y (by simp [AV.cells])
    cases hy : y.con ρ <;> simp_all [Value.cells, Value.oneCell']
  | agg l => rfl

theorem ok_one {w0 w : World} {ρ : Nm} {hp : Nat → Option Bk} (hW : WR w0 ρ hp w) {y : Sc} (h : y.ok hp) : (y.con ρ).oneCell' = true := by
  cases y with
  | v x => exact h
  | p i off => rfl
  | e i sz idx off => rfl
  | fn f cs => rfl
  | opq => exact hW.fone
  | sl i =>
    simp only [Sc.ok] at h
    cases hi : hp i with
    | none => rw [hi] at h; simp [isSl] at h
    | some b =>
      rw [hi] at h
      have hf := hW.fact i b hi
      cases b with
      | own cs => simp [isSl] at h
      | ro cs => simp [isSl] at h
      | dead => exact hf
      | sl d m => cases m <;> exact hf.1

theorem setAt_map {α : Type} (f : α → Value) (cs : List α) (off : Nat) (l : List α) : (setAt cs off l).map f = (cs.map f).take off ++ l.map f ++ (cs.map f).drop (off + (l.map f).length) := by
  simp [setAt, List.map_take, List.map_drop]

theorem mem_setAt {α : Type} {cs : List α} {off : Nat} {l : List α} {x : α} (h : x ∈ setAt cs off l) : x ∈ cs ∨ x ∈ l := by
  simp only [setAt, List.mem_append] at h
  rcases h with (h | h) | h
  · exact .inl (List.mem_of_mem_take h)
  · exact .inr h
  · exact .inl (List.mem_of_mem_drop h)

theorem foldl_set (vs : List Value) : ∀ (k off : Nat) (cs : Array Value), off + k + vs.length ≤ cs.size →
    (vs.zipIdx k).foldl (fun cs (x : Value × Nat) => cs.setIfInBounds (off + x.2) x.1) cs = (cs.toList.take (off + k) ++ vs ++ cs.toList.drop (off + k + vs.length)).toArray := by
  induction vs with
  | nil => intro k off cs _; simp
  | cons v vs ih =>
    intro k off cs h
    simp only [List.zipIdx_cons, List.foldl_cons]
    rw [ih (k + 1) off _ (by simp at h ⊢; omega)]
    congr 1
    have e := list_seg_step cs.toList (off + k) v vs (by simp at h ⊢; omega)
    simpa [Array.toList_setIfInBounds, Nat.add_assoc] using e

theorem fill_sound {w0 w : World} {ρ : Nm} {hp : Nat → Option Bk} (hW : WR w0 ρ hp w) (place : Nat → Option (Nat × Nat)) :
    ∀ (parts : List (Nat × FV)) (cells l : List Sc), fillS place cells parts = some l → (∀ x ∈ cells, x.ok hp) → (∀ p ∈ parts, p.2.ok hp) →
      Instr.fill place (cells.map (Sc.con ρ)).toArray (parts.map fun p => (p.1, p.2.con ρ)) = some (l.map (Sc.con ρ)).toArray ∧ ∀ x ∈ l, x.ok hp
  | [], cells, l, h, hc, _ => by
    simp [fillS] at h; subst h
    exact ⟨rfl, hc⟩
  | (i, .a x) :: rest, cells, l, h, hc, hp => by
    simp only [fillS] at h
    cases hpl : place i with
    | none => simp [hpl] at h
    | some os =>
      obtain ⟨off, size⟩ := os
      simp only [hpl] at h
      cases hb : (Nat.beq x.cells.length size && Nat.ble (off + size) cells.length) with
      | false => simp [hb] at h
      | true =>
        simp only [hb, cond_true] at h
        simp only [Bool.and_eq_true] at hb
        have h1 := Nat.eq_of_beq_eq_true hb.1
        have h2 := Nat.le_of_ble_eq_true hb.2
        have hx : ∀ y ∈ x.cells, y.ok _ := fun y hy => hp _ List.mem_cons_self y hy
        obtain ⟨e1, e2⟩ := fill_sound hW place rest _ l h (fun y hy => (mem_setAt hy).elim (hc y) (hx y)) (fun p hp' => hp p (List.mem_cons_of_mem _ hp'))
        refine ⟨?_, e2⟩
        simp only [List.map_cons, Instr.fill, hpl]
        have hcc := av_cells x ρ (fun y hy => ok_one hW (hx y hy))
        simp only [FV.con, hcc]
        rw [if_neg (by simp [h1]; omega)]
        have hf := foldl_set (x.cells.map (Sc.con ρ)) 0 off (cells.map (Sc.con ρ)).toArray (by simp; omega)
        simp only [Nat.add_zero] at hf
        rw [setAt_map] at e1
        rw [← e1]
        congr 1
        simpa using hf
  | (i, .tup x) :: rest, cells, l, h, hc, hp => by simp [fillS] at h
  | (i, .bad) :: rest, cells, l, h, hc, hp => by simp [fillS] at h


theorem no_some {x : Option FV} {v : FV} {e : Eff} (h : no x = some (v, e)) : x = some v ∧ e = .no := by
  cases x with
  | none => simp [no] at h
  | some y => simp [no] at h; exact ⟨by rw [h.1], h.2.symm⟩

theorem vmap_ok {l : List Value} (h : ∀ v ∈ l, v.oneCell' = true) {hp : Nat → Option Bk} : ∀ x ∈ l.map Sc.v, x.ok hp := by
  intro x hx
  obtain ⟨y, hy, rfl⟩ := List.mem_map.1 hx
  exact h y hy

theorem vals_sound : ∀ {cs : List Sc} {l : List Value}, vals cs = some l → cs = l.map Sc.v
  | [], l, h => by simp [vals] at h; subst h; rfl
  | .v x :: r, l, h => by
    simp only [vals] at h
    split at h
    · rename_i m hm
      cases h
      rw [vals_sound hm]; rfl
    · cases h
  | .p .. :: _, l, h => by simp [vals] at h
  | .sl _ :: _, l, h => by simp [vals] at h
  | .e .. :: _, l, h => by simp [vals] at h
  | .fn .. :: _, l, h => by simp [vals] at h
  | .opq :: _, l, h => by simp [vals] at h

theorem vals_one {cs : List Sc} {l : List Value} (h : vals cs = some l) {hp : Nat → Option Bk} (hok : ∀ x ∈ cs, x.ok hp) : ∀ v ∈ l, v.oneCell' = true := by
  intro v hv
  have := vals_sound h
  exact hok (.v v) (by rw [this]; exact List.mem_map_of_mem hv)

section
variable {w0 w : World} {ρ : Nm} {hp : Nat → Option Bk}

theorem SlM.mono {m : Nat → Prop} {w w' : World} {v : Value} {d : Dat} (h : SlM m w v d) (hb : BelM m w w') (hs : 0 < d.sz) : SlAt w' v d := by
  obtain ⟨a, c, rfl, hc, h2⟩ := h
  refine ⟨a, c, rfl, hc, fun hn => ?_⟩
  obtain ⟨b, off, rfl, hm, h3⟩ := h2 hn
  refine ⟨b, off, rfl, id, fun j u hu => ?_⟩
  have hc := h3 j u hu
  have hlt := World.block_lt_of_cell? w _ hc
  exact (World.cell?_of_block (hb.block b hlt hm)).trans hc

theorem row_slAt {base e : Nat} {s : Value} {d : Dat} (h : w.ownsRow base e d.sz s d.n d.flat) : SlAt w s d := by
  rcases h.2 with ⟨rfl, hn⟩ | ⟨g, cap, cur, rfl, hb, hg, hnc, hcm, _⟩
  · exact ⟨none, 0, by rw [hn], ⟨by omega, by rw [hn]; exact Nat.zero_le _⟩, fun h => by omega⟩
  · refine ⟨_, cap, rfl, ⟨hnc, Nat.le_trans hnc hcm⟩, fun _ => ⟨g, 0, rfl, id, fun j u hu => ?_⟩⟩
    have := h.cells (g := g) rfl j u hu
    rwa [Addr.add_lit] at this

theorem Dat.sz_pos (d : Dat) : 0 < d.sz := by
  obtain ⟨k, l⟩ := d
  cases k <;> exact Nat.succ_pos _

theorem sl_at (hW : WR w0 ρ hp w) {i : Nat} {d : Dat} {m : Md} (hi : hp i = some (.sl d m)) : SlAt w (ρ.s i) d := by
  have hf := hW.fact i _ hi
  cases m with
  | ro => exact hf.2.mono hW.below d.sz_pos
  | mine m =>
    obtain ⟨_, e, _, h⟩ := hf
    exact row_slAt h

theorem contents_sound (hW : WR w0 ρ hp w) {i : Nat} {c : List Value} (h : contents hp i = some c) : (∀ v ∈ c, v.oneCell' = true) ∧ ∃ t, w.heap[ρ.b i]? = some (.cells c.toArray t (0, 0)) := by
  unfold contents at h
  split at h
  · rename_i cs hi
    obtain ⟨_, t, ht⟩ := hW.fact i _ hi
    have hv := vals_sound h
    refine ⟨vals_one h (hW.ok i _ hi), t, ?_⟩
    rw [ht, hv, vmap_con]
  · rename_i cs hi
    cases h
    obtain ⟨h1, hm, t, ht⟩ := hW.fact i _ hi
    exact ⟨h1, t, by rw [hW.below.block _ (Array.getElem?_eq_some_iff.1 ht).1 hm]; exact ht⟩
  · cases h

theorem conts_sound (hW : WR w0 ρ hp w) : ∀ {l : List Nat} {m : List (List Value)}, conts hp l = some m → HoldC w (l.map ρ.b) m
  | [], m, h => by simp [conts] at h; subst h; trivial
  | i :: r, m, h => by
    simp only [conts] at h
    split at h
    · rename_i c l hc hl
      cases h
      exact ⟨contents_sound hW hc, conts_sound hW hl⟩
    · cases h

theorem toD_sound (hW : WR w0 ρ hp w) {x : Sc} {y : Sd} (hx : x.ok hp) (h : toD hp x = some y) : y.holds ρ.f.f w (x.con ρ) := by
  unfold toD at h
  split at h
  · cases h; exact ⟨rfl, hx⟩
  · split at h
    · rename_i i d m hi
      cases h
      exact sl_at hW hi
    · cases h
  · rename_i i off
    cases hb : Nat.beq off 0 with
    | false => simp [hb] at h
    | true =>
      simp only [hb, cond_true] at h
      have := Nat.eq_of_beq_eq_true hb
      subst this
      split at h
      · rename_i c hc
        cases h
        obtain ⟨h1, t, h2⟩ := contents_sound hW hc
        exact ⟨h1, _, t, rfl, h2⟩
      · cases h
  · rename_i f cs
    split at h
    · rename_i l hl
      cases h
      refine ⟨cs.map ρ.b, ?_, conts_sound hW hl⟩
      simp only [Sc.con, List.map_map]
      rfl
    · cases h
  · cases h; exact ⟨rfl, hW.fone⟩
  · cases h

theorem toDs_sound (hW : WR w0 ρ hp w) : ∀ {l : List Sc} {m : List Sd}, (∀ x ∈ l, x.ok hp) → toDs hp l = some m → holdsL ρ.f.f w m (l.map (Sc.con ρ))
  | [], m, _, h => by simp [toDs] at h; subst h; trivial
  | x :: r, m, hx, h => by
    simp only [toDs] at h
    split at h
    · rename_i y l hy hl
      cases h
      exact ⟨toD_sound hW (hx x List.mem_cons_self) hy, toDs_sound hW (fun z hz => hx z (List.mem_cons_of_mem _ hz)) hl⟩
    · cases h

theorem toA_sound (hW : WR w0 ρ hp w) {x : AV} {y : AD} (hx : ∀ s ∈ x.cells, s.ok hp) (h : toA hp x = some y) : y.holds ρ.f.f w (x.con ρ) := by
  unfold toA at h
  split at h
  · split at h
    · rename_i y' hy
      cases h
      exact toD_sound hW (hx _ (by simp [AV.cells])) hy
    · cases h
  · split at h
    · rename_i l m hm
      cases h
      exact ⟨_, rfl, toDs_sound hW hx hm⟩
    · cases h

theorem toAs_sound (hW : WR w0 ρ hp w) : ∀ {l : List FV} {m : List AD}, (∀ x ∈ l, x.ok hp) → toAs hp l = some m → holdsA ρ.f.f w m (l.map (FV.con ρ)) ∧ ∀ x ∈ l, x ≠ .bad
  | [], m, _, h => by simp [toAs] at h; subst h; exact ⟨trivial, by simp⟩
  | .a x :: r, m, hx, h => by
    simp only [toAs] at h
    split at h
    · rename_i y l hy hl
      cases h
      obtain ⟨h1, h2⟩ := toAs_sound hW (fun z hz => hx z (List.mem_cons_of_mem _ hz)) hl
      refine ⟨⟨toA_sound hW (hx (.a x) List.mem_cons_self) hy, h1⟩, fun z hz => ?_⟩
      rcases List.mem_cons.1 hz with rfl | hz
      · simp
      · exact h2 z hz
    · cases h
  | .tup _ :: _, m, _, h => by simp [toAs] at h
  | .bad :: _, m, _, h => by simp [toAs] at h

theorem caps_holds {F : Value} : ∀ {bs : List Nat} {m : List (List Value)}, HoldC w bs m → holdsA F w (caps m) (bs.map ptr)
  | [], [], _ => trivial
  | b :: bs, c :: cs, h => ⟨⟨h.1.1, b, h.1.2.choose, rfl, h.1.2.choose_spec⟩, caps_holds h.2⟩
  | [], _ :: _, h => h.elim
  | _ :: _, [], h => h.elim

theorem holdsA_append {F : Value} : ∀ {l : List AD} {vs : List Value} {l' : List AD} {vs' : List Value}, holdsA F w l vs → holdsA F w l' vs' → holdsA F w (l ++ l') (vs ++ vs')
  | [], [], _, _, _, h => h
  | _ :: _, _ :: _, _, _, h, h' => ⟨h.1, holdsA_append h.2 h'⟩
  | [], _ :: _, _, _, h, _ => h.elim
  | _ :: _, [], _, _, h, _ => h.elim
end

/-! ### What is handed back, named -/

/-- Of cells that are handed back: 's' is the slice among them, if there is one. -/
structure Of1 (base : Nat) (w : World) (id : Nat) (b b' : Option Dat) (s : Value) : Prop where
  fact : ∀ d, b = none → b' = some d → s.oneCell' = true ∧ ∃ e, w.ownsRow base e d.sz s d.n d.flat
  keep : ∀ d, b = some d → b' = some d

/-- A cell that is plain, or the slice of that name. -/
def Plain1 (id : Nat) (b b' : Option Dat) (x : Sc) : Prop := (∃ v : Value, x = .v v ∧ v.oneCell' = true) ∨ (x = .sl id ∧ b = none ∧ b'.isSome = true)

theorem Plain1.left {id : Nat} {b b1 b2 : Option Dat} {x : Sc} (h : Plain1 id b b1 x) (hk : ∀ d, b1 = some d → b2 = some d) : Plain1 id b b2 x := by
  rcases h with h | ⟨h1, h2, h3⟩
  · exact .inl h
  · obtain ⟨d, hd⟩ := Option.isSome_iff_exists.1 h3
    exact .inr ⟨h1, h2, by rw [hk d hd]; rfl⟩

theorem Plain1.right {id : Nat} {b b1 b2 : Option Dat} {x : Sc} (h : Plain1 id b1 b2 x) (hk : ∀ d, b = some d → b1 = some d) : Plain1 id b b2 x := by
  rcases h with h | ⟨h1, h2, h3⟩
  · exact .inl h
  · refine .inr ⟨h1, ?_, h3⟩
    cases b with
    | none => rfl
    | some d => rw [hk d rfl] at h2; cases h2

/-- Two parts, one behind the other: one slice at most. -/
theorem Of1.trans {base : Nat} {w : World} {id : Nat} {b b1 b2 : Option Dat} {s1 s2 : Value} (h1 : Of1 base w id b b1 s1) (h2 : Of1 base w id b1 b2 s2) :
    ∃ s, Of1 base w id b b2 s ∧ (b = none → b1.isSome = true → s = s1) ∧ (b1 = none → s = s2) := by
  cases hb1 : b1 with
  | none =>
    subst hb1
    refine ⟨s2, ⟨fun d hd h => h2.fact d rfl h, fun d hd => by have := h1.keep d hd; cases this⟩, fun _ h => by simp at h, fun _ => rfl⟩
  | some d1 =>
    subst hb1
    have hk2 := h2.keep d1 rfl
    refine ⟨s1, ⟨fun d hd h => ?_, fun d hd => ?_⟩, fun _ _ => rfl, fun h => by cases h⟩
    · rw [hk2] at h; cases h; exact h1.fact d1 hd rfl
    · have := h1.keep d hd; cases this; exact hk2

theorem ofS_sound {base : Nat} {w : World} {id : Nat} : ∀ {l : List Sd} {vs : List Value} {b b' : Option Dat} {cs : List Sc}, ofS id l b = some (cs, b') → backL base w l vs →
    ∃ s, Of1 base w id b b' s ∧ (∀ ρ : Nm, (b = none → b'.isSome = true → ρ.s id = s) → cs.map (Sc.con ρ) = vs) ∧ ∀ x ∈ cs, Plain1 id b b' x
  | [], [], b, b', cs, h, _ => by
    simp only [ofS, Option.some.injEq, Prod.mk.injEq] at h
    obtain ⟨rfl, rfl⟩ := h
    exact ⟨undef, { fact := fun d hd h => (by rw [hd] at h; cases h), keep := fun d hd => hd }, fun ρ _ => rfl, by simp⟩
  | .v x :: r, y :: vs, b, b', cs, h, hb => by
    simp only [ofS] at h
    split at h
    · rename_i l b1 hl
      simp only [Option.some.injEq, Prod.mk.injEq] at h
      obtain ⟨rfl, rfl⟩ := h
      obtain ⟨s, h1, h2, h3⟩ := ofS_sound hl hb.2
      obtain ⟨rfl, hone⟩ := hb.1
      refine ⟨s, h1, fun ρ hρ => by rw [List.map_cons, h2 ρ hρ]; rfl, fun z hz => ?_⟩
      rcases List.mem_cons.1 hz with rfl | hz
      · exact .inl ⟨_, rfl, hone⟩
      · exact h3 z hz
    · cases h
  | .sl d m :: r, y :: vs, none, b', cs, h, hb => by
    simp only [ofS] at h
    split at h
    · rename_i l b1 hl
      simp only [Option.some.injEq, Prod.mk.injEq] at h
      obtain ⟨rfl, rfl⟩ := h
      obtain ⟨s, h1, h2, h3⟩ := ofS_sound hl hb.2
      have hk := h1.keep d rfl
      subst hk
      refine ⟨y, ⟨fun d' _ h => by cases h; exact hb.1, fun d' h => by cases h⟩, fun ρ hρ => ?_, fun z hz => ?_⟩
      · rw [List.map_cons, h2 ρ (fun h => by cases h)]
        show ρ.s id :: vs = y :: vs
        rw [hρ rfl rfl]
      · rcases List.mem_cons.1 hz with rfl | hz
        · exact .inr ⟨rfl, rfl, rfl⟩
        · rcases h3 z hz with h | ⟨_, h, _⟩
          · exact .inl h
          · cases h
    · cases h
  | .sl d m :: r, y :: vs, some _, b', cs, h, hb => by simp [ofS] at h
  | .r _ :: _, _ :: _, b, b', cs, h, hb => by cases b <;> simp [ofS] at h
  | .opq :: _, _ :: _, b, b', cs, h, hb => by cases b <;> simp [ofS] at h
  | .clo .. :: _, _ :: _, b, b', cs, h, hb => by cases b <;> simp [ofS] at h
  | .p .. :: _, _ :: _, b, b', cs, h, hb => by cases b <;> simp [ofS] at h
  | [], _ :: _, _, _, _, _, hb => hb.elim
  | _ :: _, [], _, _, _, _, hb => hb.elim

theorem ofA_sound {base : Nat} {w : World} {id : Nat} {x : AD} {v : Value} {b b' : Option Dat} {y : AV} (h : ofA id x b = some (y, b')) (hb : x.back base w v) :
    ∃ s, Of1 base w id b b' s ∧ (∀ ρ : Nm, (b = none → b'.isSome = true → ρ.s id = s) → y.con ρ = v) ∧ ∀ z ∈ y.cells, Plain1 id b b' z := by
  unfold ofA at h
  split at h
  · rename_i x'
    split at h
    · rename_i z b1 hz
      simp only [Option.some.injEq, Prod.mk.injEq] at h
      obtain ⟨rfl, rfl⟩ := h
      obtain ⟨s, h1, h2, h3⟩ := ofS_sound (base := base) (w := w) (vs := [v]) hz ⟨hb, trivial⟩
      exact ⟨s, h1, fun ρ hρ => by have := h2 ρ hρ; simp at this; exact this, by simpa [AV.cells] using h3⟩
    · cases h
  · split at h
    · rename_i l m b1 hm
      simp only [Option.some.injEq, Prod.mk.injEq] at h
      obtain ⟨rfl, rfl⟩ := h
      obtain ⟨vs, rfl, hb⟩ := hb
      obtain ⟨s, h1, h2, h3⟩ := ofS_sound hm hb
      exact ⟨s, h1, fun ρ hρ => by simp only [AV.con]; rw [h2 ρ hρ], h3⟩
    · cases h

theorem ofAs_sound {base : Nat} {w : World} {id : Nat} : ∀ {l : List AD} {vs : List Value} {b b' : Option Dat} {ys : List AV}, ofAs id l b = some (ys, b') → backA base w l vs →
    ∃ s, Of1 base w id b b' s ∧ (∀ ρ : Nm, (b = none → b'.isSome = true → ρ.s id = s) → ys.map (AV.con ρ) = vs) ∧ ∀ y ∈ ys, ∀ z ∈ y.cells, Plain1 id b b' z
  | [], [], b, b', cs, h, _ => by
    simp only [ofAs, Option.some.injEq, Prod.mk.injEq] at h
    obtain ⟨rfl, rfl⟩ := h
    exact ⟨undef, { fact := fun d hd h => (by rw [hd] at h; cases h), keep := fun d hd => hd }, fun ρ _ => rfl, by simp⟩
  | x :: r, v :: vs, b, b', ys, h, hb => by
    simp only [ofAs] at h
    split at h
    · rename_i y b1 hy
      split at h
      · rename_i l b2 hl
        simp only [Option.some.injEq, Prod.mk.injEq] at h
        obtain ⟨rfl, rfl⟩ := h
        obtain ⟨s1, p1, p2, p3⟩ := ofA_sound hy hb.1
        obtain ⟨s2, q1, q2, q3⟩ := ofAs_sound hl hb.2
        obtain ⟨s, t1, t2, t3⟩ := p1.trans q1
        refine ⟨s, t1, fun ρ hρ => ?_, fun z hz => ?_⟩
        · rw [List.map_cons, p2 ρ (fun e1 e2 => ?_), q2 ρ (fun e1 e2 => ?_)]
          · rw [hρ ?_ e2, t3 e1]
            cases b with
            | none => rfl
            | some d => rw [p1.keep d rfl] at e1; cases e1
          · obtain ⟨d, hd⟩ := Option.isSome_iff_exists.1 e2
            rw [hρ e1 (by rw [q1.keep d hd]; rfl), t2 e1 e2]
        · rcases List.mem_cons.1 hz with rfl | hz
          · exact fun u hu => (p3 u hu).left q1.keep
          · exact fun u hu => (q3 z hz u hu).right p1.keep
      · cases h
    · cases h
  | [], _ :: _, _, _, _, _, hb => hb.elim
  | _ :: _, [], _, _, _, _, hb => hb.elim

theorem ofR_sound {base : Nat} {w : World} {id : Nat} {r : RD} {v : Value} {y : FV} {e : Eff} (h : ofR id r = some (y, e)) (hb : r.back base w v) :
    ∃ (b : Option Dat) (s : Value), e = effD b ∧ Of1 base w id none b s ∧ (∀ ρ : Nm, (b.isSome = true → ρ.s id = s) → y.con ρ = v) ∧ (∀ z ∈ y.scs, Plain1 id none b z) ∧ y ≠ .bad := by
  unfold ofR at h
  split at h
  · split at h
    · rename_i x y' b hy
      simp only [Option.some.injEq, Prod.mk.injEq] at h
      obtain ⟨rfl, rfl⟩ := h
      obtain ⟨s, h1, h2, h3⟩ := ofA_sound hy hb
      exact ⟨b, s, rfl, h1, fun ρ hρ => h2 ρ fun _ h => hρ h, h3, by simp⟩
    · cases h
  · split at h
    · rename_i l m b hm
      simp only [Option.some.injEq, Prod.mk.injEq] at h
      obtain ⟨rfl, rfl⟩ := h
      obtain ⟨vs, rfl, hb⟩ := hb
      obtain ⟨s, h1, h2, h3⟩ := ofAs_sound hm hb
      refine ⟨b, s, rfl, h1, fun ρ hρ => by simp only [FV.con]; rw [h2 ρ fun _ h => hρ h], fun z hz => ?_, by simp⟩
      simp only [FV.scs, List.mem_flatMap] at hz
      obtain ⟨y, hy, hz⟩ := hz
      exact h3 y hy z hz
    · cases h

end Go.Proofs.Ytmmlpaehehgfnaa.Sx
