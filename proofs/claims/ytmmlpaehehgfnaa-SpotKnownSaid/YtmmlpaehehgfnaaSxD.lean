/-
  What this text proves: loads, calls, and slices that grow do as the evaluator of 'Sx' says ('call_sound').
  Conditions: the tables of types ('TEok') and the contracts of the functions that are called ('EnvOk') are handed to it.
-/
import Derived.Test.YtmmlpaehehgfnaaSxC
namespace Go.Proofs.Ytmmlpaehehgfnaa.Sx
open Go.RowKit
set_option linter.unusedSimpArgs false
set_option linter.unusedVariables false

section
variable {X : Env} {o : Oper} {a : Act} {w0 w : World} {ρ : Nm} {hp : Nat → Option Bk} {id : Nat} {fr : Nat → FV} {N : Nat} {v : FV} {e : Eff} {t0 : TE}

theorem ldS_sound (HT : TEok X.P t0) {cs : List Sc} {off : Nat} {r : FV} (h : ldS t0 cs off = some r) {b o : Nat} (hcs : ∀ x ∈ cs, x.ok hp)
    (hc : ∀ j x, cs[j]? = some x → w.cell? ⟨b, o + j, none⟩ = some (x.con ρ)) :
    (Instr.loadAt t0.t (.pointer (some ⟨b, o + off, none⟩))).run X.P w = .ok (r.con ρ) w ∧ r.ok hp ∧ r ≠ .bad := by
  have hag := HT.agg_run w
  have hsz := HT.size_run w
  unfold ldS at h
  have haggc : ∀ (ha : t0.k.agg = true), (bif Nat.ble (off + t0.size) cs.length then some (FV.a (.agg ((cs.drop off).take t0.size))) else none) = some r →
      (Instr.loadAt t0.t (.pointer (some ⟨b, o + off, none⟩))).run X.P w = .ok (r.con ρ) w ∧ r.ok hp ∧ r ≠ .bad := by
    intro ha h
    cases hb : Nat.ble (off + t0.size) cs.length with
    | false => simp [hb] at h
    | true =>
      simp [hb] at h
      subst h
      have hb' := Nat.le_of_ble_eq_true hb
      rw [ha] at hag
      refine ⟨?_, fun y hy => hcs y (List.mem_of_mem_drop (List.mem_of_mem_take hy)), by simp⟩
      have hl := run_loadCells_list (P := X.P) w ⟨b, o + off, none⟩ (((cs.drop off).take t0.size).map (Sc.con ρ)) (fun j v hv => by
        rw [Addr.add_lit]
        simp only [List.getElem?_map, List.getElem?_take] at hv
        by_cases hj : j < t0.size
        · simp only [hj, if_true, List.getElem?_drop, Option.map_eq_some_iff] at hv
          obtain ⟨x, hx, rfl⟩ := hv
          have := hc (off + j) x hx
          rwa [← Nat.add_assoc] at this
        · simp [hj] at hv)
      have hlen : (((cs.drop off).take t0.size).map (Sc.con ρ)).length = t0.size := by simp; omega
      rw [hlen] at hl
      simp [Instr.loadAt, Instr.sureAddr, loadVar, hag, hsz, hl, FV.con, AV.con]
  have hone : ∀ (ha : t0.k.agg = false), (match cs[off]? with | some x => some (FV.a (.s x)) | none => none) = some r →
      (Instr.loadAt t0.t (.pointer (some ⟨b, o + off, none⟩))).run X.P w = .ok (r.con ρ) w ∧ r.ok hp ∧ r ≠ .bad := by
    intro ha h
    cases hx : cs[off]? with
    | none => simp [hx] at h
    | some x =>
      simp [hx] at h
      subst h
      rw [ha] at hag
      have := hc off x hx
      refine ⟨?_, fun y hy => ?_, by simp⟩
      · simp [Instr.loadAt, Instr.sureAddr, loadVar, hag, run_load, this, FV.con, AV.con]
      · simp [FV.scs, AV.cells] at hy; subst hy; exact hcs _ (List.mem_of_getElem? hx)
  split at h
  · rename_i fl hk; exact haggc (by rw [hk]; rfl) h
  · rename_i n sz ag hk; exact haggc (by rw [hk]; rfl) h
  · rename_i h1 h2
    refine hone ?_ h
    cases hk : t0.k with
    | str fl => exact absurd hk (h1 fl)
    | arr n sz ag => exact absurd hk (h2 n sz ag)
    | scal => rfl
    | slc _ _ _ => rfl

theorem blk_cells (hW : WR w0 ρ hp w) {i : Nat} {cs : List Sc} (hi : hp i = some (.own cs)) : ∀ j x, cs[j]? = some x → w.cell? ⟨ρ.b i, 0 + j, none⟩ = some (x.con ρ) := by
  intro j x hx
  obtain ⟨_, t, ht⟩ := hW.fact i _ hi
  simp [World.cell?, ht, hx]

theorem ro_cells (hW : WR w0 ρ hp w) {i : Nat} {cs : List Value} (hi : hp i = some (.ro cs)) : ∀ j x, (cs.map Sc.v)[j]? = some x → w.cell? ⟨ρ.b i, 0 + j, none⟩ = some (x.con ρ) := by
  intro j x hx
  obtain ⟨_, hm, t, ht⟩ := hW.fact i _ hi
  rw [List.getElem?_map, Option.map_eq_some_iff] at hx
  obtain ⟨y, hy, rfl⟩ := hx
  have ht' : w.heap[ρ.b i]? = some (.cells cs.toArray t (0, 0)) := by rw [hW.below.block _ (Array.getElem?_eq_some_iff.1 ht).1 hm]; exact ht
  simp [World.cell?, ht', hy, Sc.con]

theorem row_len (d : Dat) (i : Nat) : (d.row i).length = d.sz := d.k.cd.len _

theorem row_one (d : Dat) (i : Nat) : ∀ v ∈ d.row i, v.oneCell' = true := d.k.cd.one _

/-- An element's cells. -/
theorem el_cells (hW : WR w0 ρ hp w) {i : Nat} {d : Dat} {m : Md} (hi : hp i = some (.sl d m)) {idx : Nat} (hidx : idx < d.n) :
    ∃ b off, slAdr (ρ.s i) 0 = some ⟨b, off, none⟩ ∧ (∀ k, slAdr (ρ.s i) k = some ⟨b, off + k, none⟩) ∧ ∀ j x, ((d.row idx).map Sc.v)[j]? = some x → w.cell? ⟨b, off + idx * d.sz + j, none⟩ = some (x.con ρ) := by
  obtain ⟨ad, c, hs, hnc, h2⟩ := sl_at hW hi
  obtain ⟨b, off, rfl, _, h3⟩ := h2 (by omega)
  refine ⟨b, off, by rw [hs]; rfl, fun k => by rw [hs]; rfl, fun j x hx => ?_⟩
  rw [List.getElem?_map, Option.map_eq_some_iff] at hx
  obtain ⟨y, hy, rfl⟩ := hx
  have hj : j < d.sz := by
    have := (List.getElem?_eq_some_iff.1 hy).1
    rw [row_len] at this
    exact this
  have := h3 (idx * d.sz + j) y (by rw [d.flat_get hidx hj]; exact hy)
  rw [Nat.add_assoc]
  exact this

theorem sized (HT : TEok X.P t0) {fl : List (Nat × Nat × Bool)} (hk : t0.k = .str fl) : ∃ fs : Array Field, X.P.underlying t0.t = some (.struct fs) ∧
    fl = fs.toList.map (fun f => (f.offset, X.P.cellsOf f.type, descAgg (X.P.underlying f.type))) ∧ ∀ f ∈ fs.toList, (X.P.info? f.type).isSome = true ∧ (X.P.underlying f.type).isSome = true := by
  have h1 := HT.kind
  have h2 := HT.all
  rw [hk] at h1 h2
  simp only [TK.plain] at h1
  unfold tdesc at h1
  cases hu : X.P.underlying t0.t with
  | none => simp [hu] at h1
  | some d =>
    cases d <;> simp [hu] at h1
    case struct fs =>
      refine ⟨fs, rfl, h1.symm, fun f hf => ?_⟩
      simp [hu] at h2
      obtain ⟨i, hi, rfl⟩ := List.mem_iff_getElem.1 hf
      have := h2 i (by simpa using hi)
      simpa using this

theorem arrd (HT : TEok X.P t0) {n sz : Nat} {ag : Bool} (hk : t0.k = .arr n sz ag) : ∃ el, X.P.underlying t0.t = some (.array n el) ∧ X.P.cellsOf el = sz ∧ descAgg (X.P.underlying el) = ag ∧ (X.P.info? el).isSome = true ∧ (X.P.underlying el).isSome = true := by
  have h1 := HT.kind
  have h2 := HT.all
  rw [hk] at h1 h2
  simp only [TK.plain] at h1
  unfold tdesc at h1
  cases hu : X.P.underlying t0.t with
  | none => simp [hu] at h1
  | some d =>
    cases d <;> simp [hu] at h1
    case array m el =>
      obtain ⟨rfl, h3, h4⟩ := h1
      simp [hu] at h2
      exact ⟨el, rfl, h3, h4, h2⟩

theorem slcd (HT : TEok X.P t0) {k : KN} {b el : Nat} (hk : t0.k = .slc k b el) : ∃ i z, X.P.underlying t0.t = some (.slice el) ∧ X.P.info? el = some i ∧ i.size = k.cd.sz ∧ i.bytes = b ∧ i.zero = some z ∧ z.cells.size = k.cd.sz := by
  have h1 := HT.row
  rw [hk] at h1
  simp only [TK.row] at h1
  unfold rowD at h1
  cases hu : X.P.underlying t0.t with
  | none => simp [hu] at h1
  | some d =>
    cases d <;> simp [hu] at h1
    case slice el' =>
      obtain ⟨i, hi, rfl, h2, h3, h4⟩ := h1
      cases hz : i.zero with
      | none => simp [hz] at h4
      | some z =>
        simp [hz] at h4
        exact ⟨i, z, rfl, hi, h2, h3, hz, h4⟩

theorem run_size {P : Program} {t : TypeId} (h : (P.info? t).isSome = true) (w : World) : (sizeOf t).run P w = .ok (P.cellsOf t) w := by
  obtain ⟨i, hi⟩ := Option.isSome_iff_exists.1 h
  simp [sizeOf, typeInfo, hi, Program.cellsOf]

theorem fldP_sound (HT : TEok X.P t0) {f o : Nat} (h : fldP t0 f = some o) (b off : Nat) : (Instr.fieldAt t0.t (.pointer (some ⟨b, off, none⟩)) f).run X.P w = .ok (.pointer (some ⟨b, off + o, none⟩)) w := by
  unfold fldP at h
  cases hk : t0.k with
  | str fl =>
    obtain ⟨fs, hu, hfl, hall⟩ := sized HT hk
    simp only [hk] at h
    cases hf : fl[f]? with
    | none => simp [hf] at h
    | some q =>
      obtain ⟨o', sz, ag⟩ := q
      simp only [hf] at h
      cases hz : Nat.beq sz 0 with
      | true => simp [hz] at h
      | false =>
        simp [hz] at h
        subst h
        rw [hfl, List.getElem?_map, Option.map_eq_some_iff] at hf
        obtain ⟨fd, hfd, hq⟩ := hf
        simp only [Prod.mk.injEq] at hq
        obtain ⟨rfl, hsz, _⟩ := hq
        have hfd' : fs[f]? = some fd := by simpa using hfd
        have hs := run_size (hall fd (List.mem_of_getElem? hfd)).1 w
        have hne : X.P.cellsOf fd.type ≠ 0 := fun e => by rw [← hsz, e] at hz; simp at hz
        simp [Instr.fieldAt, run_underlying hu, hfd', Instr.sureAddr, fieldPlace, hs, hne, Addr.add_lit]
  | _ => simp [hk] at h

theorem scals_sound : ∀ {l : List FV} {m : List Value}, scals l = some m → l = m.map fun v => FV.a (.s (.v v))
  | [], m, h => by simp [scals] at h; subst h; rfl
  | .a (.s (.v x)) :: r, m, h => by
    simp only [scals] at h
    cases hr : scals r with
    | none => simp [hr] at h
    | some l =>
      simp [hr] at h
      subst h
      rw [scals_sound hr]; rfl
  | .a (.s (.p _ _)) :: _, m, h => by simp [scals] at h
  | .a (.s (.sl _)) :: _, m, h => by simp [scals] at h
  | .a (.s (.e ..)) :: _, m, h => by simp [scals] at h
  | .a (.s .opq) :: _, m, h => by simp [scals] at h
  | .a (.s (.fn _ _)) :: _, m, h => by simp [scals] at h
  | .a (.agg _) :: _, m, h => by simp [scals] at h
  | .tup _ :: _, m, h => by simp [scals] at h
  | .bad :: _, m, h => by simp [scals] at h

theorem scal_some {x : FV} {v : Value} (h : scal x = some v) : x = .a (.s (.v v)) := by
  unfold scal at h
  split at h
  · cases h; rfl
  · cases h

theorem rd_map (hF : FR ρ hp fr N a) {args : Array Operand} {l : List FV} (h : args.toList.map (rd fr) = l) (hb : ∀ x ∈ l, x ≠ .bad) : args.map a.eval = (l.map (FV.con ρ)).toArray := by
  apply Array.ext'
  rw [Array.toList_map]
  show _ = l.map (FV.con ρ)
  rw [← h, List.map_map]
  apply List.map_congr_left
  intro x hx
  exact hF.eval (hb _ (by rw [← h]; exact List.mem_map_of_mem hx))

theorem vok {x : Value} (h : x.oneCell' = true) : (FV.a (.s (.v x))).ok hp := by
  intro y hy; simp [FV.scs, AV.cells] at hy; subst hy; exact h

/-- What append hands back lies in the old row, or in a new block. -/
theorem grow_block {P : Program} {w w' : World} {base t ty e sz : Nat} {i : TypeInfo} {z v v' : Value} {n m c b off : Nat} {xs news : List Value} (hown : w.ownsRow base e sz v n xs)
    (hr : (Builtin.append_ #[t, t] ty #[v, .slice (some ⟨b, off, none⟩) m c]).run P w = .ok v' w') (hm : 0 < m) (hpos : 0 < sz) (ht : P.underlying t = some (.slice e)) (hi : P.info? e = some i) (hz : i.zero = some z) (hsize : i.size = sz)
    (hl : news.length = m * sz) (hnews : ∀ j u, news[j]? = some u → w.cell? ((⟨b, off, none⟩ : Addr).add j) = some u) (h1 : ∀ u ∈ news, u.oneCell' = true)
    (hmx : n + m ≤ maxLen) (hby : (n + m) * i.bytes ≤ 140737488355328) {g : Nat} (hg : v'.ownBlock = some g) : v'.ownBlock = v.ownBlock ∨ w.heap.size ≤ g := by
  subst hsize
  rcases hown.2 with ⟨rfl, rfl⟩ | ⟨g', cap, cur, rfl, hbg, hgg, hnc, hcm, hcs, htake⟩
  · have hx : xs = [] := List.eq_nil_of_length_eq_zero (by simpa using hown.1)
    have hnil := run_append_nil (P := P) w t ty e i z ht hi hz ⟨b, off, none⟩ m c news hl hnews hm (by simp only [maxLen] at hmx; omega) (by have h := hby; simp only [Nat.zero_add] at h; omega)
    rw [hr] at hnil
    simp only [Result.ok.injEq] at hnil
    rw [hnil.1] at hg
    simp [Value.ownBlock] at hg
    exact .inr (by omega)
  · by_cases hroom : n + m ≤ cap
    · have hr2 := run_append_room (P := P) w t ty e i ht hi g' n cap cur hgg ⟨b, off, none⟩ m c news hl hnews h1 hroom (by rw [hl, hcs, ← Nat.add_mul]; exact Nat.mul_le_mul_right _ hroom)
      rw [hr] at hr2
      simp only [Result.ok.injEq] at hr2
      rw [hr2.1]
      exact .inl rfl
    · have holds : ∀ j u, xs[j]? = some u → w.cell? ((⟨g', 0, none⟩ : Addr).add j) = some u := hown.cells (g := g') rfl
      have hr2 := run_append_grow (P := P) w t ty e i z ht hi hz ⟨g', 0, none⟩ n cap xs hown.1 holds ⟨b, off, none⟩ m c news hl hnews (by omega) (by simp only [maxLen] at hmx; omega) (growslice_fits (by omega) hby)
      rw [hr] at hr2
      simp only [Result.ok.injEq] at hr2
      rw [hr2.1] at hg
      simp [Value.ownBlock] at hg
      exact .inr (by omega)

/-- Into a call and back. -/
theorem enter_sound {I : World → Prop} (HX : EnvOk X ρ.f I) (hI : I w0) (hW : WR w0 ρ hp w) (hid : hp id = none) {f : FuncId} {vs : List Value} {r : RD} (hcall : callable X.P f = true)
    (hrun : Calls X.P f vs.toArray w (Comes w r)) (hex : (execOp a.eval o).run X.P w = (callFunc f vs.toArray).run X.P w) {v : FV} {e : Eff} (hof : ofR id r = some (v, e)) :
    OpOk X.P o a w0 ρ hp w id v e ∧ v ≠ .bad := by
  unfold callable at hcall
  cases hfn : X.P.funcs[f]? with
  | none => simp [hfn] at hcall
  | some fn =>
    simp [hfn] at hcall
    have hex' : (execOp a.eval o).run X.P w = .ok (.enter f vs.toArray) w := by
      rw [hex]
      have hnn : ¬ fn.name = "runtime.NumGoroutine" := hcall.2
      have hbd : fn.body.isNone = false := by
        have h1 := hcall.1
        cases hb : fn.body with
        | none => rw [hb] at h1; cases h1
        | some c => rfl
      have hnn' : (fn.name == "runtime.NumGoroutine") = false := by simpa using hnn
      simp only [callFunc, Sem.run_bind, run_program, Result.andThen_ok, hfn, hnn', hbd]
      simp
    have hne : v ≠ .bad := by
      unfold ofR at hof
      split at hof
      · split at hof
        · simp only [Option.some.injEq, Prod.mk.injEq] at hof; rw [← hof.1]; simp
        · cases hof
      · split at hof
        · simp only [Option.some.injEq, Prod.mk.injEq] at hof; rw [← hof.1]; simp
        · cases hof
    refine ⟨?_, hne⟩
    intro K Q hK
    unfold Oper.wp
    rw [hex']
    refine hrun.mono ?_
    rintro e' w' ⟨rv, rfl, hbel, hback⟩
    obtain ⟨b, s, rfl, h1, h2, h3, _⟩ := ofR_sound hof hback
    have hW' : WR w0 ρ hp w' := hW.world (hW.below.trans hbel) fun i g hg => hbel.block g (hW.blk_lt hg).2
    cases b with
    | none =>
      have := hK ρ w' hW' (Ext.refl _ _) (by
        intro y hy
        rcases h3 y hy with ⟨u, rfl, hu⟩ | ⟨_, _, h⟩
        · exact hu
        · cases h)
      rw [h2 ρ (fun h => by cases h)] at this
      exact this
    | some d =>
      obtain ⟨hone, el, how⟩ := h1.fact d rfl rfl
      have hbase : w'.ownsRow w0.heap.size el d.sz s d.n d.flat := by
        refine ⟨how.1, ?_⟩
        rcases how.2 with h | ⟨g, cap, cur, q1, q2, q3⟩
        · exact .inl h
        · exact .inr ⟨g, cap, cur, q1, Nat.le_trans hW.below.size q2, q3⟩
      have hA := hW'.add hid (bk := .sl d (.mine none)) trivial (b := 0) (s := s) ⟨hone, el, fun _ h => (by cases h), hbase⟩ (by
        intro g hg j hj
        simp [blkOf, upd_same, Nm.set] at hg
        have := (hW.blk_lt hj).2
        have := (how.lt g hg).1
        omega)
      have := hK _ _ hA (Nm.set_ext hid) (by
        intro y hy
        rcases h3 y hy with ⟨u, rfl, hu⟩ | ⟨rfl, _, h⟩
        · exact hu
        · simp [Sc.ok, effD, Eff.on, upd_same, isSl])
      rw [h2 _ (fun _ => by simp [Nm.set, upd_same])] at this
      exact this

theorem apply_sound {I : World → Prop} (HX : EnvOk X ρ.f I) (hI : I w0) (hW : WR w0 ρ hp w) (hF : FR ρ hp fr N a) (hid : hp id = none) {c : Call} (ho : o.op = .call c) {x0 : Operand} (hc : c.callee = .value x0) {v : FV} {e : Eff}
    (h : applyD X hp id (rd fr x0) (c.args.toList.map (rd fr)) = some (true, v, e)) : OpOk X.P o a w0 ρ hp w id v e ∧ v ≠ .bad := by
  unfold applyD at h
  have hIw : I w := HX.stab w0 w hI (hW.below)
  have hrdok : ∀ x ∈ c.args.toList.map (rd fr), x.ok hp := by
    intro x hx
    obtain ⟨y, _, rfl⟩ := List.mem_map.1 hx
    exact hF.rdok y
  split at h
  · cases h
  · rename_i l hl
    obtain ⟨hh, hb⟩ := toAs_sound hW hrdok hl
    have hargs := rd_map hF rfl hb
    have hout : ∀ {q : Option (Bool × RD)}, outD id q = some (true, v, e) → ∃ r, q = some (true, r) ∧ ofR id r = some (v, e) := by
      intro q hq
      unfold outD at hq
      split at hq
      · rename_i g r
        split at hq
        · rename_i y hy
          simp only [Option.some.injEq, Prod.mk.injEq] at hq
          obtain ⟨rfl, rfl⟩ := hq
          exact ⟨r, rfl, hy⟩
        · cases hq
      · cases hq
    split at h
    · rename_i f hx0
      obtain ⟨r, hE, hof⟩ := hout h
      have hs := HX.E f l r hE
      have hx1 : a.eval x0 = .func (.func f) #[] #[] := hF.eval' hx0 (by simp)
      refine enter_sound HX hI hW hid hs.call (hs.run w _ hIw hh) ?_ hof
      unfold execOp
      rw [ho]
      simp [resolve, hc, hargs, hx1, Deferred.ofValue, invoke]
    · rename_i f cs hx0
      split at h
      · rename_i m hm
        obtain ⟨r, hE, hof⟩ := hout h
        have hs := HX.E f _ r hE
        have hx1 : a.eval x0 = .func (.func f) #[] (cs.map fun i => ptr (ρ.b i)).toArray := hF.eval' hx0 (by simp)
        have hcs := caps_holds (F := ρ.f.f) (conts_sound hW hm)
        refine enter_sound HX hI hW hid hs.call (hs.run w _ hIw (holdsA_append hh hcs)) ?_ hof
        unfold execOp
        rw [ho]
        simp [resolve, hc, hargs, hx1, Deferred.ofValue, invoke]
        rfl
      · cases h
    · rename_i hx0
      obtain ⟨r, hE, hof⟩ := hout h
      obtain ⟨f, cs, hf, hcall, hrun⟩ := HX.G l r hE
      have hx1 : a.eval x0 = ρ.f.f := hF.eval' hx0 (by simp)
      rw [hf] at hx1
      have := hrun w _ hIw hh
      rw [show (((c.args.toList.map (rd fr)).map (FV.con ρ)).toArray ++ cs) = (((c.args.toList.map (rd fr)).map (FV.con ρ)) ++ cs.toList).toArray by simp] at this
      refine enter_sound HX hI hW hid hcall this ?_ hof
      unfold execOp
      rw [ho]
      simp only [resolve, hc, hargs, hx1, Deferred.ofValue, invoke, Sem.run_bind, Sem.run_pure, Result.andThen_ok]
      congr 2
      apply Array.ext'
      simp
    · cases h

theorem castL_flat {a b : KN} (h : PLift (a = b)) (l : List a.ty) : (castL h l).flatMap b.cd.enc = l.flatMap a.cd.enc ∧ (castL h l).length = l.length := by
  obtain ⟨rfl⟩ := h
  exact ⟨rfl, rfl⟩

theorem app_sound {I : World → Prop} (HX : EnvOk X ρ.f I) (hW : WR w0 ρ hp w) (hF : FR ρ hp fr N a) (hid : hp id = none) {c : Call} (ho : o.op = .call c) (hc : c.callee = .builtin .append) {v : FV} {e : Eff}
    (h : appD X hp id c (c.args.toList.map (rd fr)) = some (true, v, e)) : OpOk X.P o a w0 ρ hp w id v e ∧ v ≠ .bad := by
  unfold appD at h
  split at h
  rotate_left
  · cases h
  rename_i x na t t' hl ht
  cases htt : Nat.beq t t' with
  | false => simp [htt] at h
  | true =>
  have := Nat.eq_of_beq_eq_true htt
  subst this
  simp only [htt, cond_true] at h
  split at h
  rotate_left
  · cases h
  rename_i e0 he
  split at h
  rotate_left
  · cases h
  rename_i k by_ el hk
  cases hb1 : Nat.ble 1 by_ with
  | false => simp [hb1] at h
  | true =>
  simp only [hb1, cond_true] at h
  have hb1' := Nat.le_of_ble_eq_true hb1
  split at h
  rotate_left
  · cases h
  rename_i d m hna
  obtain ⟨hmem, rfl⟩ := tget_mem he
  obtain ⟨ie, z, hu, hie, hsz, hby, hz, hzs⟩ := slcd (HX.T _ hmem) hk
  unfold app2 at h
  split at h
  · cases h
  rename_i hkk _
  have hdk : d.k = k := hkk.down
  cases hcons : isCons d.l with
  | false => simp [hcons] at h
  | true =>
  simp only [hcons, cond_true] at h
  have hdn : 0 < d.n := by
    unfold Dat.n
    cases hdl : d.l with
    | nil => rw [hdl] at hcons; cases hcons
    | cons _ _ => simp
  obtain ⟨ad, cc, hsv, _, hcell⟩ := sl_at hW hna
  obtain ⟨b, off, rfl, _, hcell2⟩ := hcell hdn
  have hnews : ∀ j u, d.flat[j]? = some u → w.cell? ((⟨b, off, none⟩ : Addr).add j) = some u := by
    intro j u hu'
    rw [Addr.add_lit]
    exact hcell2 j u hu'
  have hdsz : d.sz = k.cd.sz := by unfold Dat.sz; rw [hdk]
  have hlen : d.flat.length = d.n * k.cd.sz := by rw [d.flat_len, hdsz]
  have hcf := castL_flat hkk d.l
  have hat : c.argTypes = #[e0.t, e0.t] := by apply Array.ext'; simpa using ht
  have hexec : ∀ y : Value, x ≠ .bad → x.con ρ = y → (execOp a.eval o).run X.P w = (do pure (.value (← Builtin.append_ #[e0.t, e0.t] o.type #[y, .slice (some ⟨b, off, none⟩) d.n cc])) : Sem Next).run X.P w := by
    intro y hxb hy
    have hargs := rd_map hF hl (fun q hq => by
      rcases List.mem_cons.1 hq with h1 | h1
      · rw [h1]; exact hxb
      · rw [List.mem_singleton.1 h1]; simp)
    unfold execOp
    rw [ho]
    simp only [resolve, hc, hargs, hat, List.map_cons, List.map_nil, hy]
    have e2 : FV.con ρ (.a (.s (.sl na))) = .slice (some ⟨b, off, none⟩) d.n cc := hsv
    simp [invoke, builtin, e2]
  have hpos : 0 < k.cd.sz := by rw [← hdsz]; exact d.sz_pos
  split at h
  · -- on nothing
    simp only [Option.some.injEq, Prod.mk.injEq] at h
    obtain ⟨hg, rfl, rfl⟩ := h
    refine ⟨?_, by simp⟩
    unfold gApp at hg
    have hg' := Nat.le_of_ble_eq_true hg
    have hmx : 0 + d.n ≤ maxLen := Nat.le_trans (Nat.le_trans (Nat.le_mul_of_pos_right _ hb1') hg') (by decide)
    obtain ⟨v', w', hr, how, hgr, _⟩ := run_append_own (P := X.P) w w0.heap.size e0.t o.type el ie z k.cd.sz by_ hu hie hz hsz hby hzs hpos (.slice none 0 0) 0 [] (World.ownsRow_nil _ _ _ _) ⟨b, off, none⟩ d.n cc d.flat hlen hnews d.flat_one hmx hg' hW.below.size
    have hone : v'.oneCell' = true := by
      rcases how.2 with ⟨rfl, _⟩ | ⟨_, _, _, rfl, _⟩ <;> rfl
    refine OpOk.row hW hid (e := el) (s := v') (w' := w') hone (by simp) ?_ ?_ ?_ ?_
    · simp only [Nat.zero_add, List.nil_append] at how
      have e1 : (⟨k, castL hkk d.l⟩ : Dat).flat = d.flat := hcf.1
      have e2 : (⟨k, castL hkk d.l⟩ : Dat).n = d.n := hcf.2
      rw [e1, e2]
      exact how
    · exact (Below.refl w.heap.size w).grown hgr (Nat.le_refl _) (fun k hk => by simp [Value.ownBlock] at hk)
    · intro g hg2
      rcases how.2 with ⟨rfl, _⟩ | ⟨g', cap, cur, rfl, hb', hgg, _⟩
      · simp [Value.ownBlock] at hg2
      · simp [Value.ownBlock] at hg2
        subst hg2
        by_cases hlt : g' < w.heap.size
        · -- it would have been there
          exfalso
          have hnil := run_append_nil (P := X.P) w e0.t o.type el ie z hu hie hz ⟨b, off, none⟩ d.n cc d.flat (by rw [hlen, hsz]) hnews hdn (by simp only [maxLen] at hmx; omega) (by rw [hby]; simp only [Nat.zero_add] at hg'; omega)
          rw [hr] at hnil
          simp only [Result.ok.injEq, Value.slice.injEq, Option.some.injEq, Addr.mk.injEq] at hnil
          omega
        · omega
    · rw [hexec (.slice none 0 0) (by simp) rfl]
      simp [hr]
  · -- on one's own row
    rename_i i
    cases hina : Nat.beq i na with
    | true => simp [hina] at h
    | false =>
    simp only [hina, cond_false] at h
    have hine : i ≠ na := fun e => by subst e; simp at hina
    split at h
    rotate_left
    · cases h
    rename_i d' el' hi
    cases hel : Nat.beq el el' with
    | false => simp [hel] at h
    | true =>
    simp only [hel, cond_true] at h
    have := Nat.eq_of_beq_eq_true hel
    subst this
    split at h
    rotate_left
    · cases h
    rename_i hkk' _
    simp only [Option.some.injEq, Prod.mk.injEq] at h
    obtain ⟨hg, rfl, rfl⟩ := h
    refine ⟨?_, by simp⟩
    unfold gApp at hg
    have hg' := Nat.le_of_ble_eq_true hg
    have hmx : d'.n + d.n ≤ maxLen := Nat.le_trans (Nat.le_trans (Nat.le_mul_of_pos_right _ hb1') hg') (by decide)
    obtain ⟨hone1, e1, he1, how1⟩ := hW.fact i _ hi
    have := he1 el rfl
    subst this
    have hcf' := castL_flat hkk' d'.l
    have hd'k : d'.k = k := hkk'.down
    have hd'sz : d'.sz = k.cd.sz := by unfold Dat.sz; rw [hd'k]
    rw [hd'sz] at how1
    obtain ⟨v', w', hr, how, hgr, _⟩ := run_append_own (P := X.P) w w0.heap.size e0.t o.type el ie z k.cd.sz by_ hu hie hz hsz hby hzs hpos (ρ.s i) d'.n d'.flat how1 ⟨b, off, none⟩ d.n cc d.flat hlen hnews d.flat_one hmx hg' hW.below.size
    have hone : v'.oneCell' = true := by
      rcases how.2 with ⟨rfl, _⟩ | ⟨_, _, _, rfl, _⟩ <;> rfl
    intro K Q hK
    unfold Oper.wp
    rw [hexec (ρ.s i) (by simp) rfl]
    simp only [Sem.run_bind, hr, Result.andThen_ok, Sem.run_pure]
    have hrow : ∀ k, (ρ.s i).ownBlock = some k → w0.heap.size ≤ k := fun k hk => (how1.lt k hk).1
    have hbel : BelM ρ.f.m w0 w' := ⟨hgr.os.trans hW.below.os, hgr.tape.trans hW.below.tape, hgr.output.trans hW.below.output, Nat.le_trans hW.below.size hgr.size, fun k hk hm => (hgr.block k (Nat.lt_of_lt_of_le hk hW.below.size) (fun e => absurd (hrow k e.symm) (by omega))).trans (hW.below.block k hk hm)⟩
    have hblk : ∀ j g, j ≠ i → blkOf ρ hp j = some g → w'.heap[g]? = w.heap[g]? := by
      intro j g hj hg2
      refine hgr.block g (hW.blk_lt hg2).2 fun e => hj (hW.excl j i g hg2 ?_)
      simp [blkOf, hi, ← e]
    have hP := hW.put (i := i) (bk := .dead) (w' := w') (by rw [hi]; rfl) (by rw [hi]; exact ⟨fun h => (by cases h), fun _ => rfl, fun _ _ _ => trivial⟩) trivial hbel hblk hone1 (by intro g hg2; simp [blkOf, upd_same] at hg2)
    have hid' : upd hp i (some .dead) id = none := by
      rw [upd_ne (fun e => by subst e; rw [hid] at hi; cases hi)]; exact hid
    have e1 : (⟨k, castL hkk' d'.l ++ castL hkk d.l⟩ : Dat).flat = d'.flat ++ d.flat := by
      simp only [Dat.flat, List.flatMap_append, hcf.1, hcf'.1]
    have e2 : (⟨k, castL hkk' d'.l ++ castL hkk d.l⟩ : Dat).n = d'.n + d.n := by
      simp only [Dat.n, List.length_append, hcf.2, hcf'.2]
    have hA := hP.add hid' (bk := .sl ⟨k, castL hkk' d'.l ++ castL hkk d.l⟩ (.mine (some el))) trivial (b := 0) (s := v') ⟨hone, el, by simp, by rw [e1, e2]; exact how⟩ (by
      intro g hg2 j hj
      simp [blkOf, upd_same, Nm.set] at hg2
      have hji : j ≠ i := fun e => by subst e; simp [blkOf, upd_same] at hj
      have hj' : blkOf ρ hp j = some g := by simpa [blkOf, upd_ne hji] using hj
      have hlt := (hW.blk_lt hj').2
      -- either the old row, or a new one
      have hcase : v'.ownBlock = (ρ.s i).ownBlock ∨ w.heap.size ≤ g := grow_block how1 hr hdn hpos hu hie hz hsz hlen hnews d.flat_one hmx (by rw [hby]; exact hg') hg2
      rcases hcase with hcase | hcase
      · rw [hg2] at hcase
        exact hji (hW.excl j i g hj' (by simp [blkOf, hi, ← hcase]))
      · omega)
    have := hK _ _ hA (by
      refine ⟨fun j hj => ?_, rfl⟩
      have hjid : j ≠ id := fun e => by subst e; rw [hid] at hj; cases hj
      refine ⟨?_, by simp only [Nm.set]; rw [upd_ne hjid], by simp only [Nm.set]; rw [upd_ne hjid]⟩
      simp only [Eff.on]
      rw [upd_ne hjid]
      by_cases hji : j = i
      · subst hji; rw [upd_same, hi]; exact ⟨fun h => (by cases h), fun _ => rfl, fun _ _ _ => trivial⟩
      · rw [upd_ne hji]; exact Keep.refl _) (by intro y hy; simp [FV.scs, AV.cells] at hy; subst hy; simp [Sc.ok, Eff.on, upd_same, isSl])
    simpa [FV.con, AV.con, Sc.con, upd_same, Oper.upon, Nm.set] using this
  · cases h

theorem mm_sound {P : Program} {b : Builtin} {l : List Value} {v : FV} (h : mmD b l = some (true, v)) (at_ : Array TypeId) (ty : TypeId) (cs : Array Bool) (w : World) :
    ∃ z, v = .a (.s (.v z)) ∧ z.oneCell' = true ∧ (builtin b at_ ty cs l.toArray).run P w = .ok (.value z) w := by
  unfold mmD at h
  split at h
  · rename_i k x k' y
    cases hk : k == k' with
    | false => simp [hk] at h
    | true =>
      simp only [hk, cond_true, Option.some.injEq, Prod.mk.injEq] at h
      obtain ⟨hs, rfl⟩ := h
      refine ⟨_, rfl, rfl, ?_⟩
      cases ho : k.format.order x y with
      | none => simp [ho] at hs
      | some r => cases r <;> cases hn : (k.decode x).neg <;> simp [builtin, Builtin.max_, Builtin.max2, fMax, ho, hn]
  · rename_i k x k' y
    cases hk : k == k' with
    | false => simp [hk] at h
    | true =>
      simp only [hk, cond_true, Option.some.injEq, Prod.mk.injEq] at h
      obtain ⟨hs, rfl⟩ := h
      refine ⟨_, rfl, rfl, ?_⟩
      cases ho : k.format.order x y with
      | none => simp [ho] at hs
      | some r => cases r <;> cases hn : (k.decode x).neg <;> simp [builtin, Builtin.min_, Builtin.min2, fMin, ho, hn]
  · cases h

theorem built_sound (hW : WR w0 ρ hp w) (hF : FR ρ hp fr N a) {c : Call} (ho : o.op = .call c) {b : Builtin} (hc : c.callee = .builtin b) {v : FV} {e : Eff}
    (h : builtD X b c o.type (c.args.toList.map (rd fr)) = some (true, v, e)) : OpOk X.P o a w0 ρ hp w id v e ∧ v ≠ .bad := by
  unfold builtD at h
  split at h
  rotate_left
  · cases h
  rename_i l hl
  have hex : ∃ z, v = .a (.s (.v z)) ∧ e = .no ∧ z.oneCell' = true ∧ (builtin b c.argTypes o.type (c.args.map fun | .const _ => true | _ => false) l.toArray).run X.P w = .ok (.value z) w := by
    split at h
    · rename_i g v1 hmm
      simp only [Option.some.injEq, Prod.mk.injEq] at h
      obtain ⟨rfl, rfl, rfl⟩ := h
      obtain ⟨z, h1, h2, h3⟩ := mm_sound (P := X.P) hmm c.argTypes o.type (c.args.map fun | .const _ => true | _ => false) w
      exact ⟨z, h1, rfl, h2, h3⟩
    · split at h
      rotate_left
      · cases h
      rename_i v1 hv1
      simp only [Option.some.injEq, Prod.mk.injEq] at h
      obtain ⟨_, rfl, rfl⟩ := h
      obtain ⟨z, h1, hz, hrun⟩ := prunN_sound hv1
      exact ⟨z, h1, rfl, hz, hrun w⟩
  obtain ⟨z, rfl, rfl, hz, hrun⟩ := hex
  have hl' := scals_sound hl
  have hargs := rd_map hF hl' (by intro x hx; obtain ⟨y, _, rfl⟩ := List.mem_map.1 hx; simp)
  have hargs' : c.args.map a.eval = l.toArray := by
    rw [hargs, List.map_map]
    congr 1
    conv => rhs; rw [← List.map_id l]
    exact List.map_congr_left fun x _ => rfl
  refine ⟨OpOk.value hW (vok hz) ?_, by simp⟩
  unfold execOp
  rw [ho]
  simp only [resolve, hc, hargs']
  simp only [invoke, Sem.run_bind, Sem.run_pure, Result.andThen_ok]
  exact hrun

theorem len_sound {I : World → Prop} (HX : EnvOk X ρ.f I) (hW : WR w0 ρ hp w) (hF : FR ρ hp fr N a) {c : Call} (ho : o.op = .call c) (hc : c.callee = .builtin .len) {v : FV} {e : Eff}
    (h : lenD X hp c (c.args.toList.map (rd fr)) = some (true, v, e)) : OpOk X.P o a w0 ρ hp w id v e ∧ v ≠ .bad := by
  unfold lenD at h
  split at h
  rotate_left
  · cases h
  rename_i i t hl ht
  split at h
  rotate_left
  · cases h
  rename_i d m e0 hi he
  split at h
  rotate_left
  · cases h
  rename_i k b el hk
  simp only [Option.some.injEq, Prod.mk.injEq] at h
  obtain ⟨_, rfl, rfl⟩ := h
  refine ⟨OpOk.value hW (vok rfl) ?_, by simp⟩
  obtain ⟨hm, rfl⟩ := tget_mem he
  obtain ⟨ie, z, hu, _⟩ := slcd (HX.T _ hm) hk
  have hargs := rd_map hF hl (by intro x hx; simp at hx; subst hx; simp)
  have hat : c.argTypes = #[e0.t] := by apply Array.ext'; simpa using ht
  obtain ⟨ad, cc, hsv, _, _⟩ := sl_at hW hi
  unfold execOp
  rw [ho]
  simp only [resolve, hc, hargs, hat]
  simp [invoke, builtin, Builtin.len_, run_underlying hu, FV.con, AV.con, Sc.con, goInt, hsv]

theorem call_sound {I : World → Prop} (HX : EnvOk X ρ.f I) (hI : I w0) (hW : WR w0 ρ hp w) (hF : FR ρ hp fr N a) (hid : hp id = none) {c : Call} (ho : o.op = .call c) {v : FV} {e : Eff}
    (h : callD X hp id c o.type (match c.callee with | .value x => rd fr x | _ => .bad) (c.args.toList.map (rd fr)) = some (true, v, e)) : OpOk X.P o a w0 ρ hp w id v e ∧ v ≠ .bad := by
  unfold callD at h
  split at h
  · rename_i x0 hc
    simp only [hc] at h
    exact apply_sound HX hI hW hF hid ho hc h
  · rename_i b hc
    split at h
    · exact app_sound HX hW hF hid ho hc h
    · cases hs : isSl1 (c.args.toList.map (rd fr)) with
      | true => simp only [hs, cond_true] at h; exact len_sound HX hW hF ho hc h
      | false => simp only [hs, cond_false] at h; exact built_sound hW hF ho hc h
    · exact built_sound hW hF ho hc h
  · cases h
end

end Go.Proofs.Ytmmlpaehehgfnaa.Sx
