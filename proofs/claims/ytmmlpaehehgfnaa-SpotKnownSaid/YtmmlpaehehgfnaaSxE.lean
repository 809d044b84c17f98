/-
  What this text proves: each operation of the evaluator of 'Sx' is what the model's operation does ('op_sound').
  Conditions: the tables of types ('TEok') and the contracts of the functions that are called ('EnvOk') are handed to it.
-/
import Derived.Test.YtmmlpaehehgfnaaSxD
namespace Go.Proofs.Ytmmlpaehehgfnaa.Sx
open Go.RowKit
set_option linter.unusedSimpArgs false
set_option linter.unusedVariables false

section
variable {X : Env} {o : Oper} {a : Act} {w0 w : World} {ρ : Nm} {hp : Nat → Option Bk} {id : Nat} {fr : Nat → FV} {N : Nat} {v : FV} {e : Eff} {t0 : TE}

theorem value_of (hW : WR w0 ρ hp w) {s : Sem Value} (hexec : execOp a.eval o = (do pure (.value (← s)))) {v : FV} (hv : v.ok hp) (hb : v ≠ .bad) (hs : s.run X.P w = .ok (v.con ρ) w) :
    OpOk X.P o a w0 ρ hp w id v .no ∧ v ≠ .bad := by
  refine ⟨OpOk.value hW hv ?_, hb⟩
  rw [hexec]
  simp [hs]

theorem eqTy_mem : ∀ {Q : EqT} {t : Nat} {s : List Lf}, eqTy Q t = some s → (t, s) ∈ Q
  | p :: r, t, s, h => by
    simp only [eqTy] at h
    cases hb : Nat.beq p.1 t with
    | true =>
      simp [hb] at h
      subst h
      rw [← Nat.eq_of_beq_eq_true hb]
      exact List.mem_cons_self
    | false => simp [hb] at h; exact List.mem_cons_of_mem _ (eqTy_mem h)

theorem memN_mem : ∀ {l : List Nat} {t : Nat}, memN l t = true → t ∈ l
  | x :: r, t, h => by
    simp only [memN, Bool.or_eq_true] at h
    rcases h with h | h
    · rw [Nat.eq_of_beq_eq_true h]; exact List.mem_cons_self
    · exact List.mem_cons_of_mem _ (memN_mem h)

theorem inB_of {n : Nat} {i : Int} (h : inB n i = true) : 0 ≤ i ∧ i < n := by
  simpa [inB] using h

theorem run_part {P : Program} {t : TypeId} {ag : Bool} (hi : (P.info? t).isSome = true) (hu : (P.underlying t).isSome = true) (hag : descAgg (P.underlying t) = ag) (cs : Array Value) (off : Nat) (w : World) :
    (part t cs off).run P w = if ag then .ok (.agg (cs.extract off (off + P.cellsOf t))) w else match cs[off]? with
      | some v => .ok v w
      | none => (stuck "part: no such cell" : Sem Value).run P w := by
  obtain ⟨d, hd⟩ := Option.isSome_iff_exists.1 hu
  have hs := run_size hi w
  rw [hd] at hag
  cases d <;> simp [descAgg] at hag <;> subst hag <;> simp [part, isAgg, run_underlying hd, hs] <;> cases cs[off]? <;> rfl

theorem eq_fn {P : Program} {t : TypeId} {p : Array TypeId} {q : Array TypeId} {r : Bool} (hu : P.underlying t = some (.func p q r)) (w : World) (f : Fn) (fa fb : Array Value) : (Op.equalIn Op.maxDepth t (.func f fa fb) .nilFunc).run P w = .ok false w := by
  have : Op.maxDepth = (Op.maxDepth - 1) + 1 := rfl
  rw [this]
  generalize Op.maxDepth - 1 = d
  simp [Op.equalIn, run_underlying hu]

theorem gate_some {x : Option (Bool × FV × Eff)} {v : FV} {e : Eff} (h : gate x = some (v, e)) : ∃ v' e', x = some (true, v', e') ∧ v = v' ∧ e = e' := by
  unfold gate at h
  split at h
  · rename_i g v' e'
    cases g with
    | false => simp at h
    | true => simp only [cond_true, Option.some.injEq, Prod.mk.injEq] at h; exact ⟨v', e', rfl, h.1.symm, h.2.symm⟩
  · cases h

theorem eqGuard_ar {P : Program} {op : BinOp} (h : isAr op = true) {t : TypeId} {x y : Operand} {u v : Value} {w : World} : (eqGuard op t x y u v).run P w = .ok () w := by
  cases op <;> first | (cases h; done) | rfl

theorem binOp_add_str {t : TypeId} {u v : ByteArray} : binOp .add t (.string u) (.string v) = Op.stringOp .add u v := rfl

theorem fl_run {P : Program} (w : World) {op : BinOp} {p q : Value} {v : FV} (hdiv : flD op p q = some (true, v)) {t : TypeId} {x y : Operand} :
    ∃ z, v = .a (.s (.v z)) ∧ z.oneCell' = true ∧ ((do eqGuard op t x y p q; binOp op t p q) : Sem Value).run P w = .ok z w := by
  unfold flD at hdiv
  split at hdiv
  · rename_i k a' k' b'
    cases hk : isAr op && k == k' with
    | false => simp [hk] at hdiv
    | true =>
      simp only [hk, cond_true, Option.some.injEq, fbits, Prod.mk.injEq] at hdiv
      simp only [Bool.and_eq_true] at hk
      obtain ⟨hk1, hk2⟩ := hk
      have := eq_of_beq hk2
      subst this
      obtain ⟨h1, rfl⟩ := hdiv
      obtain ⟨r, hr⟩ := Option.isSome_iff_exists.1 h1
      refine ⟨_, rfl, rfl, ?_⟩
      rw [Sem.run_bind, eqGuard_ar hk1, Result.andThen_ok, hr]
      exact run_float_arith w op t k a' b' r hr
  · rename_i k a' b' k' c' d'
    cases hk : k == .f64 && k' == .f64 with
    | false => simp [hk] at hdiv
    | true =>
      simp only [hk, cond_true] at hdiv
      simp only [Bool.and_eq_true] at hk
      obtain ⟨hk1, hk2⟩ := hk
      have := eq_of_beq hk1
      subst this
      have := eq_of_beq hk2
      subst this
      unfold cxD at hdiv
      split at hdiv
      · simp only [Option.some.injEq, cbits, Prod.mk.injEq] at hdiv
        obtain ⟨h1, rfl⟩ := hdiv
        obtain ⟨⟨r, q⟩, hr⟩ := Option.isSome_iff_exists.1 h1
        refine ⟨_, rfl, rfl, ?_⟩
        rw [Sem.run_bind, eqGuard_ar rfl, Result.andThen_ok, hr]
        exact run_complex_sum w .add (.inl rfl) t .f64 a' b' c' d' r q hr
      · simp only [Option.some.injEq, cbits, Prod.mk.injEq] at hdiv
        obtain ⟨h1, rfl⟩ := hdiv
        obtain ⟨⟨r, q⟩, hr⟩ := Option.isSome_iff_exists.1 h1
        refine ⟨_, rfl, rfl, ?_⟩
        rw [Sem.run_bind, eqGuard_ar rfl, Result.andThen_ok, hr]
        exact run_complex_sum w .sub (.inr rfl) t .f64 a' b' c' d' r q hr
      · simp only [Option.some.injEq, cbits, Prod.mk.injEq] at hdiv
        obtain ⟨h1, rfl⟩ := hdiv
        obtain ⟨⟨r, q⟩, hr⟩ := Option.isSome_iff_exists.1 h1
        refine ⟨_, rfl, rfl, ?_⟩
        rw [Sem.run_bind, eqGuard_ar rfl, Result.andThen_ok, hr]
        exact run_complex_mul w t a' b' c' d' r q hr
      · cases hdiv
  · cases hdiv

theorem bin_sound {I : World → Prop} (HX : EnvOk X ρ.f I) (hW : WR w0 ρ hp w) (hF : FR ρ hp fr N a) {op : BinOp} {t : TypeId} {x y : Operand} {yt : TypeId} (ho : o.op = .binOp op t x y yt)
    (h : binD X fr op t x y = some (true, v, e)) : OpOk X.P o a w0 ρ hp w id v e ∧ v ≠ .bad := by
    unfold binD at h
    split at h
    · rename_i p q hx hy
      have hev := hF.eval' hx (by simp)
      have hev2 := hF.eval' hy (by simp)
      split at h
      · rename_i g r hdiv
        cases g with
        | false => cases h
        | true =>
        cases h
        have hrun : ∃ z, v = .a (.s (.v z)) ∧ z.oneCell' = true ∧ ((do eqGuard op t x y p q; binOp op t p q) : Sem Value).run X.P w = .ok z w := by
          unfold divD at hdiv
          split at hdiv
          · rename_i k a' k' b'
            cases hk : k == k' with
            | false => simp [hk] at hdiv
            | true =>
              have := eq_of_beq hk
              subst this
              simp only [hk, cond_true, Option.some.injEq, Prod.mk.injEq] at hdiv
              obtain ⟨h1, rfl⟩ := hdiv
              have hb : b' ≠ 0 := by simpa using h1
              exact ⟨_, rfl, rfl, by simp [eqGuard_quo, binOp_quo, Op.intDiv, hb]⟩
          · rename_i k a' k' b'
            cases hk : k == k' with
            | false => simp [hk] at hdiv
            | true =>
              have := eq_of_beq hk
              subst this
              simp only [hk, cond_true, Option.some.injEq, Prod.mk.injEq] at hdiv
              obtain ⟨h1, rfl⟩ := hdiv
              have hb : b' ≠ 0 := by simpa using h1
              exact ⟨_, rfl, rfl, by simp [eqGuard_rem, binOp_rem, Op.intDiv, hb]⟩
          · rename_i k a' k' b'
            simp only [Option.some.injEq, Prod.mk.injEq] at hdiv
            obtain ⟨h1, rfl⟩ := hdiv
            have hb : ¬ b' < (0 : Int) := by simpa using h1
            exact ⟨_, rfl, rfl, by simp only [eqGuard_shl, binOp_shl, Op.shift, if_neg hb]; rfl⟩
          · rename_i k a' k' b'
            simp only [Option.some.injEq, Prod.mk.injEq] at hdiv
            obtain ⟨h1, rfl⟩ := hdiv
            have hb : ¬ b' < (0 : Int) := by simpa using h1
            exact ⟨_, rfl, rfl, by simp only [eqGuard_shr, binOp_shr, Op.shift, if_neg hb]; rfl⟩
          · rename_i x' y'
            simp only [Option.some.injEq, Prod.mk.injEq] at hdiv
            obtain ⟨h1, rfl⟩ := hdiv
            have hb : ¬ ((x'.size + y'.size : Nat) : Int) > IntKind.i64.max := by simpa [catOk] using h1
            exact ⟨_, rfl, rfl, by simp only [eqGuard_add, binOp_add_str, Op.stringOp, if_neg hb]; rfl⟩
          · exact fl_run w hdiv
        obtain ⟨z, rfl, h1, h2⟩ := hrun
        refine value_of hW (s := (do eqGuard op t x y (a.eval x) (a.eval y); binOp op t (a.eval x) (a.eval y))) (by unfold execOp; rw [ho]) (vok h1) (by simp) ?_
        rw [hev, hev2]; exact h2
      split at h
      rotate_left
      · cases h
      rename_i r0 hp'
      cases h
      obtain ⟨r, rfl, h1, h2⟩ := prunV_sound hp'
      refine value_of hW (s := (do eqGuard op t x y (a.eval x) (a.eval y); binOp op t (a.eval x) (a.eval y))) (by unfold execOp; rw [ho]) (vok h1) (by simp) ?_
      rw [hev, hev2]; exact h2 w
    · rename_i l m hx hy
      split at h
      rotate_left
      · cases h
      rename_i r0 hq
      cases h
      have hev := hF.eval' hx (by simp)
      have hev2 := hF.eval' hy (by simp)
      unfold eqD at hq
      split at hq
      rotate_left
      · cases hq
      rename_i s hs
      have hQ := HX.Q (t, s) (eqTy_mem hs)
      split at hq
      · rename_i b hb
        cases hq
        obtain ⟨l', m', rfl, rfl, e⟩ := eqS_V hb
        refine value_of hW (s := (do eqGuard .eql t x y (a.eval x) (a.eval y); binOp .eql t (a.eval x) (a.eval y))) (by unfold execOp; rw [ho]) (vok rfl) (by simp) ?_
        rw [hev, hev2]
        simp only [FV.con, AV.con, vmap_con]
        exact (hQ l' m' b e w x y).1
      · rename_i b hb
        cases hq
        obtain ⟨l', m', rfl, rfl, e⟩ := eqS_V hb
        refine value_of hW (s := (do eqGuard .neq t x y (a.eval x) (a.eval y); binOp .neq t (a.eval x) (a.eval y))) (by unfold execOp; rw [ho]) (vok rfl) (by simp) ?_
        rw [hev, hev2]
        simp only [FV.con, AV.con, vmap_con]
        exact (hQ l' m' b e w x y).2
      · cases hq
    · rename_i hx hy
      cases hfn : (X.fn && isFn X.P t) with
      | false => simp [hfn] at h
      | true =>
        simp only [hfn, cond_true] at h
        simp only [Bool.and_eq_true] at hfn
        obtain ⟨f, fa, fb, hF'⟩ := HX.fn hfn.1
        have hev := hF.eval' hx (by simp)
        have hev2 := hF.eval' hy (by simp)
        have e1 : a.eval x = .func f fa fb := by rw [hev]; exact hF'
        have e2 : a.eval y = .nilFunc := hev2
        have hu : ∃ p q r, X.P.underlying t = some (.func p q r) := by
          have h2 := hfn.2
          unfold isFn at h2
          split at h2
          · rename_i hh; exact ⟨_, _, _, hh⟩
          · cases h2
        obtain ⟨p, q, r, hu⟩ := hu
        split at h
        · cases h
          refine value_of hW (s := (do eqGuard .eql t x y (a.eval x) (a.eval y); binOp .eql t (a.eval x) (a.eval y))) (by unfold execOp; rw [ho]) (vok rfl) (by simp) ?_
          rw [e1, e2]
          simp [eqGuard, binOp, Op.equal, eq_fn hu, FV.con, AV.con, Sc.con]
        · cases h
          refine value_of hW (s := (do eqGuard .neq t x y (a.eval x) (a.eval y); binOp .neq t (a.eval x) (a.eval y))) (by unfold execOp; rw [ho]) (vok rfl) (by simp) ?_
          rw [e1, e2]
          simp [eqGuard, binOp, Op.equal, eq_fn hu, FV.con, AV.con, Sc.con]
        · cases h
    · cases h

theorem caps0_sound (hF : FR ρ hp fr N a) : ∀ {xs : List Operand} {l : List Nat}, caps0 (xs.map (rd fr)) = some l → xs.map a.eval = (l.map fun i => ptr (ρ.b i)) ∧ ∀ i ∈ l, isBlk (hp i) = true
  | [], l, h => by simp [caps0] at h; subst h; exact ⟨rfl, by simp⟩
  | x :: xs, l, h => by
    simp only [List.map_cons] at h
    unfold caps0 at h
    split at h
    · rename_i heq; cases heq
    · rename_i i r heq
      simp only [List.cons.injEq] at heq
      obtain ⟨hx, rfl⟩ := heq
      split at h
      · rename_i l' hl'
        cases h
        obtain ⟨e1, e2⟩ := caps0_sound hF hl'
        have hev := hF.eval' hx (by simp)
        refine ⟨by rw [List.map_cons, e1, hev]; rfl, fun j hj => ?_⟩
        rcases List.mem_cons.1 hj with rfl | hj
        · exact hF.rdok1 hx
        · exact e2 j hj
      · cases h
    · cases h

theorem field_el {i sz idx off off0 : Nat} {t0 : TE} {f : Nat} {x : Operand} {d : Dat} {m : Md} (hW : WR w0 ρ hp w) (hi : hp i = some (.sl d m)) (hok : (Sc.e i sz idx off).ok hp) (HT : TEok X.P t0) (hf : fldP t0 f = some off0) (hev : a.eval x = (FV.a (.s (.e i sz idx off))).con ρ) (ho : o.op = .fieldAddr t0.t x f) :
    OpOk X.P o a w0 ρ hp w id (.a (.s (.e i sz idx (off + off0)))) .no ∧ (FV.a (.s (.e i sz idx (off + off0)))) ≠ .bad := by
  have hok2 := hok
  simp only [Sc.ok, hi, elOk] at hok2
  obtain ⟨hidx, rfl⟩ := hok2
  obtain ⟨b, o', e1, e2, e3⟩ := el_cells hW hi hidx
  refine value_of hW (s := Instr.fieldAt t0.t (a.eval x) f) (by unfold execOp; rw [ho]) ?_ (by simp) ?_
  · intro y hy; simp [FV.scs, AV.cells] at hy; subst hy; exact hok
  · have := fldP_sound (w := w) HT hf b (o' + (idx * d.sz + off))
    rw [hev]
    simpa [FV.con, AV.con, Sc.con, e2, Nat.add_assoc] using this

theorem setAt_get {α : Type} {cs l : List α} {off : Nat} (h : off + l.length ≤ cs.length) (k : Nat) : (setAt cs off l)[k]? = if off ≤ k ∧ k < off + l.length then l[k - off]? else cs[k]? := by
  unfold setAt
  by_cases h1 : k < off
  · rw [if_neg (by omega), List.getElem?_append_left (by simp; omega), List.getElem?_append_left (by simp; omega), List.getElem?_take, if_pos h1]
  · by_cases h2 : k < off + l.length
    · rw [if_pos ⟨by omega, h2⟩, List.getElem?_append_left (by simp; omega), List.getElem?_append_right (by simp; omega)]
      simp only [List.length_take]
      congr 1
      omega
    · rw [if_neg (by omega), List.getElem?_append_right (by simp; omega), List.getElem?_drop]
      simp only [List.length_append, List.length_take]
      congr 1
      omega

theorem flat_set (d : Dat) {idx off : Nat} {l : List Value} {x : d.k.ty} (hidx : idx < d.n) (hfit : off + l.length ≤ d.sz) (hdec : d.k.cd.dec (setAt (d.row idx) off l) = some (x, [])) :
    (⟨d.k, d.l.set idx x⟩ : Dat).flat = setAt d.flat (idx * d.sz + off) l := by
  have henc := d.k.cd.ok _ _ _ hdec
  rw [List.append_nil] at henc
  have hs := d.sz_pos
  have hle : (idx + 1) * d.sz ≤ d.n * d.sz := Nat.mul_le_mul_right _ hidx
  rw [Nat.succ_mul] at hle
  have hfl := d.flat_len
  have hn' : (⟨d.k, d.l.set idx x⟩ : Dat).n = d.n := by simp [Dat.n]
  have hsz' : (⟨d.k, d.l.set idx x⟩ : Dat).sz = d.sz := rfl
  apply List.ext_getElem?
  intro k
  rw [setAt_get (by rw [hfl]; omega)]
  by_cases hk : k < d.n * d.sz
  · have hq : k / d.sz < d.n := by rw [Nat.div_lt_iff_lt_mul hs]; exact hk
    have hr : k % d.sz < d.sz := Nat.mod_lt _ hs
    have hk2 : k = (k / d.sz) * d.sz + k % d.sz := by rw [Nat.mul_comm]; exact (Nat.div_add_mod k d.sz).symm
    generalize hqd : k / d.sz = q at *
    generalize hrd : k % d.sz = r at *
    subst hk2
    have h1 := (⟨d.k, d.l.set idx x⟩ : Dat).flat_get (i := q) (j := r) (by rw [hn']; exact hq) hr
    rw [hsz'] at h1
    rw [h1]
    by_cases hqi : q = idx
    · subst hqi
      have hrow : (⟨d.k, d.l.set q x⟩ : Dat).row q = setAt (d.row q) off l := by
        rw [henc]
        simp only [Dat.row, Dat.get]
        congr 1
        have : q < d.l.length := hidx
        simp [List.getD, this]
      rw [hrow, setAt_get (by rw [row_len]; exact hfit), d.flat_get hq hr]
      by_cases hc : off ≤ r ∧ r < off + l.length
      · rw [if_pos hc, if_pos (by omega)]
        congr 1
        omega
      · rw [if_neg hc, if_neg (by omega)]
    · have hrow : (⟨d.k, d.l.set idx x⟩ : Dat).row q = d.row q := by
        simp only [Dat.row, Dat.get]
        congr 1
        simp [List.getD, List.getElem?_set, Ne.symm hqi]
      rw [hrow, d.flat_get hq hr, if_neg]
      intro hc
      rcases Nat.lt_or_gt_of_ne hqi with h | h
      · have : (q + 1) * d.sz ≤ idx * d.sz := Nat.mul_le_mul_right _ h
        rw [Nat.succ_mul] at this
        omega
      · have : (idx + 1) * d.sz ≤ q * d.sz := Nat.mul_le_mul_right _ h
        rw [Nat.succ_mul] at this
        omega
  · rw [if_neg (by omega)]
    rw [List.getElem?_eq_none (by rw [Dat.flat_len, hn', hsz']; omega), List.getElem?_eq_none (by rw [hfl]; omega)]

theorem store_el {nm idx off t : Nat} {d : Dat} {m : Option Nat} {l : List Value} {x y : Operand} {x' : d.k.ty} {n : Nat} (hW : WR w0 ρ hp w) (hnm : hp nm = some (.sl d (.mine m))) (hidx : idx < d.n)
    (hev : a.eval x = .pointer (slAdr (ρ.s nm) (idx * d.sz + off))) (hcc : (a.eval y).cells = l.toArray) (ho : o.op = .store t x y) (hsize : (sizeOf t).run X.P w = .ok n w) (hn : l.length = n) (hfit : off + l.length ≤ (d.row idx).length)
    (hone : ∀ v ∈ l, v.oneCell' = true) (hdec : d.k.cd.dec (setAt (d.row idx) off l) = some (x', [])) :
    OpOk X.P o a w0 ρ hp w id undefF (.set nm (.sl ⟨d.k, d.l.set idx x'⟩ (.mine m))) := by
  rw [row_len] at hfit
  intro K Q hK
  obtain ⟨hone1, e, he, how⟩ := hW.fact nm _ hnm
  rcases how.2 with ⟨_, h0⟩ | ⟨g, cap, cur, hsv, hbg, hg, hnc, hcm, hcs, htake⟩
  · omega
  have hadr : slAdr (ρ.s nm) (idx * d.sz + off) = some ⟨g, 0 + (idx * d.sz + off), none⟩ := by rw [hsv]; rfl
  have hle : (idx + 1) * d.sz ≤ d.n * d.sz := Nat.mul_le_mul_right _ hidx
  have hle2 : d.n * d.sz ≤ cap * d.sz := Nat.mul_le_mul_right _ hnc
  rw [Nat.succ_mul] at hle
  have hst := run_storeCells_at X.P g (idx * d.sz + off) e l 0 cur w hg (by rw [hcs]; omega) hone
  simp only [Nat.add_zero] at hst
  have hrun : (execOp a.eval o).run X.P w = .ok .skip (w.setRow g (cur.toList.take (idx * d.sz + off) ++ l ++ cur.toList.drop (idx * d.sz + off + l.length)).toArray) := by
    unfold execOp
    rw [ho]
    simp [hev, hadr, Instr.storeAt, Instr.sureAddr, storeVar, hcc, hsize, hn, hst]
  unfold Oper.wp
  rw [hrun]
  have hfl := flat_set d hidx hfit hdec
  have hP := hW.put (i := nm) (bk := .sl ⟨d.k, d.l.set idx x'⟩ (.mine m)) (w' := w.setRow g (cur.toList.take (idx * d.sz + off) ++ l ++ cur.toList.drop (idx * d.sz + off + l.length)).toArray)
    (by rw [hnm]; rfl) (by rw [hnm]; exact ⟨fun h => (by cases h), fun _ => rfl, fun s i h => ⟨by have := h.1; simpa [Dat.n] using this, h.2⟩⟩) trivial
    ⟨hW.below.os, hW.below.tape, hW.below.output, Nat.le_trans hW.below.size (by simp [World.setRow]), fun k hk hm => (setRow_other _ _ _ _ (by omega)).trans (hW.below.block k hk hm)⟩
    (fun j b hj hb => setRow_other _ _ _ _ (fun e' => hj (hW.excl j nm b hb (by simp [blkOf, hnm, hsv, Value.ownBlock, e']))))
    ⟨hone1, e, he, by
      have hn' : (⟨d.k, d.l.set idx x'⟩ : Dat).n = d.n := by simp [Dat.n]
      rw [hn', hfl]
      refine ⟨?_, .inr ⟨g, cap, _, hsv, hbg, setRow_heap w g _ _ e _ hg, hnc, hcm, ?_, ?_⟩⟩
      · have := (⟨d.k, d.l.set idx x'⟩ : Dat).flat_len
        rw [hfl, hn'] at this
        exact this
      · simp only [List.size_toArray, List.length_append, List.length_take, List.length_drop, Array.length_toList]
        show _ = cap * d.sz
        omega
      · show (setAt cur.toList (idx * d.sz + off) l).take (d.n * d.sz) = _
        apply List.ext_getElem?
        intro k
        have hfit2 : idx * d.sz + off + l.length ≤ cur.toList.length := by simp; omega
        have hfit3 : idx * d.sz + off + l.length ≤ d.flat.length := by rw [d.flat_len]; omega
        rw [List.getElem?_take, setAt_get hfit2, setAt_get hfit3]
        by_cases hk : k < d.n * d.sz
        · rw [if_pos hk]
          split
          · rfl
          · rw [← htake, List.getElem?_take, if_pos hk]
        · rw [if_neg hk, if_neg (by omega), List.getElem?_eq_none (by rw [d.flat_len]; omega)]⟩
    (by intro g' hg'; simp only [blkOf, upd_same] at hg'; simp only [blkOf, hnm]; exact hg')
  refine hK ρ _ hP ⟨fun j hj => ⟨?_, rfl, rfl⟩, rfl⟩ (by intro q hq; simp [undefF, FV.scs] at hq)
  by_cases h : j = nm
  · subst h; simp only [Eff.on, upd_same, hnm]; exact ⟨fun h => (by cases h), fun _ => rfl, fun s i h => ⟨by have := h.1; simpa [Dat.n] using this, h.2⟩⟩
  · simp only [Eff.on, upd_ne h]; exact Keep.refl _

theorem idx_sound {I : World → Prop} (HX : EnvOk X ρ.f I) (hW : WR w0 ρ hp w) (hF : FR ρ hp fr N a) {t : TypeId} {x i : Operand} (ho : o.op = .indexAddr t x i)
    (h : idxD X fr hp t x i = some (true, v, e)) : OpOk X.P o a w0 ρ hp w id v e ∧ v ≠ .bad := by
  unfold idxD at h
  split at h
  · rename_i e0 he
    obtain ⟨hm, rfl⟩ := tget_mem he
    have HT := HX.T _ hm
    split at h
    · rename_i k by_ el nm ki i' hk hx hi
      split at h
      · rename_i d m hnm
        cases hsz : Nat.beq d.sz k.cd.sz with
        | false => simp [hsz] at h
        | true =>
          simp only [hsz, cond_true, Option.some.injEq, Prod.mk.injEq] at h
          obtain ⟨hb, rfl, rfl⟩ := h
          have hsz' := Nat.eq_of_beq_eq_true hsz
          obtain ⟨hb1, hb2⟩ := inB_of hb
          obtain ⟨ie, z, hu, hie, hs, _⟩ := slcd HT hk
          have hidx : i'.toNat < d.n := by omega
          obtain ⟨ad, c, hsv, _, hc⟩ := sl_at hW hnm
          obtain ⟨b, o', rfl, _⟩ := hc (by omega)
          have hev := hF.eval' hx (by simp)
          have hev2 := hF.eval' hi (by simp)
          refine value_of hW (s := Instr.indexAt e0.t (a.eval x) (a.eval i)) (by unfold execOp; rw [ho]) ?_ (by simp) ?_
          · intro y hy
            simp [FV.scs, AV.cells] at hy
            subst hy
            simp only [Sc.ok, hnm]
            exact ⟨hidx, rfl⟩
          · rw [hev, hev2]
            have hcs : (sizeOf el).run X.P w = .ok k.cd.sz w := by rw [run_size (by rw [hie]; rfl)]; simp [Program.cellsOf, hie, hs]
            simp only [FV.con, AV.con, Sc.con, hsv, slAdr]
            simp [Instr.indexAt, run_underlying hu, asIntOf, hb1, hb2, hcs, hsz', Addr.add_lit]
      · cases h
    · rename_i n sz ag i0 off k i' hk hx hi
      simp only [Option.some.injEq, Prod.mk.injEq] at h
      obtain ⟨hb, rfl, rfl⟩ := h
      obtain ⟨hb1, hb2⟩ := inB_of hb
      obtain ⟨el, hu, hc, _, hall, _⟩ := arrd HT hk
      have hev := hF.eval' hx (by simp)
      have hev2 := hF.eval' hi (by simp)
      refine value_of hW (s := Instr.indexAt e0.t (a.eval x) (a.eval i)) (by unfold execOp; rw [ho]) ?_ (by simp) ?_
      · intro y hy; simp [FV.scs, AV.cells] at hy; subst hy; have := hF.rdok1 hx; exact this
      · rw [hev, hev2]
        simp only [FV.con, AV.con, Sc.con]
        simp [Instr.indexAt, run_underlying hu, asIntOf, Instr.sureAddr, hb1, hb2, run_size hall, hc, Addr.add_lit]
    · cases h
  · cases h

theorem flatMap_drop {α : Type} (f : α → List Value) (s : Nat) (h : ∀ a, (f a).length = s) : ∀ (l : List α) (k : Nat), (l.drop k).flatMap f = (l.flatMap f).drop (k * s)
  | l, 0 => by simp
  | [], k + 1 => by simp
  | a :: l, k + 1 => by
    simp only [List.drop_succ_cons, List.flatMap_cons, flatMap_drop f s h l k]
    have e : (k + 1) * s = (f a).length + k * s := by rw [h, Nat.succ_mul, Nat.add_comm]
    rw [e, List.drop_length_add_append]

theorem flatMap_take {α : Type} (f : α → List Value) (s : Nat) (h : ∀ a, (f a).length = s) : ∀ (l : List α) (k : Nat), (l.take k).flatMap f = (l.flatMap f).take (k * s)
  | l, 0 => by simp
  | [], k + 1 => by simp
  | a :: l, k + 1 => by
    simp only [List.take_succ_cons, List.flatMap_cons, flatMap_take f s h l k]
    have e : (k + 1) * s = (f a).length + k * s := by rw [h, Nat.succ_mul, Nat.add_comm]
    rw [e, List.take_length_add_append]

theorem bnd_sound (hF : FR ρ hp fr N a) {lo : Option Operand} {d : Nat} {l : Int} (h : bnd (lo.map (rd fr)) d = some l) : (lo = none ∧ l = d) ∨ ∃ x k, lo = some x ∧ a.eval x = .int k l := by
  cases lo with
  | none => simp [bnd] at h; exact .inl ⟨rfl, h.symm⟩
  | some x =>
    simp only [Option.map_some] at h
    unfold bnd at h
    split at h
    · rename_i heq; cases heq
    · rename_i k i heq
      cases h
      simp only [Option.some.injEq] at heq
      exact .inr ⟨x, k, rfl, hF.eval' heq (by simp)⟩
    · cases h

theorem isStr_of {P : Program} {t : TypeId} (h : isStr P t = true) {w : World} : (underlying t).run P w = .ok .string w := by
  unfold isStr at h
  split at h
  · rename_i hu; exact run_underlying hu w
  · cases h

theorem str_sound (hW : WR w0 ρ hp w) (hF : FR ρ hp fr N a) {t : TypeId} {x : Operand} {lo hi : Option Operand} (ho : o.op = .slice t x lo hi none)
    (h : strS X.P t (rd fr x) (lo.map (rd fr)) (hi.map (rd fr)) = some (true, v, e)) : OpOk X.P o a w0 ρ hp w id v e ∧ v ≠ .bad := by
  unfold strS at h
  split at h
  rotate_left
  · cases h
  rename_i s hx
  cases hs : isStr X.P t with
  | false => simp [hs] at h
  | true =>
    simp only [hs, cond_true] at h
    split at h
    rotate_left
    · cases h
    rename_i l r hl hr
    simp only [Option.some.injEq, Prod.mk.injEq] at h
    obtain ⟨hg, rfl, rfl⟩ := h
    simp only [Bool.and_eq_true, decide_eq_true_eq] at hg
    obtain ⟨⟨hl0, hlr⟩, hrn⟩ := hg
    have hev := hF.eval' hx (by simp)
    have hev' : a.eval x = .string s := hev
    obtain ⟨l, rfl⟩ := Int.eq_ofNat_of_zero_le hl0
    obtain ⟨r, rfl⟩ := Int.eq_ofNat_of_zero_le (Int.le_trans hl0 hlr)
    have hlr' : l ≤ r := by omega
    have hrn' : r ≤ s.size := by omega
    have hlr3 : ¬ r < l := by omega
    have hbounds : (Instr.sliceBounds false s.size s.size (lo.map a.eval) (hi.map a.eval) none).run X.P w = .ok (l, r, s.size) w := by
      have hrc2 : ¬ s.size < r := by omega
      rcases bnd_sound hF hl with ⟨rfl, e1⟩ | ⟨x1, k1, rfl, e1⟩ <;> rcases bnd_sound hF hr with ⟨rfl, e2⟩ | ⟨x2, k2, rfl, e2⟩
      · have h1 : l = 0 := by omega
        have h2 : r = s.size := by omega
        subst h1; subst h2
        simp [Instr.sliceBounds]
      · have h1 : l = 0 := by omega
        subst h1
        simp [Instr.sliceBounds, Instr.sliceBound, asIntOf, e2, hrn']
      · have h2 : r = s.size := by omega
        subst h2
        simp [Instr.sliceBounds, Instr.sliceBound, asIntOf, e1]
        exact fun h => absurd h hlr3
      · simp [Instr.sliceBounds, Instr.sliceBound, asIntOf, e1, e2, hrn', hlr', hrc2, hlr3]
    have hrun : (execOp a.eval o).run X.P w = .ok (.value (.string (s.extract l r))) w := by
      unfold execOp
      rw [ho]
      simp [Instr.sliceAt, isStr_of hs, Instr.slice, hev', hbounds]
    exact ⟨OpOk.value hW (vok rfl) hrun, by simp⟩

theorem sl_sound {I : World → Prop} (HX : EnvOk X ρ.f I) (hW : WR w0 ρ hp w) (hF : FR ρ hp fr N a) (hid : hp id = none) {t : TypeId} {x : Operand} {lo hi mx : Option Operand} (ho : o.op = .slice t x lo hi mx)
    (h : slD X fr hp id t x lo hi mx = some (true, v, e)) : OpOk X.P o a w0 ρ hp w id v e ∧ v ≠ .bad := by
  unfold slD at h
  split at h
  · cases h
  split at h
  rotate_left
  · cases h
  rename_i e0 he
  split at h
  rotate_left
  · exact str_sound hW hF ho h
  rename_i k by_ el hk
  split at h
  rotate_left
  · cases h
  rename_i i hx
  split at h
  rotate_left
  · cases h
  rename_i d hi'
  split at h
  rotate_left
  · cases h
  rename_i hkk l r _ hl hr
  simp only [Option.some.injEq, Prod.mk.injEq] at h
  obtain ⟨hg, rfl, rfl⟩ := h
  simp only [Bool.and_eq_true, decide_eq_true_eq] at hg
  obtain ⟨⟨hl0, hlr⟩, hrn⟩ := hg
  refine ⟨?_, by simp⟩
  obtain ⟨hm, rfl⟩ := tget_mem he
  obtain ⟨ie, z, hu, hie, hs, _⟩ := slcd (HX.T _ hm) hk
  have hdk : d.k = k := hkk.down
  have hdsz : d.sz = k.cd.sz := by unfold Dat.sz; rw [hdk]
  obtain ⟨hone, hat⟩ := hW.fact i _ hi'
  obtain ⟨ad, c, hsv, ⟨hnc, hnm⟩, hc⟩ := hat
  have hev := hF.eval' hx (by simp)
  have hev' : a.eval x = .slice ad d.n c := by rw [hev]; exact hsv
  have hcs : (sizeOf el).run X.P w = .ok d.sz w := by rw [run_size (by rw [hie]; rfl), hdsz]; simp [Program.cellsOf, hie, hs]
  obtain ⟨l, rfl⟩ := Int.eq_ofNat_of_zero_le hl0
  obtain ⟨r, rfl⟩ := Int.eq_ofNat_of_zero_le (Int.le_trans hl0 hlr)
  have hlr' : l ≤ r := by omega
  have hrn' : r ≤ d.n := by omega
  have hbounds : (Instr.sliceBounds true d.n c (lo.map a.eval) (hi.map a.eval) none).run X.P w = .ok (l, r, c) w := by
    have hrc : r ≤ c := by omega
    have hrc2 : ¬ c < r := by omega
    have hlr3 : ¬ r < l := by omega
    rcases bnd_sound hF hl with ⟨rfl, e1⟩ | ⟨x1, k1, rfl, e1⟩ <;> rcases bnd_sound hF hr with ⟨rfl, e2⟩ | ⟨x2, k2, rfl, e2⟩
    · have h1 : l = 0 := by omega
      have h2 : r = d.n := by omega
      subst h1; subst h2
      simp [Instr.sliceBounds]
    · have h1 : l = 0 := by omega
      subst h1
      simp [Instr.sliceBounds, Instr.sliceBound, asIntOf, e2, hrc]
    · have h2 : r = d.n := by omega
      subst h2
      simp [Instr.sliceBounds, Instr.sliceBound, asIntOf, e1]
      exact fun h => absurd h hlr3
    · simp [Instr.sliceBounds, Instr.sliceBound, asIntOf, e1, e2, hrc, hlr', hrc2, hlr3]
  have hrun : (execOp a.eval o).run X.P w = .ok (.value (.slice (if c = l then ad else ad.map (·.add (l * d.sz))) (r - l) (c - l))) w := by
    unfold execOp
    rw [ho]
    simp [Instr.sliceAt, run_underlying hu, Instr.slice, hev', hbounds, hcs]
  have hflat : (⟨d.k, (d.l.take r).drop l⟩ : Dat).flat = (d.flat.take (r * d.sz)).drop (l * d.sz) := by
    simp only [Dat.flat]
    rw [flatMap_drop _ d.sz d.k.cd.len, flatMap_take _ d.sz d.k.cd.len]
  have hn : (⟨d.k, (d.l.take r).drop l⟩ : Dat).n = r - l := by
    simp only [Dat.n, List.length_drop, List.length_take]
    have : r ≤ d.l.length := hrn'
    omega
  intro K Q hK
  unfold Oper.wp
  rw [hrun]
  have hA := hW.add hid (bk := .sl ⟨d.k, (d.l.take r).drop l⟩ .ro) trivial (b := 0) (s := .slice (if c = l then ad else ad.map (·.add (l * d.sz))) (r - l) (c - l)) ⟨rfl, _, _, by rw [hn], ⟨by omega, by omega⟩, fun hpos => by
    obtain ⟨b, o', rfl, hnm, hcell⟩ := hc (by omega)
    have hcl : c ≠ l := by omega
    refine ⟨b, o' + l * d.sz, by rw [if_neg hcl]; simp [Addr.add_lit], hnm, fun j u hju => ?_⟩
    rw [hflat, List.getElem?_drop] at hju
    have : d.flat[l * d.sz + j]? = some u := by
      rw [List.getElem?_take] at hju
      split at hju
      · exact hju
      · cases hju
    have := hcell _ _ this
    rw [Nat.add_assoc]; exact this⟩ (by intro g hg; simp [blkOf, upd_same] at hg)
  have := hK _ _ hA (Nm.set_ext hid) (by intro y hy; simp [FV.scs, AV.cells] at hy; subst hy; simp [Sc.ok, Eff.on, upd_same, isSl])
  simpa [FV.con, AV.con, Sc.con, upd_same, Oper.upon, Nm.set] using this

theorem dense_sound (hW : WR w0 ρ hp w) (hF : FR ρ hp fr N a) {sz : Nat} : ∀ {ps : List (Nat × Operand)} {i : Nat} {l : List Value}, denseS sz i (ps.map fun x => (x.1, rd fr x.2)) = some l →
    ∃ vs : List Value, (ps.map fun x => (x.1, a.eval x.2)) = (vs.zipIdx i).map (fun x => (x.2, x.1)) ∧ (∀ v ∈ vs, v.cells.size = sz) ∧ l = vs.flatMap (fun v => v.cells.toList) ∧ vs.length = ps.length
  | [], i, l, h => by simp [denseS] at h; subst h; exact ⟨[], rfl, by simp, rfl, rfl⟩
  | (j, x) :: ps, i, l, h => by
    simp only [List.map_cons] at h
    cases hx : rd fr x with
    | tup _ => rw [hx] at h; simp [denseS] at h
    | bad => rw [hx] at h; simp [denseS] at h
    | a y =>
      rw [hx] at h
      simp only [denseS] at h
      cases hij : Nat.beq i j with
      | false => simp [hij] at h
      | true =>
        simp only [hij, cond_true] at h
        have := Nat.eq_of_beq_eq_true hij
        subst this
        split at h
        · rename_i l1 hl1
          cases hlen : Nat.beq l1.length sz with
          | false => simp [hlen] at h
          | true =>
            simp only [hlen, cond_true] at h
            have hlen' := Nat.eq_of_beq_eq_true hlen
            split at h
            · rename_i m hm
              cases h
              obtain ⟨vs, e1, e2, e3, e4⟩ := dense_sound hW hF hm
              have hok : ∀ q ∈ y.cells, q.ok hp := by
                have := hF.rdok x
                rw [hx] at this
                exact this
              have hcc := av_cells y ρ (fun q hq => ok_one hW (hok q hq))
              rw [vals_sound hl1, vmap_con] at hcc
              have hev := hF.eval' hx (by simp)
              refine ⟨y.con ρ :: vs, ?_, fun v hv => ?_, ?_, by simp [e4]⟩
              · rw [List.map_cons, e1]
                simp only [List.zipIdx_cons, List.map_cons, hev]
                rfl
              · rcases List.mem_cons.1 hv with rfl | hv
                · rw [hcc]; simpa using hlen'
                · exact e2 v hv
              · rw [List.flatMap_cons, hcc, e3]
            · cases h
        · cases h

theorem lit_sound {I : World → Prop} (HX : EnvOk X ρ.f I) (hW : WR w0 ρ hp w) (hF : FR ρ hp fr N a) (hid : hp id = none) {t : TypeId} {len : Nat} {parts : Array (Nat × Operand)} (ho : o.op = .buildSlice t len parts) {e0 : TE} (he : tget X.T t = some e0) {k : KN} {by_ el : Nat} (hk : e0.k = .slc k by_ el)
    (hps : parts.size = len) (hpos : 1 ≤ len * k.cd.sz) (hmax : len * k.cd.sz ≤ 1000000) {l : List Value} (hl : denseS k.cd.sz 0 (parts.toList.map fun x => (x.1, rd fr x.2)) = some l) {m : List k.ty} (hm : decL k len l = some m) :
    OpOk X.P o a w0 ρ hp w id (.a (.s (.sl id))) (.new (.sl ⟨k, m⟩ (.mine (some el)))) := by
  obtain ⟨hmem, rfl⟩ := tget_mem he
  obtain ⟨ie, z, hu, hie, hs, hby, hz, hzs⟩ := slcd (HX.T _ hmem) hk
  obtain ⟨vs, e1, e2, e3, e4⟩ := dense_sound hW hF hl
  obtain ⟨d1, d2⟩ := decL_ok hm
  have hvl : vs.length = len := by rw [e4]; simpa using hps
  have hspos : 0 < ie.size := by
    rw [hs]
    rcases Nat.eq_zero_or_pos k.cd.sz with h | h
    · rw [h] at hpos; simp at hpos
    · exact h
  obtain ⟨r, hr1, hr2, hr3⟩ := Great.fill_dense hspos vs 0 ((Array.range (len * ie.size)).map (z.cells[· % z.cells.size]!)) (fun v hv => by rw [hs]; exact e2 v hv) (by simp [hvl])
  have hfill : Instr.fill (fun i => some (i * ie.size, ie.size)) ((Array.range (len * ie.size)).map (z.cells[· % z.cells.size]!)) (parts.map fun (i, x) => (i, a.eval x)).toList = some r := by
    rw [Array.toList_map]
    have : parts.toList.map (fun x : Nat × Operand => match x with | (i, x) => (i, a.eval x)) = parts.toList.map fun x => (x.1, a.eval x.2) := rfl
    rw [this, e1]
    exact hr1
  have hrun := run_buildSlice (P := X.P) w e0.t el len _ r ie z hu hie hz (by rw [hs]; omega) (by rw [hs]; omega) hfill
  have hrl : r.toList = l := by
    rw [e3]
    apply List.ext_getElem?
    intro j
    have h1 := hr3 j
    simp only [Nat.zero_mul, Nat.zero_add, Nat.sub_zero, Nat.zero_le, true_and] at h1
    rw [Array.getElem?_toList, h1, hvl]
    by_cases hj : j < len * ie.size
    · rw [if_pos hj]
      have hq : j / ie.size < vs.length := by rw [Nat.div_lt_iff_lt_mul hspos, hvl]; exact hj
      have hrr : j % ie.size < ie.size := Nat.mod_lt _ hspos
      have hj2 : j = (j / ie.size) * ie.size + j % ie.size := by rw [Nat.mul_comm]; exact (Nat.div_add_mod j ie.size).symm
      have key : ∀ (vs : List Value) (q r : Nat), (∀ v ∈ vs, v.cells.size = ie.size) → q < vs.length → r < ie.size → (vs.flatMap fun v => v.cells.toList)[q * ie.size + r]? = (vs[q]?).bind fun v => v.cells[r]? := by
        intro vs
        induction vs with
        | nil => intro q r _ hq; simp at hq
        | cons v vs ih =>
          intro q r hv hq hr
          have hv1 := hv v List.mem_cons_self
          cases q with
          | zero =>
            simp only [List.flatMap_cons, Nat.zero_mul, Nat.zero_add]
            rw [List.getElem?_append_left (by simp; omega)]
            simp
          | succ q =>
            simp only [List.flatMap_cons]
            rw [List.getElem?_append_right (by simp [Nat.succ_mul]; omega)]
            have : (q + 1) * ie.size + r - v.cells.toList.length = q * ie.size + r := by simp [Nat.succ_mul]; omega
            rw [this, ih q r (fun u hu => hv u (List.mem_cons_of_mem _ hu)) (by simpa using hq) hr]
            simp
      conv => rhs; rw [hj2]
      rw [key vs _ _ (fun v hv => by rw [hs]; exact e2 v hv) hq hrr]
    · rw [if_neg hj]
      have hlen : (vs.flatMap fun v => v.cells.toList).length = len * ie.size := by
        rw [← e3, d1, flatMap_len _ k.cd.sz k.cd.len, d2, hs]
      rw [List.getElem?_eq_none (by rw [hlen]; omega)]
      exact Array.getElem?_eq_none (by simp; omega)
  have hrs : r.size = len * k.cd.sz := by rw [hr2]; simp [hs]
  refine OpOk.row hW hid (e := el) (s := .slice (some ⟨w.heap.size, 0, none⟩) len len) (w' := w.alloc (.cells r el)) rfl (by simp) ?_ ?_ ?_ ?_
  · have hn : (⟨k, m⟩ : Dat).n = len := d2
    have hfl : (⟨k, m⟩ : Dat).flat = l := d1.symm
    rw [hn, hfl]
    refine ⟨by rw [← hrl, Array.length_toList]; exact hrs, .inr ⟨w.heap.size, len, r, rfl, hW.below.size, heap_alloc_new w _, Nat.le_refl _, ?_, hrs, ?_⟩⟩
    · have : len ≤ len * k.cd.sz := Nat.le_mul_of_pos_right _ (by rw [← hs]; exact hspos)
      exact Nat.le_trans (Nat.le_trans this hmax) (by decide)
    · rw [hrl, List.take_of_length_le]
      rw [← hrl]; simp [hrs, Dat.sz]
  · exact (Below.refl w.heap.size w).alloc (Nat.le_refl _) _
  · intro g hg
    simp [Value.ownBlock] at hg
    omega
  · unfold execOp
    rw [ho]
    simp [hrun]

theorem cv_sound (hW : WR w0 ρ hp w) (hF : FR ρ hp fr N a) {s d : TypeId} {x : Operand} (ho : o.op = .convert s d x)
    (h : cvF X.P s d (scal (rd fr x)) = some (true, v, e)) : OpOk X.P o a w0 ρ hp w id v e ∧ v ≠ .bad := by
  unfold cvF at h
  split at h
  rotate_left
  · cases h
  rename_i z hz
  have hev := hF.eval' (scal_some hz) (by simp)
  have hpr : ∀ r, prunV X.P (convert s d z) = some r → some (true, r, Eff.no) = some (true, v, e) → OpOk X.P o a w0 ρ hp w id v e ∧ v ≠ .bad := by
    intro r0 hp' h
    cases h
    obtain ⟨r, rfl, h1, h2⟩ := prunV_sound hp'
    refine value_of hW (s := convert s d (a.eval x)) (by unfold execOp; rw [ho]) (vok h1) (by simp) ?_
    rw [hev]; exact h2 w
  unfold cvD at h
  split at h
  · rename_i k b
    split at h
    · rename_i i hd
      cases hs : (X.P.underlying s).isSome with
      | false => simp [hs] at h
      | true =>
        simp only [hs, cond_true, Option.some.injEq, Prod.mk.injEq] at h
        obtain ⟨h1, rfl, rfl⟩ := h
        obtain ⟨n, hn⟩ := Option.isSome_iff_exists.1 h1
        refine value_of hW (s := convert s d (a.eval x)) (by unfold execOp; rw [ho]) (vok rfl) (by simp) ?_
        rw [hev, hn]
        exact run_convert_float_int w s d k i b n hs hd hn
    · split at h
      · rename_i r hr; exact hpr r hr h
      · cases h
  · split at h
    · rename_i r hr; exact hpr r hr h
    · cases h

theorem ix_sound {I : World → Prop} (HX : EnvOk X ρ.f I) (hW : WR w0 ρ hp w) (hF : FR ρ hp fr N a) {t : TypeId} {x i : Operand} (ho : o.op = .index t x i)
    (h : ixD X t (rd fr x) (scal (rd fr i)) = some (true, v, e)) : OpOk X.P o a w0 ρ hp w id v e ∧ v ≠ .bad := by
  unfold ixD at h
  split at h
  · rename_i s k i' hx hi
    cases hs : isStr X.P t with
    | false => simp [hs] at h
    | true =>
      simp only [hs, cond_true, Option.some.injEq, Prod.mk.injEq] at h
      obtain ⟨hb, rfl, rfl⟩ := h
      obtain ⟨hb1, hb2⟩ := inB_of hb
      have hev := hF.eval' hx (by simp)
      have hev2 := hF.eval' (scal_some hi) (by simp)
      refine value_of hW (s := Instr.index t (a.eval x) (a.eval i)) (by unfold execOp; rw [ho]) (vok rfl) (by simp) ?_
      rw [hev, hev2]
      have hlt : i'.toNat < s.size := by omega
      have hq : s[i'.toNat]? = some (s.data.getD i'.toNat 0) := by
        rw [getElem?_pos s i'.toNat hlt]
        have : i'.toNat < s.data.size := hlt
        simp only [ByteArray.getElem_eq_getElem_data, Array.getD_eq_getD_getElem?, Array.getElem?_eq_getElem this, Option.getD_some]
      simp [Instr.index, asIntOf, isStr_of hs, FV.con, AV.con, Sc.con, hb1, hq, chr]
  · rename_i l k i' hx hi
    split at h
    · rename_i e0 he
      obtain ⟨hm, rfl⟩ := tget_mem he
      have HT := HX.T _ hm
      split at h
      · rename_i n sz ag hk
        cases hb : inB n i' with
        | false => simp [hb] at h
        | true =>
          simp only [hb, cond_true] at h
          obtain ⟨hb1, hb2⟩ := inB_of hb
          obtain ⟨el, hu, hc, hag, hall, hun⟩ := arrd HT hk
          have hev := hF.eval' hx (by simp)
          have hev2 := hF.eval' (scal_some hi) (by simp)
          have hok := hF.rdok x
          rw [hx] at hok
          have hpart := run_part hall hun hag (l.map (Sc.con ρ)).toArray (i'.toNat * sz) w
          have hidx : (Instr.index e0.t (a.eval x) (a.eval i)).run X.P w = (part el (l.map (Sc.con ρ)).toArray (i'.toNat * sz)).run X.P w := by
            rw [hev, hev2]
            simp [Instr.index, asIntOf, run_underlying hu, FV.con, AV.con, Sc.con, hb1, hb2, run_size hall, hc]
          have hexec : execOp a.eval o = (do pure (.value (← Instr.index e0.t (a.eval x) (a.eval i)))) := by unfold execOp; rw [ho]
          cases ag with
          | true =>
            simp only [cond_true] at h
            cases hb3 : Nat.ble (i'.toNat * sz + sz) l.length with
            | false => simp [hb3] at h
            | true =>
              simp only [hb3, cond_true] at h
              cases h
              have hb' := Nat.le_of_ble_eq_true hb3
              refine value_of hW hexec ?_ (by simp) ?_
              · intro y hy; exact hok y (List.mem_of_mem_drop (List.mem_of_mem_take hy))
              · rw [hidx, hpart, hc]
                simp only [if_true, FV.con, AV.con]
                congr 2
                apply Array.ext'
                simp [List.map_take, List.map_drop, List.extract_eq_take_drop]
          | false =>
            simp only [cond_false] at h
            cases hl : l[i'.toNat * sz]? with
            | none => simp [hl] at h
            | some y =>
              simp only [hl] at h
              obtain ⟨_, rfl, rfl⟩ := by simpa only [Option.some.injEq, Prod.mk.injEq] using h
              refine value_of hW hexec ?_ (by simp) ?_
              · intro z hz; simp [FV.scs, AV.cells] at hz; subst hz; exact hok _ (List.mem_of_getElem? hl)
              · rw [hidx, hpart]
                simp [hl, FV.con, AV.con]
      · cases h
    · cases h
  · cases h

theorem op_sound {I : World → Prop} (HX : EnvOk X ρ.f I) (hI : I w0) (hW : WR w0 ρ hp w) (hF : FR ρ hp fr N a) (hid : hp id = none)
    (h : opD X fr hp id o.op o.type = some (v, e)) : OpOk X.P o a w0 ρ hp w id v e ∧ v ≠ .bad := by
  unfold opD at h
  split at h
  · -- move
    rename_i x ho
    split at h
    · cases h
    · rename_i hne
      cases h
      refine ⟨OpOk.value hW (hF.rdok x) ?_, fun e => hne e⟩
      unfold execOp; rw [ho]
      simp [hF.eval (fun e => hne e)]
  · -- assign
    rename_i x ho
    split at h
    · cases h
    · rename_i hne
      cases h
      refine ⟨OpOk.value hW (hF.rdok x) ?_, fun e => hne e⟩
      unfold execOp; rw [ho]
      simp [hF.eval (fun e => hne e)]
  · -- pick
    rename_i c x y ho
    split at h
    · rename_i cb hc
      have hce := hF.eval' hc (by simp)
      have hrun : ∀ z : FV, (if cb then rd fr x else rd fr y) = z → rd fr x ≠ .bad → rd fr y ≠ .bad → (execOp a.eval o).run X.P w = .ok (.value (z.con ρ)) w := by
        intro z hz hx hy
        have hce' : a.eval c = .bool cb := hce
        unfold execOp; rw [ho]
        simp only [hce']
        cases cb <;> simp at hz <;> subst hz <;> simp [asBool, hF.eval hx, hF.eval hy]
      unfold pickD at h
      split at h
      · rename_i p q hx hy
        cases h
        refine ⟨OpOk.value hW (vok rfl) (hrun _ ?_ (by rw [hx]; simp) (by rw [hy]; simp)), by simp⟩
        rw [hx, hy]; cases cb <;> rfl
      · cases h
      · cases h
      · have hx : rd fr x ≠ .bad := fun e => by simp_all
        have hy : rd fr y ≠ .bad := fun e => by simp_all
        cases cb
        · simp at h
          obtain ⟨rfl, rfl⟩ := h
          exact ⟨OpOk.value hW (hF.rdok y) (hrun _ (by simp) hx hy), hy⟩
        · simp at h
          obtain ⟨rfl, rfl⟩ := h
          exact ⟨OpOk.value hW (hF.rdok x) (hrun _ (by simp) hx hy), hx⟩
    · cases h
  · -- alloc
    rename_i t ho
    split at h
    · rename_i e0 he
      cases h
      obtain ⟨hm, rfl⟩ := tget_mem he
      have HT := HX.T _ hm
      refine ⟨OpOk.new hW hid (t := e0.t) (vmap_ok (List.all_eq_true.1 HT.cell)) ?_, by simp⟩
      unfold execOp; rw [ho]
      simp [Instr.alloc, HT.zero, newVar, newRow, HT.zcells ρ]
    · cases h
  · -- box
    rename_i t x ho
    split at h
    · rename_i y hy
      cases h
      have hok : ∀ z ∈ y.cells, z.ok hp := by
        have := hF.rdok x
        rw [hy] at this
        exact this
      refine ⟨OpOk.new hW hid (t := t) hok ?_, by simp⟩
      have hev := hF.eval' hy (by simp)
      unfold execOp; rw [ho]
      simp only [hev, FV.con]
      simp [Instr.box, newVar, newRow, av_cells y ρ (fun z hz => ok_one hW (hok z hz))]
    · cases h
  · -- build
    rename_i t parts ho
    split at h
    · rename_i e0 he
      obtain ⟨hm, rfl⟩ := tget_mem he
      have HT := HX.T _ hm
      have hinfo := HT.info
      cases hq : X.P.info? e0.t with
      | none => simp [hq] at hinfo
      | some it =>
      simp [hq] at hinfo
      have hparts : ∀ p ∈ parts.toList.map (fun x => (x.1, rd fr x.2)), p.2.ok hp := by
        intro p hp'
        obtain ⟨q, _, rfl⟩ := List.mem_map.1 hp'
        exact hF.rdok q.2
      have hgood : ∀ (place : Nat → Option (Nat × Nat)) (cells l : List Sc) (ps : List (Nat × Operand)), fillS place cells (ps.map (fun x => (x.1, rd fr x.2))) = some l → ∀ p ∈ ps, rd fr p.2 ≠ .bad := by
        intro place cells l ps
        induction ps generalizing cells with
        | nil => intro _ p hp'; cases hp'
        | cons q ps ih =>
          intro hf p hp'
          simp only [List.map_cons] at hf
          cases hq2 : rd fr q.2 with
          | a y =>
            rw [hq2] at hf
            simp only [fillS] at hf
            split at hf
            · cases hf
            · rename_i off size _
              cases hb : (Nat.beq y.cells.length size && Nat.ble (off + size) cells.length) with
              | false => simp [hb] at hf
              | true =>
                simp only [hb, cond_true] at hf
                rcases List.mem_cons.1 hp' with rfl | hp'
                · rw [hq2]; simp
                · exact ih _ hf p hp'
          | tup l => rw [hq2] at hf; simp [fillS] at hf
          | bad => rw [hq2] at hf; simp [fillS] at hf
      have hmap : ∀ (hg : ∀ p ∈ parts.toList, rd fr p.2 ≠ .bad), (parts.map fun (x : Nat × Operand) => (x.1, a.eval x.2)).toList = (parts.toList.map (fun x => (x.1, rd fr x.2))).map fun p => (p.1, p.2.con ρ) := by
        intro hg
        rw [Array.toList_map, List.map_map]
        apply List.map_congr_left
        intro p hp'
        simp [hF.eval (hg p hp')]
      split at h
      · rename_i fl hk
        split at h
        · rename_i l hl
          cases h
          obtain ⟨fs, hu, hfl, hall⟩ := sized HT hk
          obtain ⟨e1, e2⟩ := fill_sound hW _ _ _ _ hl (vmap_ok (List.all_eq_true.1 HT.cell)) hparts
          have hpl : ∀ (fs : List Field), (∀ f ∈ fs, (X.P.info? f.type).isSome = true) → fs.mapM (fun f => (X.P.info? f.type).map fun i => (f.offset, i.size)) = some (fs.map fun f => (f.offset, X.P.cellsOf f.type)) := by
            intro fs
            induction fs with
            | nil => intro _; rfl
            | cons f fs ih =>
              intro hall
              obtain ⟨i, hi⟩ := Option.isSome_iff_exists.1 (hall f List.mem_cons_self)
              simp [List.mapM_cons, hi, ih (fun g hg => hall g (List.mem_cons_of_mem _ hg)), Program.cellsOf]
          refine ⟨OpOk.value hW e2 ?_, by simp⟩
          have hb : X.P.built e0.t (parts.map fun (x : Nat × Operand) => (x.1, a.eval x.2)).toList = some (l.map (Sc.con ρ)).toArray := by
            unfold Program.built
            simp only [hq, hu, hinfo.2, hpl fs.toList (fun f hf => (hall f hf).1), hmap (hgood _ _ _ _ hl)]
            rw [← e1, HT.zcells ρ]
            congr 1
            funext i
            rw [hfl]
            simp only [List.getElem?_map, List.getElem?_toArray]
            cases fs.toList[i]? <;> rfl
          unfold execOp; rw [ho]
          have := run_build (P := X.P) w e0.t _ _ hb
          simp [this, FV.con, AV.con]
        · cases h
      · rename_i n sz ag hk
        split at h
        · rename_i l hl
          cases h
          obtain ⟨el, hu, hsz, hag, hall, _⟩ := arrd HT hk
          obtain ⟨e1, e2⟩ := fill_sound hW _ _ _ _ hl (vmap_ok (List.all_eq_true.1 HT.cell)) hparts
          refine ⟨OpOk.value hW e2 ?_, by simp⟩
          have hb : X.P.built e0.t (parts.map fun (x : Nat × Operand) => (x.1, a.eval x.2)).toList = some (l.map (Sc.con ρ)).toArray := by
            unfold Program.built
            obtain ⟨ie, hie⟩ := Option.isSome_iff_exists.1 hall
            have hs : ie.size = sz := by rw [← hsz]; simp [Program.cellsOf, hie]
            simp only [hq, hu, hinfo.2, hie, hmap (hgood _ _ _ _ hl), hs]
            rw [← e1, HT.zcells ρ]
          unfold execOp; rw [ho]
          have := run_build (P := X.P) w e0.t _ _ hb
          simp [this, FV.con, AV.con]
        · cases h
      · cases h
    · cases h
  · -- buildSlice
    rename_i t len parts ho
    split at h
    · rename_i e0 he
      split at h
      · rename_i k by_ el hk
        cases hb : (Nat.beq parts.size len && Nat.ble 1 (len * k.cd.sz) && Nat.ble (len * k.cd.sz) 1000000) with
        | false => simp [hb] at h
        | true =>
        simp only [hb, cond_true] at h
        split at h
        · rename_i l hl
          split at h
          · rename_i m hm
            cases h
            refine ⟨?_, by simp⟩
            simp only [Bool.and_eq_true] at hb
            exact lit_sound HX hW hF hid ho he hk (Nat.eq_of_beq_eq_true hb.1.1) (Nat.le_of_ble_eq_true hb.1.2) (Nat.le_of_ble_eq_true hb.2) hl hm
          · cases h
        · cases h
      · cases h
    · cases h
  · -- load
    rename_i t x ho
    split at h
    · rename_i e0 he
      obtain ⟨hm, rfl⟩ := tget_mem he
      have HT := HX.T _ hm
      split at h
      · rename_i i off hx
        have hev := hF.eval' hx (by simp)
        split at h
        · rename_i cs hcs
          obtain ⟨hl, rfl⟩ := no_some h
          obtain ⟨h1, h2, h3⟩ := ldS_sound (hp := hp) HT hl (hW.ok i _ hcs) (blk_cells hW hcs)
          refine value_of hW (s := Instr.loadAt e0.t (a.eval x)) ?_ h2 h3 ?_
          · unfold execOp; rw [ho]
          · rw [hev]; simpa [FV.con, AV.con, Sc.con] using h1
        · rename_i cs hcs
          obtain ⟨hl, rfl⟩ := no_some h
          obtain ⟨h1, h2, h3⟩ := ldS_sound (hp := hp) HT hl (vmap_ok (hW.fact i _ hcs).1) (ro_cells hW hcs)
          refine value_of hW (s := Instr.loadAt e0.t (a.eval x)) ?_ h2 h3 ?_
          · unfold execOp; rw [ho]
          · rw [hev]; simpa [FV.con, AV.con, Sc.con] using h1
        · cases h
      · rename_i nm sz idx off hx
        have hev := hF.eval' hx (by simp)
        have hok := hF.rdok1 hx
        split at h
        · rename_i d m hnm
          obtain ⟨hl, rfl⟩ := no_some h
          simp only [Sc.ok, hnm, elOk] at hok
          obtain ⟨hidx, rfl⟩ := hok
          obtain ⟨b, o', e1, e2, e3⟩ := el_cells hW hnm hidx
          obtain ⟨h1, h2, h3⟩ := ldS_sound (hp := hp) HT hl (vmap_ok (row_one d idx)) e3
          refine value_of hW (s := Instr.loadAt e0.t (a.eval x)) ?_ h2 h3 ?_
          · unfold execOp; rw [ho]
          · rw [hev]; simp only [FV.con, AV.con, Sc.con, e2]; rw [← Nat.add_assoc]; exact h1
        · cases h
      · cases h
    · cases h
  · -- store
    rename_i t x y ho
    split at h
    · rename_i e0 he
      obtain ⟨hm, rfl⟩ := tget_mem he
      have HT := HX.T _ hm
      split at h
      · rename_i i off z hx hy
        split at h
        · rename_i cs hcs
          cases hb : (Nat.beq z.cells.length e0.size && Nat.ble (off + e0.size) cs.length) with
          | false => simp [hb] at h
          | true =>
            simp only [hb, cond_true] at h
            cases h
            simp only [Bool.and_eq_true] at hb
            have h1 := Nat.eq_of_beq_eq_true hb.1
            have h2 := Nat.le_of_ble_eq_true hb.2
            have hok : ∀ q ∈ z.cells, q.ok hp := by
              have := hF.rdok y
              rw [hy] at this
              exact this
            have hcc := av_cells z ρ (fun q hq => ok_one hW (hok q hq))
            obtain ⟨hb0, t', ht'⟩ := hW.fact i _ hcs
            have hev := hF.eval' hx (by simp)
            have hev2 := hF.eval' hy (by simp)
            refine ⟨OpOk.set hW hcs (fun q hq => (mem_setAt hq).elim (hW.ok i _ hcs q) (hok q)) ?_, by simp [undefF]⟩
            have hst := run_storeCells_at X.P (ρ.b i) off t' (z.cells.map (Sc.con ρ)) 0 _ w ht' (by simp; omega) (fun u hu => by
              obtain ⟨q, hq, rfl⟩ := List.mem_map.1 hu
              exact ok_one hW (hok q hq))
            unfold execOp; rw [ho]
            simp only [hev, hev2, FV.con, AV.con, Sc.con] at *
            rw [setAt_map]
            simp [Instr.storeAt, Instr.sureAddr, storeVar, hcc, HT.size_run, h1, hst]
        · cases h
      · rename_i nm sz idx off z hx hy
        split at h
        · rename_i d m l hnm hl
          cases hb : (Nat.beq l.length e0.size && Nat.ble (off + e0.size) (d.row idx).length) with
          | false => simp [hb] at h
          | true =>
            simp only [hb, cond_true] at h
            split at h
            rotate_left
            · cases h
            rename_i x' hdec
            cases h
            refine ⟨?_, by simp [undefF]⟩
            simp only [Bool.and_eq_true] at hb
            have h1 := Nat.eq_of_beq_eq_true hb.1
            have h2 := Nat.le_of_ble_eq_true hb.2
            have hok1 := hF.rdok1 hx
            simp only [Sc.ok, hnm, elOk] at hok1
            obtain ⟨hidx, rfl⟩ := hok1
            have hok : ∀ q ∈ z.cells, q.ok hp := by
              have := hF.rdok y
              rw [hy] at this
              exact this
            have hzl := vals_sound hl
            have hcc := av_cells z ρ (fun q hq => ok_one hW (hok q hq))
            rw [hzl, vmap_con] at hcc
            have hev := hF.eval' hx (by simp)
            have hev2 := hF.eval' hy (by simp)
            exact store_el hW hnm hidx (by rw [hev]; rfl) (by rw [hev2]; exact hcc) ho (HT.size_run w) h1 (by rw [h1]; exact h2) (vals_one hl hok) hdec
        · cases h
      · cases h
    · cases h
  · -- fieldAddr
    rename_i t x f ho
    split at h
    · rename_i e0 he
      obtain ⟨hm, rfl⟩ := tget_mem he
      have HT := HX.T _ hm
      split at h
      · rename_i off0 hf
        split at h
        · rename_i i off hx
          cases h
          have hev := hF.eval' hx (by simp)
          refine value_of hW (s := Instr.fieldAt e0.t (a.eval x) f) (by unfold execOp; rw [ho]) ?_ (by simp) ?_
          · intro y hy; simp [FV.scs, AV.cells] at hy; subst hy; have := hF.rdok1 hx; exact this
          · rw [hev]; exact fldP_sound HT hf _ _
        · rename_i i sz idx off hx
          split at h
          rotate_left
          · cases h
          rename_i d m hi
          cases h
          have hev := hF.eval' hx (by simp)
          have hok := hF.rdok1 hx
          exact field_el hW hi hok HT hf hev ho
        · cases h
      · cases h
    · cases h
  · -- field
    rename_i t x f ho
    split at h
    · rename_i e0 he
      obtain ⟨hm, rfl⟩ := tget_mem he
      have HT := HX.T _ hm
      split at h
      · rename_i fl hk
        split at h
        · rename_i off sz ag l hf hx
          obtain ⟨fs, hu, hfl, hall⟩ := sized HT hk
          rw [hfl, List.getElem?_map, Option.map_eq_some_iff] at hf
          obtain ⟨fd, hfd, hq⟩ := hf
          simp only [Prod.mk.injEq] at hq
          obtain ⟨rfl, hsz, hag⟩ := hq
          have hfd' : fs[f]? = some fd := by simpa using hfd
          obtain ⟨hi, hun⟩ := hall fd (List.mem_of_getElem? hfd)
          have hpart := run_part hi hun hag (l.map (Sc.con ρ)).toArray fd.offset w
          have hev := hF.eval' hx (by simp)
          have hok := hF.rdok x
          rw [hx] at hok
          have hexec : execOp a.eval o = (do pure (.value (← Instr.field e0.t (a.eval x) f))) := by unfold execOp; rw [ho]
          have hfield : (Instr.field e0.t (a.eval x) f).run X.P w = (part fd.type (l.map (Sc.con ρ)).toArray fd.offset).run X.P w := by
            rw [hev]
            simp [Instr.field, run_underlying hu, hfd', FV.con, AV.con, asAgg]
          cases ag with
          | true =>
            simp only [cond_true] at h
            cases hb : Nat.ble (fd.offset + sz) l.length with
            | false => simp [hb] at h
            | true =>
              simp only [hb, cond_true] at h
              cases h
              have hb' := Nat.le_of_ble_eq_true hb
              refine value_of hW hexec ?_ (by simp) ?_
              · intro y hy; exact hok y (List.mem_of_mem_drop (List.mem_of_mem_take hy))
              · rw [hfield, hpart, hsz]
                simp only [if_true, FV.con, AV.con]
                congr 2
                apply Array.ext'
                simp [List.map_take, List.map_drop, List.extract_eq_take_drop]
          | false =>
            simp only [cond_false] at h
            cases hl : l[fd.offset]? with
            | none => simp [hl] at h
            | some y =>
              simp only [hl] at h
              cases h
              refine value_of hW hexec ?_ (by simp) ?_
              · intro z hz; simp [FV.scs, AV.cells] at hz; subst hz; exact hok _ (List.mem_of_getElem? hl)
              · rw [hfield, hpart]
                simp [hl, FV.con, AV.con]
        · cases h
      · cases h
    · cases h
  · -- extract
    rename_i x i ho
    split at h
    · rename_i l hx
      split at h
      · rename_i y hy
        cases h
        have hev := hF.eval' hx (by simp)
        refine value_of hW (s := Instr.extract (a.eval x) i) (by unfold execOp; rw [ho]) ?_ (by simp) ?_
        · intro z hz
          have := hF.rdok x
          rw [hx] at this
          exact this z (by simp only [FV.scs, List.mem_flatMap]; exact ⟨y, List.mem_of_getElem? hy, hz⟩)
        · rw [hev]; simp [FV.con, Instr.extract, hy]
      · cases h
    · cases h
  · -- unOp
    rename_i u t x ho
    split at h
    · rename_i z hz
      obtain ⟨hp', rfl⟩ := no_some h
      obtain ⟨r, rfl, h1, h2⟩ := prunV_sound hp'
      have hev := hF.eval' (scal_some hz) (by simp)
      refine value_of hW (s := Op.unary u (a.eval x)) (by unfold execOp; rw [ho]) (vok h1) (by simp) ?_
      rw [hev]; exact h2 w
    · cases h
  · -- binOp
    rename_i op t x y yt ho
    obtain ⟨v, e, hb, rfl, rfl⟩ := gate_some h
    exact bin_sound HX hW hF ho hb
  · -- convert
    rename_i s d x ho
    obtain ⟨v, e, hb, rfl, rfl⟩ := gate_some h
    exact cv_sound hW hF ho hb
  · -- nilCheck
    rename_i x ho
    split at h
    · rename_i i off hx
      cases h
      have hev := hF.eval' hx (by simp)
      refine ⟨OpOk.value hW ?_ ?_, by simp⟩
      · intro y hy; simp [FV.scs, AV.cells] at hy; subst hy; exact hF.rdok1 hx
      · unfold execOp; rw [ho]; simp only [hev, FV.con, AV.con, Sc.con]; rfl
    · cases h
  · -- makeFunc
    rename_i f first cs ho
    split at h
    · rename_i f' l hfirst hl
      cases h
      have hc := caps0_sound hF hl
      refine value_of hW (s := Instr.makeFunc (.func f') (first.map a.eval) (cs.map a.eval)) (by unfold execOp; rw [ho]) ?_ (by simp) ?_
      · intro y hy
        simp [FV.scs, AV.cells] at hy
        subst hy
        exact hc.2
      · have hf0 : first = #[] := by apply Array.ext'; simpa using hfirst
        subst hf0
        have e1 : cs.map a.eval = (l.map fun i => ptr (ρ.b i)).toArray := by apply Array.ext'; rw [Array.toList_map]; exact hc.1
        simp [Instr.makeFunc, e1, FV.con, AV.con, Sc.con]
    · cases h
  · -- index
    rename_i t x i ho
    obtain ⟨v, e, hb, rfl, rfl⟩ := gate_some h
    exact ix_sound HX hW hF ho hb
  · -- indexAddr
    rename_i t x i ho
    obtain ⟨v, e, hb, rfl, rfl⟩ := gate_some h
    exact idx_sound HX hW hF ho hb
  · -- slice
    rename_i t x lo hi mx ho
    obtain ⟨v, e, hb, rfl, rfl⟩ := gate_some h
    exact sl_sound HX hW hF hid ho hb
  · -- call
    rename_i c ho
    obtain ⟨v, e, hb, rfl, rfl⟩ := gate_some h
    exact call_sound HX hI hW hF hid ho hb
  · cases h
end

end Go.Proofs.Ytmmlpaehehgfnaa.Sx
