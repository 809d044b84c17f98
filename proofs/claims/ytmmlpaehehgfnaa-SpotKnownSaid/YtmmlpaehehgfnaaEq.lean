/-
  What this text proves: equality of structs of plain cells is equality cell by cell ('eqOk').
  Conditions: none.
-/
import Derived.Test.YtmmlpaehehgfnaaSxH
import Derived.Laws.StructEq
namespace Go.Proofs.Ytmmlpaehehgfnaa.Sx
open Go.RowKit
set_option linter.unusedVariables false
set_option linter.unusedSimpArgs false

/-- A type's cells, if it is plain, or a struct of such. -/
def lvs (P : Program) : Nat → TypeId → Option (List Lf)
  | 0, _ => none
  | d + 1, t => match P.underlying t with
    | some (.int k) => some [.int k]
    | some .bool => some [.bool]
    | some (.complex k) => some [.cx k]
    | some (.struct fs) => bif P.stoodInHeld t then none else fields (lvs P d) P fs.toList 0
    | _ => none
 where
  fields (g : TypeId → Option (List Lf)) (P : Program) : List Field → Nat → Option (List Lf)
    | [], _ => some []
    | f :: fs, off => match g f.type with
      | some s => bif (f.name != "_") && Nat.beq f.offset off && Nat.beq (P.cellsOf f.type) s.length && (P.info? f.type).isSome then
          match fields g P fs (off + s.length) with
          | some r => bif Nat.beq s.length 0 then none else some (s ++ r)
          | none => none
        else none
      | none => none

/-- A value of a type. -/
def valOf (P : Program) (t : TypeId) (l : List Value) : Value := bif descAgg (P.underlying t) then .agg l.toArray else l.headD undef

theorem eqV_app : ∀ {s r : List Lf} {l m : List Value} {b : Bool}, eqV (s ++ r) l m = some b → ∃ b1 b2, eqV s (l.take s.length) (m.take s.length) = some b1 ∧ eqV r (l.drop s.length) (m.drop s.length) = some b2 ∧ b = (b1 && b2)
  | [], r, l, m, b, h => ⟨true, b, rfl, h, by simp⟩
  | f :: s, r, x :: l, y :: m, b, h => by
    simp only [List.cons_append, eqV] at h
    split at h
    · rename_i a q h1 h2
      obtain ⟨b1, b2, e1, e2, rfl⟩ := eqV_app h2
      simp only [Option.some.injEq] at h
      exact ⟨a && b1, b2, by simp only [List.length_cons, List.take_succ_cons, eqV, h1, e1], e2, by rw [← h, Bool.and_assoc]⟩
    · cases h
  | f :: s, r, [], m, b, h => by simp [eqV] at h
  | f :: s, r, x :: l, [], b, h => by simp [eqV] at h

section
variable {P : Program}

theorem lvs_under {d : Nat} {t : TypeId} {s : List Lf} (h : lvs P d t = some s) : (P.underlying t).isSome = true := by
  cases d with
  | zero => cases h
  | succ d =>
    simp only [lvs] at h
    cases hu : P.underlying t with
    | none => rw [hu] at h; cases h
    | some _ => rfl

theorem part_of {t : TypeId} {s : List Lf} (hi : (P.info? t).isSome = true) (hu : (P.underlying t).isSome = true) (hc : P.cellsOf t = s.length) (l : List Value) (off : Nat) (hl : off + s.length ≤ l.length) (hpos : 0 < s.length) (w : World) :
    (part t l.toArray off).run P w = .ok (valOf P t ((l.drop off).take s.length)) w := by
  rw [run_part hi hu rfl]
  unfold valOf
  cases hag : descAgg (P.underlying t) with
  | true =>
    simp only [cond_true, if_true, hc]
    congr 2
    apply Array.ext'
    simp [List.extract_eq_take_drop]
  | false =>
    simp only [cond_false, Bool.false_eq_true, if_false]
    have hlt : off < l.length := by omega
    have : ((l.drop off).take s.length).headD undef = l[off] := by
      obtain ⟨n, hn⟩ : ∃ n, s.length = n + 1 := ⟨s.length - 1, by omega⟩
      rw [hn, List.drop_eq_getElem_cons hlt]
      rfl
    rw [this]
    simp [hlt]

theorem eqV_len : ∀ {s : List Lf} {l m : List Value} {b : Bool}, eqV s l m = some b → l.length = s.length ∧ m.length = s.length
  | [], [], [], b, h => ⟨rfl, rfl⟩
  | f :: s, x :: l, y :: m, b, h => by
    simp only [eqV] at h
    split at h
    · rename_i a q h1 h2
      obtain ⟨e1, e2⟩ := eqV_len h2
      exact ⟨by simp [e1], by simp [e2]⟩
    · cases h
  | [], _ :: _, _, _, h => by simp [eqV] at h
  | [], [], _ :: _, _, h => by simp [eqV] at h
  | _ :: _, [], _, _, h => by simp [eqV] at h
  | _ :: _, _ :: _, [], _, h => by simp [eqV] at h

theorem eqV_one {f : Lf} {l m : List Value} {b : Bool} (h : eqV [f] l m = some b) : ∃ x y, l = [x] ∧ m = [y] ∧ eqC f x y = some b := by
  obtain ⟨h1, h2⟩ := eqV_len h
  match l, m, h1, h2 with
  | [x], [y], _, _ =>
    simp only [eqV] at h
    cases he : eqC f x y with
    | none => simp [he] at h
    | some a => simp [he] at h; exact ⟨x, y, rfl, rfl, by rw [he, h]⟩

theorem eq_leaf {d : Nat} {t : TypeId} {s : List Lf} {l m : List Value} {b : Bool} (hs : lvs P (d + 1) t = some s) (hag : descAgg (P.underlying t) = false) (he : eqV s l m = some b) (w : World) : (Op.equalIn (d + 1) t (valOf P t l) (valOf P t m)).run P w = .ok b w := by
  simp only [valOf, hag, cond_false]
  simp only [lvs] at hs
  split at hs
  · rename_i k hu
    cases hs
    obtain ⟨x, y, rfl, rfl, hc⟩ := eqV_one he
    simp only [List.headD_cons]
    unfold eqC at hc
    split at hc
    · rename_i hk
      simp only [Bool.cond_eq_ite] at hc
      split at hc
      · rename_i hkk
        simp only [Bool.and_eq_true, beq_iff_eq] at hkk
        obtain ⟨rfl, rfl⟩ := hkk
        simp only [Option.some.injEq] at hc
        subst hc
        exact run_equalIn_int w d t _ _ _ _ hu
      · cases hc
    all_goals first | contradiction | (cases hc; done)
  · rename_i hu
    cases hs
    obtain ⟨x, y, rfl, rfl, hc⟩ := eqV_one he
    simp only [List.headD_cons]
    unfold eqC at hc
    split at hc
    · contradiction
    · simp only [Option.some.injEq] at hc
      subst hc
      exact run_equalIn_bool' w d t _ _ hu
    all_goals first | contradiction | (cases hc; done)
  · rename_i k hu
    cases hs
    obtain ⟨x, y, rfl, rfl, hc⟩ := eqV_one he
    simp only [List.headD_cons]
    unfold eqC at hc
    split at hc
    · contradiction
    · contradiction
    · rename_i hk
      simp only [Bool.cond_eq_ite] at hc
      split at hc
      · rename_i hkk
        simp only [Bool.and_eq_true, beq_iff_eq] at hkk
        obtain ⟨rfl, rfl⟩ := hkk
        simp only [Option.some.injEq] at hc
        subst hc
        simp [Op.equalIn, run_underlying hu]
      · cases hc
    all_goals first | contradiction | (cases hc; done)
  · rename_i fs hu
    rw [hu] at hag
    simp [descAgg] at hag
  · cases hs

theorem eq_in : ∀ (d : Nat) {t : TypeId} {s : List Lf} {l m : List Value} {b : Bool}, lvs P d t = some s → eqV s l m = some b → ∀ w, (Op.equalIn d t (valOf P t l) (valOf P t m)).run P w = .ok b w
  | 0, t, s, l, m, b, hs, he, w => by cases hs
  | d + 1, t, s, l, m, b, hs, he, w => by
    cases hag : descAgg (P.underlying t) with
    | false => exact eq_leaf hs hag he w
    | true =>
      have hs' := hs
      simp only [lvs] at hs
      split at hs
      · rename_i hu; rw [hu] at hag; cases hag
      · rename_i hu; rw [hu] at hag; cases hag
      · rename_i hu; rw [hu] at hag; cases hag
      rotate_left
      · cases hs
      rename_i fs hu
      cases hst : P.stoodInHeld t with
      | true => simp [hst] at hs
      | false =>
        simp only [hst, cond_false] at hs
        have hfo : P.fieldsOf t = fs := by simp [Program.fieldsOf, hu]
        simp only [valOf, hag, cond_true]
        rw [run_equalIn_struct w d t l.toArray m.toArray (by rw [hfo]; exact hu) hst, hfo]
        -- field by field
        have key : ∀ (fl : List Field) (off : Nat) (s : List Lf) (b : Bool) (w : World), lvs.fields (lvs P d) P fl off = some s → off + s.length = l.length → off + s.length = m.length → eqV s (l.drop off) (m.drop off) = some b →
            (Op.eqFields d l.toArray m.toArray fl).run P w = .ok b w := by
          intro fl
          induction fl with
          | nil =>
            intro off s b w h1 _ _ h4
            cases h1
            unfold eqV at h4
            split at h4
            · cases h4; simp [Op.eqFields]
            all_goals first | contradiction | (cases h4; done)
          | cons f fl ih =>
            intro off s b w h1 h2 h3 h4
            simp only [lvs.fields] at h1
            split at h1
            rotate_left
            · cases h1
            rename_i s1 hs1
            simp only [Bool.cond_eq_ite] at h1
            split at h1
            rotate_left
            · cases h1
            rename_i hc
            split at h1
            rotate_left
            · cases h1
            rename_i r hr
            split at h1
            · cases h1
            rename_i hpos
            cases h1
            have hp : 0 < s1.length := Nat.pos_of_ne_zero fun e => hpos (by rw [e]; rfl)
            simp only [Bool.and_eq_true] at hc
            obtain ⟨⟨⟨c1, c2⟩, c3⟩, c4⟩ := hc
            have c2' := Nat.eq_of_beq_eq_true c2
            have c3' := Nat.eq_of_beq_eq_true c3
            obtain ⟨b1, b2, e1, e2, rfl⟩ := eqV_app h4
            have hne : f.name ≠ "_" := by simpa using c1
            simp only [List.length_append] at h2 h3
            have ha : ∀ (l : List Value), off + (s1.length + r.length) = l.length → 0 < s1.length → (part f.type l.toArray f.offset).run P w = .ok (valOf P f.type ((l.drop off).take s1.length)) w := by
              intro l hl hp
              rw [c2']
              exact part_of c4 (lvs_under hs1) c3' l off (by omega) hp w
            simp only [Op.eqFields, if_pos hne]
            simp only [Sem.run_bind, ha l h2 hp, ha m h3 hp, Result.andThen_ok, eq_in d hs1 e1 w]
            cases b1 with
            | false => simp
            | true =>
              simp only [Bool.not_true, Bool.false_eq_true, if_false, Bool.true_and]
              refine ih (off + s1.length) r b2 w hr (by omega) (by omega) ?_
              simpa [List.drop_drop, Nat.add_comm] using e2
        have hl := eqV_len he
        exact key fs.toList 0 s b w hs (by omega) (by omega) (by simpa using he)

theorem eqOk {d : Nat} {t : TypeId} {s : List Lf} (hd : d = 10000) (hs : lvs P d t = some s) (hag : descAgg (P.underlying t) = true) (hg : P.eqGuardType P.depth t = false) : EqOk P t s := by
  subst hd
  intro l m b he w x y
  have h := eq_in (P := P) 10000 hs he w
  simp only [valOf, hag, cond_true] at h
  constructor
  · simp [run_eqGuard_agg w .eql t x y l.toArray m.toArray hg, run_eql_struct, h]
  · simp [run_eqGuard_agg w .neq t x y l.toArray m.toArray hg, run_neq_struct, h]
end

end Go.Proofs.Ytmmlpaehehgfnaa.Sx
