/-
  What this text proves: the contract of poly.Horner.
  Conditions: none.
-/
import Derived.Shelf.Abstract
import Derived.Test.YtmmlpaehehgfnaaRb
import Derived.Test.YtmmlpaehehgfnaaRf
namespace Go.Proofs.Ytmmlpaehehgfnaa.Sx
open Go.RowKit Go.Shelf
set_option linter.unusedSimpArgs false
set_option linter.unusedVariables false

abbrev acSlIv : Ac (List Iv) := acSl .iv

def horner (l : List Iv) (x : Iv) : Iv := match l.reverse with
  | [] => point 0
  | a :: r => r.foldl (fun o b => add (mul o x) b) (if right a then a else nul)

noncomputable abbrev hoEnv : Env := env [iv_Point_c, iv_Right_c, iv_None_c, iv_Mul_c, iv_Add_c]

theorem ho_nil (x : Iv) : Snd 109 [acSlIv.enc [], acIv.enc x] (fIv (horner [] x)) :=
  ct_ok hoEnv (env_ok _) Try.func109 (by kernel_rfl) ([] : List (Hn Try.f109)) (by kernel_rfl) (by kernel_rfl) (by kernel_rfl)
    (show evH hoEnv (hl ([] : List (Hn Try.f109))) none 0 0 Try.f109 [acSlIv.enc [], acIv.enc x] = some (fIv (point 0)) by kernel_rfl)

/-! ### The code's parts -/

def cFst : Code → Code
  | .seq a _ => a
  | c => c
def cSnd : Code → Code
  | .seq _ b => b
  | c => c
def cOps : Code → Array Oper
  | .region _ ops _ => ops
  | _ => #[]
def cIn : Code → Code
  | .block _ c => c
  | c => c
def cAssign : Code → Code
  | .rangeFunc _ _ c _ => c
  | c => c
def cBody : Code → Code
  | .rangeFunc _ _ _ c => c
  | c => c

noncomputable def hoC : Code := bodyOf Try.f109
noncomputable def ho1 : Code := cFst hoC
noncomputable def ho2 : Code := cFst (cSnd hoC)
noncomputable def ho3 : Code := cFst (cSnd (cSnd hoC))
noncomputable def ho4 : Code := cFst (cSnd (cSnd (cSnd hoC)))
noncomputable def ho5 : Code := cSnd (cSnd (cSnd (cSnd hoC)))
noncomputable def hoRf : Code := cIn (cSnd (cFst ho5))
noncomputable def hoOps6 : Array Oper := cOps (cFst (cFst ho5))
noncomputable def hoOps7 : Array Oper := cOps (cAssign hoRf)
noncomputable def hoOps8 : Array Oper := cOps (cIn (cBody hoRf))
noncomputable def ho9 : Code := cFst (cSnd ho5)

theorem ho_shape : hoC = .seq ho1 (.seq ho2 (.seq ho3 (.seq ho4 (.seq (.seq (.region 6 hoOps6 false) (.block 0 (.rangeFunc (.tmp 27) #[28, 29] (.region 7 hoOps7 false) (.block 1 (.region 8 hoOps8 true))))) (.seq ho9 .ret))))) := by kernel_rfl

/-! ### Ahead of the loop -/

noncomputable def hoFront {R : Type} (σ : St) (K : St → Option R) : Option R :=
  evG hoEnv (lh []) 36 0 0 ho1 σ fun x σ => match x with
    | .normal => evG hoEnv (lh []) 36 0 0 ho2 σ fun x σ => match x with
      | .normal => evG hoEnv (lh []) 36 0 0 ho3 σ fun x σ => match x with
        | .normal => evG hoEnv (lh []) 36 0 0 ho4 σ fun x σ => match x with
          | .normal => K σ
          | _ => none
        | _ => none
      | _ => none
    | _ => none

theorem ho_front {R : Type} {F : FM} {I : World → Prop} (HX : EnvOk hoEnv F I) {w0 w : World} (hI : I w0) {σ : St} {K : St → Option R} {r : R} {ρ : Nm} {a : Act} {Q : Exit → Act → World → Prop} (hR : Rel w0 F 36 ρ σ a w) (h : hoFront σ K = some r)
    (hK : ∀ σ' ρ' a' w', Rel w0 F 36 ρ' σ' a' w' → K σ' = some r → (Code.seq (.seq (.region 6 hoOps6 false) (.block 0 (.rangeFunc (.tmp 27) #[28, 29] (.region 7 hoOps7 false) (.block 1 (.region 8 hoOps8 true))))) (.seq ho9 .ret)).wp Try.prog Q a' w') : hoC.wp Try.prog Q a w := by
  have hh : ∀ c, HintsOk Try.prog w0 F 36 (lh []) c := fun c => hints_of (h := []) rfl (fun q hq => by cases hq)
  rw [ho_shape]
  refine wp_seq (evG_sound HX follows hI 0 ho1 (hh _) σ _ r ρ a w _ hR h fun x σ ρ a w hR h => ?_)
  cases x <;> first | cases h | skip
  refine wp_seq (evG_sound HX follows hI 0 ho2 (hh _) σ _ r ρ a w _ hR h fun x σ ρ a w hR h => ?_)
  cases x <;> first | cases h | skip
  refine wp_seq (evG_sound HX follows hI 0 ho3 (hh _) σ _ r ρ a w _ hR h fun x σ ρ a w hR h => ?_)
  cases x <;> first | cases h | skip
  refine wp_seq (evG_sound HX follows hI 0 ho4 (hh _) σ _ r ρ a w _ hR h fun x σ ρ a w hR h => ?_)
  cases x <;> first | cases h | skip
  exact hK _ _ _ _ hR h

/-- x; the result's place; what is added up. -/
def hoBl (i : Nat) : BL (Iv × Iv × Iv) := .cons 1 (bS cdIv) (.cons 2 (bS cdIv) (.one i (bS cdIv)))
def hoVl (i : Nat) : VL (List Iv) := .adr 3 1 (.adr 4 2 (.adr 5 i (.one 26 (vSl .iv .ro))))
def hoV : View (List Iv × Iv × Iv × Iv) := view1 (hoVl 12) (hoBl 12) 100 none

def hoI (l : List Iv) : Int := w64 (((l.length : Nat) : Int) - 1)
def hoA (l : List Iv) : Iv := l.getD (hoI l).toNat KN.iv.cd.z
def hoT (l : List Iv) (x : Iv) : Tr (List Iv × Iv × Iv × Iv) :=
  .n (((l.length : Nat) : Int) == 0) .f (.n (inB l.length (hoI l))
    (.n (!right (hoA l)) (.n (decide ((0 : Int) ≤ 0) && decide ((0 : Int) ≤ hoI l) && decide (hoI l ≤ (l.length : Nat))) (.l ((l.take (hoI l).toNat).drop (0 : Int).toNat, x, ⟨0, 0, false⟩, nul)) .f)
      (.n (decide ((0 : Int) ≤ 0) && decide ((0 : Int) ≤ hoI l) && decide (hoI l ≤ (l.length : Nat))) (.l ((l.take (hoI l).toNat).drop (0 : Int).toNat, x, ⟨0, 0, false⟩, hoA l)) .f)) .f)

theorem ho_ev (l : List Iv) (x : Iv) : (hoFront (st0 [acSlIv.enc l, acIv.enc x]) fun σ => evOps hoEnv 36 hoOps6 σ.nx (hoOps6.toList.take 5) σ fun σ' => hoV.rd ⟨σ'.fr, σ'.hp, σ.nx + 5⟩) = (hoT l x).fold fun y => some (hoV.fv y, hoV.hv y) := by kernel_rfl

def hoZ : Iv := ⟨0, 0, false⟩
def hoS (a : Iv) : Iv := if right a then a else nul

theorem hoT_run (zs : List Iv) (a x : Iv) (h : (zs ++ [a]).length ≤ maxLen) : (hoT (zs ++ [a]) x).run = some (zs, x, hoZ, hoS a) := by
  have hl : (zs ++ [a]).length = zs.length + 1 := by simp
  have hm : maxLen = 9223372036854775807 := rfl
  have hi : hoI (zs ++ [a]) = (zs.length : Int) := by
    unfold hoI
    rw [hl, w64_id (by omega) (by omega)]
    omega
  have ha : hoA (zs ++ [a]) = a := by
    unfold hoA
    rw [hi]
    show ((zs ++ [a])[((zs.length : Nat) : Int).toNat]?).getD _ = a
    simp
    rfl
  unfold hoT
  rw [ha, hi, hl]
  have h1 : (((zs.length + 1 : Nat) : Int) == 0) = false := by
    rw [beq_eq_false_iff_ne]; omega
  have h2 : inB (zs.length + 1) (zs.length : Int) = true := by simp [inB]; omega
  have h3 : (decide ((0 : Int) ≤ 0) && decide ((0 : Int) ≤ (zs.length : Int)) && decide ((zs.length : Int) ≤ ((zs.length + 1 : Nat) : Int))) = true := by simp; omega
  simp only [Tr.run_n, h1, h2, h3, Tr.run_l, Bool.false_eq_true, if_false, if_true]
  cases hr : right a <;> simp [hoS, hoZ, hr]

theorem bkUp_snd (zs : List Iv) : (bkUp zs zs.length).map Prod.snd = zs.reverse := by
  apply List.ext_getElem
  · simp [bkUp]
  · intro i h1 h2
    simp only [List.length_reverse] at h2
    have h3 : zs.length - 1 - i < zs.length := by omega
    simp [bkUp, bkAt, h3]

theorem horner_end (zs : List Iv) (a x : Iv) : (bkUp zs zs.length).foldl (fun o p => add (mul o x) p.2) (hoS a) = horner (zs ++ [a]) x := by
  have : horner (zs ++ [a]) x = zs.reverse.foldl (fun o b => add (mul o x) b) (hoS a) := by simp [horner, hoS]
  rw [this, ← bkUp_snd, List.foldl_map]

/-! ### The loop -/

def ivL (v : Iv) : List Value := [.int .i64 v.lo, .int .i64 v.hi, .bool v.no]

def hoAcc (x o : Iv) (pre : List (Nat × Iv)) : Iv := pre.foldl (fun o p => add (mul o x) p.2) o
theorem hoAcc_snoc (x o : Iv) (pre : List (Nat × Iv)) (p : Nat × Iv) : hoAcc x o (pre ++ [p]) = add (mul (hoAcc x o pre) x) p.2 := by simp [hoAcc]

/-- A block's cells. -/
def Blk (W : World) (b : Nat) (v : Iv) : Prop := ∃ t, W.heap[b]? = some (.cells (ivL v).toArray t (0, 0))

theorem Blk.lt {W : World} {b : Nat} {v : Iv} (h : Blk W b v) : b < W.heap.size := by
  obtain ⟨t, h⟩ := h
  exact (Array.getElem?_eq_some_iff.1 h).1

/-- What a round is told. -/
structure HoInv (w0 w1 : World) (b3 b4 b5 : Nat) (x o : Iv) (pre : List (Nat × Iv)) (W : World) : Prop where
  below : Below w0.heap.size w0 W
  size : w1.heap.size ≤ W.heap.size
  hx : Blk W b3 x
  hz : Blk W b4 hoZ
  hv : Blk W b5 (hoAcc x o pre)

theorem Blk.grown {W W' : World} {row : Option Nat} {b : Nat} {v : Iv} (h : Blk W b v) (hg : W.grownBy W' row) (hr : ∀ r, row = some r → ∃ o : Obj, W.heap[r]? = some o ∧ o.isCells = false) : Blk W' b v := by
  obtain ⟨t, ht⟩ := h
  exact ⟨t, (grownBy_keeps_cells hg hr ht rfl).trans ht⟩

theorem hoInv_own {w0 w1 : World} {b3 b4 b5 : Nat} {x o : Iv} (h01 : w0.heap.size ≤ w1.heap.size) : OwnFrom w1.heap.size (HoInv w0 w1 b3 b4 b5 x o) := by
  intro pre W W' row h hg hr
  have hr' : ∀ r, row = some r → ∃ o : Obj, W.heap[r]? = some o ∧ o.isCells = false := fun r e => (hr r e).2
  exact ⟨h.below.grown hg (Nat.le_trans h01 h.size) (fun k e => Nat.le_trans h01 (hr k e).1), Nat.le_trans h.size hg.size, h.hx.grown hg hr', h.hz.grown hg hr', h.hv.grown hg hr'⟩

/-- The blocks up to the slice's box are as they were, but for the one that is written. -/
def HoKp (Bs b5 : Nat) (A B : World) : Prop := ∀ k, k ≤ Bs → k ≠ b5 → k < A.heap.size → B.heap[k]? = A.heap[k]? ∧ k < B.heap.size

def hoV7 (b3 b5 : Nat) : View Iv := ⟨[3, 5, 7], [0], 100, none, fun v => [.a (.s (.v (ptr b3))), .a (.s (.v (ptr b5))), .a (.s (.p 0 0))], fun v => [(ivL v).map .v]⟩

theorem ho_ev7 (b3 b5 : Nat) (v : Iv) : regK hoEnv 36 hoOps7 (mkSt [3, 5, 29] [.a (.s (.v (ptr b3))), .a (.s (.v (ptr b5))), .a (.agg ((ivL v).map .v))] [] [] 0) (fun e σ => (hoV7 b3 b5).rd σ) = some ((hoV7 b3 b5).fv v, (hoV7 b3 b5).hv v) := by kernel_rfl

theorem ho_ev8 (x o v : Iv) : regQ hoEnv 36 hoOps8 false (mkSt [5, 3, 7] [.a (.s (.p 0 0)), .a (.s (.r (ivL x))), .a (.s (.r (ivL v)))] [0] [(ivL o).map .v] 1) (fun e σ => match e with | .normal => some (σ.hp 0) | _ => none) = some (some (.own ((ivL (add (mul o x) v)).map .v))) := by kernel_rfl

theorem ho_draw8 (x o v : Iv) : drawOk false (adrs (mkSt [5, 3, 7] [.a (.s (.p 0 0)), .a (.s (.r (ivL x))), .a (.s (.r (ivL v)))] [0] [(ivL o).map .v] 1).fr hoOps8) hoOps8 = true := by kernel_rfl

theorem ho_ev9 (v : Iv) : evG hoEnv (lh []) 36 0 0 ho9 (mkSt [4, 5] [.a (.s (.p 0 0)), .a (.s (.r (ivL v)))] [0] [(ivL hoZ).map .v] 1) (fun e σ => match e with | .normal => some (σ.fr 4, σ.hp 0) | _ => none) = some (.a (.s (.p 0 0)), some (.own ((ivL v).map .v))) := by kernel_rfl

theorem ho_len {F : Value} {w : World} {l : List Iv} {x : Iv} {vs : List Value} (h : holdsA F w [acSlIv.enc l, acIv.enc x] vs) : l.length ≤ maxLen := by
  match vs, h with
  | v :: us, h =>
    obtain ⟨a, c, _, hc, _⟩ := h.1
    exact hc.2

def hoO27 : Oper := { dst := some 27, op := .call { callee := .value (.func 150), args := #[.tmp 26], argTypes := #[53] }, type := 188, pos := "poly.go:20", after := #[{ on := 4, ground := .data }], guard := none }

theorem ho_nodef7 : ∀ o ∈ hoOps7.toList, ∀ c, o.op ≠ .defer c := by
  have : hoOps7.toList.all (fun o => match o.op with | .defer _ => false | _ => true) = true := by kernel_rfl
  intro o ho c hc
  have := List.all_eq_true.1 this o ho
  rw [hc] at this
  cases this
theorem ho_nodef8 : ∀ o ∈ hoOps8, ∀ c, o.op ≠ .defer c := by
  have : hoOps8.toList.all (fun o => match o.op with | .defer _ => false | _ => true) = true := by kernel_rfl
  intro o ho c hc
  have := List.all_eq_true.1 this o (Array.mem_toList_iff.2 ho)
  rw [hc] at this
  cases this

theorem back_iv {B B' : Nat} {w : World} {v : Iv} {u : Value} (h : (fIv v).back B w u) : (fIv v).back B' w u := by
  obtain ⟨m, rfl, h⟩ := h
  match m, h with
  | [_, _, _], ⟨h1, h2, h3, _⟩ => exact ⟨_, rfl, h1, h2, h3, trivial⟩

/-- How the rest ends. -/
theorem ho_rest {w0 W : World} {v : Iv} {b4 b5 D : Nat} {a6 : Act} (hB : Below w0.heap.size w0 W) (h4 : Blk W b4 hoZ) (h5 : Blk W b5 v) (hne : b4 ≠ b5) (hb4 : w0.heap.size ≤ b4) (hsize : a6.tmps.size = 36) (e4 : a6.tmps.getD 4 undef = ptr b4) (e5 : a6.tmps.getD 5 undef = ptr b5)
    (hdef : a6.defers = [{ target := .collected D, args := #[] }]) (hD : w0.heap.size ≤ D) (hK : W.heap[D]? = some (.deferred (some []))) :
    (Code.seq ho9 .ret).wp Try.prog (bodyPostM Fence.wide 10 Try.prog Try.f109 (Comes w0 (fIv v))) a6 W := by
  obtain ⟨t4, h4⟩ := h4
  obtain ⟨t5, h5⟩ := h5
  have hbd : b4 ≠ D := fun e => by subst e; rw [hK] at h4; cases h4
  have hfit : FitRs W W (nmB b4 [{ target := .collected D, args := #[] }]) [0] [.a (.s (.p 0 0)), .a (.s (.r (ivL v)))] [ptr b4, ptr b5] [(none, b5, undef)] :=
    ⟨[], [(none, b5, undef)], rfl, ⟨rfl, by simp, rfl⟩, [(none, b5, undef)], [], rfl, ⟨b5, rfl, rfl, by intro u hu; simp [ivL] at hu; rcases hu with rfl | rfl | rfl <;> rfl, fun e => hne (e : b5 = b4).symm, t5, h5⟩, rfl⟩
  obtain ⟨ρ, hR⟩ := rel_pin (N := 36) h4 (by intro u hu; simp [ivL] at hu; rcases hu with rfl | rfl | rfl <;> rfl) hsize hdef hfit (by simp) (ks := [4, 5]) (fun r t u h1 h2 => by
    match r, h1, h2 with
    | 0, h1, h2 => cases h1; cases h2; exact e4
    | 1, h1, h2 => cases h1; cases h2; exact e5)
  have hh : ∀ c, HintsOk Try.prog W (fmB b4 [{ target := .collected D, args := #[] }]) 36 (lh []) c := fun c => hints_of (h := []) rfl (fun q hq => by cases hq)
  refine wp_seq (evG_sound (envM_ok [] _ (fun _ h => by cases h) _ _ _) follows trivial 0 ho9 (hh _) _ _ _ ρ a6 W _ hR (ho_ev9 v) fun e σ ρ' a' w' hR' he => ?_)
  cases e <;> first | cases he | skip
  simp only [Option.some.injEq, Prod.mk.injEq] at he
  obtain ⟨hf4, hb⟩ := he
  obtain ⟨⟨t, ht⟩, hbel⟩ := pin_fact hR' hb
  have e4' : a'.tmps.getD 4 undef = ptr b4 := by
    have := hR'.fr.val 4 (by rw [hf4]; simp)
    rw [hf4] at this
    rw [this]
    have hp := hR'.wr.pin b4 (by rw [hR'.f])
    simp [FV.con, AV.con, Sc.con, ptr, hp.1]
  refine wp_ret ?_
  show LeavesInM _ _ _ _ _ _ a'.defers .returning w'
  rw [hR'.fr.nodef, hR'.f]
  have hK' : w'.heap[D]? = some (.deferred (some [])) := (hbel.block D (Array.getElem?_eq_some_iff.1 hK).1 (fun e => hbd e.symm)).trans hK
  refine ⟨by simp, .inl ⟨_, _, rfl, run_takeDeferred hK', ?_⟩⟩
  have ht' : (w'.putObj D (.deferred none)).heap[b4]? = some (.cells (ivL v).toArray t (0, 0)) := (World.putObj_heap_other hbd).trans ht
  obtain ⟨ρ2, hR2⟩ := rel_pin (N := 36) (a := { tmps := a'.tmps, defers := [] }) (d := []) (ks := [4]) ht' (by intro u hu; simp [ivL] at hu; rcases hu with rfl | rfl | rfl <;> rfl) hR'.fr.size rfl
    (show FitRs _ _ _ [0] [.a (.s (.p 0 0))] [ptr b4] [] from ⟨[], [], rfl, ⟨rfl, by simp, rfl⟩, rfl⟩) (by simp) (fun r t u h1 h2 => by
    match r, h1, h2 with
    | 0, h1, h2 => cases h1; cases h2; exact e4')
  obtain ⟨u, hu1, hu2⟩ := outF_sound (X := hoEnv) (I := fun _ => True) (fn := Try.f109) (nk := none) (r := fIv v) (envM_ok [] _ (fun _ h => by cases h) _ _ _) hR2 (by kernel_rfl)
  refine ⟨u, hu1, u, rfl, ?_, back_iv hu2⟩
  refine ⟨hbel.os.trans hB.os, hbel.tape.trans hB.tape, hbel.output.trans hB.output, ?_, fun k hk => ?_⟩
  · have := hbel.size; have := hB.size; simp; omega
  · have h1 := hB.size
    rw [World.putObj_heap_other (by omega), hbel.block k (by omega) (fun e => by have e' : k = b4 := e; omega)]
    exact hB.block k hk

theorem ho_main (zs : List Iv) (a x : Iv) : Snd 109 [acSlIv.enc (zs ++ [a]), acIv.enc x] (fIv (horner (zs ++ [a]) x)) := by
  intro F I hF hI _
  refine ⟨callable_of (c := hoC) Try.func109 (by kernel_rfl) (by kernel_rfl), fun w vs hw hv => ?_⟩
  have hlen := ho_len hv
  refine callsIn_wide.1 (callsIn_of_wp_marks (F := Fence.wide) (n := 10) (c := hoC) Try.func109 (by kernel_rfl) trivial ?_ rfl)
  refine wpIn_wide.2 ?_
  have HX : EnvOk hoEnv (fm F) I := (env_ok _).2 F I hF hI trivial
  obtain ⟨ρ, hR⟩ := rel0 (N := 36) hF hv rfl (by simp)
  have hev := ho_ev (zs ++ [a]) x
  rw [Tr.fold_run, hoT_run zs a x hlen] at hev
  refine ho_front HX hw hR hev fun σ ρ a' w' hR h => ?_
  refine wp_seq (wp_seq (wp_region_list ?_))
  rw [show hoOps6.toList = hoOps6.toList.take 5 ++ [hoO27] by kernel_rfl]
  refine wpList_app _ _ _ ?_
  refine ops_sound HX hw _ σ.nx σ ρ a' w' hR.f hR.wr hR.fr hR.free h fun σ5 ρ5 a5 w5 hf5 hW5 hF5 hfree5 hnx5 h5 => ?_
  have hR5 : Rel w (fm F) 36 ρ5 ⟨σ5.fr, σ5.hp, σ.nx + 5⟩ a5 w5 := ⟨hW5, hF5, fun i hi => hfree5 i hi, hf5⟩
  obtain ⟨ρ6, hR6⟩ := hR5.view rfl hoV rfl (zs, x, hoZ, hoS a) h5
  have e26 : a5.tmps.getD 26 undef = ρ6.s 100 := hR6.fr.val 26 (by intro h; cases h)
  have e3 : a5.tmps.getD 3 undef = ptr (ρ6.b 1) := hR6.fr.val 3 (by intro h; cases h)
  have e4 : a5.tmps.getD 4 undef = ptr (ρ6.b 2) := hR6.fr.val 4 (by intro h; cases h)
  have e5 : a5.tmps.getD 5 undef = ptr (ρ6.b 12) := hR6.fr.val 5 (by intro h; cases h)
  obtain ⟨_, ad, cap, hs, hcap, hcell⟩ := hR6.wr.fact 100 (.sl ⟨.iv, zs⟩ .ro) rfl
  obtain ⟨hb3, t3, ht3⟩ := hR6.wr.fact 1 (.own ((ivL x).map .v)) rfl
  obtain ⟨hb4, t4, ht4⟩ := hR6.wr.fact 2 (.own ((ivL hoZ).map .v)) rfl
  obtain ⟨hb5, t5, ht5⟩ := hR6.wr.fact 12 (.own ((ivL (hoS a)).map .v)) rfl
  replace hb3 : w.heap.size ≤ ρ6.b 1 := hb3.resolve_right (by rw [hR6.f]; exact id)
  replace hb4 : w.heap.size ≤ ρ6.b 2 := hb4.resolve_right (by rw [hR6.f]; exact id)
  replace hb5 : w.heap.size ≤ ρ6.b 12 := hb5.resolve_right (by rw [hR6.f]; exact id)
  have n15 : ρ6.b 1 ≠ ρ6.b 12 := fun e => absurd (hR6.wr.excl 1 12 (ρ6.b 12) (by rw [← e]; rfl) rfl) (by decide)
  have n25 : ρ6.b 2 ≠ ρ6.b 12 := fun e => absurd (hR6.wr.excl 2 12 (ρ6.b 12) (by rw [← e]; rfl) rfl) (by decide)
  have h3 : Blk w5 (ρ6.b 1) x := ⟨t3, ht3⟩
  have h4 : Blk w5 (ρ6.b 2) hoZ := ⟨t4, ht4⟩
  have h5 : Blk w5 (ρ6.b 12) (hoS a) := ⟨t5, ht5⟩
  have hbel : Below w.heap.size w w5 := by
    have := hR6.wr.below
    rw [hR6.f] at this
    exact this.below
  have hsz5 : a5.tmps.size = 36 := hR6.fr.size
  have hdef5 : a5.defers = [] := by rw [hR6.fr.nodef, hR6.f]
  rw [show ρ6.s 100 = .slice ad zs.length cap from hs] at e26
  replace hcap : zs.length ≤ maxLen := hcap.2
  clear ht3 ht4 ht5 hs
  generalize ρ6.b 1 = b3 at *
  generalize ρ6.b 2 = b4 at *
  generalize ρ6.b 12 = b5 at *
  obtain ⟨b, off, had, hbw, hcs⟩ : ∃ b off, (0 < zs.length → ad = some ⟨b, off, none⟩) ∧ (0 < zs.length → b < w.heap.size) ∧ ∀ j, j < zs.length → w.cell? ⟨b, off + j * 3, none⟩ = some (.int .i64 (zs.getD j default).lo) ∧ w.cell? ⟨b, off + j * 3 + 1, none⟩ = some (.int .i64 (zs.getD j default).hi) ∧ w.cell? ⟨b, off + j * 3 + 2, none⟩ = some (.bool (zs.getD j default).no) := by
    by_cases h0 : 0 < zs.length
    · obtain ⟨b, off, had, _, hc⟩ := hcell h0
      have key : ∀ j, j < zs.length → ∀ r u, (ivL (zs.getD j default))[r]? = some u → w.cell? ⟨b, off + (j * 3 + r), none⟩ = some u := by
        intro j hj r u hu
        have hr : r < 3 := by
          have := (List.getElem?_eq_some_iff.1 hu).1
          simpa [ivL] using this
        refine hc (j * 3 + r) u ?_
        rw [show j * 3 + r = j * (⟨.iv, zs⟩ : Dat).sz + r from rfl, Dat.flat_get _ hj hr]
        have : (⟨.iv, zs⟩ : Dat).row j = ivL (zs.getD j default) := by
          show cdIv.enc (zs.getD j _) = _
          rw [show zs.getD j (KN.iv.cd.z : Iv) = zs.getD j default by simp [List.getD, hj]; rfl]
          rfl
        rw [this]
        exact hu
      refine ⟨b, off, fun _ => had, fun _ => ?_, fun j hj => ⟨key j hj 0 _ rfl, ?_, ?_⟩⟩
      · have := key 0 h0 0 _ rfl
        exact World.block_lt_of_cell? w ⟨b, _, none⟩ this
      · have := key j hj 1 _ rfl
        rwa [← Nat.add_assoc] at this
      · have := key j hj 2 _ rfl
        rwa [← Nat.add_assoc] at this
    · exact ⟨0, 0, fun h => absurd h h0, fun h => absurd h h0, fun j hj => by omega⟩
  -- the call
  have hex : (execOp a5.eval hoO27).run Try.prog w5 = .ok (.enter 150 #[.slice ad zs.length cap]) w5 := by
    have e26' : a5.eval (.tmp 26) = .slice ad zs.length cap := e26
    have he := enters_of Try.func150 (by kernel_rfl) rfl #[.slice ad zs.length cap] w5
    unfold execOp
    have ef : a5.eval (.func 150) = .func (.func 150) #[] #[] := rfl
    simp [hoO27, resolve, e26', ef, Deferred.ofValue, invoke, he]
  show wpList _ _ _ [hoO27] a5 w5
  unfold wpList
  rw [if_pos (by rfl)]
  refine .inl ?_
  unfold Oper.wp
  rw [hex]
  refine (callsIn_wide.1 (back_in Fence.wide 0 trivial rfl ad zs.length cap w5)).mono ?_
  rintro e w1 ⟨rfl, rfl⟩
  show (Code.block 0 _).wp _ _ (a5.put (some 27) _) _
  obtain ⟨w1, hw1⟩ : ∃ w1, w1 = w5.alloc (.cells #[.slice ad zs.length cap] 53) := ⟨_, rfl⟩
  obtain ⟨Bs, hBs⟩ : ∃ B, B = w5.heap.size := ⟨_, rfl⟩
  rw [← hw1, ← hBs]
  have hs1 : w1.heap.size = Bs + 1 := by rw [hw1, hBs]; simp
  have hb51 : Below w5.heap.size w5 w1 := by rw [hw1]; exact (Below.refl _ w5).alloc (Nat.le_refl _) _
  have hbw1 : Below w.heap.size w w1 := hbel.trans (hb51.mono hbel.size)
  have hbox : w1.cell? ⟨Bs, 0, none⟩ = some (.slice ad zs.length cap) := by
    rw [hw1, hBs]
    have := World.alloc_heap_new w5 (.cells #[.slice ad zs.length cap] 53)
    unfold World.cell?
    rw [this]
    rfl
  have up : ∀ {b v}, Blk w5 b v → Blk w1 b v := fun {b v} h => by
    obtain ⟨t, ht⟩ := h
    exact ⟨t, (hb51.block b (Array.getElem?_eq_some_iff.1 ht).1).trans ht⟩
  have l3 := h3.lt
  have l4 := h4.lt
  have l5 := h5.lt
  have hcs1 : ∀ j, j < zs.length → w1.cell? ⟨b, off + j * 3, none⟩ = some (.int .i64 (zs.getD j default).lo) ∧ w1.cell? ⟨b, off + j * 3 + 1, none⟩ = some (.int .i64 (zs.getD j default).hi) ∧ w1.cell? ⟨b, off + j * 3 + 2, none⟩ = some (.bool (zs.getD j default).no) := by
    intro j hj
    have hb' := hbw (by omega)
    obtain ⟨c1, c2, c3⟩ := hcs j hj
    exact ⟨(hbw1.cell (p := ⟨b, _, none⟩) hb').trans c1, (hbw1.cell (p := ⟨b, _, none⟩) hb').trans c2, (hbw1.cell (p := ⟨b, _, none⟩) hb').trans c3⟩
  have hstops := back_stops Fence.wide 9 ad trivial rfl (by omega) Bs b off cap zs hcap (HoKp Bs b5) (fun W k _ _ hk => ⟨rfl, hk⟩)
    (fun A B C h g k h1 h2 h3 => ⟨((g k h1 h2 (h k h1 h2 h3).2).1).trans (h k h1 h2 h3).1, (g k h1 h2 (h k h1 h2 h3).2).2⟩)
    (fun A B j v h hj hc => by
      have hb' := hbw (by omega)
      have hsz := hbel.size
      exact (World.cell?_of_block (h b (by omega) (by omega) (World.block_lt_of_cell? A ⟨b, _, none⟩ hc)).1).trans hc)
    (fun A B v h hc => (World.cell?_of_block (h Bs (Nat.le_refl _) (by omega) (World.block_lt_of_cell? A ⟨Bs, _, none⟩ hc)).1).trans hc)
    w1 hbox had (by omega) hcs1 (fun h => by have := hbw h; have := hbel.size; omega)
  have hput : ∀ t, t ≠ 27 → (a5.put (some 27) (.func (.func 169) #[] #[.pointer (some ⟨Bs, 0, none⟩)])).tmps.getD t undef = a5.tmps.getD t undef := by
    intro t ht
    simp only [Act.put, Array.getD_eq_getD_getElem?, Array.getElem?_setIfInBounds, if_neg (Ne.symm ht)]
  have hput27 : (a5.put (some 27) (.func (.func 169) #[] #[.pointer (some ⟨Bs, 0, none⟩)])).eval (.tmp 27) = .func (.func 169) #[] #[.pointer (some ⟨Bs, 0, none⟩)] := by
    simp [Act.put, Act.eval, Array.getD, hsz5]
  have hsz6 : (a5.put (some 27) (.func (.func 169) #[] #[.pointer (some ⟨Bs, 0, none⟩)])).tmps.size = 36 := by simp [Act.put, hsz5]
  have hdef6 : (a5.put (some 27) (.func (.func 169) #[] #[.pointer (some ⟨Bs, 0, none⟩)])).defers = [] := hdef5
  have f3 := (hput 3 (by decide)).trans e3
  have f4 := (hput 4 (by decide)).trans e4
  have f5 := (hput 5 (by decide)).trans e5
  generalize (a5.put (some 27) (.func (.func 169) #[] #[.pointer (some ⟨Bs, 0, none⟩)])) = a6 at *
  refine wp_block ?_
  refine (wpIn_wide (n := 10)).1 (wpIn_rangeFunc_ownH (F := Fence.wide) (n := 10) rfl (by omega) hput27 trivial (enters_of Try.func169 (by kernel_rfl) rfl) hstops
    (fun {A B C} h g k h1 h2 h3 => ⟨((g k h1 h2 (h k h1 h2 h3).2).1).trans (h k h1 h2 h3).1, (g k h1 h2 (h k h1 h2 h3).2).2⟩)
    (fun W l o o' hl _ _ _ k h1 h2 h3 => ⟨World.putObj_heap_other (by omega), by simp; omega⟩)
    (Below.refl _ _) (fun _ => rfl)
    (HoInv w w1 b3 b4 b5 x (hoS a)) (fun _ _ _ => False) (hoInv_own (by omega)) (fun _ _ _ _ _ h _ _ => h.elim)
    ⟨hbw1, Nat.le_refl _, up h3, up h4, up h5⟩
    (fun p a' W => a'.tmps.size = 36 ∧ a'.defers = [] ∧ a'.tmps.getD 3 undef = ptr b3 ∧ a'.tmps.getD 5 undef = ptr b5 ∧ ∃ b7, w1.heap.size ≤ b7 ∧ a'.tmps.getD 7 undef = ptr b7 ∧ Blk W b7 p.2)
    (fun p a' _ X Y row h hg hr => by
      obtain ⟨g1, g2, g3, g4, b7, g5, g6, g7⟩ := h
      exact ⟨g1, g2, g3, g4, b7, g5, g6, g7.grown hg fun r e => (hr r e).2⟩)
    ?assign ?body ?done (fun _ _ _ _ _ _ h _ => h.elim))
  case assign =>
    intro l pre p W K hI hK
    refine wpIn_region_list (list_in (fun ⟨_, _, h⟩ => h) _ _ _ ho_nodef7 ?_)
    have hsz7 : ((#[28, 29].zip (bkEnc p)).foldl (fun t (q : Nat × Value) => t.setIfInBounds q.1 q.2) a6.tmps).size = 36 := by simp [bkEnc, hsz6]
    have g3 : ((#[28, 29].zip (bkEnc p)).foldl (fun t (q : Nat × Value) => t.setIfInBounds q.1 q.2) a6.tmps).getD 3 undef = ptr b3 := by
      rw [← f3]; simp [bkEnc, Array.getD_eq_getD_getElem?, Array.getElem?_setIfInBounds]
    have g5 : ((#[28, 29].zip (bkEnc p)).foldl (fun t (q : Nat × Value) => t.setIfInBounds q.1 q.2) a6.tmps).getD 5 undef = ptr b5 := by
      rw [← f5]; simp [bkEnc, Array.getD_eq_getD_getElem?, Array.getElem?_setIfInBounds]
    have g29 : ((#[28, 29].zip (bkEnc p)).foldl (fun t (q : Nat × Value) => t.setIfInBounds q.1 q.2) a6.tmps).getD 29 undef = ivV p.2 := by
      simp [bkEnc, Array.getD_eq_getD_getElem?, Array.getElem?_setIfInBounds, hsz6]
    generalize ((#[28, 29].zip (bkEnc p)).foldl (fun t (q : Nat × Value) => t.setIfInBounds q.1 q.2) a6.tmps) = tm at *
    obtain ⟨ρ7, hR7⟩ := rel_none (W := W) (a := { tmps := tm, defers := [] }) (N := 36) hsz7 rfl (ks := [3, 5, 29]) (rs := [.a (.s (.v (ptr b3))), .a (.s (.v (ptr b5))), .a (.agg ((ivL p.2).map .v))]) (vs := [ptr b3, ptr b5, ivV p.2]) (ns := [])
      ⟨[], [], rfl, ⟨rfl, rfl, rfl⟩, [], [], rfl, ⟨rfl, rfl, rfl⟩, [], [], rfl, ⟨ivL p.2, rfl, ⟨[], [], rfl, ⟨rfl, rfl, rfl⟩, [], [], rfl, ⟨rfl, rfl, rfl⟩, [], [], rfl, ⟨rfl, rfl, rfl⟩, rfl⟩⟩, rfl⟩ (by simp) (fun r t u h1 h2 => by
      match r, h1, h2 with
      | 0, h1, h2 => cases h1; cases h2; exact g3
      | 1, h1, h2 => cases h1; cases h2; exact g5
      | 2, h1, h2 => cases h1; cases h2; exact g29)
    have hev7 := ho_ev7 b3 b5 p.2
    unfold regK at hev7
    refine ops_sound (envM_ok [] _ (fun _ h => by cases h) noM [] none) trivial _ _ _ ρ7 _ W hR7.f hR7.wr hR7.fr hR7.free hev7 fun σ8 ρ8 a8 W8 h1 h2 h3 h4 h5 h6 => ?_
    have hR8 : Rel W (fm .nilFunc) 36 ρ8 ⟨σ8.fr, σ8.hp, 0 + hoOps7.size⟩ a8 W8 := ⟨h2, h3, fun i hi => h4 i (by rw [Array.length_toList]; exact hi), h1⟩
    obtain ⟨ρ9, hR9⟩ := hR8.view rfl (hoV7 b3 b5) rfl p.2 h6
    have hbel8 : Below W.heap.size W W8 := by
      have := hR9.wr.below
      rw [hR9.f] at this
      exact this.below
    obtain ⟨hb7, t7, ht7⟩ := hR9.wr.fact 0 (.own ((ivL p.2).map .v)) rfl
    replace hb7 : W.heap.size ≤ ρ9.b 0 := hb7.resolve_right (by rw [hR9.f]; exact id)
    have dn : ∀ {b v}, Blk W b v → Blk W8 b v := fun {b v} h => by
      obtain ⟨t, ht⟩ := h
      exact ⟨t, (hbel8.block b (Array.getElem?_eq_some_iff.1 ht).1).trans ht⟩
    refine hK a8 W8 ⟨hbel8.size, fun k o _ hk _ => (hbel8.block k (Array.getElem?_eq_some_iff.1 hk).1).trans hk⟩ (fun k _ _ h => ⟨hbel8.block k h, Nat.lt_of_lt_of_le h hbel8.size⟩)
      ⟨hI.below.trans (hbel8.mono hI.below.size), Nat.le_trans hI.size hbel8.size, dn hI.hx, dn hI.hz, dn hI.hv⟩
      ⟨hR9.fr.size, by rw [hR9.fr.nodef, hR9.f], hR9.fr.val 3 (by intro h; cases h), hR9.fr.val 5 (by intro h; cases h), ρ9.b 0, Nat.le_trans hI.size hb7, hR9.fr.val 7 (by intro h; cases h), t7, ht7⟩
  case body =>
    rintro l pre p a' W hl _ hI ⟨g1, g2, g3, g5, b7, g7, e7, hb7⟩ _
    refine wpIn_block ?_
    refine wpIn_region_any follows (any_in ho_nodef8 (fun ⟨_, _, h⟩ => h) _ _ _ _ ?_)
    obtain ⟨t3, ht3⟩ := hI.hx
    obtain ⟨t5, ht5⟩ := hI.hv
    obtain ⟨t7, ht7⟩ := hb7
    have hone : ∀ (v : Iv), ∀ u ∈ ivL v, u.oneCell' = true := by
      intro v u hu
      simp [ivL] at hu
      rcases hu with rfl | rfl | rfl <;> rfl
    have hfit : FitRs W W (nmB b5 []) [0] [.a (.s (.p 0 0)), .a (.s (.r (ivL x))), .a (.s (.r (ivL p.2)))] [ptr b5, ptr b3, ptr b7] [(none, b3, undef), (none, b7, undef)] :=
      ⟨[], [(none, b3, undef), (none, b7, undef)], rfl, ⟨rfl, by simp, rfl⟩, [(none, b3, undef)], [(none, b7, undef)], rfl, ⟨b3, rfl, rfl, hone x, fun e => n15 (e : b3 = b5), t3, ht3⟩, [(none, b7, undef)], [], rfl, ⟨b7, rfl, rfl, hone p.2, fun e => by have e' : b7 = b5 := e; omega, t7, ht7⟩, rfl⟩
    obtain ⟨ρ8, hR8⟩ := rel_pin (N := 36) ht5 (hone _) g1 g2 hfit (by simp) (ks := [5, 3, 7]) (fun r t u h1 h2 => by
      match r, h1, h2 with
      | 0, h1, h2 => cases h1; cases h2; exact g5
      | 1, h1, h2 => cases h1; cases h2; exact g3
      | 2, h1, h2 => cases h1; cases h2; exact e7)
    refine regQ_any (envM_ok [] _ (fun _ h => by cases h) _ _ _) trivial hoOps8 false _ _ _ ρ8 a' W _ (ho_draw8 x _ p.2) hR8 (ho_ev8 x _ p.2) fun e σ8 ρ9 a8 W8 hR9 he => ?_
    cases e <;> first | cases he | skip
    simp only [Option.some.injEq] at he
    obtain ⟨⟨t, ht⟩, hb8⟩ := pin_fact hR9 he
    have hsz := hI.size
    have dn : ∀ {b v}, b ≠ b5 → Blk W b v → Blk W8 b v := fun {b v} hne h => by
      obtain ⟨t, ht⟩ := h
      exact ⟨t, (hb8.block b (Array.getElem?_eq_some_iff.1 ht).1 hne).trans ht⟩
    refine ⟨⟨hb8.size, fun k o hk hko ho => (hb8.block k (Array.getElem?_eq_some_iff.1 hko).1 (fun e => by have e' : k = b5 := e; omega)).trans hko⟩, fun k _ hne h => ⟨hb8.block k h hne, Nat.lt_of_lt_of_le h hb8.size⟩, ?_⟩
    refine ⟨⟨hb8.os.trans hI.below.os, hb8.tape.trans hI.below.tape, hb8.output.trans hI.below.output, Nat.le_trans hI.below.size hb8.size, fun k hk => ?_⟩, Nat.le_trans hsz hb8.size, dn n15 hI.hx, dn n25 hI.hz, ?_⟩
    · have := hI.below.size
      rw [hb8.block k (by omega) (fun e => by have e' : k = b5 := e; omega)]
      exact hI.below.block k hk
    · rw [hoAcc_snoc]
      exact ⟨t, ht⟩
  case done =>
    rintro D xs W hD rfl hI hK
    have hv := hI.hv
    rw [show hoAcc x (hoS a) (bkUp zs zs.length) = horner (zs ++ [a]) x from horner_end zs a x] at hv
    exact ho_rest hI.below hI.hz hv n25 hb4 hsz6 f4 f5 (by simp [hdef6]) (by have := hbel.size; omega) hK

noncomputable def poly_Horner_c : Ct := ⟨109, pf2 acSlIv acIv fun l x => fIv (horner l x), pf2_ok fun l x => by
  rcases List.eq_nil_or_concat l with rfl | ⟨zs, a, rfl⟩
  · exact ho_nil x
  · rw [List.concat_eq_append]; exact ho_main zs a x⟩

end Go.Proofs.Ytmmlpaehehgfnaa.Sx
