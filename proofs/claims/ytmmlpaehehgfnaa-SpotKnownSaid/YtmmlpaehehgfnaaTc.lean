/-
  What this text proves: the contracts of package trace, and of meniscushand.Straight.
  Conditions: none.
-/
import Derived.Test.YtmmlpaehehgfnaaSa
namespace Go.Proofs.Ytmmlpaehehgfnaa.Sx
set_option linter.unusedSimpArgs false
set_option linter.unusedVariables false

/-! #### a loop of trace.Trace -/

abbrev trcS := (List Surf × Int × Int) × (Sys × Ray × TrRes)
def trcC : VL (List Surf × Int × Int) := .adr 2 1 (.adr 3 2 (.adr 4 3 (.cons 10 (vSl .surf .ro) (.cons 11 vInt (.one 12 vInt)))))
def trcB : BL (Sys × Ray × TrRes) := .cons 1 (bSys .ro) (.cons 2 (bS cdRay) (.one 3 (bS cdTr)))
def trcV : View trcS := view1 trcC trcB 100 none
def trcT (x : trcS) : Tr (Ex × trcS) :=
  .n (decide (x.1.2.2 < x.1.2.1))
    (.n (inB x.1.1.length x.1.2.2)
      (.n (((stepGo (x.1.1.getD x.1.2.2.toNat KN.surf.cd.z) x.2.2.1).2) != 1)
        (.l (.ret, ((x.1.1, x.1.2.1, x.1.2.2), (x.2.1, x.2.2.1, ⟨(stepGo (x.1.1.getD x.1.2.2.toNat KN.surf.cd.z) x.2.2.1).2, x.1.2.2, (stepGo (x.1.1.getD x.1.2.2.toNat KN.surf.cd.z) x.2.2.1).1⟩))))
        (.l (.normal, ((x.1.1, x.1.2.1, w64 (x.1.2.2 + 1)), (x.2.1, (stepGo (x.1.1.getD x.1.2.2.toNat KN.surf.cd.z) x.2.2.1).1, x.2.2.2)))))
      .f)
    (.l ((.exit 0), ((x.1.1, x.1.2.1, x.1.2.2), (x.2.1, x.2.2.1, x.2.2.2))))
def trcM (x : trcS) : Nat := (x.1.2.1 - x.1.2.2).toNat
def trcG (x : trcS) : Bool := decide (x.1.2.1 = x.1.1.length) && decide (0 ≤ x.1.2.2) && decide (x.1.2.2 ≤ x.1.2.1) && decide (x.1.1.length ≤ 1000000)
def trcE (x : trcS) : Ex × trcS := runT trcT (trcM x) x
theorem trc_step (x : trcS) (h : trcG x = true) : LoopStep [.exit 0, .ret] trcG trcM x (trcT x).run := by
  obtain ⟨⟨a, b, c⟩, s, r, z⟩ := x
  simp only [trcG, Bool.and_eq_true, decide_eq_true_eq] at h
  obtain ⟨⟨⟨h1, h2⟩, h3⟩, h4⟩ := h
  unfold trcT
  simp only [Tr.run_n, Tr.run_l, Tr.run_f]
  by_cases hd : c < b
  · have hb : inB a.length c = true := inB_true h2 (by omega)
    have hw : w64 (c + 1) = c + 1 := IntWalk.i64_in _ ⟨by omega, by omega⟩
    simp only [hd, hb, hw, decide_true, if_true]
    split
    · simp [LoopStep, exEq]
    · simp only [LoopStep, trcG, trcM, Bool.and_eq_true, decide_eq_true_eq]; refine ⟨⟨⟨⟨?_, ?_⟩, ?_⟩, ?_⟩, ?_⟩ <;> simp at * <;> omega
  · simp [hd, LoopStep, exEq]
noncomputable def trc_hint : Hn Try.f116 := mkHn Try.f116 0 trcV (by kernel_rfl) (dec1 trcC trcB) (dec1_ok trcC trcB 100 none) (env [step_Go_c]) (env_ok [step_Go_c]) ([] : List (Hn Try.f116)) (by kernel_rfl) (fun q h => by cases h) 0 0 trcT (finT trcT trcM [.exit 0, .ret]) trcG trcM
  (fun x => by kernel_rfl) (loop_fin trcT [.exit 0, .ret] trcG trcM trc_step)

def traceT (s : Sys) (r : Ray) : Tr (TrRes) :=
  .n (trcG ((s.surfs, ((s.surfs.length : Nat) : Int), 0), (s, r, ⟨0, 0, ⟨⟨⟨0, 0, false⟩, ⟨0, 0, false⟩, ⟨0, 0, false⟩⟩, ⟨⟨0, 0, false⟩, ⟨0, 0, false⟩, ⟨0, 0, false⟩⟩⟩⟩)))
    (.n (exEq (trcE ((s.surfs, ((s.surfs.length : Nat) : Int), 0), (s, r, ⟨0, 0, ⟨⟨⟨0, 0, false⟩, ⟨0, 0, false⟩, ⟨0, 0, false⟩⟩, ⟨⟨0, 0, false⟩, ⟨0, 0, false⟩, ⟨0, 0, false⟩⟩⟩⟩))).1 (.exit 0))
      (.l ⟨1, (((((((trcE ((s.surfs, ((s.surfs.length : Nat) : Int), 0), (s, r, ⟨0, 0, ⟨⟨⟨0, 0, false⟩, ⟨0, 0, false⟩, ⟨0, 0, false⟩⟩, ⟨⟨0, 0, false⟩, ⟨0, 0, false⟩, ⟨0, 0, false⟩⟩⟩⟩))).2).2).1).surfs).length : Nat) : Int), ((((trcE ((s.surfs, ((s.surfs.length : Nat) : Int), 0), (s, r, ⟨0, 0, ⟨⟨⟨0, 0, false⟩, ⟨0, 0, false⟩, ⟨0, 0, false⟩⟩, ⟨⟨0, 0, false⟩, ⟨0, 0, false⟩, ⟨0, 0, false⟩⟩⟩⟩))).2).2).2).1⟩)
      (.l (((((trcE ((s.surfs, ((s.surfs.length : Nat) : Int), 0), (s, r, ⟨0, 0, ⟨⟨⟨0, 0, false⟩, ⟨0, 0, false⟩, ⟨0, 0, false⟩⟩, ⟨⟨0, 0, false⟩, ⟨0, 0, false⟩, ⟨0, 0, false⟩⟩⟩⟩))).2).2).2).2)))
    .f
def trace (s : Sys) (r : Ray) : TrRes := (traceT s r).ev
noncomputable def trace_Trace_c : Ct := ⟨116, pf2g acSys acRay (fun s r => decide (s.surfs.length ≤ 1000000)) fun s r => fTr (trace s r), pf2g_ok fun s r hg => ct_tr (x := (traceT s r).ev) (t := traceT s r) (env []) (env_ok []) Try.func116 (by kernel_rfl) ([trc_hint] : List (Hn Try.f116)) (by kernel_rfl) (by kernel_rfl) (by kernel_rfl)
  (show evH (env []) (hl ([trc_hint] : List (Hn Try.f116))) none 0 0 Try.f116 [acSys.enc s, acRay.enc r] = (traceT s r).fold fun x => some (fTr x) by kernel_rfl) (by apply run_of_ne; have hl:=of_decide_eq_true hg; unfold traceT; simp only [Tr.run_n,Tr.run_l,Tr.run_f]; simp [trcG,hl]; split <;> simp)⟩

def throughT (s : Sys) (r : Ray) (z : Iv) : Tr (Iv × Iv × Int) :=
  .n (decide (s.surfs.length ≤ 1000000))
    (.n (((trace s r).kind) != 1)
      (.l (nul, nul, (trace s r).kind))
      (.n (!(right ((along ((trace s r).r) (div (sub z ((((trace s r).r).o).z)) ((((trace s r).r).d).z))).x)))
        (.l (nul, nul, 3))
        (.n (!(right ((along ((trace s r).r) (div (sub z ((((trace s r).r).o).z)) ((((trace s r).r).d).z))).y)))
          (.l (nul, nul, 3))
          (.l ((along ((trace s r).r) (div (sub z ((((trace s r).r).o).z)) ((((trace s r).r).d).z))).x, (along ((trace s r).r) (div (sub z ((((trace s r).r).o).z)) ((((trace s r).r).d).z))).y, 1)))))
    .f
def through (s : Sys) (r : Ray) (z : Iv) : Iv × Iv × Int := (throughT s r z).ev
noncomputable def trace_Through_c : Ct := ⟨58, pf3g acSys acRay acIv (fun s r z => decide (s.surfs.length ≤ 1000000)) fun s r z => fIvIvInt (through s r z), pf3g_ok fun s r z hg => ct_tr (x := (throughT s r z).ev) (t := throughT s r z) (env [trace_Trace_c, iv_None_c, iv_Sub_c, iv_Div_c, vec_Along_c, iv_Right_c]) (env_ok [trace_Trace_c, iv_None_c, iv_Sub_c, iv_Div_c, vec_Along_c, iv_Right_c]) Try.func58 (by kernel_rfl) ([] : List (Hn Try.f58)) (by kernel_rfl) (by kernel_rfl) (by kernel_rfl)
  (show evH (env [trace_Trace_c, iv_None_c, iv_Sub_c, iv_Div_c, vec_Along_c, iv_Right_c]) (hl ([] : List (Hn Try.f58))) none 0 0 Try.f58 [acSys.enc s, acRay.enc r, acIv.enc z] = (throughT s r z).fold fun x => some (fIvIvInt x) by kernel_rfl) (by apply run_of_ne; unfold throughT; simp only [Tr.run_n,Tr.run_l,Tr.run_f,hg,if_true]; (repeat' split) <;> simp)⟩


end Go.Proofs.Ytmmlpaehehgfnaa.Sx
