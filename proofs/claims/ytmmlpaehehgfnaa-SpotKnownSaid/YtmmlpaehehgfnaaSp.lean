/-
  What this text proves: the contract of package spot.
  Conditions: none.
-/
import Derived.Test.YtmmlpaehehgfnaaPu
namespace Go.Proofs.Ytmmlpaehehgfnaa.Sx
set_option linter.unusedSimpArgs false
set_option linter.unusedVariables false

/-! #### a loop of spot.Of -/

abbrev spoS := (Int × List Place × List Cx × Int × Int) × (Sys × Iv × Iv × Spot × Spot × Iv)
def spoC : VL (Int × List Place × List Cx × Int × Int) := .adr 5 1 (.adr 6 2 (.adr 7 3 (.adr 10 5 (.adr 12 29 (.adr 14 35 (.cons 3 vInt (.cons 13 (vSl .place (.mine (some 159))) (.cons 49 (vSl .cx (.mine none)) (.cons 50 vInt (.one 51 vInt))))))))))
def spoB : BL (Sys × Iv × Iv × Spot × Spot × Iv) := .cons 1 (bSys .ro) (.cons 2 (bS cdIv) (.cons 3 (bS cdIv) (.cons 5 (bS cdSpot) (.cons 29 (bS cdSpot) (.one 35 (bS cdIv))))))
def spoV : View spoS := view1 spoC spoB 400 (some (.place, 159))
def spoT (x : spoS) : Tr (Ex × spoS) :=
  .n (decide (x.1.2.2.2.2 < x.1.2.2.2.1))
    (.n (inB x.1.2.2.1.length x.1.2.2.2.2)
      (.n (gInDiscOk (x.1.2.2.1.getD x.1.2.2.2.2.toNat KN.cx.cd.z) x.1.1)
        (.n ((gInDisc (x.1.2.2.1.getD x.1.2.2.2.2.toNat KN.cx.cd.z) x.1.1) != 1)
          (.l (.normal, ((x.1.1, x.1.2.1, x.1.2.2.1, x.1.2.2.2.1, w64 (x.1.2.2.2.2 + 1)), (x.2.1, x.2.2.1, x.2.2.2.1, x.2.2.2.2.1, x.2.2.2.2.2.1, x.2.2.2.2.2.2))))
          (.n (pAimOk x.2.1 x.2.2.1 x.2.2.2.1 (x.1.2.2.1.getD x.1.2.2.2.2.toNat KN.cx.cd.z) x.1.1)
            (.n ((pAim x.2.1 x.2.2.1 x.2.2.2.1 (x.1.2.2.1.getD x.1.2.2.2.2.toNat KN.cx.cd.z) x.1.1).2)
              (.n (decide (x.2.1.surfs.length ≤ 1000000))
                (.n ((((through x.2.1 ((pAim x.2.1 x.2.2.1 x.2.2.2.1 (x.1.2.2.1.getD x.1.2.2.2.2.toNat KN.cx.cd.z) x.1.1).1) x.2.2.2.2.2.2).2).2) == 1)
                  (.n (gApp x.1.2.1.length 1 48)
                    (.l (.normal, ((x.1.1, x.1.2.1 ++ ([⟨(through x.2.1 ((pAim x.2.1 x.2.2.1 x.2.2.2.1 (x.1.2.2.1.getD x.1.2.2.2.2.toNat KN.cx.cd.z) x.1.1).1) x.2.2.2.2.2.2).1, ((through x.2.1 ((pAim x.2.1 x.2.2.1 x.2.2.2.1 (x.1.2.2.1.getD x.1.2.2.2.2.toNat KN.cx.cd.z) x.1.1).1) x.2.2.2.2.2.2).2).1⟩]), x.1.2.2.1, x.1.2.2.2.1, w64 (x.1.2.2.2.2 + 1)), (x.2.1, x.2.2.1, x.2.2.2.1, x.2.2.2.2.1, x.2.2.2.2.2.1, x.2.2.2.2.2.2))))
                    .f)
                  (.l (.normal, ((x.1.1, x.1.2.1, x.1.2.2.1, x.1.2.2.2.1, w64 (x.1.2.2.2.2 + 1)), (x.2.1, x.2.2.1, x.2.2.2.1, x.2.2.2.2.1, ⟨x.2.2.2.2.2.1.count, w64 (x.2.2.2.2.2.1.lost + 1), x.2.2.2.2.2.1.x, x.2.2.2.2.2.1.y, x.2.2.2.2.2.1.mean⟩, x.2.2.2.2.2.2)))))
                .f)
              (.l (.normal, ((x.1.1, x.1.2.1, x.1.2.2.1, x.1.2.2.2.1, w64 (x.1.2.2.2.2 + 1)), (x.2.1, x.2.2.1, x.2.2.2.1, x.2.2.2.2.1, ⟨x.2.2.2.2.2.1.count, w64 (x.2.2.2.2.2.1.lost + 1), x.2.2.2.2.2.1.x, x.2.2.2.2.2.1.y, x.2.2.2.2.2.1.mean⟩, x.2.2.2.2.2.2)))))
            .f))
        .f)
      .f)
    (.l ((.exit 0), ((x.1.1, x.1.2.1, x.1.2.2.1, x.1.2.2.2.1, x.1.2.2.2.2), (x.2.1, x.2.2.1, x.2.2.2.1, x.2.2.2.2.1, x.2.2.2.2.2.1, x.2.2.2.2.2.2))))
def spoM (x : spoS) : Nat := (x.1.2.2.2.1 - x.1.2.2.2.2).toNat
def spoH (x : spoS) : Bool := decide (x.1.2.2.2.1 = x.1.2.2.1.length) && decide (0 ≤ x.1.2.2.2.2) && decide (x.1.2.2.2.2 ≤ x.1.2.2.2.1) && decide (x.1.2.2.1.length ≤ 1000000)
def spoG (x : spoS) : Bool := spoH x && okO [.exit 0] (runO spoT (spoM x) x)
def spoE (x : spoS) : Ex × spoS := (runO spoT (spoM x) x).getD default
theorem spo_step (x : spoS) (h : spoH x = true) : StepO spoH spoM x (spoT x).run := by
  obtain ⟨⟨n, l, z, m, c⟩, b⟩ := x
  simp only [spoH, Bool.and_eq_true, decide_eq_true_eq] at h
  obtain ⟨⟨⟨h1, h2⟩, h3⟩, h4⟩ := h
  unfold spoT
  simp only [Tr.run_n, Tr.run_l, Tr.run_f]
  by_cases hd : c < m
  · have hw : w64 (c + 1) = c + 1 := IntWalk.i64_in _ ⟨by omega, by omega⟩
    simp only [hd, hw, decide_true, if_true]
    (repeat' split)
    all_goals first | trivial | (simp only [StepO, spoH, spoM, Bool.and_eq_true, decide_eq_true_eq]; omega)
  · simp [hd, StepO]
noncomputable def spo_hint : Hn Try.f68 := mkHn Try.f68 0 spoV (by kernel_rfl) (dec1 spoC spoB) (dec1_ok spoC spoB 400 (some (.place, 159))) (env [gauss_InDisc_c, pupil_Aim_c, trace_Through_c]) (env_ok [gauss_InDisc_c, pupil_Aim_c, trace_Through_c]) ([] : List (Hn Try.f68)) (by kernel_rfl) (fun q h => by cases h) 0 0 spoT (finO spoT spoM [.exit 0]) spoG spoM
  (fun x => by kernel_rfl) (loop_finO spoT [.exit 0] spoH spoM spo_step)

def spotOfT (s : Sys) (x : Iv) (y : Iv) (n : Int) (f : Iv) : Tr (Spot × Int) :=
  .n (((s.surfs.length : Nat) : Int) == 0)
    (.l (⟨0, 0, ⟨0, 0, false⟩, ⟨0, 0, false⟩, ⟨0, 0, false⟩⟩, 1))
    (.n (decide (n < 1))
      (.l (⟨0, 0, ⟨0, 0, false⟩, ⟨0, 0, false⟩, ⟨0, 0, false⟩⟩, 1))
      (.n (decide (n > 16))
        (.l (⟨0, 0, ⟨0, 0, false⟩, ⟨0, 0, false⟩, ⟨0, 0, false⟩⟩, 1))
        (.n (!(right x))
          (.l (⟨0, 0, ⟨0, 0, false⟩, ⟨0, 0, false⟩, ⟨0, 0, false⟩⟩, 1))
          (.n (!(right y))
            (.l (⟨0, 0, ⟨0, 0, false⟩, ⟨0, 0, false⟩, ⟨0, 0, false⟩⟩, 1))
            (.n (lastIOk s)
              (.n (gCellsOk n)
                (.n (spoG ((n, [], gCells n, (((gCells n).length : Nat) : Int), 0), (s, x, y, ⟨0, 0, ⟨0, 0, false⟩, ⟨0, 0, false⟩, ⟨0, 0, false⟩⟩, ⟨0, 0, ⟨0, 0, false⟩, ⟨0, 0, false⟩, ⟨0, 0, false⟩⟩, add (lastI s) f)))
                  (.n (meanOk (((((spoE ((n, [], gCells n, (((gCells n).length : Nat) : Int), 0), (s, x, y, ⟨0, 0, ⟨0, 0, false⟩, ⟨0, 0, false⟩, ⟨0, 0, false⟩⟩, ⟨0, 0, ⟨0, 0, false⟩, ⟨0, 0, false⟩, ⟨0, 0, false⟩⟩, add (lastI s) f))).2).1).2).1))
                    (.n (meanOk (((((spoE ((n, [], gCells n, (((gCells n).length : Nat) : Int), 0), (s, x, y, ⟨0, 0, ⟨0, 0, false⟩, ⟨0, 0, false⟩, ⟨0, 0, false⟩⟩, ⟨0, 0, ⟨0, 0, false⟩, ⟨0, 0, false⟩, ⟨0, 0, false⟩⟩, add (lastI s) f))).2).1).2).1))
                      (.n (meanOk (((((spoE ((n, [], gCells n, (((gCells n).length : Nat) : Int), 0), (s, x, y, ⟨0, 0, ⟨0, 0, false⟩, ⟨0, 0, false⟩, ⟨0, 0, false⟩⟩, ⟨0, 0, ⟨0, 0, false⟩, ⟨0, 0, false⟩, ⟨0, 0, false⟩⟩, add (lastI s) f))).2).1).2).1))
                        (.l (⟨(((((((spoE ((n, [], gCells n, (((gCells n).length : Nat) : Int), 0), (s, x, y, ⟨0, 0, ⟨0, 0, false⟩, ⟨0, 0, false⟩, ⟨0, 0, false⟩⟩, ⟨0, 0, ⟨0, 0, false⟩, ⟨0, 0, false⟩, ⟨0, 0, false⟩⟩, add (lastI s) f))).2).1).2).1).length : Nat) : Int), ((((((((spoE ((n, [], gCells n, (((gCells n).length : Nat) : Int), 0), (s, x, y, ⟨0, 0, ⟨0, 0, false⟩, ⟨0, 0, false⟩, ⟨0, 0, false⟩⟩, ⟨0, 0, ⟨0, 0, false⟩, ⟨0, 0, false⟩, ⟨0, 0, false⟩⟩, add (lastI s) f))).2).2).2).2).2).2).1).lost, meanR spotX (((((spoE ((n, [], gCells n, (((gCells n).length : Nat) : Int), 0), (s, x, y, ⟨0, 0, ⟨0, 0, false⟩, ⟨0, 0, false⟩, ⟨0, 0, false⟩⟩, ⟨0, 0, ⟨0, 0, false⟩, ⟨0, 0, false⟩, ⟨0, 0, false⟩⟩, add (lastI s) f))).2).1).2).1), meanR spotY (((((spoE ((n, [], gCells n, (((gCells n).length : Nat) : Int), 0), (s, x, y, ⟨0, 0, ⟨0, 0, false⟩, ⟨0, 0, false⟩, ⟨0, 0, false⟩⟩, ⟨0, 0, ⟨0, 0, false⟩, ⟨0, 0, false⟩, ⟨0, 0, false⟩⟩, add (lastI s) f))).2).1).2).1), meanR (spotN ⟨(((((((spoE ((n, [], gCells n, (((gCells n).length : Nat) : Int), 0), (s, x, y, ⟨0, 0, ⟨0, 0, false⟩, ⟨0, 0, false⟩, ⟨0, 0, false⟩⟩, ⟨0, 0, ⟨0, 0, false⟩, ⟨0, 0, false⟩, ⟨0, 0, false⟩⟩, add (lastI s) f))).2).1).2).1).length : Nat) : Int), ((((((((spoE ((n, [], gCells n, (((gCells n).length : Nat) : Int), 0), (s, x, y, ⟨0, 0, ⟨0, 0, false⟩, ⟨0, 0, false⟩, ⟨0, 0, false⟩⟩, ⟨0, 0, ⟨0, 0, false⟩, ⟨0, 0, false⟩, ⟨0, 0, false⟩⟩, add (lastI s) f))).2).2).2).2).2).2).1).lost, meanR spotX (((((spoE ((n, [], gCells n, (((gCells n).length : Nat) : Int), 0), (s, x, y, ⟨0, 0, ⟨0, 0, false⟩, ⟨0, 0, false⟩, ⟨0, 0, false⟩⟩, ⟨0, 0, ⟨0, 0, false⟩, ⟨0, 0, false⟩, ⟨0, 0, false⟩⟩, add (lastI s) f))).2).1).2).1), meanR spotY (((((spoE ((n, [], gCells n, (((gCells n).length : Nat) : Int), 0), (s, x, y, ⟨0, 0, ⟨0, 0, false⟩, ⟨0, 0, false⟩, ⟨0, 0, false⟩⟩, ⟨0, 0, ⟨0, 0, false⟩, ⟨0, 0, false⟩, ⟨0, 0, false⟩⟩, add (lastI s) f))).2).1).2).1), ((((((((spoE ((n, [], gCells n, (((gCells n).length : Nat) : Int), 0), (s, x, y, ⟨0, 0, ⟨0, 0, false⟩, ⟨0, 0, false⟩, ⟨0, 0, false⟩⟩, ⟨0, 0, ⟨0, 0, false⟩, ⟨0, 0, false⟩, ⟨0, 0, false⟩⟩, add (lastI s) f))).2).2).2).2).2).2).1).mean⟩) (((((spoE ((n, [], gCells n, (((gCells n).length : Nat) : Int), 0), (s, x, y, ⟨0, 0, ⟨0, 0, false⟩, ⟨0, 0, false⟩, ⟨0, 0, false⟩⟩, ⟨0, 0, ⟨0, 0, false⟩, ⟨0, 0, false⟩, ⟨0, 0, false⟩⟩, add (lastI s) f))).2).1).2).1)⟩, 0))
                        .f)
                      .f)
                    .f)
                  .f)
                .f)
              .f)))))
def spotOf (s : Sys) (x : Iv) (y : Iv) (n : Int) (f : Iv) : Spot × Int := (spotOfT s x y n f).ev
def spotOfOk (s : Sys) (x : Iv) (y : Iv) (n : Int) (f : Iv) : Bool := (spotOfT s x y n f).run.isSome
noncomputable def spot_Of_c : Ct := ⟨68, pf5g acSys acIv acIv acInt acIv (fun s x y n f => spotOfOk s x y n f) fun s x y n f => fSpotInt (spotOf s x y n f), pf5g_ok fun s x y n f hg => ct_tr (x := (spotOfT s x y n f).ev) (t := spotOfT s x y n f) (env [iv_Right_c, system_Last_c, iv_Add_c, gauss_Cells_c, spotMean_c, spotMean_c, spotMean_c]) (env_ok [iv_Right_c, system_Last_c, iv_Add_c, gauss_Cells_c, spotMean_c, spotMean_c, spotMean_c]) Try.func68 (by kernel_rfl) ([spo_hint] : List (Hn Try.f68)) (by kernel_rfl) (by kernel_rfl) (by kernel_rfl)
  (show evH (env [iv_Right_c, system_Last_c, iv_Add_c, gauss_Cells_c, spotMean_c, spotMean_c, spotMean_c]) (hl ([spo_hint] : List (Hn Try.f68))) none 0 0 Try.f68 [acSys.enc s, acIv.enc x, acIv.enc y, acInt.enc n, acIv.enc f] = (spotOfT s x y n f).fold fun x => some (fSpotInt x) by kernel_rfl) (run_of_some hg)⟩


end Go.Proofs.Ytmmlpaehehgfnaa.Sx
