/-
  What this text proves: the contracts of package pupil's ways, and of package spot.
  Conditions: none.
-/
import Derived.Test.YtmmlpaehehgfnaaGa
namespace Go.Proofs.Ytmmlpaehehgfnaa.Sx
set_option linter.unusedSimpArgs false
set_option linter.unusedVariables false

abbrev fRayBool (x : Ray × Bool) : RD := .tup [acRay.enc x.1, .s (.v (.bool x.2))]
abbrev acPSpot : Ac Spot := acP cdSpot
abbrev acSlPlace : Ac (List Place) := acSl .place
abbrev acPlace : Ac Place := acS cdPlace
abbrev fSpotInt (x : Spot × Int) : RD := .tup [(acS cdSpot).enc x.1, .s (.v (.int .i64 x.2))]

/-! #### a loop of gauss.Cells -/

abbrev cellsXS := Int × List Cx × Int × Int
def cellsXC : VL (Int × List Cx × Int × Int) := .cons 0 vInt (.cons 3 (vSl .cx (.mine (some 22))) (.cons 4 vInt (.one 5 vInt)))
def cellsXV : View cellsXS := view0 cellsXC 400 none
def cellsXT (x : cellsXS) : Tr (Ex × cellsXS) :=
  .n (decide (x.2.2.2 < x.1))
    (.n (gApp x.2.1.length 1 16) (.l (.normal, (x.1, x.2.1 ++ ([gaussOf x.2.2.2 x.2.2.1]), x.2.2.1, w64 (x.2.2.2 + 1)))) .f)
    (.l ((.exit 2), (x.1, x.2.1, x.2.2.1, x.2.2.2)))
def cellsXM (x : cellsXS) : Nat := (x.1 - x.2.2.2).toNat
def cellsXH (x : cellsXS) : Bool := decide (0 ≤ x.1) && decide (x.1 ≤ 16) && decide (-16 ≤ x.2.2.2) && decide (x.2.2.2 ≤ x.1)
def cellsXG (x : cellsXS) : Bool := cellsXH x && okO [.exit 2] (runO cellsXT (cellsXM x) x)
def cellsXE (x : cellsXS) : Ex × cellsXS := (runO cellsXT (cellsXM x) x).getD default
theorem cellsX_step (x : cellsXS) (h : cellsXH x = true) : StepO cellsXH cellsXM x (cellsXT x).run := by
  obtain ⟨n, l, y, c⟩ := x
  simp only [cellsXH, Bool.and_eq_true, decide_eq_true_eq] at h
  unfold cellsXT
  simp only [Tr.run_n, Tr.run_l, Tr.run_f]
  by_cases hd : c < n
  · have hw : w64 (c + 1) = c + 1 := IntWalk.i64_in _ ⟨by omega, by omega⟩
    simp only [hd, hw, decide_true, if_true]
    split
    · simp only [StepO, cellsXH, cellsXM, Bool.and_eq_true, decide_eq_true_eq]; omega
    · trivial
  · simp [hd, StepO]
noncomputable def cellsX_hint : Hn Try.f25 := mkHn Try.f25 2 cellsXV (by kernel_rfl) (dec0 cellsXC) (dec0_ok cellsXC 400 none) (env [gauss_of_c]) (env_ok [gauss_of_c]) ([] : List (Hn Try.f25)) (by kernel_rfl) (fun q h => by cases h) 0 0 cellsXT (finO cellsXT cellsXM [.exit 2]) cellsXG cellsXM
  (fun x => by kernel_rfl) (loop_finO cellsXT [.exit 2] cellsXH cellsXM cellsX_step)

/-! #### a loop of gauss.Cells -/

abbrev cellsYS := Int × List Cx × Int
def cellsYC : VL (Int × List Cx × Int) := .cons 0 vInt (.cons 3 (vSl .cx (.mine (some 22))) (.one 4 vInt))
def cellsYV : View cellsYS := view0 cellsYC 400 (some (.cx, 22))
def cellsYT (x : cellsYS) : Tr (Ex × cellsYS) :=
  .n (decide (x.2.2 < x.1))
    (.n (cellsXG (x.1, x.2.1, x.2.2, w64 (0 - x.1)))
      (.l (.normal, (((cellsXE (x.1, x.2.1, x.2.2, w64 (0 - x.1))).2).1, (((cellsXE (x.1, x.2.1, x.2.2, w64 (0 - x.1))).2).2).1, w64 ((((((cellsXE (x.1, x.2.1, x.2.2, w64 (0 - x.1))).2).2).2).1) + 1))))
      .f)
    (.l ((.exit 0), (x.1, x.2.1, x.2.2)))
def cellsYM (x : cellsYS) : Nat := (x.1 - x.2.2).toNat
def cellsYH (x : cellsYS) : Bool := decide (0 ≤ x.1) && decide (x.1 ≤ 16) && decide (-16 ≤ x.2.2) && decide (x.2.2 ≤ x.1)
def cellsYG (x : cellsYS) : Bool := cellsYH x && okO [.exit 0] (runO cellsYT (cellsYM x) x)
def cellsYE (x : cellsYS) : Ex × cellsYS := (runO cellsYT (cellsYM x) x).getD default
theorem cellsY_step (x : cellsYS) (h : cellsYH x = true) : StepO cellsYH cellsYM x (cellsYT x).run := by
  obtain ⟨n, l, c⟩ := x
  simp only [cellsYH, Bool.and_eq_true, decide_eq_true_eq] at h
  unfold cellsYT
  simp only [Tr.run_n, Tr.run_l, Tr.run_f]
  by_cases hd : c < n
  · simp only [hd, decide_true, if_true]
    split
    · rename_i hg
      simp only [cellsXG, Bool.and_eq_true] at hg
      have hi := okO_inv (P := fun z => z.1 = n ∧ z.2.2.1 = c) (fun x e y hx hr => by unfold cellsXT at hr; simp only [Tr.run_n, Tr.run_l, Tr.run_f] at hr; (repeat' split at hr) <;> cases hr <;> exact hx) hg.2 ⟨rfl, rfl⟩
      simp only [cellsXE]
      rw [hi.1, hi.2]
      have hw : w64 (c + 1) = c + 1 := IntWalk.i64_in _ ⟨by omega, by omega⟩
      simp only [StepO, cellsYH, cellsYM, Bool.and_eq_true, decide_eq_true_eq, hw]; omega
    · trivial
  · simp [hd, StepO]
noncomputable def cellsY_hint : Hn Try.f25 := mkHn Try.f25 0 cellsYV (by kernel_rfl) (dec0 cellsYC) (dec0_ok cellsYC 400 (some (.cx, 22))) (env []) (env_ok []) ([cellsX_hint] : List (Hn Try.f25)) (by kernel_rfl) (by intro q hq; simp only [hl, List.map_cons, List.map_nil, List.mem_cons, List.not_mem_nil, or_false] at hq; subst hq; kernel_rfl) 0 0 cellsYT (finO cellsYT cellsYM [.exit 0]) cellsYG cellsYM
  (fun x => by kernel_rfl) (loop_finO cellsYT [.exit 0] cellsYH cellsYM cellsY_step)

def gCellsT (n : Int) : Tr (List Cx) :=
  .n (cellsYG (mx 0 (mn n 16), [], w64 (0 - (mx 0 (mn n 16))))) (.l ((((cellsYE (mx 0 (mn n 16), [], w64 (0 - (mx 0 (mn n 16))))).2).2).1)) .f
def gCells (n : Int) : List Cx := (gCellsT n).ev
def gCellsOk (n : Int) : Bool := (gCellsT n).run.isSome
noncomputable def gauss_Cells_c : Ct := ⟨25, pf1g acInt (fun n => gCellsOk n) fun n => fSlCx (gCells n), pf1g_ok fun n hg => ct_tr (x := (gCellsT n).ev) (t := gCellsT n) (env []) (env_ok []) Try.func25 (by kernel_rfl) ([cellsX_hint,cellsY_hint] : List (Hn Try.f25)) (by kernel_rfl) (by kernel_rfl) (by kernel_rfl)
  (show evH (env []) (hl ([cellsX_hint,cellsY_hint] : List (Hn Try.f25))) (some .cx) 0 0 Try.f25 [acInt.enc n] = (gCellsT n).fold fun x => some (fSlCx x) by kernel_rfl) (run_of_some hg)⟩


def gInDiscT (z : Cx) (n : Int) : Tr (Int) :=
  .n (gWholeOk z)
    (.n (!(gWhole z))
      (.l 0)
      (.n (gPartsOk z)
        (.n (gNormROk (gaussOf (gNear ((gParts z).1)) (gNear ((gParts z).2))))
          (.n (decide ((gNormR (gaussOf (gNear ((gParts z).1)) (gNear ((gParts z).2)))) > (w64 ((mx 0 (mn n 1048576)) * (mx 0 (mn n 1048576))))))
            (.l 2)
            (.n (cxOk .add z.re z.im 4607182418800017408 0)
              (.n (cxOk .add z.re z.im 0 4607182418800017408)
                (.n (cxOk .add z.re z.im 4607182418800017408 4607182418800017408)
                  (.n (gNormROk z)
                    (.n (decide ((gNormR z) > (w64 ((mx 0 (mn n 1048576)) * (mx 0 (mn n 1048576))))))
                      (.l 0)
                      (.n (gNormROk ⟨((cx .add z.re z.im 4607182418800017408 0).1), ((cx .add z.re z.im 4607182418800017408 0).2)⟩)
                        (.n (decide ((gNormR ⟨((cx .add z.re z.im 4607182418800017408 0).1), ((cx .add z.re z.im 4607182418800017408 0).2)⟩) > (w64 ((mx 0 (mn n 1048576)) * (mx 0 (mn n 1048576))))))
                          (.l 0)
                          (.n (gNormROk ⟨((cx .add z.re z.im 0 4607182418800017408).1), ((cx .add z.re z.im 0 4607182418800017408).2)⟩)
                            (.n (decide ((gNormR ⟨((cx .add z.re z.im 0 4607182418800017408).1), ((cx .add z.re z.im 0 4607182418800017408).2)⟩) > (w64 ((mx 0 (mn n 1048576)) * (mx 0 (mn n 1048576))))))
                              (.l 0)
                              (.n (gNormROk ⟨((cx .add z.re z.im 4607182418800017408 4607182418800017408).1), ((cx .add z.re z.im 4607182418800017408 4607182418800017408).2)⟩)
                                (.n (decide ((gNormR ⟨((cx .add z.re z.im 4607182418800017408 4607182418800017408).1), ((cx .add z.re z.im 4607182418800017408 4607182418800017408).2)⟩) > (w64 ((mx 0 (mn n 1048576)) * (mx 0 (mn n 1048576))))))
                                  (.l 0)
                                  (.l 1))
                                .f))
                            .f))
                        .f))
                    .f)
                  .f)
                .f)
              .f))
          .f)
        .f))
    .f
def gInDisc (z : Cx) (n : Int) : Int := (gInDiscT z n).ev
def gInDiscOk (z : Cx) (n : Int) : Bool := (gInDiscT z n).run.isSome
noncomputable def gauss_InDisc_c : Ct := ⟨24, pf2g acCx acInt (fun z n => gInDiscOk z n) fun z n => fInt (gInDisc z n), pf2g_ok fun z n hg => ct_tr (x := (gInDiscT z n).ev) (t := gInDiscT z n) (env [gauss_Whole_c, gauss_parts_c, gauss_near_c, gauss_of_c, gauss_norm_c]) (env_ok [gauss_Whole_c, gauss_parts_c, gauss_near_c, gauss_of_c, gauss_norm_c]) Try.func24 (by kernel_rfl) ([] : List (Hn Try.f24)) (by kernel_rfl) (by kernel_rfl) (by kernel_rfl)
  (show evH (env [gauss_Whole_c, gauss_parts_c, gauss_near_c, gauss_of_c, gauss_norm_c]) (hl ([] : List (Hn Try.f24))) none 5 0 Try.f24 [acCx.enc z, acInt.enc n] = (gInDiscT z n).fold fun x => some (fInt x) by kernel_rfl) (run_of_some hg)⟩


def pSizedT (s : Sys) (n : Int) : Tr (Bool) :=
  .n (decide (((s.surfs.length : Nat) : Int) > 0)) (.n (decide (n ≥ 1)) (.l (decide (n ≤ 16))) (.l false)) (.l false)
def pSized (s : Sys) (n : Int) : Bool := (pSizedT s n).ev
noncomputable def pupil_sized_c : Ct := ⟨118, pf2 acSys acInt fun s n => fBool (pSized s n), pf2_ok fun s n => ct_tr (x := (pSizedT s n).ev) (t := pSizedT s n) (env []) (env_ok []) Try.func118 (by kernel_rfl) ([] : List (Hn Try.f118)) (by kernel_rfl) (by kernel_rfl) (by kernel_rfl)
  (show evH (env []) (hl ([] : List (Hn Try.f118))) none 0 0 Try.f118 [acSys.enc s, acInt.enc n] = (pSizedT s n).fold fun x => some (fBool x) by kernel_rfl) (Tr.run_ev _ (by kernel_rfl))⟩

def pEdge (a : Iv) (k : Int) (n : Int) : Iv :=
  div (hull (times a k) (times a (w64 (k + 1)))) (whole n)
noncomputable def pupil_edge_c : Ct := ⟨121, pf3 acIv acInt acInt fun a k n => fIv (pEdge a k n), pf3_ok fun a k n => ct_ok (env [iv_Times_c, iv_Hull_c, iv_Whole_c, iv_Div_c]) (env_ok [iv_Times_c, iv_Hull_c, iv_Whole_c, iv_Div_c]) Try.func121 (by kernel_rfl) ([] : List (Hn Try.f121)) (by kernel_rfl) (by kernel_rfl) (by kernel_rfl)
  (show evH (env [iv_Times_c, iv_Hull_c, iv_Whole_c, iv_Div_c]) (hl ([] : List (Hn Try.f121))) none 0 0 Try.f121 [acIv.enc a, acInt.enc k, acInt.enc n] = some (fIv (pEdge a k n)) by kernel_rfl)⟩

def pAimT (s : Sys) (x : Iv) (y : Iv) (z : Cx) (n : Int) : Tr (Ray × Bool) :=
  .n (!(pSized s n))
    (.l (⟨⟨⟨0, 0, false⟩, ⟨0, 0, false⟩, ⟨0, 0, false⟩⟩, ⟨⟨0, 0, false⟩, ⟨0, 0, false⟩, ⟨0, 0, false⟩⟩⟩, false))
    (.n (gWholeOk z)
      (.n (!(gWhole z))
        (.l (⟨⟨⟨0, 0, false⟩, ⟨0, 0, false⟩, ⟨0, 0, false⟩⟩, ⟨⟨0, 0, false⟩, ⟨0, 0, false⟩, ⟨0, 0, false⟩⟩⟩, false))
        (.n (toIOk z.re)
          (.n (toIOk z.im)
            (.n (inB s.surfs.length 0)
              (.n (!(vright (vof x y (point 0))))
                (.l (⟨⟨⟨0, 0, false⟩, ⟨0, 0, false⟩, ⟨0, 0, false⟩⟩, ⟨⟨0, 0, false⟩, ⟨0, 0, false⟩, ⟨0, 0, false⟩⟩⟩, false))
                (.n (!(vright (unit (vof (sub (pEdge s.open_ (toI z.re) n) x) (sub (pEdge s.open_ (toI z.im) n) y) ((s.surfs.getD 0 KN.surf.cd.z).at_)))))
                  (.l (⟨⟨⟨0, 0, false⟩, ⟨0, 0, false⟩, ⟨0, 0, false⟩⟩, ⟨⟨0, 0, false⟩, ⟨0, 0, false⟩, ⟨0, 0, false⟩⟩⟩, false))
                  (.l (⟨vof x y (point 0), unit (vof (sub (pEdge s.open_ (toI z.re) n) x) (sub (pEdge s.open_ (toI z.im) n) y) ((s.surfs.getD 0 KN.surf.cd.z).at_))⟩, true))))
              .f)
            .f)
          .f))
      .f)
def pAim (s : Sys) (x : Iv) (y : Iv) (z : Cx) (n : Int) : Ray × Bool := (pAimT s x y z n).ev
def pAimOk (s : Sys) (x : Iv) (y : Iv) (z : Cx) (n : Int) : Bool := (pAimT s x y z n).run.isSome
noncomputable def pupil_Aim_c : Ct := ⟨62, pf5g acSys acIv acIv acCx acInt (fun s x y z n => pAimOk s x y z n) fun s x y z n => fRayBool (pAim s x y z n), pf5g_ok fun s x y z n hg => ct_tr (x := (pAimT s x y z n).ev) (t := pAimT s x y z n) (env [pupil_sized_c, gauss_Whole_c, pupil_edge_c, iv_Point_c, vec_Of_c, iv_Sub_c, vec_Unit_c, vec_Right_c]) (env_ok [pupil_sized_c, gauss_Whole_c, pupil_edge_c, iv_Point_c, vec_Of_c, iv_Sub_c, vec_Unit_c, vec_Right_c]) Try.func62 (by kernel_rfl) ([] : List (Hn Try.f62)) (by kernel_rfl) (by kernel_rfl) (by kernel_rfl)
  (show evH (env [pupil_sized_c, gauss_Whole_c, pupil_edge_c, iv_Point_c, vec_Of_c, iv_Sub_c, vec_Unit_c, vec_Right_c]) (hl ([] : List (Hn Try.f62))) none 0 0 Try.f62 [acSys.enc s, acIv.enc x, acIv.enc y, acCx.enc z, acInt.enc n] = (pAimT s x y z n).fold fun x => some (fRayBool x) by kernel_rfl) (run_of_some hg)⟩

def lastIT (s : Sys) : Tr (Iv) :=
  .n (((s.surfs.length : Nat) : Int) == 0)
    (.l nul)
    (.n (inB s.surfs.length (w64 (((s.surfs.length : Nat) : Int) - 1))) (.l ((s.surfs.getD ((w64 (((s.surfs.length : Nat) : Int) - 1)).toNat) KN.surf.cd.z).at_)) .f)
def lastI (s : Sys) : Iv := (lastIT s).ev
def lastIOk (s : Sys) : Bool := (lastIT s).run.isSome
noncomputable def system_Last_c : Ct := ⟨122, pf1g acSys (fun s => lastIOk s) fun s => fIv (lastI s), pf1g_ok fun s hg => ct_tr (x := (lastIT s).ev) (t := lastIT s) (env [iv_None_c]) (env_ok [iv_None_c]) Try.func122 (by kernel_rfl) ([] : List (Hn Try.f122)) (by kernel_rfl) (by kernel_rfl) (by kernel_rfl)
  (show evH (env [iv_None_c]) (hl ([] : List (Hn Try.f122))) none 0 0 Try.f122 [acSys.enc s] = (lastIT s).fold fun x => some (fIv x) by kernel_rfl) (run_of_some hg)⟩


def spotX (p : Place) : Iv :=
  p.x
noncomputable def spot_Of_1_c : Ct := ⟨124, pf1 acPlace fun p => fIv (spotX p), pf1_ok fun p => ct_ok (env []) (env_ok []) Try.func124 (by kernel_rfl) ([] : List (Hn Try.f124)) (by kernel_rfl) (by kernel_rfl) (by kernel_rfl)
  (show evH (env []) (hl ([] : List (Hn Try.f124))) none 0 0 Try.f124 [acPlace.enc p] = some (fIv (spotX p)) by kernel_rfl)⟩

def spotY (p : Place) : Iv :=
  p.y
noncomputable def spot_Of_2_c : Ct := ⟨125, pf1 acPlace fun p => fIv (spotY p), pf1_ok fun p => ct_ok (env []) (env_ok []) Try.func125 (by kernel_rfl) ([] : List (Hn Try.f125)) (by kernel_rfl) (by kernel_rfl) (by kernel_rfl)
  (show evH (env []) (hl ([] : List (Hn Try.f125))) none 0 0 Try.f125 [acPlace.enc p] = some (fIv (spotY p)) by kernel_rfl)⟩

def spotM (p : Place) (o : Spot) : Iv :=
  add (sqr (sub p.x o.x)) (sqr (sub p.y o.y))
noncomputable def spot_Of_3_c : Ct := ⟨126, pf2 acPlace acPSpot fun p o => fIv (spotM p o), pf2_ok fun p o => ct_ok (env [iv_Sub_c, iv_Sqr_c, iv_Add_c]) (env_ok [iv_Sub_c, iv_Sqr_c, iv_Add_c]) Try.func126 (by kernel_rfl) ([] : List (Hn Try.f126)) (by kernel_rfl) (by kernel_rfl) (by kernel_rfl)
  (show evH (env [iv_Sub_c, iv_Sqr_c, iv_Add_c]) (hl ([] : List (Hn Try.f126))) none 0 0 Try.f126 [acPlace.enc p, acPSpot.enc o] = some (fIv (spotM p o)) by kernel_rfl)⟩


/-! ### spot.mean -/

abbrev plA (a : Place) : List AD := [acPlace.enc a]
abbrev ComputesPl (g : Place → Iv) : Value → (World → Prop) → Prop := Comp plA fun a => fIv (g a)

def gOfPl (g : Place → Iv) : List AD → Option (Bool × RD)
  | [x] => match acPlace.dec x with
    | some a => some (true, fIv (g a))
    | none => none
  | _ => none

theorem gOfPl_ok (g : Place → Iv) (F : Value) (I : World → Prop) (hP : ComputesPl g F I) : ∀ l r, gOfPl g l = some (true, r) → ∃ f cs, F = .func (.func f) #[] cs ∧ callable Try.prog f = true ∧ ∀ w vs, I w → holdsA F w l vs → Calls Try.prog f (vs.toArray ++ cs) w (Comes w r) := by
  intro l r h
  unfold gOfPl at h
  split at h
  · split at h
    · rename_i a ha
      cases h
      obtain ⟨f, cs, h1, h2, h3⟩ := hP
      exact ⟨f, cs, h1, h2, fun w vs hw hv => h3 a w vs hw (Sx.h1 ha (fun _ h => h) hv)⟩
    · cases h
  · cases h

theorem fn_ofPl (g : Place → Iv) (F : Value) (I : World → Prop) (hP : ComputesPl g F I) : ∃ f a b, F = .func f a b := by
  obtain ⟨f, cs, h1, _⟩ := hP
  exact ⟨_, _, _, h1⟩

noncomputable abbrev envPl (g : Place → Iv) (L : List (CtP (ComputesPl g))) : Env := envP [] L (gOfPl g)
theorem envPl_ok (g : Place → Iv) (L : List (CtP (ComputesPl g))) : XOkP (ComputesPl g) (envPl g L) := envP_ok [] L _ (fun p h => by cases h) (fn_ofPl g) (gOfPl_ok g)

section
variable (g : Place → Iv)
abbrev meanS := (List Place × Unit × List Place × Int × Int) × (Iv × Iv)
def meanC : VL (List Place × Unit × List Place × Int × Int) := .adr 4 1 (.adr 5 3 (.cons 0 (vSl .place .ro) (.cons 1 vOpq (.cons 9 (vSl .place .ro) (.cons 10 vInt (.one 11 vInt))))))
def meanB : BL (Iv × Iv) := .cons 1 (bS cdIv) (.one 3 (bS cdIv))
def meanV : View meanS := view1 meanC meanB 400 none
def meanT (x : meanS) : Tr (Ex × meanS) :=
  .n (decide (x.1.2.2.2.2 < x.1.2.2.2.1))
    (.n (inB x.1.2.2.1.length x.1.2.2.2.2)
      (.l (.normal, ((x.1.1, (), x.1.2.2.1, x.1.2.2.2.1, w64 (x.1.2.2.2.2 + 1)), (x.2.1, add x.2.2 (g (x.1.2.2.1.getD x.1.2.2.2.2.toNat KN.place.cd.z))))))
      .f)
    (.l ((.exit 0), ((x.1.1, (), x.1.2.2.1, x.1.2.2.2.1, x.1.2.2.2.2), (x.2.1, x.2.2))))
def meanM (x : meanS) : Nat := (x.1.2.2.2.1 - x.1.2.2.2.2).toNat
def meanG (x : meanS) : Bool := decide (x.1.2.2.2.1 = x.1.2.2.1.length) && decide (0 ≤ x.1.2.2.2.2) && decide (x.1.2.2.2.2 ≤ x.1.2.2.2.1) && decide (x.1.2.2.1.length ≤ 1000000)
def meanE (x : meanS) : Ex × meanS := runT (meanT g) (meanM x) x
theorem mean_step (x : meanS) (h : meanG x = true) : LoopStep [.exit 0] meanG meanM x (meanT g x).run := by
  obtain ⟨⟨l0, u, l, n, c⟩, b⟩ := x
  simp only [meanG, Bool.and_eq_true, decide_eq_true_eq] at h
  obtain ⟨⟨⟨h1, h2⟩, h3⟩, h4⟩ := h
  unfold meanT
  simp only [Tr.run_n, Tr.run_l, Tr.run_f]
  by_cases hd : c < n
  · have hb : inB l.length c = true := inB_true h2 (by omega)
    have hw : w64 (c + 1) = c + 1 := IntWalk.i64_in _ ⟨by omega, by omega⟩
    simp only [hd, hb, hw, decide_true, if_true]
    simp only [LoopStep, meanG, meanM, Bool.and_eq_true, decide_eq_true_eq]
    omega
  · simp [hd, LoopStep, exEq]
noncomputable def mean_hint : HnP (ComputesPl g) Try.f123 := mkHn Try.f123 0 meanV (by kernel_rfl) (dec1 meanC meanB) (dec1_ok meanC meanB 400 none) (envPl g [iv_Add_c.up]) (envPl_ok g [iv_Add_c.up]) ([] : List (HnP (ComputesPl g) Try.f123)) (by kernel_rfl) (fun q h => by cases h) 0 0 (meanT g) (finT (meanT g) meanM [.exit 0]) meanG meanM
  (fun x => by kernel_rfl) (loop_fin (meanT g) [.exit 0] meanG meanM (mean_step g))

def meanEnd (l : List Place) : meanS := (meanE g ((l, (), l, ((l.length : Nat) : Int), 0), (⟨0, 0, false⟩, point 0))).2
def meanOk (l : List Place) : Bool := decide (l.length ≤ 1000000)
def meanRT (l : List Place) : Tr Iv := .n (meanG ((l, (), l, ((l.length : Nat) : Int), 0), (⟨0, 0, false⟩, point 0))) (.l (div (meanEnd g l).2.2 (whole (((meanEnd g l).1.1.length : Nat) : Int)))) .f
def meanR (l : List Place) : Iv := (meanRT g l).ev

theorem mean_ok (l : List Place) (hln : meanOk l = true) : SndP (ComputesPl g) 123 [acSlPlace.enc l, acOpq.enc ()] (fIv (meanR g l)) :=
  ct_tr (x := (meanRT g l).ev) (t := meanRT g l) (envPl g [iv_Add_c.up, iv_Point_c.up, iv_Whole_c.up, iv_Div_c.up]) (envPl_ok g _) Try.func123 (by kernel_rfl) [mean_hint g] (by kernel_rfl) (by kernel_rfl) (by kernel_rfl)
  (show evH (envPl g [iv_Add_c.up, iv_Point_c.up, iv_Whole_c.up, iv_Div_c.up]) (hl [mean_hint g]) none 0 0 Try.f123 [acSlPlace.enc l, acOpq.enc ()] = (meanRT g l).fold fun x => some (fIv x) by kernel_rfl)
  (by have := of_decide_eq_true hln; apply run_of_ne; unfold meanRT; simp [meanG, this])
end

/-- A closure, handed over behind something else. -/
theorem clo_sound1 {α : Type} {A : α → List AD} {G : α → RD} (hA : ∀ a, (A a).all plainA = true) {K f : Nat} {cs : List (List Value)} {x : AD} {args : List AD} (hx : plainA x = true) (hargs : args.all plainA = true) {r : RD} (hcall : callable Try.prog K = true)
    (hbody : ∀ a, Snd K (A a ++ caps cs) (G a)) (h : SndP (Comp A G) f (x :: .s .opq :: args) r) : Snd f (x :: .s (.clo K cs) :: args) r := by
  have hc : callable Try.prog f = true := by
    refine (h (.func (.func K) #[] #[]) (fun _ => False) rfl (fun w w' h _ => h) ⟨K, #[], rfl, hcall, fun a w vs h _ => h.elim⟩).call
  intro F I hF hI _
  refine ⟨hc, fun w vs hw hv => ?_⟩
  match vs, hv with
  | v0 :: v :: vs, hv =>
    obtain ⟨hv0, ⟨bs, rfl, hbs⟩, hv⟩ := hv
    have hst : Stab fun w' => I w' ∧ HoldC w' bs cs := fun w w' h hb => ⟨hI w w' h.1 hb, HoldC.mono hb h.2⟩
    have := h (.func (.func K) #[] (bs.map ptr).toArray) (fun w' => I w' ∧ HoldC w' bs cs) rfl hst ⟨K, _, rfl, hcall, fun a w' us hw' hus => by
      have hb := (hbody a F I hF hI trivial).run w' (us ++ bs.map ptr) hw'.1 (holdsA_append (plains_holds (hA a) hus) (caps_holds hw'.2))
      rwa [show (us ++ bs.map ptr).toArray = us.toArray ++ (bs.map ptr).toArray by simp] at hb⟩
    exact this.run w _ ⟨hw, hbs⟩ ⟨plainA_holds hx hv0, ⟨rfl, rfl⟩, plains_holds hargs hv⟩
  | [_], hv => exact hv.2.elim

theorem fn_sound1 {α : Type} {A : α → List AD} {G : α → RD} (hA : ∀ a, (A a).all plainA = true) {K f : Nat} {x : AD} {args : List AD} (hx : plainA x = true) (hargs : args.all plainA = true) {r : RD} (hcall : callable Try.prog K = true)
    (hbody : ∀ a, Snd K (A a) (G a)) (h : SndP (Comp A G) f (x :: .s .opq :: args) r) : Snd f (x :: .s (.v (.func (.func K) #[] #[])) :: args) r := by
  have hc : ∀ I, Stab I → Comp A G (.func (.func K) #[] #[]) I → callable Try.prog f = true := fun I hI hC => (h _ I rfl hI hC).call
  intro F I hF hI _
  have hC : Comp A G (.func (.func K) #[] #[]) I := ⟨K, #[], rfl, hcall, fun a w us hw hus => by
    have hb := (hbody a F I hF hI trivial).run w us hw (plains_holds (hA a) hus)
    simpa using hb⟩
  refine ⟨hc I hI hC, fun w vs hw hv => ?_⟩
  match vs, hv with
  | v0 :: v :: vs, hv =>
    obtain ⟨hv0, ⟨rfl, _⟩, hv⟩ := hv
    exact (h _ I rfl hI hC).run w _ hw ⟨plainA_holds hx hv0, ⟨rfl, rfl⟩, plains_holds hargs hv⟩
  | [_], hv => exact hv.2.elim

theorem plA_plain (a : Place) : (plA a).all plainA = true := rfl

def meanPf1 (k : Nat) (g : Place → Iv) : Pf
  | [x, .s (.v (.func (.func k') ⟨[]⟩ ⟨[]⟩))] => match acSlPlace.dec x with
    | some l => bif Nat.beq k' k then some (meanOk l, fIv (meanR g l)) else none
    | none => none
  | _ => none

def meanPf2 {β : Type} (k : Nat) (B : Cd β) (g : β → Place → Iv) : Pf
  | [x, .s (.clo k' [c])] => match acSlPlace.dec x, B.dec c with
    | some l, some (b, []) => bif Nat.beq k' k then some (meanOk l, fIv (meanR (g b) l)) else none
    | _, _ => none
  | _ => none

theorem monoS {F : Value} {w : World} {vs : List Value} {x y : AD} {l : List Place} (h1' : acSlPlace.dec x = some l) (h : holdsA F w [x, y] vs) : holdsA F w [acSlPlace.enc l, y] vs := h1 h1' (fun _ h => h) h

theorem meanPf1_ok (k : Nat) (g : Place → Iv) (hcall : callable Try.prog k = true) (hb : ∀ a, Snd k (plA a) (fIv (g a))) : ∀ l r, meanPf1 k g l = some (true, r) → Snd 123 l r := by
  intro l r h
  unfold meanPf1 at h
  split at h
  · rename_i x k'
    split at h
    · rename_i l hl
      cases hk : Nat.beq k' k with
      | false => simp [hk] at h
      | true =>
        simp only [hk, cond_true, Option.some.injEq, Prod.mk.injEq] at h
        obtain ⟨hg, rfl⟩ := h
        obtain rfl := Nat.eq_of_beq_eq_true hk
        refine snd_mono (args' := [acSlPlace.enc l, .s (.v (.func (.func k') #[] #[]))]) ?_ (fun F w vs h => monoS hl h)
        exact fn_sound1 (A := plA) (G := fun a => fIv (g a)) plA_plain rfl rfl hcall hb (mean_ok g l hg)
    · cases h
  · cases h

theorem meanPf2_ok {β : Type} (k : Nat) (B : Cd β) (g : β → Place → Iv) (hcall : callable Try.prog k = true) (hb : ∀ b a, Snd k [acPlace.enc a, (acP B).enc b] (fIv (g b a))) : ∀ l r, meanPf2 k B g l = some (true, r) → Snd 123 l r := by
  intro l r h
  unfold meanPf2 at h
  split at h
  · rename_i x k' c
    split at h
    · rename_i l b hl hc
      cases hk : Nat.beq k' k with
      | false => simp [hk] at h
      | true =>
        simp only [hk, cond_true, Option.some.injEq, Prod.mk.injEq] at h
        obtain ⟨hg, rfl⟩ := h
        obtain rfl := Nat.eq_of_beq_eq_true hk
        have ec := B.ok _ _ _ hc
        rw [List.append_nil] at ec
        subst ec
        refine snd_mono (args' := [acSlPlace.enc l, .s (.clo k' [B.enc b])]) ?_ (fun F w vs h => monoS hl h)
        exact clo_sound1 (A := plA) (G := fun a => fIv (g b a)) plA_plain rfl rfl hcall (fun a => hb b a) (mean_ok (g b) l hg)
    · cases h
  · cases h

/-- All three at once. -/
def meanPf : Pf := fun l => match meanPf1 124 spotX l with
  | some x => some x
  | none => match meanPf1 125 spotY l with
    | some x => some x
    | none => meanPf2 126 cdSpot (fun o p => spotM p o) l

noncomputable def spotMean_c : Ct := ⟨123, meanPf, by
  intro l r h
  unfold meanPf at h
  split at h
  · rename_i x hx
    cases h
    exact meanPf1_ok _ _ (by kernel_rfl) (fun a => spot_Of_1_c.ok _ _ (by kernel_rfl)) l r hx
  · split at h
    · rename_i x hx
      cases h
      exact meanPf1_ok _ _ (by kernel_rfl) (fun a => spot_Of_2_c.ok _ _ (by kernel_rfl)) l r hx
    · exact meanPf2_ok _ _ _ (by kernel_rfl) (fun b a => spot_Of_3_c.ok _ _ (by kernel_rfl)) l r h⟩

def spotN (o : Spot) (p : Place) : Iv := spotM p o

end Go.Proofs.Ytmmlpaehehgfnaa.Sx
