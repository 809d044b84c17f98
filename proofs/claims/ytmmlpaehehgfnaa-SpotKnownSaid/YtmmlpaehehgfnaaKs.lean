/-
  What this text proves: the contracts of meniscushand.Straight and of chapter 25's example.
  Conditions: none.
-/
import Derived.Test.YtmmlpaehehgfnaaSp
import Derived.Test.YtmmlpaehehgfnaaR1
namespace Go.Proofs.Ytmmlpaehehgfnaa.Sx
set_option linter.unusedSimpArgs false
set_option linter.unusedVariables false

abbrev fSys (s : Sys) : RD := .a (acSys.enc s)
abbrev acSlInt : Ac (List Int) := acSl .int

/-! #### a loop of meniscushand.Straight -/

abbrev strtS := (List Int × Int × Int) × (Sys × Sys)
def strtC : VL (List Int × Int × Int) := .adr 2 1 (.adr 3 4 (.cons 0 (vSl .int .ro) (.cons 4 vInt (.one 5 vInt))))
def strtB : BL (Sys × Sys) := .cons 1 (bSys (.mine (some 84))) (.one 4 (bSys (.mine (some 84))))
def strtV : View strtS := view1 strtC strtB 400 (some (.surf, 84))
def strtT (x : strtS) : Tr (Ex × strtS) :=
  .n (decide (x.1.2.2 < ((x.1.1.length : Nat) : Int)))
    (.n (decide (x.1.2.2 < 4))
      (.n (inB x.1.1.length x.1.2.2)
        (.n (gApp x.2.2.surfs.length 1 176)
          (.n (inB x.1.1.length x.1.2.2)
            (.l (.normal, ((x.1.1, w64 ((w64 (x.1.2.1 + 1)) + (pick (w64 ((x.1.1.getD x.1.2.2.toNat KN.int.cd.z).tdiv 2)) 327680)), w64 (x.1.2.2 + 1)), (x.2.1, ⟨x.2.2.surfs ++ ([⟨(pick (x.1.1.getD x.1.2.2.toNat KN.int.cd.z) 2) == 0, false, point1 0, point1 65536, point1 0, point1 0, point1 x.1.2.1, whole1 100, point1 65536⟩]), x.2.2.open_⟩))))
            .f)
          .f)
        .f)
      (.l ((.exit 0), ((x.1.1, x.1.2.1, x.1.2.2), (x.2.1, x.2.2)))))
    (.l ((.exit 0), ((x.1.1, x.1.2.1, x.1.2.2), (x.2.1, x.2.2))))
def strtM (x : strtS) : Nat := (4 - x.1.2.2).toNat
def strtH (x : strtS) : Bool := decide (0 ≤ x.1.2.2) && decide (x.1.2.2 ≤ 4)
def strtG (x : strtS) : Bool := strtH x && okO [.exit 0] (runO strtT (strtM x) x)
def strtE (x : strtS) : Ex × strtS := (runO strtT (strtM x) x).getD default
theorem strt_step (x : strtS) (h : strtH x = true) : StepO strtH strtM x (strtT x).run := by
  obtain ⟨⟨l, z, i⟩, b⟩ := x
  simp only [strtH, Bool.and_eq_true, decide_eq_true_eq] at h
  have hw : w64 (i + 1) = i + 1 := IntWalk.i64_in _ ⟨by omega, by omega⟩
  refine Tr.allO_run (P := StepO _ _ _) trivial ?_
  simp only [strtT, Tr.allO]
  repeat' (first | apply And.intro | intro _)
  all_goals first | trivial | (simp only [StepO, strtH, strtM, Bool.and_eq_true, decide_eq_true_eq, hw] at *; omega)
noncomputable def strt_hint : Hn Try.f54 := mkHn Try.f54 0 strtV (by kernel_rfl) (dec1 strtC strtB) (dec1_ok strtC strtB 400 (some (.surf, 84))) (env [meniscushand_Pick_c, meniscusref1_Point_c, meniscusref1_Whole_c]) (env_ok [meniscushand_Pick_c, meniscusref1_Point_c, meniscusref1_Whole_c]) ([] : List (Hn Try.f54)) (by kernel_rfl) (fun q h => by cases h) 0 0 strtT (finO strtT strtM [.exit 0]) strtG strtM
  (fun x => by kernel_rfl) (loop_finO strtT [.exit 0] strtH strtM strt_step)

def straightT (l : List Int) : Tr (Sys) :=
  .n (strtG ((l, 655360, 0), (⟨[], ⟨0, 0, false⟩⟩, ⟨[], whole1 8⟩))) (.l ((((strtE ((l, 655360, 0), (⟨[], ⟨0, 0, false⟩⟩, ⟨[], whole1 8⟩))).2).2).2)) .f
def straight (l : List Int) : Sys := (straightT l).ev
def straightOk (l : List Int) : Bool := (straightT l).run.isSome
noncomputable def meniscushand_Straight_c : Ct := ⟨54, pf1g acSlInt (fun l => straightOk l) fun l => fSys (straight l), pf1g_ok fun l hg => ct_tr (x := (straightT l).ev) (t := straightT l) (env [meniscusref1_Whole_c]) (env_ok [meniscusref1_Whole_c]) Try.func54 (by kernel_rfl) ([strt_hint] : List (Hn Try.f54)) (by kernel_rfl) (by kernel_rfl) (by kernel_rfl)
  (show evH (env [meniscusref1_Whole_c]) (hl ([strt_hint] : List (Hn Try.f54))) none 0 0 Try.f54 [acSlInt.enc l] = (straightT l).fold fun x => some (fSys x) by kernel_rfl) (run_of_some hg)⟩


def open25T  : Tr (Sys) :=
  .n (straightOk ([1])) (.l ⟨(straight ([1])).surfs, whole 4⟩) .f
def open25  : Sys := (open25T).ev
def open25Ok  : Bool := (open25T).run.isSome
noncomputable def meniscuslaw25_open_c : Ct := ⟨67, pf0g (open25Ok) (fSys (open25)), pf0g_ok fun hg => ct_tr (x := (open25T).ev) (t := open25T) (env [meniscushand_Straight_c, iv_Whole_c]) (env_ok [meniscushand_Straight_c, iv_Whole_c]) Try.func67 (by kernel_rfl) ([] : List (Hn Try.f67)) (by kernel_rfl) (by kernel_rfl) (by kernel_rfl)
  (show evH (env [meniscushand_Straight_c, iv_Whole_c]) (hl ([] : List (Hn Try.f67))) none 0 0 Try.f67 [] = (open25T).fold fun x => some (fSys x) by kernel_rfl) (run_of_some hg)⟩

def known25T (open25 : Sys) (open25Ok : Bool) (spotOf : Sys → Iv → Iv → Int → Iv → (Spot × Int)) (spotOfOk : Sys → Iv → Iv → Int → Iv → Bool)  : Tr (Bool) :=
  .n open25Ok
    (.n (spotOfOk open25 (point 0) (point 0) 4 (point 0))
      (.n (((spotOf open25 (point 0) (point 0) 4 (point 0)).2) == 0)
        (.n ((((spotOf open25 (point 0) (point 0) 4 (point 0)).1).count) == 32)
          (.n ((((spotOf open25 (point 0) (point 0) 4 (point 0)).1).lost) == 0)
            (.n (has (((spotOf open25 (point 0) (point 0) 4 (point 0)).1).x) 0)
              (.n (has (((spotOf open25 (point 0) (point 0) 4 (point 0)).1).y) 0) (.l (right (((spotOf open25 (point 0) (point 0) 4 (point 0)).1).mean))) (.l false))
              (.l false))
            (.l false))
          (.l false))
        (.l false))
      .f)
    .f
theorem known25_abs (open25 : Sys) (open25Ok : Bool) (spotOf : Sys → Iv → Iv → Int → Iv → (Spot × Int)) (spotOfOk : Sys → Iv → Iv → Int → Iv → Bool) (open25_h : ∀ l r, (pf0g (open25Ok) (fSys (open25))) l = some (true, r) → Snd 67 l r) (spotOf_h : ∀ l r, (pf5g acSys acIv acIv acInt acIv (fun s x y n f => spotOfOk s x y n f) fun s x y n f => fSpotInt (spotOf s x y n f)) l = some (true, r) → Snd 68 l r)  : evH (env [⟨67, pf0g (open25Ok) (fSys (open25)), open25_h⟩, iv_Point_c, ⟨68, pf5g acSys acIv acIv acInt acIv (fun s x y n f => spotOfOk s x y n f) fun s x y n f => fSpotInt (spotOf s x y n f), spotOf_h⟩, iv_Has_c, iv_Right_c]) (hl ([] : List (Hn Try.f69))) none 0 0 Try.f69 [] = (known25T open25 open25Ok spotOf spotOfOk ).fold fun x => some (fBool x) := by kernel_rfl
theorem known25_snd (open25 : Sys) (open25Ok : Bool) (spotOf : Sys → Iv → Iv → Int → Iv → (Spot × Int)) (spotOfOk : Sys → Iv → Iv → Int → Iv → Bool) (open25_h : ∀ l r, (pf0g (open25Ok) (fSys (open25))) l = some (true, r) → Snd 67 l r) (spotOf_h : ∀ l r, (pf5g acSys acIv acIv acInt acIv (fun s x y n f => spotOfOk s x y n f) fun s x y n f => fSpotInt (spotOf s x y n f)) l = some (true, r) → Snd 68 l r)  {x_ : Bool} (hr_ : (known25T open25 open25Ok spotOf spotOfOk ).run = some x_) : Snd 69 [] (fBool x_) :=
  ct_ok (env [⟨67, pf0g (open25Ok) (fSys (open25)), open25_h⟩, iv_Point_c, ⟨68, pf5g acSys acIv acIv acInt acIv (fun s x y n f => spotOfOk s x y n f) fun s x y n f => fSpotInt (spotOf s x y n f), spotOf_h⟩, iv_Has_c, iv_Right_c]) (env_ok [⟨67, pf0g (open25Ok) (fSys (open25)), open25_h⟩, iv_Point_c, ⟨68, pf5g acSys acIv acIv acInt acIv (fun s x y n f => spotOfOk s x y n f) fun s x y n f => fSpotInt (spotOf s x y n f), spotOf_h⟩, iv_Has_c, iv_Right_c]) Try.func69 (by kernel_rfl) ([] : List (Hn Try.f69)) (by kernel_rfl) (by kernel_rfl) (by kernel_rfl) ((known25_abs open25 open25Ok spotOf spotOfOk open25_h spotOf_h ).trans (by rw [Tr.fold_run, hr_]; rfl))

def spotKnownT (open25 : Sys) (open25Ok : Bool) (spotOf : Sys → Iv → Iv → Int → Iv → (Spot × Int)) (spotOfOk : Sys → Iv → Iv → Int → Iv → Bool) (known25 : Bool)  : Tr (Bool) :=
  .n open25Ok
    (.n (inB open25.surfs.length 0)
      (.n (spotOfOk ⟨open25.surfs.set 0 ⟨(open25.surfs.getD 0 KN.surf.cd.z).stop, (open25.surfs.getD 0 KN.surf.cd.z).bent, (open25.surfs.getD 0 KN.surf.cd.z).curve, (open25.surfs.getD 0 KN.surf.cd.z).conic, (open25.surfs.getD 0 KN.surf.cd.z).a4, (open25.surfs.getD 0 KN.surf.cd.z).a6, (open25.surfs.getD 0 KN.surf.cd.z).at_, point 1, (open25.surfs.getD 0 KN.surf.cd.z).ratio⟩, open25.open_⟩ (whole 9) (point 0) 4 (point 0))
        (.n (spotOfOk ⟨[], ⟨0, 0, false⟩⟩ (point 0) (point 0) 4 (point 0))
          (.n open25Ok
            (.n (spotOfOk open25 (point 0) nul 4 (point 0))
              (.n open25Ok
                (.n (spotOfOk open25 (point 0) (point 0) 0 (point 0))
                  (.n open25Ok
                    (.n (spotOfOk open25 (point 0) (point 0) 1 (point 0))
                      (.n open25Ok
                        (.n (spotOfOk open25 (point 0) (point 0) 4 nul)
                          (.n known25
                            (.n (((spotOf ⟨open25.surfs.set 0 ⟨(open25.surfs.getD 0 KN.surf.cd.z).stop, (open25.surfs.getD 0 KN.surf.cd.z).bent, (open25.surfs.getD 0 KN.surf.cd.z).curve, (open25.surfs.getD 0 KN.surf.cd.z).conic, (open25.surfs.getD 0 KN.surf.cd.z).a4, (open25.surfs.getD 0 KN.surf.cd.z).a6, (open25.surfs.getD 0 KN.surf.cd.z).at_, point 1, (open25.surfs.getD 0 KN.surf.cd.z).ratio⟩, open25.open_⟩ (whole 9) (point 0) 4 (point 0)).2) == 0)
                              (.n ((((spotOf ⟨open25.surfs.set 0 ⟨(open25.surfs.getD 0 KN.surf.cd.z).stop, (open25.surfs.getD 0 KN.surf.cd.z).bent, (open25.surfs.getD 0 KN.surf.cd.z).curve, (open25.surfs.getD 0 KN.surf.cd.z).conic, (open25.surfs.getD 0 KN.surf.cd.z).a4, (open25.surfs.getD 0 KN.surf.cd.z).a6, (open25.surfs.getD 0 KN.surf.cd.z).at_, point 1, (open25.surfs.getD 0 KN.surf.cd.z).ratio⟩, open25.open_⟩ (whole 9) (point 0) 4 (point 0)).1).count) == 0)
                                (.n ((((spotOf ⟨open25.surfs.set 0 ⟨(open25.surfs.getD 0 KN.surf.cd.z).stop, (open25.surfs.getD 0 KN.surf.cd.z).bent, (open25.surfs.getD 0 KN.surf.cd.z).curve, (open25.surfs.getD 0 KN.surf.cd.z).conic, (open25.surfs.getD 0 KN.surf.cd.z).a4, (open25.surfs.getD 0 KN.surf.cd.z).a6, (open25.surfs.getD 0 KN.surf.cd.z).at_, point 1, (open25.surfs.getD 0 KN.surf.cd.z).ratio⟩, open25.open_⟩ (whole 9) (point 0) 4 (point 0)).1).lost) == 32)
                                  (.n (eqIv (((spotOf ⟨open25.surfs.set 0 ⟨(open25.surfs.getD 0 KN.surf.cd.z).stop, (open25.surfs.getD 0 KN.surf.cd.z).bent, (open25.surfs.getD 0 KN.surf.cd.z).curve, (open25.surfs.getD 0 KN.surf.cd.z).conic, (open25.surfs.getD 0 KN.surf.cd.z).a4, (open25.surfs.getD 0 KN.surf.cd.z).a6, (open25.surfs.getD 0 KN.surf.cd.z).at_, point 1, (open25.surfs.getD 0 KN.surf.cd.z).ratio⟩, open25.open_⟩ (whole 9) (point 0) 4 (point 0)).1).x) nul)
                                    (.n (eqIv (((spotOf ⟨open25.surfs.set 0 ⟨(open25.surfs.getD 0 KN.surf.cd.z).stop, (open25.surfs.getD 0 KN.surf.cd.z).bent, (open25.surfs.getD 0 KN.surf.cd.z).curve, (open25.surfs.getD 0 KN.surf.cd.z).conic, (open25.surfs.getD 0 KN.surf.cd.z).a4, (open25.surfs.getD 0 KN.surf.cd.z).a6, (open25.surfs.getD 0 KN.surf.cd.z).at_, point 1, (open25.surfs.getD 0 KN.surf.cd.z).ratio⟩, open25.open_⟩ (whole 9) (point 0) 4 (point 0)).1).mean) nul)
                                      (.n (((spotOf ⟨[], ⟨0, 0, false⟩⟩ (point 0) (point 0) 4 (point 0)).2) == 1)
                                        (.n (((spotOf open25 (point 0) nul 4 (point 0)).2) == 1)
                                          (.n (((spotOf open25 (point 0) (point 0) 0 (point 0)).2) == 1)
                                            (.n (((spotOf open25 (point 0) (point 0) 1 (point 0)).2) == 0)
                                              (.n ((((spotOf open25 (point 0) (point 0) 1 (point 0)).1).count) == 0)
                                                (.n ((((spotOf open25 (point 0) (point 0) 1 (point 0)).1).lost) == 0)
                                                  (.n (((spotOf open25 (point 0) (point 0) 4 nul).2) == 0) (.l ((((spotOf open25 (point 0) (point 0) 4 nul).1).lost) == 32)) (.l false))
                                                  (.l false))
                                                (.l false))
                                              (.l false))
                                            (.l false))
                                          (.l false))
                                        (.l false))
                                      (.l false))
                                    (.l false))
                                  (.l false))
                                (.l false))
                              (.l false))
                            (.l false))
                          .f)
                        .f)
                      .f)
                    .f)
                  .f)
                .f)
              .f)
            .f)
          .f)
        .f)
      .f)
    .f
theorem spotKnown_abs (open25 : Sys) (open25Ok : Bool) (spotOf : Sys → Iv → Iv → Int → Iv → (Spot × Int)) (spotOfOk : Sys → Iv → Iv → Int → Iv → Bool) (known25 : Bool) (open25_h : ∀ l r, (pf0g (open25Ok) (fSys (open25))) l = some (true, r) → Snd 67 l r) (spotOf_h : ∀ l r, (pf5g acSys acIv acIv acInt acIv (fun s x y n f => spotOfOk s x y n f) fun s x y n f => fSpotInt (spotOf s x y n f)) l = some (true, r) → Snd 68 l r) (known25_h : ∀ l r, (pf0 (fBool known25)) l = some (true, r) → Snd 69 l r)  : evH (envq Qs [⟨67, pf0g (open25Ok) (fSys (open25)), open25_h⟩, iv_Point_c, iv_Whole_c, ⟨68, pf5g acSys acIv acIv acInt acIv (fun s x y n f => spotOfOk s x y n f) fun s x y n f => fSpotInt (spotOf s x y n f), spotOf_h⟩, iv_None_c, ⟨69, pf0 (fBool known25), known25_h⟩]) (hl ([] : List (Hn Try.f11))) none 0 0 Try.f11 [] = (spotKnownT open25 open25Ok spotOf spotOfOk known25 ).fold fun x => some (fBool x) := by kernel_rfl
theorem spotKnown_snd (open25 : Sys) (open25Ok : Bool) (spotOf : Sys → Iv → Iv → Int → Iv → (Spot × Int)) (spotOfOk : Sys → Iv → Iv → Int → Iv → Bool) (known25 : Bool) (open25_h : ∀ l r, (pf0g (open25Ok) (fSys (open25))) l = some (true, r) → Snd 67 l r) (spotOf_h : ∀ l r, (pf5g acSys acIv acIv acInt acIv (fun s x y n f => spotOfOk s x y n f) fun s x y n f => fSpotInt (spotOf s x y n f)) l = some (true, r) → Snd 68 l r) (known25_h : ∀ l r, (pf0 (fBool known25)) l = some (true, r) → Snd 69 l r)  {x_ : Bool} (hr_ : (spotKnownT open25 open25Ok spotOf spotOfOk known25 ).run = some x_) : Snd 11 [] (fBool x_) :=
  ct_ok (envq Qs [⟨67, pf0g (open25Ok) (fSys (open25)), open25_h⟩, iv_Point_c, iv_Whole_c, ⟨68, pf5g acSys acIv acIv acInt acIv (fun s x y n f => spotOfOk s x y n f) fun s x y n f => fSpotInt (spotOf s x y n f), spotOf_h⟩, iv_None_c, ⟨69, pf0 (fBool known25), known25_h⟩]) (envq_ok Qs [⟨67, pf0g (open25Ok) (fSys (open25)), open25_h⟩, iv_Point_c, iv_Whole_c, ⟨68, pf5g acSys acIv acIv acInt acIv (fun s x y n f => spotOfOk s x y n f) fun s x y n f => fSpotInt (spotOf s x y n f), spotOf_h⟩, iv_None_c, ⟨69, pf0 (fBool known25), known25_h⟩] Qs_ok) Try.func11 (by kernel_rfl) ([] : List (Hn Try.f11)) (by kernel_rfl) (by kernel_rfl) (by kernel_rfl) ((spotKnown_abs open25 open25Ok spotOf spotOfOk known25 open25_h spotOf_h known25_h ).trans (by rw [Tr.fold_run, hr_]; rfl))


end Go.Proofs.Ytmmlpaehehgfnaa.Sx
