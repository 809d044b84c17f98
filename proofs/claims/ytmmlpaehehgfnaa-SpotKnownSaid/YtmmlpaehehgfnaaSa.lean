/-
  What this text proves: the contracts of packages poly, sag, hit, normal, snell, step and trace.
  Conditions: none.
-/
import Derived.Test.YtmmlpaehehgfnaaHo
namespace Go.Proofs.Ytmmlpaehehgfnaa.Sx
set_option linter.unusedSimpArgs false
set_option linter.unusedVariables false

abbrev fIvV3Int (x : Iv × V3 × Int) : RD := .tup [acIv.enc x.1, acV3.enc x.2.1, .s (.v (.int .i64 x.2.2))]
abbrev fSlIv (l : List Iv) : RD := .a (acSlIv.enc l)
abbrev fTr (x : TrRes) : RD := .a ((acS cdTr).enc x)
abbrev fIvIvInt (x : Iv × Iv × Int) : RD := .tup [acIv.enc x.1, acIv.enc x.2.1, .s (.v (.int .i64 x.2.2))]
abbrev acPRay : Ac Ray := acP cdRay
abbrev acPSurf : Ac Surf := acP cdSurf

theorem inB_true {n : Nat} {i : Int} (h1 : 0 ≤ i) (h2 : i < n) : inB n i = true := by simp [inB, h1, h2]
theorem gApp_true {n m b : Nat} (h : (n + m) * b ≤ 140737488355328) : gApp n m b = true := Nat.ble_eq_true_of_le h

/-! #### a loop of poly.Slope -/

abbrev slopeS := List Iv × List Iv × Int × Int
def slopeC : VL (List Iv × List Iv × Int × Int) := .cons 3 (vSl .iv (.mine (some 56))) (.cons 6 (vSl .iv .ro) (.cons 7 vInt (.one 8 vInt)))
def slopeV : View slopeS := view0 slopeC 400 (some (.iv, 56))
def slopeT (x : slopeS) : Tr (Ex × slopeS) :=
  .n (decide (x.2.2.2 < x.2.2.1))
    (.n (inB x.2.1.length x.2.2.2)
      (.n (decide (x.2.2.2 > 0))
        (.n (gApp x.1.length 1 24) (.l (.normal, (x.1 ++ ([times (x.2.1.getD x.2.2.2.toNat KN.iv.cd.z) x.2.2.2]), x.2.1, x.2.2.1, w64 (x.2.2.2 + 1)))) .f)
        (.l (.normal, (x.1, x.2.1, x.2.2.1, w64 (x.2.2.2 + 1)))))
      .f)
    (.l ((.exit 0), (x.1, x.2.1, x.2.2.1, x.2.2.2)))
def slopeM (x : slopeS) : Nat := (x.2.2.1 - x.2.2.2).toNat
def slopeG (x : slopeS) : Bool := decide (x.2.2.1 = x.2.1.length) && decide (0 ≤ x.2.2.2) && decide (x.2.2.2 ≤ x.2.2.1) && decide ((x.1.length : Int) ≤ x.2.2.2) && decide (x.2.1.length ≤ 1000000)
def slopeE (x : slopeS) : Ex × slopeS := runT slopeT (slopeM x) x
theorem slope_step (x : slopeS) (h : slopeG x = true) : LoopStep [.exit 0] slopeG slopeM x (slopeT x).run := by
  obtain ⟨a, b, c, d⟩ := x
  simp only [slopeG, Bool.and_eq_true, decide_eq_true_eq] at h
  obtain ⟨⟨⟨⟨h1, h2⟩, h3⟩, h4⟩, h5⟩ := h
  unfold slopeT
  simp only [Tr.run_n, Tr.run_l, Tr.run_f]
  by_cases hd : d < c
  · have hb : inB b.length d = true := inB_true h2 (by omega)
    have hw : w64 (d + 1) = d + 1 := IntWalk.i64_in _ ⟨by omega, by omega⟩
    have hg : gApp a.length 1 24 = true := gApp_true (by omega)
    simp only [hd, hb, hw, hg, decide_true, if_true]
    split <;> simp only [LoopStep, slopeG, slopeM, List.length_append, List.length_cons, List.length_nil, Bool.and_eq_true, decide_eq_true_eq] <;> refine ⟨⟨⟨⟨⟨?_, ?_⟩, ?_⟩, ?_⟩, ?_⟩, ?_⟩ <;> simp at * <;> omega
  · simp [hd, LoopStep, exEq]
noncomputable def slope_hint : Hn Try.f110 := mkHn Try.f110 0 slopeV (by kernel_rfl) (dec0 slopeC) (dec0_ok slopeC 400 (some (.iv, 56))) (env [iv_Times_c]) (env_ok [iv_Times_c]) ([] : List (Hn Try.f110)) (by kernel_rfl) (fun q h => by cases h) 0 0 slopeT (finT slopeT slopeM [.exit 0]) slopeG slopeM
  (fun x => by kernel_rfl) (loop_fin slopeT [.exit 0] slopeG slopeM slope_step)

def slopeRT (l : List Iv) : Tr (List Iv) :=
  .n (slopeG ([], l, ((l.length : Nat) : Int), 0)) (.l (((slopeE ([], l, ((l.length : Nat) : Int), 0)).2).1)) .f
def slopeR (l : List Iv) : List Iv := (slopeRT l).ev
noncomputable def poly_Slope_c : Ct := ⟨110, pf1g acSlIv (fun l => decide (l.length ≤ 1000000)) fun l => fSlIv (slopeR l), pf1g_ok fun l hg => ct_tr (x := (slopeRT l).ev) (t := slopeRT l) (env []) (env_ok []) Try.func110 (by kernel_rfl) ([slope_hint] : List (Hn Try.f110)) (by kernel_rfl) (by kernel_rfl) (by kernel_rfl)
  (show evH (env []) (hl ([slope_hint] : List (Hn Try.f110))) (some .iv) 0 0 Try.f110 [acSlIv.enc l] = (slopeRT l).fold fun x => some (fSlIv x) by kernel_rfl) (by apply run_of_ne; have hl:=of_decide_eq_true hg; unfold slopeRT; simp [slopeG,hl])⟩


def sagRound (s : Surf) (r2 : Iv) : Iv × Iv :=
  (div (mul s.curve r2) (add (point 65536) (rootI (sub (point 65536) (mul (mul s.conic (sqr s.curve)) r2)))), div s.curve (times (rootI (sub (point 65536) (mul (mul s.conic (sqr s.curve)) r2))) 2))
noncomputable def sag_round_c : Ct := ⟨108, pf2 acSurf acIv fun s r2 => fIvIv (sagRound s r2), pf2_ok fun s r2 => ct_ok (env [iv_Point_c, iv_Sqr_c, iv_Mul_c, iv_Sub_c, iv_Root_c, iv_Add_c, iv_Div_c, iv_Times_c]) (env_ok [iv_Point_c, iv_Sqr_c, iv_Mul_c, iv_Sub_c, iv_Root_c, iv_Add_c, iv_Div_c, iv_Times_c]) Try.func108 (by kernel_rfl) ([] : List (Hn Try.f108)) (by kernel_rfl) (by kernel_rfl) (by kernel_rfl)
  (show evH (env [iv_Point_c, iv_Sqr_c, iv_Mul_c, iv_Sub_c, iv_Root_c, iv_Add_c, iv_Div_c, iv_Times_c]) (hl ([] : List (Hn Try.f108))) none 0 0 Try.f108 [acSurf.enc s, acIv.enc r2] = some (fIvIv (sagRound s r2)) by kernel_rfl)⟩

def sagOfT (s : Surf) (r2 : Iv) : Tr (Iv × Iv) :=
  .n s.bent
    (.n ((add ((sagRound s r2).1) (horner ([point 0, point 0, s.a4, s.a6]) (div r2 (whole 1000)))).no)
      (.l (nul, nul))
      (.n ((add ((sagRound s r2).2) (div (horner (slopeR ([point 0, point 0, s.a4, s.a6])) (div r2 (whole 1000))) (whole 1000))).no)
        (.l (nul, nul))
        (.l (add ((sagRound s r2).1) (horner ([point 0, point 0, s.a4, s.a6]) (div r2 (whole 1000))), add ((sagRound s r2).2) (div (horner (slopeR ([point 0, point 0, s.a4, s.a6])) (div r2 (whole 1000))) (whole 1000))))))
    (.n (((sagRound s r2).1).no) (.l (nul, nul)) (.n (((sagRound s r2).2).no) (.l (nul, nul)) (.l (sagRound s r2))))
def sagOf (s : Surf) (r2 : Iv) : Iv × Iv := (sagOfT s r2).ev
noncomputable def sag_Of_c : Ct := ⟨48, pf2 acSurf acIv fun s r2 => fIvIv (sagOf s r2), pf2_ok fun s r2 => ct_tr (x := (sagOfT s r2).ev) (t := sagOfT s r2) (env [sag_round_c, iv_Whole_c, iv_Div_c, iv_Point_c, poly_Horner_c, iv_Add_c, poly_Slope_c, iv_None_c]) (env_ok [sag_round_c, iv_Whole_c, iv_Div_c, iv_Point_c, poly_Horner_c, iv_Add_c, poly_Slope_c, iv_None_c]) Try.func48 (by kernel_rfl) ([] : List (Hn Try.f48)) (by kernel_rfl) (by kernel_rfl) (by kernel_rfl)
  (show evH (env [sag_round_c, iv_Whole_c, iv_Div_c, iv_Point_c, poly_Horner_c, iv_Add_c, poly_Slope_c, iv_None_c]) (hl ([] : List (Hn Try.f48))) none 0 0 Try.f48 [acSurf.enc s, acIv.enc r2] = (sagOfT s r2).fold fun x => some (fIvIv x) by kernel_rfl) (Tr.run_ev _ (by kernel_rfl))⟩

def hitRound (s : Surf) (o : V3) (d : V3) : Iv × Int :=
  near (mul s.curve (add (add (sqr d.x) (sqr d.y)) (mul s.conic (sqr d.z)))) (sub (mul s.curve (add (add (mul o.x d.x) (mul o.y d.y)) (mul s.conic (mul o.z d.z)))) d.z) (sub (mul s.curve (add (add (sqr o.x) (sqr o.y)) (mul s.conic (sqr o.z)))) (times o.z 2))
noncomputable def hit_round_c : Ct := ⟨104, pf3 acSurf acV3 acV3 fun s o d => fIvInt (hitRound s o d), pf3_ok fun s o d => ct_ok (env [iv_Sqr_c, iv_Add_c, iv_Mul_c, iv_Sub_c, iv_Times_c, quad_Near_c]) (env_ok [iv_Sqr_c, iv_Add_c, iv_Mul_c, iv_Sub_c, iv_Times_c, quad_Near_c]) Try.func104 (by kernel_rfl) ([] : List (Hn Try.f104)) (by kernel_rfl) (by kernel_rfl) (by kernel_rfl)
  (show evH (env [iv_Sqr_c, iv_Add_c, iv_Mul_c, iv_Sub_c, iv_Times_c, quad_Near_c]) (hl ([] : List (Hn Try.f104))) none 0 0 Try.f104 [acSurf.enc s, acV3.enc o, acV3.enc d] = some (fIvInt (hitRound s o d)) by kernel_rfl)⟩

def hitNone (is : Int) : Iv × V3 × Int :=
  (nul, vof nul nul nul, is)
noncomputable def hit_none_c : Ct := ⟨106, pf1 acInt fun is => fIvV3Int (hitNone is), pf1_ok fun is => ct_ok (env [iv_None_c, vec_Of_c]) (env_ok [iv_None_c, vec_Of_c]) Try.func106 (by kernel_rfl) ([] : List (Hn Try.f106)) (by kernel_rfl) (by kernel_rfl) (by kernel_rfl)
  (show evH (env [iv_None_c, vec_Of_c]) (hl ([] : List (Hn Try.f106))) none 0 0 Try.f106 [acInt.enc is] = some (fIvV3Int (hitNone is)) by kernel_rfl)⟩

def bentF (t : Iv) (r : Ray) (s : Surf) : Iv × Iv :=
  (sub ((along r t).z) ((sagOf s (add (sqr ((along r t).x)) (sqr ((along r t).y)))).1), sub r.d.z (mul ((sagOf s (add (sqr ((along r t).x)) (sqr ((along r t).y)))).2) (times (add (mul ((along r t).x) r.d.x) (mul ((along r t).y) r.d.y)) 2)))
noncomputable def hit_bent_1_c : Ct := ⟨147, pf3 acIv acPRay acPSurf fun t r s => fIvIv (bentF t r s), pf3_ok fun t r s => ct_ok (env [vec_Along_c, iv_Sqr_c, iv_Add_c, sag_Of_c, iv_Mul_c, iv_Times_c, iv_Sub_c]) (env_ok [vec_Along_c, iv_Sqr_c, iv_Add_c, sag_Of_c, iv_Mul_c, iv_Times_c, iv_Sub_c]) Try.func147 (by kernel_rfl) ([] : List (Hn Try.f147)) (by kernel_rfl) (by kernel_rfl) (by kernel_rfl)
  (show evH (env [vec_Along_c, iv_Sqr_c, iv_Add_c, sag_Of_c, iv_Mul_c, iv_Times_c, iv_Sub_c]) (hl ([] : List (Hn Try.f147))) none 0 0 Try.f147 [acIv.enc t, acPRay.enc r, acPSurf.enc s] = some (fIvIv (bentF t r s)) by kernel_rfl)⟩


/-! ### newton.Solve of a closure over two blocks -/

section
variable {α β : Type} (k : Nat) (A : Cd α) (B : Cd β) (g : α → β → Iv → Iv × Iv)

def solvePf2 : Pf
  | [x, y, z] => match acIv.dec y, acInt.dec z with
    | some t, some m => match x with
      | .s (.clo k' [a, b]) => bif Nat.beq k' k then
          match A.dec a, B.dec b with
          | some (p, []), some (q, []) => some (true, fIvInt (solve (g p q) t m))
          | _, _ => none
        else none
      | _ => none
    | _, _ => none
  | _ => none

theorem solvePf2_ok (hcall : callable Try.prog k = true) (hb : ∀ a b x, Snd k [acIv.enc x, (acP A).enc a, (acP B).enc b] (fIvIv (g a b x))) : ∀ l r, solvePf2 k A B g l = some (true, r) → Snd 31 l r := by
  intro l r h
  unfold solvePf2 at h
  split at h
  rotate_left
  · cases h
  rename_i x y z
  split at h
  rotate_left
  · cases h
  rename_i t m ht hm
  split at h
  rotate_left
  · cases h
  rename_i k' a b
  cases hk : Nat.beq k' k with
  | false => simp [hk] at h
  | true =>
    simp only [hk, cond_true] at h
    obtain rfl := Nat.eq_of_beq_eq_true hk
    split at h
    · rename_i p q hp hq
      cases h
      have ep := A.ok _ _ _ hp
      have eq := B.ok _ _ _ hq
      rw [List.append_nil] at ep eq
      subst ep; subst eq
      refine snd_mono (args' := [.s (.clo k' [A.enc p, B.enc q]), acIv.enc t, acInt.enc m]) ?_ (fun F w vs h => mono2 ht hm h)
      exact clo_sound (A := ivA) (G := fun a => fIvIv (g p q a)) ivA_plain rfl hcall (fun x => hb p q x) (solve_ok (g p q) t m)
    · cases h
end

noncomputable def solve15 : Ct := ⟨31, solvePf2 147 cdRay cdSurf fun r s t => bentF t r s, solvePf2_ok _ _ _ _ (by kernel_rfl) fun a b x => hit_bent_1_c.ok _ _ (by kernel_rfl)⟩

def bentG (r : Ray) (s : Surf) (t : Iv) : Iv × Iv := bentF t r s

def bentT (s : Surf) (r : Ray) (t : Iv) : Tr (Iv × Int) :=
  .n (((solve (bentG r s) (of (w64 (t.lo - 65536)) (w64 (t.hi + 65536))) 20).2) != 1)
    (.l (nul, 0))
    (.l ((solve (bentG r s) (of (w64 (t.lo - 65536)) (w64 (t.hi + 65536))) 20).1, 1))
def bent (s : Surf) (r : Ray) (t : Iv) : Iv × Int := (bentT s r t).ev
noncomputable def hit_bent_c : Ct := ⟨105, pf3 acSurf acRay acIv fun s r t => fIvInt (bent s r t), pf3_ok fun s r t => ct_tr (x := (bentT s r t).ev) (t := bentT s r t) (env [iv_Of_c, solve15, iv_None_c]) (env_ok [iv_Of_c, solve15, iv_None_c]) Try.func105 (by kernel_rfl) ([] : List (Hn Try.f105)) (by kernel_rfl) (by kernel_rfl) (by kernel_rfl)
  (show evH (env [iv_Of_c, solve15, iv_None_c]) (hl ([] : List (Hn Try.f105))) none 0 0 Try.f105 [acSurf.enc s, acRay.enc r, acIv.enc t] = (bentT s r t).fold fun x => some (fIvInt x) by kernel_rfl) (Tr.run_ev _ (by kernel_rfl))⟩

def hitOfT (s : Surf) (r : Ray) : Tr (Iv × V3 × Int) :=
  .n s.bent
    (.n (((hitRound s ⟨r.o.x, r.o.y, sub r.o.z s.at_⟩ r.d).2) == 1)
      (.n (((bent s ⟨⟨r.o.x, r.o.y, sub r.o.z s.at_⟩, r.d⟩ ((hitRound s ⟨r.o.x, r.o.y, sub r.o.z s.at_⟩ r.d).1)).2) != 1)
        (.l (hitNone ((bent s ⟨⟨r.o.x, r.o.y, sub r.o.z s.at_⟩, r.d⟩ ((hitRound s ⟨r.o.x, r.o.y, sub r.o.z s.at_⟩ r.d).1)).2)))
        (.n (!(vright (along ⟨⟨r.o.x, r.o.y, sub r.o.z s.at_⟩, r.d⟩ ((bent s ⟨⟨r.o.x, r.o.y, sub r.o.z s.at_⟩, r.d⟩ ((hitRound s ⟨r.o.x, r.o.y, sub r.o.z s.at_⟩ r.d).1)).1))))
          (.l (hitNone 0))
          (.l ((bent s ⟨⟨r.o.x, r.o.y, sub r.o.z s.at_⟩, r.d⟩ ((hitRound s ⟨r.o.x, r.o.y, sub r.o.z s.at_⟩ r.d).1)).1, along ⟨⟨r.o.x, r.o.y, sub r.o.z s.at_⟩, r.d⟩ ((bent s ⟨⟨r.o.x, r.o.y, sub r.o.z s.at_⟩, r.d⟩ ((hitRound s ⟨r.o.x, r.o.y, sub r.o.z s.at_⟩ r.d).1)).1), 1))))
      (.n (((hitRound s ⟨r.o.x, r.o.y, sub r.o.z s.at_⟩ r.d).2) != 1)
        (.l (hitNone ((hitRound s ⟨r.o.x, r.o.y, sub r.o.z s.at_⟩ r.d).2)))
        (.n (!(vright (along ⟨⟨r.o.x, r.o.y, sub r.o.z s.at_⟩, r.d⟩ ((hitRound s ⟨r.o.x, r.o.y, sub r.o.z s.at_⟩ r.d).1))))
          (.l (hitNone 0))
          (.l ((hitRound s ⟨r.o.x, r.o.y, sub r.o.z s.at_⟩ r.d).1, along ⟨⟨r.o.x, r.o.y, sub r.o.z s.at_⟩, r.d⟩ ((hitRound s ⟨r.o.x, r.o.y, sub r.o.z s.at_⟩ r.d).1), 1)))))
    (.n (((hitRound s ⟨r.o.x, r.o.y, sub r.o.z s.at_⟩ r.d).2) != 1)
      (.l (hitNone ((hitRound s ⟨r.o.x, r.o.y, sub r.o.z s.at_⟩ r.d).2)))
      (.n (!(vright (along ⟨⟨r.o.x, r.o.y, sub r.o.z s.at_⟩, r.d⟩ ((hitRound s ⟨r.o.x, r.o.y, sub r.o.z s.at_⟩ r.d).1))))
        (.l (hitNone 0))
        (.l ((hitRound s ⟨r.o.x, r.o.y, sub r.o.z s.at_⟩ r.d).1, along ⟨⟨r.o.x, r.o.y, sub r.o.z s.at_⟩, r.d⟩ ((hitRound s ⟨r.o.x, r.o.y, sub r.o.z s.at_⟩ r.d).1), 1))))
def hitOf (s : Surf) (r : Ray) : Iv × V3 × Int := (hitOfT s r).ev
noncomputable def hit_Of_c : Ct := ⟨46, pf2 acSurf acRay fun s r => fIvV3Int (hitOf s r), pf2_ok fun s r => ct_tr (x := (hitOfT s r).ev) (t := hitOfT s r) (env [iv_Sub_c, hit_round_c, hit_bent_c, hit_none_c, vec_Along_c, vec_Right_c]) (env_ok [iv_Sub_c, hit_round_c, hit_bent_c, hit_none_c, vec_Along_c, vec_Right_c]) Try.func46 (by kernel_rfl) ([] : List (Hn Try.f46)) (by kernel_rfl) (by kernel_rfl) (by kernel_rfl)
  (show evH (env [iv_Sub_c, hit_round_c, hit_bent_c, hit_none_c, vec_Along_c, vec_Right_c]) (hl ([] : List (Hn Try.f46))) none 0 0 Try.f46 [acSurf.enc s, acRay.enc r] = (hitOfT s r).fold fun x => some (fIvV3Int x) by kernel_rfl) (Tr.run_ev _ (by kernel_rfl))⟩

def normalOfT (s : Surf) (p : V3) : Tr (V3) :=
  .n (!s.bent)
    (.l (unit (vof (neg (mul s.curve p.x)) (neg (mul s.curve p.y)) (sub (point 65536) (mul s.curve (mul s.conic p.z))))))
    (.l (unit (vof (neg (times (mul ((sagOf s (add (sqr p.x) (sqr p.y))).2) p.x) 2)) (neg (times (mul ((sagOf s (add (sqr p.x) (sqr p.y))).2) p.y) 2)) (point 65536))))
def normalOf (s : Surf) (p : V3) : V3 := (normalOfT s p).ev
noncomputable def normal_Of_c : Ct := ⟨172, pf2 acSurf acV3 fun s p => fV3 (normalOf s p), pf2_ok fun s p => ct_tr (x := (normalOfT s p).ev) (t := normalOfT s p) (env [iv_Point_c, iv_Mul_c, iv_Neg_c, iv_Sub_c, vec_Of_c, vec_Unit_c, iv_Sqr_c, iv_Add_c, sag_Of_c, iv_Times_c]) (env_ok [iv_Point_c, iv_Mul_c, iv_Neg_c, iv_Sub_c, vec_Of_c, vec_Unit_c, iv_Sqr_c, iv_Add_c, sag_Of_c, iv_Times_c]) Try.func172 (by kernel_rfl) ([] : List (Hn Try.f172)) (by kernel_rfl) (by kernel_rfl) (by kernel_rfl)
  (show evH (env [iv_Point_c, iv_Mul_c, iv_Neg_c, iv_Sub_c, vec_Of_c, vec_Unit_c, iv_Sqr_c, iv_Add_c, sag_Of_c, iv_Times_c]) (hl ([] : List (Hn Try.f172))) none 0 0 Try.f172 [acSurf.enc s, acV3.enc p] = (normalOfT s p).fold fun x => some (fV3 x) by kernel_rfl) (Tr.run_ev _ (by kernel_rfl))⟩

def snellNones  : V3 :=
  vof nul nul nul
noncomputable def snell_nones_c : Ct := ⟨186, pf0 (fV3 snellNones), pf0_ok (ct_ok (env [iv_None_c, vec_Of_c]) (env_ok [iv_None_c, vec_Of_c]) Try.func186 (by kernel_rfl) ([] : List (Hn Try.f186)) (by kernel_rfl) (by kernel_rfl) (by kernel_rfl)
  (show evH (env [iv_None_c, vec_Of_c]) (hl ([] : List (Hn Try.f186))) none 0 0 Try.f186 [] = some (fV3 (snellNones)) by kernel_rfl))⟩

def bendT (d : V3) (n : V3) (ratio : Iv) : Tr (V3 × Int) :=
  .n ((dot d n).no)
    (.l (snellNones, 0))
    (.n (decide (((dot d n).lo) ≤ 0))
      (.l (snellNones, 0))
      (.n ((sub (point 65536) (mul (sqr ratio) (sub (point 65536) (sqr (dot d n))))).no)
        (.l (snellNones, 0))
        (.n (decide (((sub (point 65536) (mul (sqr ratio) (sub (point 65536) (sqr (dot d n))))).hi) < 0))
          (.l (snellNones, 2))
          (.n (decide (((sub (point 65536) (mul (sqr ratio) (sub (point 65536) (sqr (dot d n))))).lo) < 0))
            (.l (snellNones, 0))
            (.n (!(vright (vadd (scale d ratio) (scale n (sub (rootI (sub (point 65536) (mul (sqr ratio) (sub (point 65536) (sqr (dot d n)))))) (mul ratio (dot d n)))))))
              (.l (snellNones, 0))
              (.l (vadd (scale d ratio) (scale n (sub (rootI (sub (point 65536) (mul (sqr ratio) (sub (point 65536) (sqr (dot d n)))))) (mul ratio (dot d n)))), 1)))))))
def bend (d : V3) (n : V3) (ratio : Iv) : V3 × Int := (bendT d n ratio).ev
noncomputable def snell_Bend_c : Ct := ⟨171, pf3 acV3 acV3 acIv fun d n ratio => fV3Int (bend d n ratio), pf3_ok fun d n ratio => ct_tr (x := (bendT d n ratio).ev) (t := bendT d n ratio) (env [iv_Point_c, vec_Dot_c, snell_nones_c, iv_Sqr_c, iv_Sub_c, iv_Mul_c, vec_Scale_c, iv_Root_c, vec_Add_c, vec_Right_c]) (env_ok [iv_Point_c, vec_Dot_c, snell_nones_c, iv_Sqr_c, iv_Sub_c, iv_Mul_c, vec_Scale_c, iv_Root_c, vec_Add_c, vec_Right_c]) Try.func171 (by kernel_rfl) ([] : List (Hn Try.f171)) (by kernel_rfl) (by kernel_rfl) (by kernel_rfl)
  (show evH (env [iv_Point_c, vec_Dot_c, snell_nones_c, iv_Sqr_c, iv_Sub_c, iv_Mul_c, vec_Scale_c, iv_Root_c, vec_Add_c, vec_Right_c]) (hl ([] : List (Hn Try.f171))) none 0 0 Try.f171 [acV3.enc d, acV3.enc n, acIv.enc ratio] = (bendT d n ratio).fold fun x => some (fV3Int x) by kernel_rfl) (Tr.run_ev _ (by kernel_rfl))⟩

def stepNones  : Ray :=
  ⟨vof nul nul nul, vof nul nul nul⟩
noncomputable def step_nones_c : Ct := ⟨173, pf0 (fRay stepNones), pf0_ok (ct_ok (env [iv_None_c, vec_Of_c]) (env_ok [iv_None_c, vec_Of_c]) Try.func173 (by kernel_rfl) ([] : List (Hn Try.f173)) (by kernel_rfl) (by kernel_rfl) (by kernel_rfl)
  (show evH (env [iv_None_c, vec_Of_c]) (hl ([] : List (Hn Try.f173))) none 0 0 Try.f173 [] = some (fRay (stepNones)) by kernel_rfl))⟩

def stepGoT (s : Surf) (r : Ray) : Tr (Ray × Int) :=
  .n ((((hitOf s r).2).2) != 1)
    (.n ((((hitOf s r).2).2) == 2) (.l (stepNones, 2)) (.l (stepNones, 3)))
    (.n ((notAbove (add (sqr ((((hitOf s r).2).1).x)) (sqr ((((hitOf s r).2).1).y))) s.open2) != 1)
      (.n ((notAbove (add (sqr ((((hitOf s r).2).1).x)) (sqr ((((hitOf s r).2).1).y))) s.open2) == 2) (.l (stepNones, 2)) (.l (stepNones, 3)))
      (.n ((add ((((hitOf s r).2).1).z) s.at_).no)
        (.l (stepNones, 3))
        (.n s.stop
          (.l (⟨⟨(((hitOf s r).2).1).x, (((hitOf s r).2).1).y, add ((((hitOf s r).2).1).z) s.at_⟩, r.d⟩, 1))
          (.n (((bend r.d (normalOf s (((hitOf s r).2).1)) s.ratio).2) != 1)
            (.n (((bend r.d (normalOf s (((hitOf s r).2).1)) s.ratio).2) == 2) (.l (stepNones, 2)) (.l (stepNones, 3)))
            (.l (⟨⟨(((hitOf s r).2).1).x, (((hitOf s r).2).1).y, add ((((hitOf s r).2).1).z) s.at_⟩, (bend r.d (normalOf s (((hitOf s r).2).1)) s.ratio).1⟩, 1))))))
def stepGo (s : Surf) (r : Ray) : Ray × Int := (stepGoT s r).ev
noncomputable def step_Go_c : Ct := ⟨152, pf2 acSurf acRay fun s r => fRayInt (stepGo s r), pf2_ok fun s r => ct_tr (x := (stepGoT s r).ev) (t := stepGoT s r) (env [hit_Of_c, step_nones_c, iv_Sqr_c, iv_Add_c, tri_NotAbove_c, normal_Of_c, snell_Bend_c]) (env_ok [hit_Of_c, step_nones_c, iv_Sqr_c, iv_Add_c, tri_NotAbove_c, normal_Of_c, snell_Bend_c]) Try.func152 (by kernel_rfl) ([] : List (Hn Try.f152)) (by kernel_rfl) (by kernel_rfl) (by kernel_rfl)
  (show evH (env [hit_Of_c, step_nones_c, iv_Sqr_c, iv_Add_c, tri_NotAbove_c, normal_Of_c, snell_Bend_c]) (hl ([] : List (Hn Try.f152))) none 1 1 Try.f152 [acSurf.enc s, acRay.enc r] = (stepGoT s r).fold fun x => some (fRayInt x) by kernel_rfl) (Tr.run_ev _ (by kernel_rfl))⟩


end Go.Proofs.Ytmmlpaehehgfnaa.Sx
