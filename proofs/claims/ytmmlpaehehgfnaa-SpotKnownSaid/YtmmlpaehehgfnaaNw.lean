/-
  What this text proves: the contract of newton.Solve, of a function that is known to compute something.
  Conditions: none.
-/
import Derived.Test.YtmmlpaehehgfnaaVec
namespace Go.Proofs.Ytmmlpaehehgfnaa.Sx
set_option linter.unusedSimpArgs false
set_option linter.unusedVariables false

def ivQ : EqT := [(56, [.int .i64, .int .i64, .bool])]

theorem ivQ_ok : ∀ p ∈ ivQ, EqOk Try.prog p.1 p.2 := by
  intro p hp
  simp only [ivQ, List.mem_singleton] at hp
  subst hp
  exact eqOk (d := 10000) rfl (by kernel_rfl) (by kernel_rfl) (by kernel_rfl)

abbrev ivA (a : Iv) : List AD := [acIv.enc a]

/-- The function that is handed over computes 'g'. -/
abbrev Computes (g : Iv → Iv × Iv) : Value → (World → Prop) → Prop := Comp ivA fun a => fIvIv (g a)

def gOf (g : Iv → Iv × Iv) : List AD → Option (Bool × RD)
  | [x] => match acIv.dec x with
    | some a => some (true, fIvIv (g a))
    | none => none
  | _ => none

theorem gOf_ok (g : Iv → Iv × Iv) (F : Value) (I : World → Prop) (hP : Computes g F I) : ∀ l r, gOf g l = some (true, r) → ∃ f cs, F = .func (.func f) #[] cs ∧ callable Try.prog f = true ∧ ∀ w vs, I w → holdsA F w l vs → Calls Try.prog f (vs.toArray ++ cs) w (Comes w r) := by
  intro l r h
  unfold gOf at h
  split at h
  · split at h
    · rename_i a ha
      cases h
      obtain ⟨f, cs, h1, h2, h3⟩ := hP
      exact ⟨f, cs, h1, h2, fun w vs hw hv => h3 a w vs hw (Sx.h1 ha (fun _ h => h) hv)⟩
    · cases h
  · cases h

theorem fn_of (g : Iv → Iv × Iv) (F : Value) (I : World → Prop) (hP : Computes g F I) : ∃ f a b, F = .func f a b := by
  obtain ⟨f, cs, h1, _⟩ := hP
  exact ⟨_, _, _, h1⟩

noncomputable abbrev envG (g : Iv → Iv × Iv) (Q : EqT) (L : List (CtP (Computes g))) : Env := envP Q L (gOf g)

theorem envG_ok (g : Iv → Iv × Iv) (Q : EqT) (hQ : ∀ p ∈ Q, EqOk Try.prog p.1 p.2) (L : List (CtP (Computes g))) : XOkP (Computes g) (envG g Q L) := envP_ok Q L _ hQ (fn_of g) (gOf_ok g)

def withoutT (g : Iv → Iv × Iv) (t : Iv) : Tr Bool := .n (right (g t).1) (.l (!has (g t).1 0)) (.l false)
def without (g : Iv → Iv × Iv) (t : Iv) : Bool := (withoutT g t).ev

noncomputable def without_c (g : Iv → Iv × Iv) : CtP (Computes g) := ⟨84, pf2 acOpq acIv fun _ a => fBool (without g a), pf2_ok fun _ a =>
  ct_tr (x := (withoutT g a).ev) (t := withoutT g a) (envG g [] [iv_Right_c.up, iv_Has_c.up]) (envG_ok g [] (fun p h => by cases h) _) Try.func84 (by kernel_rfl) [] (by kernel_rfl) (by kernel_rfl) (by kernel_rfl)
    (show evH (envG g [] [iv_Right_c.up, iv_Has_c.up]) [] none 0 0 Try.f84 [acOpq.enc (), acIv.enc a] = (withoutT g a).fold fun x => some (fBool x) by kernel_rfl) (Tr.run_ev _ (by kernel_rfl))⟩

/-! ### The loop -/

abbrev NwB := Iv × Iv × Iv × Iv × Iv × Iv × Iv × Iv × Iv
/-- is, sure, rounds; t, result, n, m, u, a, b, value, slope. -/
abbrev NwS := (Unit × Int × Bool × Int) × NwB

def nwC : VL (Unit × Int × Bool × Int) := .cons 0 vOpq (.adr 4 0 (.adr 6 1 (.cons 7 vInt (.adr 8 3 (.adr 9 4 (.adr 10 5 (.adr 11 6 (.adr 12 7 (.adr 13 8 (.adr 14 9 (.cons 15 vBool (.one 16 vInt))))))))))))
def nwBl : BL NwB := .cons 0 (bS cdIv) (.cons 1 (bS cdIv) (.cons 3 (bS cdIv) (.cons 4 (bS cdIv) (.cons 5 (bS cdIv) (.cons 6 (bS cdIv) (.cons 7 (bS cdIv) (.cons 8 (bS cdIv) (.one 9 (bS cdIv)))))))))
def nwV : View NwS := view1 nwC nwBl 100 none

section
variable (g : Iv → Iv × Iv)
def nwM (t : Iv) : Iv := point (mid t)
def nwN (t : Iv) : Iv := sub (nwM t) (div (g (nwM t)).1 (g t).2)

def nwRest (is rounds : Int) (t x a b : Iv) (sure : Bool) : Tr (Ex × NwS) :=
  .n (meet t (nwN g t)).no (.l (.ret, (((), 2, sure, rounds), (t, nul, nwN g t, nwM t, meet t (nwN g t), a, b, (g (nwM t)).1, (g t).2))))
    (.n (ivEq (meet t (nwN g t)) t) (.l (.exit 0, (((), is, sure, rounds), (t, x, nwN g t, nwM t, meet t (nwN g t), a, b, (g (nwM t)).1, (g t).2))))
      (.l (.normal, (((), is, sure, w64 (rounds - 1)), (meet t (nwN g t), x, nwN g t, nwM t, meet t (nwN g t), a, b, (g (nwM t)).1, (g t).2)))))

def nwStep (is : Int) (sure : Bool) (rounds : Int) (t x n m u a b v s : Iv) : Tr (Ex × NwS) :=
  .n (decide (rounds > 0))
    (.n (nwN g t).no
      (.n (without g (split t).1) (.l (.normal, (((), is, sure, w64 (rounds - 1)), ((split t).2, x, nwN g t, nwM t, u, (split t).1, (split t).2, (g (nwM t)).1, (g t).2))))
        (.n (!without g (split t).2) (.l (.goto 0, (((), is, sure, rounds), (t, x, nwN g t, nwM t, u, (split t).1, (split t).2, (g (nwM t)).1, (g t).2))))
          (.l (.normal, (((), is, sure, w64 (rounds - 1)), ((split t).1, x, nwN g t, nwM t, u, (split t).1, (split t).2, (g (nwM t)).1, (g t).2))))))
      (.n sure (nwRest g is rounds t x a b true) (.n (decide (t.lo < (nwN g t).lo)) (nwRest g is rounds t x a b (decide ((nwN g t).hi < t.hi))) (nwRest g is rounds t x a b false))))
    (.l (.exit 0, (((), is, sure, rounds), (t, x, n, m, u, a, b, v, s))))

def nwT (S : NwS) : Tr (Ex × NwS) := nwStep g S.1.2.1 S.1.2.2.1 S.1.2.2.2 S.2.1 S.2.2.1 S.2.2.2.1 S.2.2.2.2.1 S.2.2.2.2.2.1 S.2.2.2.2.2.2.1 S.2.2.2.2.2.2.2.1 S.2.2.2.2.2.2.2.2.1 S.2.2.2.2.2.2.2.2.2

noncomputable abbrev nwEnv : Env := envG g ivQ [iv_Mid_c.up, iv_Point_c.up, iv_Div_c.up, iv_Sub_c.up, iv_Meet_c.up, iv_None_c.up, iv_Split_c.up, iv_Right_c.up, without_c g]

theorem nw_round (x : NwS) : evG (nwEnv g) (fun _ => none) 95 2 1 (loopAt (bodyOf Try.f31) 0) (nwV.st x) (roundK nwV) = (nwT g x).fold (outK nwV) := by kernel_rfl

/-- Round by round: how it ends (0: behind the loop; 1: back; 2: not sure), and the state then. -/
def nwRun : Nat → NwS → Nat × NwS
  | 0, S => (0, S)
  | k + 1, S => match (nwT g S).ev with
    | (.normal, S') => nwRun k S'
    | (.exit _, S') => (0, S')
    | (.ret, S') => (1, S')
    | (.goto _, S') => (2, S')

def nwEnd (S : NwS) : Nat × NwS := nwRun g S.1.2.2.2.toNat S

def nwFin (S : NwS) : Tr (Ex × NwS) :=
  .n (Nat.beq (nwEnd g S).1 0) (.l (.exit 0, (nwEnd g S).2)) (.n (Nat.beq (nwEnd g S).1 1) (.l (.ret, (nwEnd g S).2)) (.l (.goto 0, (nwEnd g S).2)))

def nwGood (S : NwS) : Bool := decide (0 ≤ S.1.2.2.2) && decide (S.1.2.2.2 ≤ 40)

theorem nwT_ends (x : NwS) : (x.1.2.2.2 ≤ 0 → (nwT g x).ev = (.exit 0, x)) ∧
    (((nwT g x).ev.1 = .normal ∧ x.1.2.2.2 > 0 ∧ (nwT g x).ev.2.1.2.2.2 = w64 (x.1.2.2.2 - 1)) ∨ (nwT g x).ev.1 = .exit 0 ∨ (nwT g x).ev.1 = .ret ∨ (nwT g x).ev.1 = .goto 0) := by
  refine ⟨fun h => ?_, ?_⟩
  · have : ¬ x.1.2.2.2 > 0 := by omega
    simp only [nwT, nwStep, Tr.ev_n, Tr.ev_l, this, decide_false, Bool.false_eq_true, if_false]
  · simp only [nwT, nwStep, nwRest, Tr.ev_n, Tr.ev_l, decide_eq_true_eq]
    repeat' split
    all_goals simp_all

theorem nw_fin (x : NwS) (h : nwGood x = true) : StepOk (fun x => (nwFin g x).run) (fun x => nwGood x = true) (fun x => x.1.2.2.2.toNat) x (nwT g x).run := by
  rw [Tr.run_ev _ (by kernel_rfl : (nwT g x).full = true)]
  obtain ⟨h0, h1⟩ := nwT_ends g x
  simp only [nwGood, Bool.and_eq_true, decide_eq_true_eq] at h
  by_cases hr : x.1.2.2.2 ≤ 0
  · have hz : x.1.2.2.2.toNat = 0 := by omega
    rw [h0 hr]
    refine ⟨by simp, ?_⟩
    simp [nwFin, nwEnd, hz, nwRun]
  · obtain ⟨k, hk⟩ : ∃ k : Nat, x.1.2.2.2 = k + 1 := ⟨(x.1.2.2.2 - 1).toNat, by omega⟩
    have hz : x.1.2.2.2.toNat = k + 1 := by omega
    cases hev : (nwT g x).ev with
    | mk e y =>
      rw [hev] at h1
      simp only at h1
      rcases h1 with ⟨rfl, _, h3⟩ | rfl | rfl | rfl
      · have hw : w64 (x.1.2.2.2 - 1) = k := by rw [w64_id (by omega) (by omega)]; omega
        rw [hw] at h3
        refine ⟨by simp only [nwGood, Bool.and_eq_true, decide_eq_true_eq]; omega, by simp only [h3, hz]; omega, ?_⟩
        have : nwEnd g x = nwEnd g y := by
          simp only [nwEnd, hz, nwRun, hev]
          rw [h3]; rfl
        simp only [nwFin, this]
      · refine ⟨by simp, ?_⟩
        simp [nwFin, nwEnd, hz, nwRun, hev]
      · refine ⟨by simp, ?_⟩
        simp [nwFin, nwEnd, hz, nwRun, hev]
      · refine ⟨by simp, ?_⟩
        simp [nwFin, nwEnd, hz, nwRun, hev]

noncomputable def nw_hint : HnP (Computes g) Try.f31 := mkHn Try.f31 0 nwV (by kernel_rfl) (dec1 nwC nwBl) (dec1_ok nwC nwBl 100 none) (nwEnv g) (envG_ok g ivQ ivQ_ok _) [] (by kernel_rfl) (fun q h => by cases h) 2 1 (nwT g) (nwFin g) nwGood (fun x => x.1.2.2.2.toNat)
  (fun x => nw_round g x) (nw_fin g)

def nwZ : Iv := ⟨0, 0, false⟩
def nwS0 (t : Iv) (most : Int) : NwS := (((), 0, false, mx 0 (mn most 40)), (t, nwZ, nwZ, nwZ, nwZ, nwZ, nwZ, nwZ, nwZ))

def solveT (t : Iv) (most : Int) : Tr (Iv × Int) :=
  .n (!right t) (.l (nul, 0)) (.n (nwGood (nwS0 t most))
    (.n (Nat.beq (nwEnd g (nwS0 t most)).1 0) (.n (nwEnd g (nwS0 t most)).2.1.2.2.1 (.l ((nwEnd g (nwS0 t most)).2.2.1, 1)) (.l (nul, 0)))
      (.n (Nat.beq (nwEnd g (nwS0 t most)).1 1) (.l ((nwEnd g (nwS0 t most)).2.2.2.1, (nwEnd g (nwS0 t most)).2.1.2.1)) (.l (nul, 0)))) .f)
def solve (t : Iv) (most : Int) : Iv × Int := (solveT g t most).ev

theorem solve_run (t : Iv) (most : Int) : (solveT g t most).run = some (solve g t most) := by
  have hg : nwGood (nwS0 t most) = true := by
    simp only [nwGood, nwS0, mx, mn, Bool.and_eq_true]
    refine ⟨decide_eq_true ?_, decide_eq_true ?_⟩ <;> (repeat' split) <;> omega
  apply run_of_ne
  unfold solveT
  simp only [Tr.run_n, Tr.run_l, Tr.run_f, hg, if_true]
  repeat' split
  all_goals simp

theorem solve_ev (t : Iv) (most : Int) : evH (nwEnv g) (hl [nw_hint g]) none 2 1 Try.f31 [acOpq.enc (), acIv.enc t, acInt.enc most] = (solveT g t most).fold fun x => some (fIvInt x) := by kernel_rfl

theorem solve_ok (t : Iv) (most : Int) : SndP (Computes g) 31 [acOpq.enc (), acIv.enc t, acInt.enc most] (fIvInt (solve g t most)) :=
  ct_tr (nwEnv g) (envG_ok g ivQ ivQ_ok _) Try.func31 (by kernel_rfl) [nw_hint g] (by kernel_rfl) (by kernel_rfl) (by kernel_rfl) (solve_ev g t most) (solve_run g t most)

end

theorem ivA_plain (a : Iv) : (ivA a).all plainA = true := rfl

theorem mono2 {F : Value} {w : World} {vs : List Value} {x y z : AD} {t : Iv} {m : Int} (h1' : acIv.dec y = some t) (h2' : acInt.dec z = some m) (h : holdsA F w [x, y, z] vs) : holdsA F w [x, acIv.enc t, acInt.enc m] vs := by
  match vs, h with
  | v :: vs, h => exact ⟨h.1, h1 h1' (fun vs h => h1 h2' (fun _ h => h) h) h.2⟩

end Go.Proofs.Ytmmlpaehehgfnaa.Sx
