/-
  What this text proves: the contract of NewtonRoots of chapter 7.
  Conditions: none.
-/
import Derived.Test.YtmmlpaehehgfnaaHd
namespace Go.Proofs.Ytmmlpaehehgfnaa.Sx
set_option linter.unusedSimpArgs false
set_option linter.unusedVariables false

def lineF (t : Iv) : Iv × Iv := (sub t (whole 1), whole 1)

noncomputable def meniscuslaw7_line_c : Ct := ⟨92, pf1 acIv fun t => fIvIv (lineF t), pf1_ok fun t => ct_ok (env [iv_Sub_c, iv_Whole_c]) (env_ok [iv_Sub_c, iv_Whole_c]) Try.func92 (by kernel_rfl) ([] : List (Hn Try.f92)) (by kernel_rfl) (by kernel_rfl) (by kernel_rfl)
  (show evH (env [iv_Sub_c, iv_Whole_c]) (hl ([] : List (Hn Try.f92))) none 0 0 Try.f92 [acIv.enc t] = some (fIvIv (lineF t)) by kernel_rfl)⟩


def rootsF (p q : Int) (t : Iv) : Iv × Iv := (mul (sub t (whole p)) (sub t (whole q)), sub (times t 2) (whole (w64 (p + q))))

abbrev acPInt : Ac Int := acP cdInt

def rootsG (t : Iv) (p : Int) (q : Int) : Iv × Iv :=
  rootsF p q t
noncomputable def meniscuslaw7_NewtonRoots_1_c : Ct := ⟨37, pf3 acIv acPInt acPInt fun t p q => fIvIv (rootsG t p q), pf3_ok fun t p q => ct_ok (env [iv_Mul_c, iv_Sub_c, iv_Whole_c, iv_Times_c]) (env_ok [iv_Mul_c, iv_Sub_c, iv_Whole_c, iv_Times_c]) Try.func37 (by kernel_rfl) ([] : List (Hn Try.f37)) (by kernel_rfl) (by kernel_rfl) (by kernel_rfl)
  (show evH (env [iv_Mul_c, iv_Sub_c, iv_Whole_c, iv_Times_c]) (hl ([] : List (Hn Try.f37))) none 0 0 Try.f37 [acIv.enc t, acPInt.enc p, acPInt.enc q] = some (fIvIv (rootsG t p q)) by kernel_rfl)⟩


/-- What is handed to newton.Solve in this chapter. -/
def solve7 : Pf
  | [x, y, z] => match acIv.dec y, acInt.dec z with
    | some t, some m => match x with
      | .s (.v (.func (.func k) ⟨[]⟩ ⟨[]⟩)) => bif Nat.beq k 92 then some (true, fIvInt (solve lineF t m)) else none
      | .s (.clo k [a, b]) => bif Nat.beq k 37 then
          match cdInt.dec a, cdInt.dec b with
          | some (p, []), some (q, []) => some (true, fIvInt (solve (rootsF p q) t m))
          | _, _ => none
        else none
      | _ => none
    | _, _ => none
  | _ => none

theorem solve7_ok : ∀ l r, solve7 l = some (true, r) → Snd 31 l r := by
  intro l r h
  unfold solve7 at h
  split at h
  rotate_left
  · cases h
  rename_i x y z
  split at h
  rotate_left
  · cases h
  rename_i t m ht hm
  split at h
  · rename_i k
    cases hk : Nat.beq k 92 with
    | false => simp [hk] at h
    | true =>
      simp only [hk, cond_true] at h
      cases h
      obtain rfl := Nat.eq_of_beq_eq_true hk
      refine snd_mono (args' := [.s (.v (.func (.func 92) #[] #[])), acIv.enc t, acInt.enc m]) ?_ (fun F w vs h => mono2 ht hm h)
      exact fn_sound (A := ivA) (G := fun a => fIvIv (lineF a)) ivA_plain rfl (by kernel_rfl) (fun a => meniscuslaw7_line_c.ok _ _ (by kernel_rfl)) (solve_ok lineF t m)
  · rename_i k a b
    cases hk : Nat.beq k 37 with
    | false => simp [hk] at h
    | true =>
      simp only [hk, cond_true] at h
      obtain rfl := Nat.eq_of_beq_eq_true hk
      split at h
      · rename_i p q hp hq
        cases h
        have ep := cdInt.ok _ _ _ hp
        have eq := cdInt.ok _ _ _ hq
        rw [List.append_nil] at ep eq
        subst ep; subst eq
        refine snd_mono (args' := [.s (.clo 37 [cdInt.enc p, cdInt.enc q]), acIv.enc t, acInt.enc m]) ?_ (fun F w vs h => mono2 ht hm h)
        exact clo_sound (A := ivA) (G := fun a => fIvIv (rootsF p q a)) ivA_plain rfl (by kernel_rfl) (fun a => meniscuslaw7_NewtonRoots_1_c.ok _ _ (by kernel_rfl)) (solve_ok (rootsF p q) t m)
      · cases h
  · cases h

noncomputable def solve7_c : Ct := ⟨31, solve7, solve7_ok⟩

def known7T : Tr Bool := .n ((solve lineF (of 0 262144) 10).2 == 1) (.l (ivEq (solve lineF (of 0 262144) 10).1 (whole 1))) (.l false)
def known7 : Bool := known7T.ev


noncomputable def meniscuslaw7_known_c : Ct := ⟨36, pf0 (fBool known7), pf0_ok (ct_tr (x := (known7T).ev) (t := known7T) (envq ivQ [solve7_c, iv_Of_c, iv_Whole_c]) (envq_ok ivQ [solve7_c, iv_Of_c, iv_Whole_c] ivQ_ok) Try.func36 (by kernel_rfl) ([] : List (Hn Try.f36)) (by kernel_rfl) (by kernel_rfl) (by kernel_rfl)
  (show evH (envq ivQ [solve7_c, iv_Of_c, iv_Whole_c]) (hl ([] : List (Hn Try.f36))) none 0 0 Try.f36 [] = (known7T).fold fun x => some (fBool x) by kernel_rfl) (Tr.run_ev _ (by kernel_rfl)))⟩


/-! ### NewtonRoots -/

def nrP (p : Int) : Int := w64 (pick p 13 - 6)
def nrQ (p q : Int) : Int := w64 (w64 (nrP p + 1) + pick q 6)
def nrT (a b : Int) : Iv := wide (w64 (pick a 1048576 - 524288)) (pick b 262144)
def nrX (p q a b : Int) : Iv × Int := solve (rootsF (nrP p) (nrQ p q)) (nrT a b) 30
def nrFirst (p a b : Int) : Bool := has (nrT a b) (w64 (nrP p * 65536))
def nrSecond (p q a b : Int) : Bool := has (nrT a b) (w64 (nrQ p q * 65536))
def nrEnd (p q a b : Int) : Tr Bool :=
  .n (!nrSecond p q a b) (.l (inside (nrX p q a b).1 (nrT a b))) (.n (has (nrX p q a b).1 (w64 (nrQ p q * 65536))) (.l (inside (nrX p q a b).1 (nrT a b))) (.l false))

def newtonRootsT (p : Int) (q : Int) (a : Int) (b : Int) : Tr (Bool) :=
  .n ((nrX p q a b).2 == 1)
    (.n known7 (.n (nrFirst p a b != nrSecond p q a b) (.n (!nrFirst p a b) (nrEnd p q a b) (.n (has (nrX p q a b).1 (w64 (nrP p * 65536))) (nrEnd p q a b) (.l false))) (.l false)) (.l false))
    (.n ((nrX p q a b).2 == 2)
      (.n known7 (.n (!nrFirst p a b) (.n (!nrSecond p q a b) (.l (ivEq (nrX p q a b).1 nul)) (.l false)) (.l false)) (.l false))
      (.n known7 (.l (ivEq (nrX p q a b).1 nul)) (.l false)))
def newtonRoots (p : Int) (q : Int) (a : Int) (b : Int) : Bool := (newtonRootsT p q a b).ev
noncomputable def meniscuslaw7_NewtonRoots_c : Ct := ⟨6, pf4 acInt acInt acInt acInt fun p q a b => fBool (newtonRoots p q a b), pf4_ok fun p q a b => ct_tr (x := (newtonRootsT p q a b).ev) (t := newtonRootsT p q a b) (envq ivQ [meniscushand_Pick_c, meniscushand_Wide_c, solve7_c, iv_Has_c, meniscuslaw7_known_c, iv_Inside_c, iv_None_c]) (envq_ok ivQ [meniscushand_Pick_c, meniscushand_Wide_c, solve7_c, iv_Has_c, meniscuslaw7_known_c, iv_Inside_c, iv_None_c] ivQ_ok) Try.func6 (by kernel_rfl) ([] : List (Hn Try.f6)) (by kernel_rfl) (by kernel_rfl) (by kernel_rfl)
  (show evH (envq ivQ [meniscushand_Pick_c, meniscushand_Wide_c, solve7_c, iv_Has_c, meniscuslaw7_known_c, iv_Inside_c, iv_None_c]) (hl ([] : List (Hn Try.f6))) none 0 0 Try.f6 [acInt.enc p, acInt.enc q, acInt.enc a, acInt.enc b] = (newtonRootsT p q a b).fold fun x => some (fBool x) by kernel_rfl) (Tr.run_ev _ (by kernel_rfl))⟩


end Go.Proofs.Ytmmlpaehehgfnaa.Sx
