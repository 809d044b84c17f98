/-
  What this text proves: how a contract of a function is stated over plain data, and how it follows from the evaluator ('Ct').
  Conditions: none.
-/
import Derived.Test.YtmmlpaehehgfnaaTy
namespace Go.Proofs.Ytmmlpaehehgfnaa.Sx
set_option linter.unusedSimpArgs false
set_option linter.unusedVariables false

/-! ### Data -/

/-- How data are handed over. -/
structure Ac (α : Type) where
  enc : α → AD
  dec : AD → Option α
  ok : ∀ x a, dec x = some a → ∀ F w v, x.holds F w v → (enc a).holds F w v
  inn : ∀ a, inA (enc a) = true

def acOf {α : Type} (enc : α → AD) (dec : AD → Option α) (h : ∀ x a, dec x = some a → x = enc a) (hi : ∀ a, inA (enc a) = true) : Ac α :=
  ⟨enc, dec, fun x a hx F w v hv => by rw [← h x a hx]; exact hv, hi⟩

def valsD : List Sd → Option (List Value)
  | [] => some []
  | .v x :: l => match valsD l with
    | some m => some (x :: m)
    | none => none
  | _ :: _ => none

theorem valsD_ok : ∀ {l : List Sd} {m : List Value}, valsD l = some m → l = m.map .v
  | [], m, h => by cases h; rfl
  | .v x :: l, m, h => by
    simp only [valsD] at h
    split at h
    · rename_i h1; cases h; rw [valsD_ok h1]; rfl
    · cases h
  | .sl .. :: _, m, h => by simp [valsD] at h
  | .r _ :: _, m, h => by simp [valsD] at h
  | .opq :: _, m, h => by simp [valsD] at h
  | .clo .. :: _, m, h => by simp [valsD] at h
  | .p .. :: _, m, h => by simp [valsD] at h

theorem all_in (l : List Value) : (l.map Sd.v).all inS = true := by
  rw [List.all_eq_true]
  intro x hx
  obtain ⟨y, _, rfl⟩ := List.mem_map.1 hx
  rfl

def acS {α : Type} (A : Cd α) : Ac α := acOf (fun a => .agg ((A.enc a).map .v))
  (fun x => match x with
    | .agg l => match valsD l with
      | some m => match A.dec m with
        | some (a, []) => some a
        | _ => none
      | none => none
    | _ => none)
  (fun x a h => by
    split at h
    · split at h
      · rename_i hm
        split at h
        · rename_i ha
          cases h
          have := A.ok _ _ _ ha
          rw [List.append_nil] at this
          rw [valsD_ok hm, this]
        · cases h
      · cases h
    · cases h) (fun a => all_in _)

def acInt : Ac Int := acOf (fun n => .s (.v (.int .i64 n))) (fun x => match x with | .s (.v (.int .i64 n)) => some n | _ => none)
  (fun x a h => by split at h; cases h; rfl; cases h) (fun _ => rfl)
def acBool : Ac Bool := acOf (fun n => .s (.v (.bool n))) (fun x => match x with | .s (.v (.bool n)) => some n | _ => none)
  (fun x a h => by split at h; cases h; rfl; cases h) (fun _ => rfl)
def acStr : Ac ByteArray := acOf (fun n => .s (.v (.string n))) (fun x => match x with | .s (.v (.string n)) => some n | _ => none)
  (fun x a h => by split at h; cases h; rfl; cases h) (fun _ => rfl)
def acFlo : Ac Nat := acOf (fun n => .s (.v (.float .f64 n))) (fun x => match x with | .s (.v (.float .f64 n)) => some n | _ => none)
  (fun x a h => by split at h; cases h; rfl; cases h) (fun _ => rfl)
def acCx : Ac Cx := acOf (fun n => .s (.v (.complex .f64 n.re n.im))) (fun x => match x with | .s (.v (.complex .f64 a b)) => some ⟨a, b⟩ | _ => none)
  (fun x a h => by split at h; cases h; rfl; cases h) (fun _ => rfl)
def acFn : Ac FuncId := acOf (fun n => .s (.v (.func (.func n) #[] #[]))) (fun x => match x with | .s (.v (.func (.func n) ⟨[]⟩ ⟨[]⟩)) => some n | _ => none)
  (fun x a h => by split at h; cases h; rfl; cases h) (fun _ => rfl)
def acOpq : Ac Unit := acOf (fun _ => .s .opq) (fun x => match x with | .s .opq => some () | _ => none)
  (fun x a h => by split at h; cases h; rfl; cases h) (fun _ => rfl)
/-- A pointer to a block that is read alone. -/
def acP {α : Type} (A : Cd α) : Ac α := acOf (fun a => .s (.r (A.enc a)))
  (fun x => match x with
    | .s (.r m) => match A.dec m with
      | some (a, []) => some a
      | _ => none
    | _ => none)
  (fun x a h => by
    split at h
    · split at h
      · rename_i ha
        cases h
        have := A.ok _ _ _ ha
        rw [List.append_nil] at this
        rw [this]
      · cases h
    · cases h) (fun a => rfl)

def slD1 (k : KN) : Sd → Option (List k.ty)
  | .sl d _ => match KN.same d.k k with
    | some h => some (castL h d.l)
    | none => none
  | .v (.slice none 0 0) => some []
  | _ => none

theorem slD1_ok {k : KN} {x : Sd} {l : List k.ty} (h : slD1 k x = some l) {F : Value} {w : World} {v : Value} (hv : x.holds F w v) : (Sd.sl ⟨k, l⟩ .ro).holds F w v := by
  unfold slD1 at h
  split at h
  · rename_i d m
    split at h
    · rename_i hk _
      cases h
      obtain ⟨dk, dl⟩ := d
      obtain ⟨hk⟩ := hk
      simp only at hk
      subst hk
      exact hv
    · cases h
  · cases h
    obtain ⟨rfl, _⟩ := hv
    exact ⟨none, 0, rfl, ⟨Nat.le_refl _, Nat.zero_le _⟩, fun h => by simp [Dat.n] at h⟩
  · cases h

def acSl (k : KN) : Ac (List k.ty) where
  enc l := .s (.sl ⟨k, l⟩ .ro)
  dec
    | .s x => slD1 k x
    | _ => none
  ok x a h F w v hv := by
    split at h
    · exact slD1_ok h hv
    · cases h
  inn _ := rfl

structure Sys where
  surfs : List Surf
  open_ : Iv
  deriving DecidableEq, Inhabited

theorem holdsL_v {F : Value} {w : World} {l : List Sd} {m : List Value} {vs : List Value} (h : valsD l = some m) (hv : holdsL F w l vs) : holdsL F w (m.map .v) vs := by
  rw [← valsD_ok h]; exact hv

def acSys : Ac Sys where
  enc s := .agg (.sl ⟨.surf, s.surfs⟩ .ro :: (cdIv.enc s.open_).map .v)
  dec
    | .agg (x :: l) => match slD1 .surf x, valsD l with
      | some a, some m => match cdIv.dec m with
        | some (b, []) => some ⟨a, b⟩
        | _ => none
      | _, _ => none
    | _ => none
  ok x a h F w v hv := by
    split at h
    · split at h
      · rename_i h1 h2
        split at h
        · rename_i h3
          cases h
          obtain ⟨vs, rfl, hv⟩ := hv
          have := cdIv.ok _ _ _ h3
          rw [List.append_nil] at this
          subst this
          match vs, hv with
          | u :: us, hv => exact ⟨u :: us, rfl, slD1_ok h1 hv.1, holdsL_v h2 hv.2⟩
        · cases h
      · cases h
    · cases h
  inn _ := rfl

/-! ### Trees of tests -/

def Tr.ev {α : Type} [Inhabited α] : Tr α → α
  | .l x => x
  | .f => default
  | .n b t e => cond b t.ev e.ev

/-- No way leads to '.f'. -/
def Tr.full {α : Type} : Tr α → Bool
  | .l _ => true
  | .f => false
  | .n _ t e => t.full && e.full

theorem Tr.run_ev {α : Type} [Inhabited α] : ∀ t : Tr α, t.full = true → t.run = some t.ev
  | .l x, _ => rfl
  | .n b t e, h => by
    simp only [Tr.full, Bool.and_eq_true] at h
    simp only [Tr.run, Tr.ev, Tr.run_ev t h.1, Tr.run_ev e h.2]
    cases b <;> rfl

theorem Tr.run_of {α : Type} [Inhabited α] : ∀ {t : Tr α} {x : α}, t.run = some x → t.ev = x
  | .l y, x, h => by cases h; rfl
  | .n b t e, x, h => by
    simp only [Tr.run, Tr.ev] at h ⊢
    cases b
    · exact Tr.run_of h
    · exact Tr.run_of h

 @[simp] theorem Tr.ev_l {α : Type} [Inhabited α] (x : α) : (Tr.l x).ev = x := rfl
 @[simp] theorem Tr.ev_n {α : Type} [Inhabited α] (b : Bool) (t e : Tr α) : (Tr.n b t e).ev = if b then t.ev else e.ev := by cases b <;> rfl
 @[simp] theorem Tr.run_l {α : Type} (x : α) : (Tr.l x).run = some x := rfl
 @[simp] theorem Tr.run_f {α : Type} : (Tr.f : Tr α).run = none := rfl
 @[simp] theorem Tr.run_n {α : Type} (b : Bool) (t e : Tr α) : (Tr.n b t e).run = if b then t.run else e.run := by cases b <;> rfl

/-! ### Contracts -/

def Stab (I : World → Prop) : Prop := ∀ w w', I w → RowKit.Below w.heap.size w w' → I w'

/-- A function's calls: whatever the function is that nothing is known of. -/
def SndP (Hp : Value → (World → Prop) → Prop) (f : FuncId) (args : List AD) (r : RD) : Prop := ∀ F I, F.oneCell' = true → Stab I → Hp F I → SoundAt Try.prog F I f args r

def Any : Value → (World → Prop) → Prop := fun _ _ => True

abbrev Snd (f : FuncId) (args : List AD) (r : RD) : Prop := SndP Any f args r

abbrev Pf := List AD → Option (Bool × RD)

def pf0 (F : RD) : Pf
  | [] => some (true, F)
  | _ => none

def pf1 {α : Type} (A : Ac α) (F : α → RD) : Pf
  | [x] => match A.dec x with
    | some a => some (true, F a)
    | _ => none
  | _ => none

def pf1g {α : Type} (A : Ac α) (Gd : α → Bool) (F : α → RD) : Pf
  | [x] => match A.dec x with
    | some a => some (Gd a, F a)
    | _ => none
  | _ => none

def pf2 {α β : Type} (A : Ac α) (B : Ac β) (F : α → β → RD) : Pf
  | [x, y] => match A.dec x, B.dec y with
    | some a, some b => some (true, F a b)
    | _, _ => none
  | _ => none

def pf2g {α β : Type} (A : Ac α) (B : Ac β) (Gd : α → β → Bool) (F : α → β → RD) : Pf
  | [x, y] => match A.dec x, B.dec y with
    | some a, some b => some (Gd a b, F a b)
    | _, _ => none
  | _ => none

def pf3 {α β γ : Type} (A : Ac α) (B : Ac β) (C : Ac γ) (F : α → β → γ → RD) : Pf
  | [x, y, z] => match A.dec x, B.dec y, C.dec z with
    | some a, some b, some c => some (true, F a b c)
    | _, _, _ => none
  | _ => none

def pf3g {α β γ : Type} (A : Ac α) (B : Ac β) (C : Ac γ) (Gd : α → β → γ → Bool) (F : α → β → γ → RD) : Pf
  | [x, y, z] => match A.dec x, B.dec y, C.dec z with
    | some a, some b, some c => some (Gd a b c, F a b c)
    | _, _, _ => none
  | _ => none

def pf4 {α β γ δ : Type} (A : Ac α) (B : Ac β) (C : Ac γ) (D : Ac δ) (F : α → β → γ → δ → RD) : Pf
  | [x, y, z, p] => match A.dec x, B.dec y, C.dec z, D.dec p with
    | some a, some b, some c, some d => some (true, F a b c d)
    | _, _, _, _ => none
  | _ => none

def pf4g {α β γ δ : Type} (A : Ac α) (B : Ac β) (C : Ac γ) (D : Ac δ) (Gd : α → β → γ → δ → Bool) (F : α → β → γ → δ → RD) : Pf
  | [x, y, z, p] => match A.dec x, B.dec y, C.dec z, D.dec p with
    | some a, some b, some c, some d => some (Gd a b c d, F a b c d)
    | _, _, _, _ => none
  | _ => none

def pf5 {α β γ δ ε : Type} (A : Ac α) (B : Ac β) (C : Ac γ) (D : Ac δ) (G : Ac ε) (F : α → β → γ → δ → ε → RD) : Pf
  | [x, y, z, p, q] => match A.dec x, B.dec y, C.dec z, D.dec p, G.dec q with
    | some a, some b, some c, some d, some e => some (true, F a b c d e)
    | _, _, _, _, _ => none
  | _ => none

def pf5g {α β γ δ ε : Type} (A : Ac α) (B : Ac β) (C : Ac γ) (D : Ac δ) (G : Ac ε) (Gd : α → β → γ → δ → ε → Bool) (F : α → β → γ → δ → ε → RD) : Pf
  | [x, y, z, p, q] => match A.dec x, B.dec y, C.dec z, D.dec p, G.dec q with
    | some a, some b, some c, some d, some e => some (Gd a b c d e, F a b c d e)
    | _, _, _, _, _ => none
  | _ => none

def pf6 {α β γ δ ε ζ : Type} (A : Ac α) (B : Ac β) (C : Ac γ) (D : Ac δ) (G : Ac ε) (H : Ac ζ) (F : α → β → γ → δ → ε → ζ → RD) : Pf
  | [x, y, z, p, q, s] => match A.dec x, B.dec y, C.dec z, D.dec p, G.dec q, H.dec s with
    | some a, some b, some c, some d, some e, some u => some (true, F a b c d e u)
    | _, _, _, _, _, _ => none
  | _ => none

def pf6g {α β γ δ ε ζ : Type} (A : Ac α) (B : Ac β) (C : Ac γ) (D : Ac δ) (G : Ac ε) (H : Ac ζ) (Gd : α → β → γ → δ → ε → ζ → Bool) (F : α → β → γ → δ → ε → ζ → RD) : Pf
  | [x, y, z, p, q, s] => match A.dec x, B.dec y, C.dec z, D.dec p, G.dec q, H.dec s with
    | some a, some b, some c, some d, some e, some u => some (Gd a b c d e u, F a b c d e u)
    | _, _, _, _, _, _ => none
  | _ => none

def pf7 {α β γ δ ε ζ η : Type} (A : Ac α) (B : Ac β) (C : Ac γ) (D : Ac δ) (G : Ac ε) (H : Ac ζ) (J : Ac η) (F : α → β → γ → δ → ε → ζ → η → RD) : Pf
  | [x, y, z, p, q, s, t] => match A.dec x, B.dec y, C.dec z, D.dec p, G.dec q, H.dec s, J.dec t with
    | some a, some b, some c, some d, some e, some u, some v => some (true, F a b c d e u v)
    | _, _, _, _, _, _, _ => none
  | _ => none

def pf7g {α β γ δ ε ζ η : Type} (A : Ac α) (B : Ac β) (C : Ac γ) (D : Ac δ) (G : Ac ε) (H : Ac ζ) (J : Ac η) (Gd : α → β → γ → δ → ε → ζ → η → Bool) (F : α → β → γ → δ → ε → ζ → η → RD) : Pf
  | [x, y, z, p, q, s, t] => match A.dec x, B.dec y, C.dec z, D.dec p, G.dec q, H.dec s, J.dec t with
    | some a, some b, some c, some d, some e, some u, some v => some (Gd a b c d e u v, F a b c d e u v)
    | _, _, _, _, _, _, _ => none
  | _ => none

def pf8 {α β γ δ ε ζ η θ : Type} (A : Ac α) (B : Ac β) (C : Ac γ) (D : Ac δ) (G : Ac ε) (H : Ac ζ) (J : Ac η) (M : Ac θ) (F : α → β → γ → δ → ε → ζ → η → θ → RD) : Pf
  | [x, y, z, p, q, s, t, o] => match A.dec x, B.dec y, C.dec z, D.dec p, G.dec q, H.dec s, J.dec t, M.dec o with
    | some a, some b, some c, some d, some e, some u, some v, some w => some (true, F a b c d e u v w)
    | _, _, _, _, _, _, _, _ => none
  | _ => none

def pf8g {α β γ δ ε ζ η θ : Type} (A : Ac α) (B : Ac β) (C : Ac γ) (D : Ac δ) (G : Ac ε) (H : Ac ζ) (J : Ac η) (M : Ac θ) (Gd : α → β → γ → δ → ε → ζ → η → θ → Bool) (F : α → β → γ → δ → ε → ζ → η → θ → RD) : Pf
  | [x, y, z, p, q, s, t, o] => match A.dec x, B.dec y, C.dec z, D.dec p, G.dec q, H.dec s, J.dec t, M.dec o with
    | some a, some b, some c, some d, some e, some u, some v, some w => some (Gd a b c d e u v w, F a b c d e u v w)
    | _, _, _, _, _, _, _, _ => none
  | _ => none

/-- A function's contract. -/
structure Ct where
  f : Nat
  pf : Pf
  ok : ∀ l r, pf l = some (true, r) → Snd f l r

/-- A function's contract, where something is known of the function that nothing is known of. -/
structure CtP (Hp : Value → (World → Prop) → Prop) where
  f : Nat
  pf : Pf
  ok : ∀ l r, pf l = some (true, r) → SndP Hp f l r

def Ct.up {Hp : Value → (World → Prop) → Prop} (c : Ct) : CtP Hp := ⟨c.f, c.pf, fun l r h F I hF hI _ => c.ok l r h F I hF hI trivial⟩
def CtP.down (c : CtP Any) : Ct := ⟨c.f, c.pf, c.ok⟩

def envLP {Hp : Value → (World → Prop) → Prop} : List (CtP Hp) → Nat → List AD → Option (Bool × RD)
  | [], _, _ => none
  | c :: r, f, l => bif Nat.beq c.f f then c.pf l else envLP r f l

theorem envLP_ok {Hp : Value → (World → Prop) → Prop} : ∀ (L : List (CtP Hp)) (f : Nat) (l : List AD) (r : RD), envLP L f l = some (true, r) → SndP Hp f l r
  | c :: L, f, l, r, h => by
    simp only [envLP] at h
    cases hf : Nat.beq c.f f with
    | true =>
      rw [hf] at h
      have := Nat.eq_of_beq_eq_true hf
      subst this
      exact c.ok l r h
    | false => rw [hf] at h; exact envLP_ok L f l r h

def envL : List Ct → Nat → List AD → Option (Bool × RD)
  | [], _, _ => none
  | c :: r, f, l => bif Nat.beq c.f f then c.pf l else envL r f l

theorem envL_ok : ∀ (L : List Ct) (f : Nat) (l : List AD) (r : RD), envL L f l = some (true, r) → Snd f l r
  | c :: L, f, l, r, h => by
    simp only [envL] at h
    cases hf : Nat.beq c.f f with
    | true =>
      rw [hf] at h
      have := Nat.eq_of_beq_eq_true hf
      subst this
      exact c.ok l r h
    | false => rw [hf] at h; exact envL_ok L f l r h

/-- The place of an evaluation: the program, its types, the contracts of what is called, the struct types that are compared. -/
noncomputable def envq (Q : EqT) (L : List Ct) : Env := ⟨Try.prog, T, Q, false, envL L, fun _ => none⟩
noncomputable abbrev env (L : List Ct) : Env := envq [] L
/-- With a function that something is known of. -/
noncomputable def envP {Hp : Value → (World → Prop) → Prop} (Q : EqT) (L : List (CtP Hp)) (G : List AD → Option (Bool × RD)) : Env := ⟨Try.prog, T, Q, true, envLP L, G⟩

/-- An environment for whatever function and whatever is known of worlds. -/
def XOkP (Hp : Value → (World → Prop) → Prop) (X : Env) : Prop := X.P = Try.prog ∧ ∀ F I, F.oneCell' = true → Stab I → Hp F I → EnvOk X (fm F) I
abbrev XOk (X : Env) : Prop := XOkP Any X

theorem envq_ok (Q : EqT) (L : List Ct) (h : ∀ p ∈ Q, EqOk Try.prog p.1 p.2) : XOk (envq Q L) :=
  ⟨rfl, fun F I hF hI hP => ⟨T_ok, fun f l r hr => envL_ok L f l r hr F I hF hI hP, h, fun h => (by cases h), fun l r h => (by cases h), fun w w' h hb => hI w w' h hb.below⟩⟩

theorem env_ok (L : List Ct) : XOk (env L) := envq_ok [] L (fun t ht => by cases ht)

theorem envP_ok {Hp : Value → (World → Prop) → Prop} (Q : EqT) (L : List (CtP Hp)) (G : List AD → Option (Bool × RD))
    (h : ∀ p ∈ Q, EqOk Try.prog p.1 p.2) (hfn : ∀ F I, Hp F I → ∃ f a b, F = .func f a b)
    (hG : ∀ F I, Hp F I → ∀ l r, G l = some (true, r) → ∃ f cs, F = .func (.func f) #[] cs ∧ callable Try.prog f = true ∧ ∀ w vs, I w → holdsA F w l vs → Calls Try.prog f (vs.toArray ++ cs) w (Comes w r)) : XOkP Hp (envP Q L G) :=
  ⟨rfl, fun F I hF hI hP => ⟨T_ok, fun f l r hr => envLP_ok L f l r hr F I hF hI hP, h, fun _ => hfn F I hP, fun l r h => hG F I hP l r h, fun w w' h hb => hI w w' h hb.below⟩⟩

theorem follows : Try.prog.follows .mixedOrders = true := by kernel_rfl

/-- A loop's hint. -/
structure HnP (Hp : Value → (World → Prop) → Prop) (fn : Func) where
  id : Nat
  L : St → Tr (Ex × St)
  ok : ∀ F I, F.oneCell' = true → Stab I → Hp F I → ∀ w, I w → HintOk Try.prog w (fm F) fn.ntmps id (.loop (loopAt (bodyOf fn) id)) L

abbrev Hn (fn : Func) := HnP Any fn

def hl {Hp : Value → (World → Prop) → Prop} {fn : Func} (h : List (HnP Hp fn)) : Hl := h.map fun x => (x.id, x.L)

theorem hl_ok {Hp : Value → (World → Prop) → Prop} {fn : Func} (h : List (HnP Hp fn)) {F : Value} {I : World → Prop} (hF : F.oneCell' = true) (hI : Stab I) (hP : Hp F I) {w : World} (hw : I w) : ∀ q ∈ hl h, HintOk Try.prog w (fm F) fn.ntmps q.1 (.loop (loopAt (bodyOf fn) q.1)) q.2 := by
  intro q hq
  obtain ⟨x, _, rfl⟩ := List.mem_map.1 hq
  exact x.ok F I hF hI hP w hw

/-- The evaluation of a function's body, with hints. -/
def evH (X : Env) (h : Hl) (nk : Option KN) (n d : Nat) (fn : Func) (args : List AD) : Option RD := evFL X (lh h) nk n d fn args

section
variable {Hp : Value → (World → Prop) → Prop} {f n d : Nat} {fn : Func} {nk : Option KN}

theorem ct_ok (X : Env) (HX : XOkP Hp X) (hf : Try.prog.funcs[f]? = some fn) (hn : (fn.name == "runtime.NumGoroutine") = false) (h : List (HnP Hp fn)) (hb : fn.body = some (bodyOf fn)) (hh : hlOk (bodyOf fn) (hl h) = true) {l : List AD} (hin : l.all inA = true) {r : RD}
    (he : evH X (hl h) nk n d fn l = some r) : SndP Hp f l r := by
  intro F I hF hI hPP
  obtain ⟨hP, HX⟩ := HX
  have := sound_of_evL (LH := lh (hl h)) (HX F I hF hI hPP) hF (by rw [hP]; exact follows) (f := f) (fn := fn) (by rw [hP]; exact hf) hn (nk := nk) (n := n) (d := d) (args := l) (r := r) hin (fun w c hw hc => by
    rw [hb] at hc
    cases hc
    rw [hP]
    exact hints_of hh (hl_ok h hF hI hPP hw)) he
  rw [hP] at this
  exact this

theorem ct_tr {α : Type} [Inhabited α] (X : Env) (HX : XOkP Hp X) (hf : Try.prog.funcs[f]? = some fn) (hn : (fn.name == "runtime.NumGoroutine") = false) (h : List (HnP Hp fn)) (hb : fn.body = some (bodyOf fn)) (hh : hlOk (bodyOf fn) (hl h) = true) {l : List AD} (hin : l.all inA = true) {G : α → RD} {t : Tr α}
    (he : evH X (hl h) nk n d fn l = t.fold fun x => some (G x)) {x : α} (ht : t.run = some x) : SndP Hp f l (G t.ev) :=
  ct_ok X HX hf hn h hb hh hin (he.trans (by rw [t.fold_run, ht, Tr.run_of ht]; rfl))

/-- A hint's proof. -/
def mkHn {α : Type} (fn : Func) (id : Nat) (V : View α) (hV : V.ok = true) (dec : List RD × List (List Sd) → Option α) (hdec : ∀ p x, dec p = some x → p = (V.fv x, V.hv x)) (X : Env) (HX : XOkP Hp X) (h : List (HnP Hp fn)) (hh : hlOk (loopAt (bodyOf fn) id) (hl h) = true)
    (hsub : ∀ q ∈ hl h, loopAt (loopAt (bodyOf fn) id) q.1 = loopAt (bodyOf fn) q.1) (n d : Nat) (T : α → Tr (Ex × α)) (fin : α → Tr (Ex × α)) (good : α → Bool) (μ : α → Nat)
    (hT : ∀ x, evG X (lh (hl h)) fn.ntmps n d (loopAt (bodyOf fn) id) (V.st x) (roundK V) = (T x).fold (outK V))
    (hfin : ∀ x, good x = true → StepOk (fun x => (fin x).run) (fun x => good x = true) μ x (T x).run) : HnP Hp fn where
  id := id
  L := hintL V dec good id fin
  ok F I hF hI hPP w hw := by
    obtain ⟨hP, HX⟩ := HX
    refine hint_loop rfl V hV dec hdec T (ev := evG X (lh (hl h)) fn.ntmps n d (loopAt (bodyOf fn) id)) ?_ hT fin good μ hfin
    have := evG_sound (R := Ex × List RD × List (List Sd)) (LH := lh (hl h)) (N := fn.ntmps) (w0 := w) (n := n) (HX F I hF hI hPP) (by rw [hP]; exact follows) hw d (loopAt (bodyOf fn) id) (hints_of hh fun q hq => by
      rw [hP, hsub q hq]
      exact hl_ok h hF hI hPP hw q hq)
    rw [hP] at this
    exact this

/-! #### From data to arguments -/

theorem snd_mono {args args' : List AD} {r : RD} (h : SndP Hp f args' r) (hm : ∀ F w vs, holdsA F w args vs → holdsA F w args' vs) : SndP Hp f args r :=
  fun F I hF hI hP => ⟨(h F I hF hI hP).call, fun w vs hw hv => (h F I hF hI hP).run w vs hw (hm F w vs hv)⟩

theorem pf0_ok {F : RD} (h : SndP Hp f [] F) : ∀ l r, pf0 F l = some (true, r) → SndP Hp f l r := by
  intro l r hl
  unfold pf0 at hl
  split at hl
  · cases hl; exact h
  · cases hl

theorem h1 {α : Type} {A : Ac α} {x : AD} {a : α} (ha : A.dec x = some a) {F : Value} {w : World} {vs : List Value} {l m : List AD} (hm : ∀ vs, holdsA F w l vs → holdsA F w m vs) (h : holdsA F w (x :: l) vs) : holdsA F w (A.enc a :: m) vs := by
  match vs, h with
  | v :: vs, h => exact ⟨A.ok _ _ ha F w v h.1, hm vs h.2⟩

theorem pf1_ok {α : Type} {A : Ac α} {F : α → RD} (h : ∀ a, SndP Hp f [A.enc a] (F a)) : ∀ l r, pf1 A F l = some (true, r) → SndP Hp f l r := by
  intro l r hl
  unfold pf1 at hl
  split at hl
  · split at hl
    · rename_i a ha
      cases hl
      exact snd_mono (h a) fun F w => fun vs h => h1 ha (fun _ h => h) h
    · cases hl
  · cases hl

theorem pf1g_ok {α : Type} {A : Ac α} {Gd : α → Bool} {F : α → RD} (h : ∀ a, Gd a = true → SndP Hp f [A.enc a] (F a)) : ∀ l r, pf1g A Gd F l = some (true, r) → SndP Hp f l r := by
  intro l r hl
  unfold pf1g at hl
  split at hl
  · split at hl
    · rename_i a ha
      simp only [Option.some.injEq, Prod.mk.injEq] at hl
      obtain ⟨hg, rfl⟩ := hl
      exact snd_mono (h a hg) fun F w => fun vs h => h1 ha (fun _ h => h) h
    · cases hl
  · cases hl

theorem pf2_ok {α β : Type} {A : Ac α} {B : Ac β} {F : α → β → RD} (h : ∀ a b, SndP Hp f [A.enc a, B.enc b] (F a b)) : ∀ l r, pf2 A B F l = some (true, r) → SndP Hp f l r := by
  intro l r hl
  unfold pf2 at hl
  split at hl
  · split at hl
    · rename_i a b ha hb
      cases hl
      exact snd_mono (h a b) fun F w => fun vs h => h1 ha (fun vs h => h1 hb (fun _ h => h) h) h
    · cases hl
  · cases hl

theorem pf2g_ok {α β : Type} {A : Ac α} {B : Ac β} {Gd : α → β → Bool} {F : α → β → RD} (h : ∀ a b, Gd a b = true → SndP Hp f [A.enc a, B.enc b] (F a b)) : ∀ l r, pf2g A B Gd F l = some (true, r) → SndP Hp f l r := by
  intro l r hl
  unfold pf2g at hl
  split at hl
  · split at hl
    · rename_i a b ha hb
      simp only [Option.some.injEq, Prod.mk.injEq] at hl
      obtain ⟨hg, rfl⟩ := hl
      exact snd_mono (h a b hg) fun F w => fun vs h => h1 ha (fun vs h => h1 hb (fun _ h => h) h) h
    · cases hl
  · cases hl

theorem pf3_ok {α β γ : Type} {A : Ac α} {B : Ac β} {C : Ac γ} {F : α → β → γ → RD} (h : ∀ a b c, SndP Hp f [A.enc a, B.enc b, C.enc c] (F a b c)) : ∀ l r, pf3 A B C F l = some (true, r) → SndP Hp f l r := by
  intro l r hl
  unfold pf3 at hl
  split at hl
  · split at hl
    · rename_i a b c ha hb hc
      cases hl
      exact snd_mono (h a b c) fun F w => fun vs h => h1 ha (fun vs h => h1 hb (fun vs h => h1 hc (fun _ h => h) h) h) h
    · cases hl
  · cases hl

theorem pf3g_ok {α β γ : Type} {A : Ac α} {B : Ac β} {C : Ac γ} {Gd : α → β → γ → Bool} {F : α → β → γ → RD} (h : ∀ a b c, Gd a b c = true → SndP Hp f [A.enc a, B.enc b, C.enc c] (F a b c)) : ∀ l r, pf3g A B C Gd F l = some (true, r) → SndP Hp f l r := by
  intro l r hl
  unfold pf3g at hl
  split at hl
  · split at hl
    · rename_i a b c ha hb hc
      simp only [Option.some.injEq, Prod.mk.injEq] at hl
      obtain ⟨hg, rfl⟩ := hl
      exact snd_mono (h a b c hg) fun F w => fun vs h => h1 ha (fun vs h => h1 hb (fun vs h => h1 hc (fun _ h => h) h) h) h
    · cases hl
  · cases hl

theorem pf4_ok {α β γ δ : Type} {A : Ac α} {B : Ac β} {C : Ac γ} {D : Ac δ} {F : α → β → γ → δ → RD} (h : ∀ a b c d, SndP Hp f [A.enc a, B.enc b, C.enc c, D.enc d] (F a b c d)) : ∀ l r, pf4 A B C D F l = some (true, r) → SndP Hp f l r := by
  intro l r hl
  unfold pf4 at hl
  split at hl
  · split at hl
    · rename_i a b c d ha hb hc hd
      cases hl
      exact snd_mono (h a b c d) fun F w => fun vs h => h1 ha (fun vs h => h1 hb (fun vs h => h1 hc (fun vs h => h1 hd (fun _ h => h) h) h) h) h
    · cases hl
  · cases hl

theorem pf4g_ok {α β γ δ : Type} {A : Ac α} {B : Ac β} {C : Ac γ} {D : Ac δ} {Gd : α → β → γ → δ → Bool} {F : α → β → γ → δ → RD} (h : ∀ a b c d, Gd a b c d = true → SndP Hp f [A.enc a, B.enc b, C.enc c, D.enc d] (F a b c d)) : ∀ l r, pf4g A B C D Gd F l = some (true, r) → SndP Hp f l r := by
  intro l r hl
  unfold pf4g at hl
  split at hl
  · split at hl
    · rename_i a b c d ha hb hc hd
      simp only [Option.some.injEq, Prod.mk.injEq] at hl
      obtain ⟨hg, rfl⟩ := hl
      exact snd_mono (h a b c d hg) fun F w => fun vs h => h1 ha (fun vs h => h1 hb (fun vs h => h1 hc (fun vs h => h1 hd (fun _ h => h) h) h) h) h
    · cases hl
  · cases hl

theorem pf5_ok {α β γ δ ε : Type} {A : Ac α} {B : Ac β} {C : Ac γ} {D : Ac δ} {G : Ac ε} {F : α → β → γ → δ → ε → RD} (h : ∀ a b c d e, SndP Hp f [A.enc a, B.enc b, C.enc c, D.enc d, G.enc e] (F a b c d e)) : ∀ l r, pf5 A B C D G F l = some (true, r) → SndP Hp f l r := by
  intro l r hl
  unfold pf5 at hl
  split at hl
  · split at hl
    · rename_i a b c d e ha hb hc hd he
      cases hl
      exact snd_mono (h a b c d e) fun F w => fun vs h => h1 ha (fun vs h => h1 hb (fun vs h => h1 hc (fun vs h => h1 hd (fun vs h => h1 he (fun _ h => h) h) h) h) h) h
    · cases hl
  · cases hl

theorem pf5g_ok {α β γ δ ε : Type} {A : Ac α} {B : Ac β} {C : Ac γ} {D : Ac δ} {G : Ac ε} {Gd : α → β → γ → δ → ε → Bool} {F : α → β → γ → δ → ε → RD} (h : ∀ a b c d e, Gd a b c d e = true → SndP Hp f [A.enc a, B.enc b, C.enc c, D.enc d, G.enc e] (F a b c d e)) : ∀ l r, pf5g A B C D G Gd F l = some (true, r) → SndP Hp f l r := by
  intro l r hl
  unfold pf5g at hl
  split at hl
  · split at hl
    · rename_i a b c d e ha hb hc hd he
      simp only [Option.some.injEq, Prod.mk.injEq] at hl
      obtain ⟨hg, rfl⟩ := hl
      exact snd_mono (h a b c d e hg) fun F w => fun vs h => h1 ha (fun vs h => h1 hb (fun vs h => h1 hc (fun vs h => h1 hd (fun vs h => h1 he (fun _ h => h) h) h) h) h) h
    · cases hl
  · cases hl

theorem pf6_ok {α β γ δ ε ζ : Type} {A : Ac α} {B : Ac β} {C : Ac γ} {D : Ac δ} {G : Ac ε} {H : Ac ζ} {F : α → β → γ → δ → ε → ζ → RD} (h : ∀ a b c d e u, SndP Hp f [A.enc a, B.enc b, C.enc c, D.enc d, G.enc e, H.enc u] (F a b c d e u)) : ∀ l r, pf6 A B C D G H F l = some (true, r) → SndP Hp f l r := by
  intro l r hl
  unfold pf6 at hl
  split at hl
  · split at hl
    · rename_i a b c d e u ha hb hc hd he hu
      cases hl
      exact snd_mono (h a b c d e u) fun F w => fun vs h => h1 ha (fun vs h => h1 hb (fun vs h => h1 hc (fun vs h => h1 hd (fun vs h => h1 he (fun vs h => h1 hu (fun _ h => h) h) h) h) h) h) h
    · cases hl
  · cases hl

theorem pf6g_ok {α β γ δ ε ζ : Type} {A : Ac α} {B : Ac β} {C : Ac γ} {D : Ac δ} {G : Ac ε} {H : Ac ζ} {Gd : α → β → γ → δ → ε → ζ → Bool} {F : α → β → γ → δ → ε → ζ → RD} (h : ∀ a b c d e u, Gd a b c d e u = true → SndP Hp f [A.enc a, B.enc b, C.enc c, D.enc d, G.enc e, H.enc u] (F a b c d e u)) : ∀ l r, pf6g A B C D G H Gd F l = some (true, r) → SndP Hp f l r := by
  intro l r hl
  unfold pf6g at hl
  split at hl
  · split at hl
    · rename_i a b c d e u ha hb hc hd he hu
      simp only [Option.some.injEq, Prod.mk.injEq] at hl
      obtain ⟨hg, rfl⟩ := hl
      exact snd_mono (h a b c d e u hg) fun F w => fun vs h => h1 ha (fun vs h => h1 hb (fun vs h => h1 hc (fun vs h => h1 hd (fun vs h => h1 he (fun vs h => h1 hu (fun _ h => h) h) h) h) h) h) h
    · cases hl
  · cases hl

theorem pf7_ok {α β γ δ ε ζ η : Type} {A : Ac α} {B : Ac β} {C : Ac γ} {D : Ac δ} {G : Ac ε} {H : Ac ζ} {J : Ac η} {F : α → β → γ → δ → ε → ζ → η → RD} (h : ∀ a b c d e u v, SndP Hp f [A.enc a, B.enc b, C.enc c, D.enc d, G.enc e, H.enc u, J.enc v] (F a b c d e u v)) : ∀ l r, pf7 A B C D G H J F l = some (true, r) → SndP Hp f l r := by
  intro l r hl
  unfold pf7 at hl
  split at hl
  · split at hl
    · rename_i a b c d e u v ha hb hc hd he hu hv
      cases hl
      exact snd_mono (h a b c d e u v) fun F w => fun vs h => h1 ha (fun vs h => h1 hb (fun vs h => h1 hc (fun vs h => h1 hd (fun vs h => h1 he (fun vs h => h1 hu (fun vs h => h1 hv (fun _ h => h) h) h) h) h) h) h) h
    · cases hl
  · cases hl

theorem pf7g_ok {α β γ δ ε ζ η : Type} {A : Ac α} {B : Ac β} {C : Ac γ} {D : Ac δ} {G : Ac ε} {H : Ac ζ} {J : Ac η} {Gd : α → β → γ → δ → ε → ζ → η → Bool} {F : α → β → γ → δ → ε → ζ → η → RD} (h : ∀ a b c d e u v, Gd a b c d e u v = true → SndP Hp f [A.enc a, B.enc b, C.enc c, D.enc d, G.enc e, H.enc u, J.enc v] (F a b c d e u v)) : ∀ l r, pf7g A B C D G H J Gd F l = some (true, r) → SndP Hp f l r := by
  intro l r hl
  unfold pf7g at hl
  split at hl
  · split at hl
    · rename_i a b c d e u v ha hb hc hd he hu hv
      simp only [Option.some.injEq, Prod.mk.injEq] at hl
      obtain ⟨hg, rfl⟩ := hl
      exact snd_mono (h a b c d e u v hg) fun F w => fun vs h => h1 ha (fun vs h => h1 hb (fun vs h => h1 hc (fun vs h => h1 hd (fun vs h => h1 he (fun vs h => h1 hu (fun vs h => h1 hv (fun _ h => h) h) h) h) h) h) h) h
    · cases hl
  · cases hl

theorem pf8_ok {α β γ δ ε ζ η θ : Type} {A : Ac α} {B : Ac β} {C : Ac γ} {D : Ac δ} {G : Ac ε} {H : Ac ζ} {J : Ac η} {M : Ac θ} {F : α → β → γ → δ → ε → ζ → η → θ → RD} (h : ∀ a b c d e u v w, SndP Hp f [A.enc a, B.enc b, C.enc c, D.enc d, G.enc e, H.enc u, J.enc v, M.enc w] (F a b c d e u v w)) : ∀ l r, pf8 A B C D G H J M F l = some (true, r) → SndP Hp f l r := by
  intro l r hl
  unfold pf8 at hl
  split at hl
  · split at hl
    · rename_i a b c d e u v w ha hb hc hd he hu hv hw
      cases hl
      exact snd_mono (h a b c d e u v w) fun F w => fun vs h => h1 ha (fun vs h => h1 hb (fun vs h => h1 hc (fun vs h => h1 hd (fun vs h => h1 he (fun vs h => h1 hu (fun vs h => h1 hv (fun vs h => h1 hw (fun _ h => h) h) h) h) h) h) h) h) h
    · cases hl
  · cases hl

theorem pf8g_ok {α β γ δ ε ζ η θ : Type} {A : Ac α} {B : Ac β} {C : Ac γ} {D : Ac δ} {G : Ac ε} {H : Ac ζ} {J : Ac η} {M : Ac θ} {Gd : α → β → γ → δ → ε → ζ → η → θ → Bool} {F : α → β → γ → δ → ε → ζ → η → θ → RD} (h : ∀ a b c d e u v w, Gd a b c d e u v w = true → SndP Hp f [A.enc a, B.enc b, C.enc c, D.enc d, G.enc e, H.enc u, J.enc v, M.enc w] (F a b c d e u v w)) : ∀ l r, pf8g A B C D G H J M Gd F l = some (true, r) → SndP Hp f l r := by
  intro l r hl
  unfold pf8g at hl
  split at hl
  · split at hl
    · rename_i a b c d e u v w ha hb hc hd he hu hv hw
      simp only [Option.some.injEq, Prod.mk.injEq] at hl
      obtain ⟨hg, rfl⟩ := hl
      exact snd_mono (h a b c d e u v w hg) fun F w => fun vs h => h1 ha (fun vs h => h1 hb (fun vs h => h1 hc (fun vs h => h1 hd (fun vs h => h1 he (fun vs h => h1 hu (fun vs h => h1 hv (fun vs h => h1 hw (fun _ h => h) h) h) h) h) h) h) h) h
    · cases hl
  · cases hl

end

/-! ### Closures -/

def plainS : Sd → Bool
  | .v _ | .sl .. | .r _ => true
  | _ => false
def plainA : AD → Bool
  | .s x => plainS x
  | .agg l => l.all plainS

theorem plainS_holds {F F' : Value} {w : World} {x : Sd} {v : Value} (hp : plainS x = true) (h : x.holds F w v) : x.holds F' w v := by
  cases x <;> first | exact h | cases hp

theorem plainL_holds {F F' : Value} {w : World} : ∀ {l : List Sd} {vs : List Value}, l.all plainS = true → holdsL F w l vs → holdsL F' w l vs
  | [], [], _, _ => trivial
  | x :: l, v :: vs, hp, h => by
    simp only [List.all_cons, Bool.and_eq_true] at hp
    exact ⟨plainS_holds hp.1 h.1, plainL_holds hp.2 h.2⟩
  | [], _ :: _, _, h => h.elim
  | _ :: _, [], _, h => h.elim

theorem plainA_holds {F F' : Value} {w : World} {x : AD} {v : Value} (hp : plainA x = true) (h : x.holds F w v) : x.holds F' w v := by
  cases x with
  | s x => exact plainS_holds hp h
  | agg l =>
    obtain ⟨m, rfl, h⟩ := h
    exact ⟨m, rfl, plainL_holds hp h⟩

theorem plains_holds {F F' : Value} {w : World} : ∀ {l : List AD} {vs : List Value}, l.all plainA = true → holdsA F w l vs → holdsA F' w l vs
  | [], [], _, _ => trivial
  | x :: l, v :: vs, hp, h => by
    simp only [List.all_cons, Bool.and_eq_true] at hp
    exact ⟨plainA_holds hp.1 h.1, plains_holds hp.2 h.2⟩
  | [], _ :: _, _, h => h.elim
  | _ :: _, [], _, h => h.elim

/-- The function that something is known of: of plain arguments 'A' it hands back 'G'. -/
def Comp {α : Type} (A : α → List AD) (G : α → RD) (F : Value) (I : World → Prop) : Prop :=
  ∃ f cs, F = .func (.func f) #[] cs ∧ callable Try.prog f = true ∧ ∀ a w vs, I w → holdsA F w (A a) vs → Calls Try.prog f (vs.toArray ++ cs) w (Comes w (G a))

theorem HoldC.mono {w w' : World} (hb : RowKit.Below w.heap.size w w') : ∀ {bs : List Nat} {cs : List (List Value)}, HoldC w bs cs → HoldC w' bs cs
  | [], [], _ => trivial
  | b :: bs, c :: cs, h => by
    refine ⟨⟨h.1.1, ?_⟩, HoldC.mono hb h.2⟩
    obtain ⟨t, ht⟩ := h.1.2
    exact ⟨t, by rw [hb.block b (Array.getElem?_eq_some_iff.1 ht).1]; exact ht⟩
  | [], _ :: _, h => h.elim
  | _ :: _, [], h => h.elim

/-- A closure, handed over. -/
theorem clo_sound {α : Type} {A : α → List AD} {G : α → RD} (hA : ∀ a, (A a).all plainA = true) {K f : Nat} {cs : List (List Value)} {args : List AD} (hargs : args.all plainA = true) {r : RD} (hcall : callable Try.prog K = true)
    (hbody : ∀ a, Snd K (A a ++ caps cs) (G a)) (h : SndP (Comp A G) f (.s .opq :: args) r) : Snd f (.s (.clo K cs) :: args) r := by
  have hc : callable Try.prog f = true := by
    refine (h (.func (.func K) #[] #[]) (fun _ => False) rfl (fun w w' h _ => h) ⟨K, #[], rfl, hcall, fun a w vs h _ => h.elim⟩).call
  intro F I hF hI _
  refine ⟨hc, fun w vs hw hv => ?_⟩
  match vs, hv with
  | v :: vs, hv =>
    obtain ⟨⟨bs, rfl, hbs⟩, hv⟩ := hv
    have hst : Stab fun w' => I w' ∧ HoldC w' bs cs := fun w w' h hb => ⟨hI w w' h.1 hb, HoldC.mono hb h.2⟩
    have := h (.func (.func K) #[] (bs.map ptr).toArray) (fun w' => I w' ∧ HoldC w' bs cs) rfl hst ⟨K, _, rfl, hcall, fun a w' us hw' hus => by
      have hb := (hbody a F I hF hI trivial).run w' (us ++ bs.map ptr) hw'.1 (holdsA_append (plains_holds (hA a) hus) (caps_holds hw'.2))
      rwa [show (us ++ bs.map ptr).toArray = us.toArray ++ (bs.map ptr).toArray by simp] at hb⟩
    exact this.run w _ ⟨hw, hbs⟩ ⟨⟨rfl, rfl⟩, plains_holds hargs hv⟩

/-- A function that captures nothing, handed over. -/
theorem fn_sound {α : Type} {A : α → List AD} {G : α → RD} (hA : ∀ a, (A a).all plainA = true) {K f : Nat} {args : List AD} (hargs : args.all plainA = true) {r : RD} (hcall : callable Try.prog K = true)
    (hbody : ∀ a, Snd K (A a) (G a)) (h : SndP (Comp A G) f (.s .opq :: args) r) : Snd f (.s (.v (.func (.func K) #[] #[])) :: args) r := by
  have hc : ∀ I, Stab I → Comp A G (.func (.func K) #[] #[]) I → callable Try.prog f = true := fun I hI hC => (h _ I rfl hI hC).call
  intro F I hF hI _
  have hC : Comp A G (.func (.func K) #[] #[]) I := ⟨K, #[], rfl, hcall, fun a w us hw hus => by
    have hb := (hbody a F I hF hI trivial).run w us hw (plains_holds (hA a) hus)
    simpa using hb⟩
  refine ⟨hc I hI hC, fun w vs hw hv => ?_⟩
  match vs, hv with
  | v :: vs, hv =>
    obtain ⟨⟨rfl, _⟩, hv⟩ := hv
    exact (h _ I rfl hI hC).run w _ hw ⟨⟨rfl, rfl⟩, plains_holds hargs hv⟩

/-! ### What a loop keeps, as data -/

/-- A slot's data, just so. -/
structure Vc (α : Type) where
  enc : α → RD
  dec : RD → Option α
  ok : ∀ x a, dec x = some a → x = enc a

def vInt : Vc Int := ⟨fun n => .a (.s (.v (.int .i64 n))), fun x => match x with | .a (.s (.v (.int .i64 n))) => some n | _ => none, fun x a h => by split at h; cases h; rfl; cases h⟩
def vBool : Vc Bool := ⟨fun n => .a (.s (.v (.bool n))), fun x => match x with | .a (.s (.v (.bool n))) => some n | _ => none, fun x a h => by split at h; cases h; rfl; cases h⟩
def vCx : Vc Cx := ⟨fun n => .a (.s (.v (.complex .f64 n.re n.im))), fun x => match x with | .a (.s (.v (.complex .f64 a b))) => some ⟨a, b⟩ | _ => none, fun x a h => by split at h; cases h; rfl; cases h⟩
def vOpq : Vc Unit := ⟨fun _ => .a (.s .opq), fun x => match x with | .a (.s .opq) => some () | _ => none, fun x a h => by split at h; cases h; rfl; cases h⟩
def vS {α : Type} (A : Cd α) : Vc α := ⟨fun a => .a (.agg ((A.enc a).map .v)),
  fun x => match x with
    | .a (.agg l) => match valsD l with
      | some m => match A.dec m with
        | some (a, []) => some a
        | _ => none
      | none => none
    | _ => none,
  fun x a h => by
    split at h
    · split at h
      · rename_i hm
        split at h
        · rename_i ha
          cases h
          have := A.ok _ _ _ ha
          rw [List.append_nil] at this
          rw [valsD_ok hm, this]
        · cases h
      · cases h
    · cases h⟩
def mdEq : Md → Md → Bool
  | .ro, .ro => true
  | .mine none, .mine none => true
  | .mine (some a), .mine (some b) => Nat.beq a b
  | _, _ => false
theorem mdEq_ok : ∀ {a b : Md}, mdEq a b = true → a = b
  | .ro, .ro, _ => rfl
  | .mine none, .mine none, _ => rfl
  | .mine (some a), .mine (some b), h => by rw [Nat.eq_of_beq_eq_true h]
  | .ro, .mine _, h => by cases h
  | .mine none, .ro, h => by cases h
  | .mine (some _), .ro, h => by cases h
  | .mine none, .mine (some _), h => by cases h
  | .mine (some _), .mine none, h => by cases h
def sdSl (k : KN) (m : Md) : Sd → Option (List k.ty)
  | .sl d m' => bif mdEq m' m then
      match KN.same d.k k with
      | some h => some (castL h d.l)
      | none => none
    else none
  | _ => none
theorem sdSl_ok {k : KN} {m : Md} {x : Sd} {l : List k.ty} (h : sdSl k m x = some l) : x = .sl ⟨k, l⟩ m := by
  unfold sdSl at h
  split at h
  · rename_i d m'
    cases hm : mdEq m' m with
    | false => simp [hm] at h
    | true =>
      simp only [hm, cond_true] at h
      split at h
      · rename_i hk _
        cases h
        obtain ⟨dk, dl⟩ := d
        obtain ⟨hk⟩ := hk
        simp only at hk
        subst hk
        rw [mdEq_ok hm]
        rfl
      · cases h
  · cases h
def vSl (k : KN) (m : Md) : Vc (List k.ty) := ⟨fun l => .a (.s (.sl ⟨k, l⟩ m)), fun x => match x with | .a (.s y) => sdSl k m y | _ => none, fun x a h => by
  split at h
  · rw [sdSl_ok h]
  · cases h⟩
def vP (i off : Nat) : Vc Unit := ⟨fun _ => .a (.s (.p i off)), fun x => match x with | .a (.s (.p i' off')) => bif Nat.beq i' i && Nat.beq off' off then some () else none | _ => none, fun x a h => by
  split at h
  · rename_i i' off'
    cases hb : (Nat.beq i' i && Nat.beq off' off) with
    | false => rw [hb] at h; cases h
    | true =>
      simp only [Bool.and_eq_true] at hb
      rw [Nat.eq_of_beq_eq_true hb.1, Nat.eq_of_beq_eq_true hb.2]
  · cases h⟩

/-- A block's data. -/
structure Bc (α : Type) where
  enc : α → List Sd
  dec : List Sd → Option α
  ok : ∀ x a, dec x = some a → x = enc a

def bS {α : Type} (A : Cd α) : Bc α := ⟨fun a => (A.enc a).map .v,
  fun l => match valsD l with
    | some m => match A.dec m with
      | some (a, []) => some a
      | _ => none
    | none => none,
  fun x a h => by
    split at h
    · rename_i hm
      split at h
      · rename_i ha
        cases h
        have := A.ok _ _ _ ha
        rw [List.append_nil] at this
        rw [valsD_ok hm, this]
      · cases h
    · cases h⟩
/-- A block that holds a slice and plain cells behind it. -/
def bSlS {α : Type} (k : KN) (m : Md) (A : Cd α) : Bc (List k.ty × α) := ⟨fun a => .sl ⟨k, a.1⟩ m :: (A.enc a.2).map .v,
  fun l => match l with
    | x :: l => match sdSl k m x, valsD l with
      | some s, some v => match A.dec v with
        | some (a, []) => some (s, a)
        | _ => none
      | _, _ => none
    | [] => none,
  fun x a h => by
    split at h
    · split at h
      · rename_i h1 h2
        split at h
        · rename_i ha
          cases h
          have := A.ok _ _ _ ha
          rw [List.append_nil] at this
          rw [valsD_ok h2, sdSl_ok h1, this]
        · cases h
      · cases h
    · cases h⟩

/-- Slots, one behind the other. -/
structure VL (α : Type) where
  ks : List Nat
  enc : α → List RD
  dec : List RD → Option α
  ok : ∀ x a, dec x = some a → x = enc a

def VL.one {α : Type} (t : Nat) (c : Vc α) : VL α := ⟨[t], fun a => [c.enc a], fun l => match l with | [x] => c.dec x | _ => none, fun x a h => by
  split at h
  · rw [c.ok _ _ h]
  · cases h⟩
def VL.cons {α β : Type} (t : Nat) (c : Vc α) (r : VL β) : VL (α × β) := ⟨t :: r.ks, fun a => c.enc a.1 :: r.enc a.2,
  fun l => match l with
    | x :: l => match c.dec x, r.dec l with
      | some a, some b => some (a, b)
      | _, _ => none
    | [] => none,
  fun x a h => by
    split at h
    · split at h
      · rename_i h1 h2
        cases h
        rw [c.ok _ _ h1, r.ok _ _ h2]
      · cases h
    · cases h⟩
/-- A slot that holds an address. -/
def VL.adr {β : Type} (t i : Nat) (r : VL β) : VL β := ⟨t :: r.ks, fun a => (vP i 0).enc () :: r.enc a,
  fun l => match l with
    | x :: l => match (vP i 0).dec x with
      | some _ => r.dec l
      | none => none
    | [] => none,
  fun x a h => by
    split at h
    · split at h
      · rename_i h1
        rw [(vP i 0).ok _ _ h1, r.ok _ _ h]
      · cases h
    · cases h⟩

/-- Blocks, one behind the other. -/
structure BL (α : Type) where
  hs : List Nat
  enc : α → List (List Sd)
  dec : List (List Sd) → Option α
  ok : ∀ x a, dec x = some a → x = enc a

def BL.one {α : Type} (t : Nat) (c : Bc α) : BL α := ⟨[t], fun a => [c.enc a], fun l => match l with | [x] => c.dec x | _ => none, fun x a h => by
  split at h
  · rw [c.ok _ _ h]
  · cases h⟩
def BL.cons {α β : Type} (t : Nat) (c : Bc α) (r : BL β) : BL (α × β) := ⟨t :: r.hs, fun a => c.enc a.1 :: r.enc a.2,
  fun l => match l with
    | x :: l => match c.dec x, r.dec l with
      | some a, some b => some (a, b)
      | _, _ => none
    | [] => none,
  fun x a h => by
    split at h
    · split at h
      · rename_i h1 h2
        cases h
        rw [c.ok _ _ h1, r.ok _ _ h2]
      · cases h
    · cases h⟩

/-- A view of slots. -/
def view0 {α : Type} (v : VL α) (n : Nat) (nk : Option (KN × Nat)) : View α := ⟨v.ks, [], n, nk, v.enc, fun _ => []⟩
def dec0 {α : Type} (v : VL α) (p : List RD × List (List Sd)) : Option α := match p with
  | (x, []) => v.dec x
  | _ => none
theorem dec0_ok {α : Type} (v : VL α) (n : Nat) (nk : Option (KN × Nat)) : ∀ p x, dec0 v p = some x → p = ((view0 v n nk).fv x, (view0 v n nk).hv x) := by
  intro p x h
  unfold dec0 at h
  split at h
  · rw [v.ok _ _ h]; rfl
  · cases h

/-- A view of slots and blocks. -/
def view1 {α β : Type} (v : VL α) (b : BL β) (n : Nat) (nk : Option (KN × Nat)) : View (α × β) := ⟨v.ks, b.hs, n, nk, fun x => v.enc x.1, fun x => b.enc x.2⟩
def dec1 {α β : Type} (v : VL α) (b : BL β) (p : List RD × List (List Sd)) : Option (α × β) := match v.dec p.1, b.dec p.2 with
  | some x, some y => some (x, y)
  | _, _ => none
theorem dec1_ok {α β : Type} (v : VL α) (b : BL β) (n : Nat) (nk : Option (KN × Nat)) : ∀ p x, dec1 v b p = some x → p = ((view1 v b n nk).fv x, (view1 v b n nk).hv x) := by
  intro p x h
  unfold dec1 at h
  split at h
  · rename_i h1 h2
    cases h
    obtain ⟨p1, p2⟩ := p
    simp only at h1 h2
    rw [v.ok _ _ h1, b.ok _ _ h2]
    rfl
  · cases h

end Go.Proofs.Ytmmlpaehehgfnaa.Sx
