/-
  What this text proves: loops, round by round, as plain functions ('runT', 'loop_fin'), and more kinds of data for contracts.
  Conditions: none.
-/
import Derived.Test.YtmmlpaehehgfnaaFn
namespace Go.Proofs.Ytmmlpaehehgfnaa.Sx
set_option linter.unusedSimpArgs false
set_option linter.unusedVariables false

instance : Inhabited Ex := ⟨.normal⟩

def exEq : Ex → Ex → Bool
  | .normal, .normal => true
  | .exit i, .exit j => Nat.beq i j
  | .goto i, .goto j => Nat.beq i j
  | .ret, .ret => true
  | _, _ => false

theorem exEq_ok : ∀ {a b : Ex}, exEq a b = true → a = b
  | .normal, .normal, _ => rfl
  | .exit i, .exit j, h => by rw [Nat.eq_of_beq_eq_true h]
  | .goto i, .goto j, h => by rw [Nat.eq_of_beq_eq_true h]
  | .ret, .ret, _ => rfl
  | .normal, .exit _, h => by cases h
  | .normal, .goto _, h => by cases h
  | .normal, .ret, h => by cases h
  | .exit _, .normal, h => by cases h
  | .exit _, .goto _, h => by cases h
  | .exit _, .ret, h => by cases h
  | .goto _, .normal, h => by cases h
  | .goto _, .exit _, h => by cases h
  | .goto _, .ret, h => by cases h
  | .ret, .normal, h => by cases h
  | .ret, .exit _, h => by cases h
  | .ret, .goto _, h => by cases h

section
variable {α : Type} [Inhabited α]

/-- Round by round, as long as the rounds end at their end. -/
def runT (T : α → Tr (Ex × α)) : Nat → α → Ex × α
  | 0, x => (T x).ev
  | n + 1, x => match (T x).ev with
    | (.normal, y) => runT T n y
    | (.exit i, y) => (.exit i, y)
    | (.goto l, y) => (.goto l, y)
    | (.ret, y) => (.ret, y)

def byEx : List Ex → Ex × α → Tr (Ex × α)
  | [], _ => .f
  | [e], p => .l (e, p.2)
  | e :: es, p => .n (exEq p.1 e) (.l (e, p.2)) (byEx es p)

def finT (T : α → Tr (Ex × α)) (M : α → Nat) (exs : List Ex) (x : α) : Tr (Ex × α) := byEx exs (runT T (M x) x)

def LoopStep (exs : List Ex) (G : α → Bool) (M : α → Nat) (x : α) : Option (Ex × α) → Prop
  | some (.normal, y) => G y = true ∧ M y < M x
  | some (e, _) => exs.any (fun e' => exEq e e') = true
  | none => False

 omit [Inhabited α] in
theorem byEx_run : ∀ {exs : List Ex} {p : Ex × α}, exs.any (fun e' => exEq p.1 e') = true → (byEx exs p).run = some p
  | [e], p, h => by
    simp only [List.any_cons, List.any_nil, Bool.or_false] at h
    simp only [byEx, Tr.run_l]
    rw [← exEq_ok h]
  | e :: e2 :: es, p, h => by
    simp only [byEx, Tr.run_n, Tr.run_l]
    by_cases h1 : exEq p.1 e = true
    · rw [if_pos h1, ← exEq_ok h1]
    · rw [if_neg h1]
      refine byEx_run ?_
      rw [List.any_cons] at h
      simpa [h1] using h

variable {T : α → Tr (Ex × α)} {exs : List Ex} {G : α → Bool} {M : α → Nat}

theorem runT_next (hs : ∀ x, G x = true → LoopStep exs G M x (T x).run) : ∀ (n : Nat) (x : α), G x = true → M x ≤ n → runT T n x = runT T (M x) x ∧ exs.any (fun e' => exEq (runT T (M x) x).1 e') = true := by
  have key : ∀ (m : Nat) (x : α), G x = true → M x ≤ m → ∀ n, M x ≤ n → (∀ n', M x ≤ n' → runT T n x = runT T n' x) ∧ exs.any (fun e' => exEq (runT T n x).1 e') = true := by
    intro m
    induction m with
    | zero =>
      intro x hg hm n hn
      have h1 := hs x hg
      cases hr : (T x).run with
      | none => rw [hr] at h1; exact h1.elim
      | some p =>
        have he := Tr.run_of hr
        rw [hr] at h1
        have hrun : ∀ n, runT T n x = p := by
          intro n
          cases n with
          | zero => exact he
          | succ n =>
            obtain ⟨e, y⟩ := p
            simp only [runT, he]
            cases e with
            | normal => exact absurd h1.2 (by omega)
            | _ => rfl
        refine ⟨fun n' _ => by rw [hrun, hrun], ?_⟩
        rw [hrun]
        obtain ⟨e, y⟩ := p
        cases e with
        | normal => exact absurd h1.2 (by omega)
        | _ => exact h1
    | succ m ih =>
      intro x hg hm n hn
      have h1 := hs x hg
      cases hr : (T x).run with
      | none => rw [hr] at h1; exact h1.elim
      | some p =>
        have he := Tr.run_of hr
        rw [hr] at h1
        obtain ⟨e, y⟩ := p
        cases e with
        | normal =>
          obtain ⟨g1, g2⟩ := h1
          have hstep : ∀ n, M x ≤ n → ∃ k, M y ≤ k ∧ runT T n x = runT T k y := by
            intro n hn
            cases n with
            | zero => omega
            | succ n => exact ⟨n, by omega, by simp only [runT, he]⟩
          obtain ⟨k, hk, e1⟩ := hstep n hn
          refine ⟨fun n' hn' => ?_, ?_⟩
          · obtain ⟨k', hk', e2⟩ := hstep n' hn'
            rw [e1, e2]
            exact (ih y g1 (by omega) k hk).1 k' hk'
          · rw [e1]; exact (ih y g1 (by omega) k hk).2
        | exit i =>
          have hrun : ∀ n, runT T n x = (.exit i, y) := by
            intro n; cases n <;> simp only [runT, he]
          exact ⟨fun n' _ => by rw [hrun, hrun], by rw [hrun]; exact h1⟩
        | goto i =>
          have hrun : ∀ n, runT T n x = (.goto i, y) := by
            intro n; cases n <;> simp only [runT, he]
          exact ⟨fun n' _ => by rw [hrun, hrun], by rw [hrun]; exact h1⟩
        | ret =>
          have hrun : ∀ n, runT T n x = (.ret, y) := by
            intro n; cases n <;> simp only [runT, he]
          exact ⟨fun n' _ => by rw [hrun, hrun], by rw [hrun]; exact h1⟩
  intro n x hg hn
  have h := key (M x) x hg (Nat.le_refl _) n hn
  exact ⟨h.1 _ (Nat.le_refl _), (key (M x) x hg (Nat.le_refl _) (M x) (Nat.le_refl _)).2⟩

/-- One round more. -/
theorem runT_step (hs : ∀ x, G x = true → LoopStep exs G M x (T x).run) {x y : α} (hg : G x = true) (hr : (T x).ev = (.normal, y)) : runT T (M x) x = runT T (M y) y := by
  have h1 := hs x hg
  cases hr' : (T x).run with
  | none => rw [hr'] at h1; exact h1.elim
  | some p =>
    rw [Tr.run_of hr'] at hr
    subst hr
    rw [hr'] at h1
    obtain ⟨g1, g2⟩ := h1
    cases hM : M x with
    | zero => omega
    | succ n =>
      simp only [runT, Tr.run_of hr']
      exact (runT_next hs n y g1 (by omega)).1

theorem runT_exit {x : α} {p : Ex × α} (h : (T x).ev = p) (he : ∀ y, p ≠ (.normal, y)) (n : Nat) : runT T n x = p := by
  obtain ⟨e, y⟩ := p
  cases n with
  | zero => exact h
  | succ n =>
    simp only [runT, h]
    cases e with
    | normal => exact absurd rfl (he y)
    | _ => rfl

theorem loop_fin (T : α → Tr (Ex × α)) (exs : List Ex) (G : α → Bool) (M : α → Nat) (hs : ∀ x, G x = true → LoopStep exs G M x (T x).run) (x : α) (hg : G x = true) :
    StepOk (fun x => (finT T M exs x).run) (fun x => G x = true) M x (T x).run := by
  have h1 := hs x hg
  have hf : ∀ x, G x = true → (finT T M exs x).run = some (runT T (M x) x) := fun x hg => byEx_run (runT_next hs (M x) x hg (Nat.le_refl _)).2
  cases hr : (T x).run with
  | none => rw [hr] at h1; exact h1.elim
  | some p =>
    have he := Tr.run_of hr
    rw [hr] at h1
    obtain ⟨e, y⟩ := p
    cases e with
    | normal =>
      obtain ⟨g1, g2⟩ := h1
      refine ⟨g1, g2, ?_⟩
      simp only
      rw [hf x hg, hf y g1, runT_step hs hg he]
    | exit i => exact ⟨by simp, by simp only; rw [hf x hg, runT_exit he (by simp)]⟩
    | goto i => exact ⟨by simp, by simp only; rw [hf x hg, runT_exit he (by simp)]⟩
    | ret => exact ⟨by simp, by simp only; rw [hf x hg, runT_exit he (by simp)]⟩
end

theorem run_of_ne {α : Type} [Inhabited α] {t : Tr α} (h : t.run ≠ none) : t.run = some t.ev := by
  cases hr : t.run with
  | none => exact absurd hr h
  | some x => rw [Tr.run_of hr]

/-- At each leaf. -/
def Tr.allL {α : Type} (P : α → Prop) : Tr α → Prop
  | .l x => P x
  | .f => False
  | .n b t e => (b = true → t.allL P) ∧ (b = false → e.allL P)

theorem Tr.allL_run {α : Type} {P : Option α → Prop} : ∀ {t : Tr α}, t.allL (fun x => P (some x)) → P t.run
  | .l x, h => h
  | .f, h => h.elim
  | .n b t e, h => by
    cases b
    · exact Tr.allL_run (t := e) (h.2 rfl)
    · exact Tr.allL_run (t := t) (h.1 rfl)

/-- .. where there is one. -/
def Tr.allO {α : Type} (P : α → Prop) : Tr α → Prop
  | .l x => P x
  | .f => True
  | .n b t e => (b = true → t.allO P) ∧ (b = false → e.allO P)

theorem Tr.allO_run {α : Type} {P : Option α → Prop} (hn : P none) : ∀ {t : Tr α}, t.allO (fun x => P (some x)) → P t.run
  | .l x, h => h
  | .f, h => hn
  | .n b t e, h => by
    cases b
    · exact Tr.allO_run hn (t := e) (h.2 rfl)
    · exact Tr.allO_run hn (t := t) (h.1 rfl)

/-! ### Loops whose rounds may come to nothing -/

section
variable {α : Type} [Inhabited α]

def runO (T : α → Tr (Ex × α)) : Nat → α → Option (Ex × α)
  | 0, x => match (T x).run with
    | some (.normal, _) => none
    | r => r
  | n + 1, x => match (T x).run with
    | some (.normal, y) => runO T n y
    | r => r

def okO (exs : List Ex) : Option (Ex × α) → Bool
  | some p => exs.any fun e' => exEq p.1 e'
  | none => false

def finO (T : α → Tr (Ex × α)) (M : α → Nat) (exs : List Ex) (x : α) : Tr (Ex × α) := byEx exs ((runO T (M x) x).getD default)

/-- A round that ends at its end leads on. -/
def StepO (G : α → Bool) (M : α → Nat) (x : α) : Option (Ex × α) → Prop
  | some (.normal, y) => G y = true ∧ M y < M x
  | _ => True

variable {T : α → Tr (Ex × α)} {exs : List Ex} {G : α → Bool} {M : α → Nat}

 omit [Inhabited α] in
theorem runO_fuel (hs : ∀ x, G x = true → StepO G M x (T x).run) : ∀ (n : Nat) (x : α) (p : Ex × α), G x = true → runO T n x = some p → ∀ m, M x ≤ m → runO T m x = some p := by
  intro n
  induction n with
  | zero =>
    intro x p hg h m hm
    have h1 := hs x hg
    simp only [runO] at h
    cases hr : (T x).run with
    | none => rw [hr] at h; cases h
    | some q =>
      obtain ⟨e, y⟩ := q
      rw [hr] at h
      cases e <;> first | (cases h; done) | (cases m <;> simp only [runO, hr] <;> exact h)
  | succ n ih =>
    intro x p hg h m hm
    have h1 := hs x hg
    simp only [runO] at h
    cases hr : (T x).run with
    | none => rw [hr] at h; cases h
    | some q =>
      obtain ⟨e, y⟩ := q
      rw [hr] at h h1
      cases e with
      | normal =>
        obtain ⟨g1, g2⟩ := h1
        cases m with
        | zero => omega
        | succ m => simp only [runO, hr]; exact ih y p g1 h m (by omega)
      | _ => cases m <;> simp only [runO, hr] <;> exact h

 omit [Inhabited α] in
theorem runO_inv {P : α → Prop} (h : ∀ x e y, P x → (T x).run = some (e, y) → P y) : ∀ (n : Nat) (x : α) (p : Ex × α), P x → runO T n x = some p → P p.2 := by
  intro n
  induction n with
  | zero =>
    intro x p hx hr
    simp only [runO] at hr
    cases ht : (T x).run with
    | none => rw [ht] at hr; cases hr
    | some q =>
      obtain ⟨e, y⟩ := q
      rw [ht] at hr
      cases e <;> first | (cases hr; done) | (cases hr; exact h x _ y hx ht)
  | succ n ih =>
    intro x p hx hr
    simp only [runO] at hr
    cases ht : (T x).run with
    | none => rw [ht] at hr; cases hr
    | some q =>
      obtain ⟨e, y⟩ := q
      rw [ht] at hr
      cases e with
      | normal => exact ih y p (h x _ y hx ht) hr
      | _ => cases hr; exact h x _ y hx ht

/-- What is so of a state that a loop's guard lets in is so of the state behind it. -/
theorem okO_inv {P : α → Prop} (h : ∀ x e y, P x → (T x).run = some (e, y) → P y) {x : α} {n : Nat} {exs : List Ex} (hg : okO exs (runO T n x) = true) (hx : P x) : P ((runO T n x).getD default).2 := by
  cases hr : runO T n x with
  | none => rw [hr] at hg; cases hg
  | some p => exact runO_inv h n x p hx hr

theorem loop_finO (T : α → Tr (Ex × α)) (exs : List Ex) (G : α → Bool) (M : α → Nat) (hs : ∀ x, G x = true → StepO G M x (T x).run) (x : α) (hg : (G x && okO exs (runO T (M x) x)) = true) :
    StepOk (fun x => (finO T M exs x).run) (fun x => (G x && okO exs (runO T (M x) x)) = true) M x (T x).run := by
  have hf : ∀ x, (G x && okO exs (runO T (M x) x)) = true → ∃ p, runO T (M x) x = some p ∧ (finO T M exs x).run = some p := by
    intro x hg
    rw [Bool.and_eq_true] at hg
    cases hr : runO T (M x) x with
    | none => rw [hr] at hg; cases hg.2
    | some p =>
      rw [hr] at hg
      exact ⟨p, rfl, by simp only [finO, hr, Option.getD_some]; exact byEx_run hg.2⟩
  obtain ⟨p, hp, hfp⟩ := hf x hg
  have hg' := hg
  rw [Bool.and_eq_true] at hg'
  have h1 := hs x hg'.1
  cases hr : (T x).run with
  | none =>
    exfalso
    cases hm : M x <;> rw [hm] at hp <;> simp only [runO, hr] at hp <;> cases hp
  | some q =>
    obtain ⟨e, y⟩ := q
    rw [hr] at h1
    cases e with
    | normal =>
      obtain ⟨g1, g2⟩ := h1
      have hy : runO T (M y) y = some p := by
        cases hm : M x with
        | zero => omega
        | succ n =>
          rw [hm] at hp
          simp only [runO, hr] at hp
          exact runO_fuel hs n y p g1 hp (M y) (Nat.le_refl _)
      have hgy : (G y && okO exs (runO T (M y) y)) = true := by
        rw [Bool.and_eq_true]
        refine ⟨g1, ?_⟩
        rw [hy]
        rw [hp] at hg'
        exact hg'.2
      refine ⟨hgy, g2, ?_⟩
      obtain ⟨p', hp', hfp'⟩ := hf y hgy
      rw [hy] at hp'
      cases hp'
      simp only [hfp, hfp']
    | exit i =>
      have : p = (.exit i, y) := by
        cases hm : M x <;> rw [hm] at hp <;> simp only [runO, hr] at hp <;> cases hp <;> rfl
      subst this
      exact ⟨by simp, hfp⟩
    | goto i =>
      have : p = (.goto i, y) := by
        cases hm : M x <;> rw [hm] at hp <;> simp only [runO, hr] at hp <;> cases hp <;> rfl
      subst this
      exact ⟨by simp, hfp⟩
    | ret =>
      have : p = (.ret, y) := by
        cases hm : M x <;> rw [hm] at hp <;> simp only [runO, hr] at hp <;> cases hp <;> rfl
      subst this
      exact ⟨by simp, hfp⟩
end

theorem run_of_some {α : Type} [Inhabited α] {t : Tr α} (h : t.run.isSome = true) : t.run = some t.ev := by
  obtain ⟨x, hx⟩ := Option.isSome_iff_exists.1 h
  rw [hx, Tr.run_of hx]

def pf0g (Gd : Bool) (F : RD) : Pf
  | [] => some (Gd, F)
  | _ => none

theorem pf0g_ok {Hp : Value → (World → Prop) → Prop} {f : FuncId} {Gd : Bool} {F : RD} (h : Gd = true → SndP Hp f [] F) : ∀ l r, pf0g Gd F l = some (true, r) → SndP Hp f l r := by
  intro l r hl
  unfold pf0g at hl
  split at hl
  · simp only [Option.some.injEq, Prod.mk.injEq] at hl
    obtain ⟨hg, rfl⟩ := hl
    exact h hg
  · cases hl

/-! ### More data -/

def vByte : Vc Int := ⟨fun n => .a (.s (.v (.int .u8 n))), fun x => match x with | .a (.s (.v (.int .u8 n))) => some n | _ => none, fun x a h => by split at h; cases h; rfl; cases h⟩
def vStr : Vc ByteArray := ⟨fun n => .a (.s (.v (.string n))), fun x => match x with | .a (.s (.v (.string n))) => some n | _ => none, fun x a h => by split at h; cases h; rfl; cases h⟩
def vFlo : Vc Nat := ⟨fun n => .a (.s (.v (.float .f64 n))), fun x => match x with | .a (.s (.v (.float .f64 n))) => some n | _ => none, fun x a h => by split at h; cases h; rfl; cases h⟩
def acByte : Ac Int := acOf (fun n => .s (.v (.int .u8 n))) (fun x => match x with | .s (.v (.int .u8 n)) => some n | _ => none)
  (fun x a h => by split at h; cases h; rfl; cases h) (fun _ => rfl)

/-- A block that holds a slice alone. -/
def bSl (k : KN) (m : Md) : Bc (List k.ty) := ⟨fun a => [.sl ⟨k, a⟩ m],
  fun l => match l with
    | [x] => sdSl k m x
    | _ => none,
  fun x a h => by
    split at h
    · rw [sdSl_ok h]
    · cases h⟩

def bSys (m : Md) : Bc Sys := ⟨fun a => .sl ⟨.surf, a.surfs⟩ m :: (cdIv.enc a.open_).map .v,
  fun l => match l with
    | x :: l => match sdSl .surf m x, valsD l with
      | some s, some v => match cdIv.dec v with
        | some (a, []) => some ⟨s, a⟩
        | _ => none
      | _, _ => none
    | [] => none,
  fun x a h => by
    split at h
    · split at h
      · rename_i h1 h2
        split at h
        · rename_i ha
          cases h
          have := cdIv.ok _ _ _ ha
          rw [List.append_nil] at this
          rw [valsD_ok h2, sdSl_ok h1, this]
        · cases h
      · cases h
    · cases h⟩

abbrev w64 (n : Int) : Int := IntKind.i64.wrap n
abbrev w8 (n : Int) : Int := IntKind.u8.wrap n

/-! ### Floats -/

abbrev flI (n : Int) : Nat := FloatKind.f64.nearest n
abbrev flOk (op : BinOp) (a b : Nat) : Bool := (floatBits op .f64 a b).isSome
abbrev fl (op : BinOp) (a b : Nat) : Nat := (floatBits op .f64 a b).getD 0
abbrev toIOk (b : Nat) : Bool := (floatToIntVal .f64 b .i64).isSome
abbrev toI (b : Nat) : Int := (floatToIntVal .f64 b .i64).getD 0
def cxR (op : BinOp) (a b c d : Nat) : Option (Nat × Nat) := match op with
  | .add => cSumBits .add .f64 a b c d
  | .sub => cSumBits .sub .f64 a b c d
  | .mul => cMulBits a b c d
  | _ => none
abbrev cxOk (op : BinOp) (a b c d : Nat) : Bool := (cxR op a b c d).isSome
abbrev cx (op : BinOp) (a b c d : Nat) : Nat × Nat := (cxR op a b c d).getD (0, 0)
abbrev cxEq (a b c d : Nat) : Bool := Op.floatEq .f64 a c && Op.floatEq .f64 b d
def flCmp (op : BinOp) (a b : Nat) : Bool := match op with
  | .eql => Op.floatEq .f64 a b
  | .neq => !Op.floatEq .f64 a b
  | .lss => FloatKind.f64.format.order a b == some .lt
  | .leq => FloatKind.f64.format.order a b == some .lt || FloatKind.f64.format.order a b == some .eq
  | .gtr => FloatKind.f64.format.order a b == some .gt
  | .geq => FloatKind.f64.format.order a b == some .gt || FloatKind.f64.format.order a b == some .eq
  | _ => false
abbrev flMOk (a b : Nat) : Bool := (FloatKind.f64.format.order a b).isSome
abbrev flMax (a b : Nat) : Nat := fMax .f64 a b
abbrev flMin (a b : Nat) : Nat := fMin .f64 a b

/-! ### Equal, cell by cell -/

def eqIv (a b : Iv) : Bool := a.lo == b.lo && (a.hi == b.hi && (a.no == b.no && true))
def eqV3 (a b : V3) : Bool := a.x.lo == b.x.lo && (a.x.hi == b.x.hi && (a.x.no == b.x.no && (a.y.lo == b.y.lo && (a.y.hi == b.y.hi && (a.y.no == b.y.no && (a.z.lo == b.z.lo && (a.z.hi == b.z.hi && (a.z.no == b.z.no && true))))))))
def eqRay (a b : Ray) : Bool := a.o.x.lo == b.o.x.lo && (a.o.x.hi == b.o.x.hi && (a.o.x.no == b.o.x.no && (a.o.y.lo == b.o.y.lo && (a.o.y.hi == b.o.y.hi && (a.o.y.no == b.o.y.no && (a.o.z.lo == b.o.z.lo && (a.o.z.hi == b.o.z.hi && (a.o.z.no == b.o.z.no && (a.d.x.lo == b.d.x.lo && (a.d.x.hi == b.d.x.hi && (a.d.x.no == b.d.x.no && (a.d.y.lo == b.d.y.lo && (a.d.y.hi == b.d.y.hi && (a.d.y.no == b.d.y.no && (a.d.z.lo == b.d.z.lo && (a.d.z.hi == b.d.z.hi && (a.d.z.no == b.d.z.no && true)))))))))))))))))
def eqPair (a b : Pair) : Bool := a.x == b.x && (a.y == b.y && true)
def eqDec (a b : Dec) : Bool := a.c == b.c && (a.scale == b.scale && true)
def eqReport (a b : Report) : Bool := a.sure == b.sure && (a.maybe_ == b.maybe_ && (a.all == b.all && (a.some_ == b.some_ && (cxEq a.low.re a.low.im b.low.re b.low.im && (cxEq a.high.re a.high.im b.high.re b.high.im && true)))))
abbrev ivEq := eqIv

end Go.Proofs.Ytmmlpaehehgfnaa.Sx
