/-
  What this text proves: an evaluator of the model's code over abstract frames and blocks, 'evG': here its one operation ('opD', 'opK').
  Conditions: the tables of types and the contracts of the functions that are called are handed to it ('TEok', 'EnvOk').
-/
import Derived.Test.YtmmlpaehehgfnaaKn
import Derived.Laws.ComplexArith
namespace Go.Proofs.Ytmmlpaehehgfnaa.Sx
open Go.RowKit
set_option linter.unusedSimpArgs false
set_option linter.unusedVariables false

/-! ### Data that are handed over -/

/-- A slice's row: read alone, or of the call's own (perhaps of a type that is known). -/
inductive Md where
  | ro
  | mine (e : Option Nat)

/-- A cell that is handed over: plain; a slice; a pointer to a block that is read alone; the function that nothing is known of; a closure and what its blocks hold; a pointer to one's own block. -/
inductive Sd where
  | v (x : Value)
  | sl (d : Dat) (m : Md)
  | r (cs : List Value)
  | opq
  | clo (f : FuncId) (caps : List (List Value))
  | p (id off : Nat)

inductive AD where
  | s (x : Sd)
  | agg (l : List Sd)

inductive RD where
  | a (x : AD)
  | tup (l : List AD)

/-! ### Values over names of blocks -/

/-- A value of one cell: a plain one; a pointer to a block; a slice; a pointer into a slice's row (its element, the offset there); a closure over blocks; the function that nothing is known of. -/
inductive Sc where
  | v (x : Value)
  | p (id off : Nat)
  | sl (id : Nat)
  | e (id sz idx off : Nat)
  | fn (f : FuncId) (caps : List Nat)
  | opq

inductive AV where
  | s (x : Sc)
  | agg (l : List Sc)

inductive FV where
  | a (x : AV)
  | tup (l : List AV)
  | bad

/-- The function that nothing is known of; which blocks that were there may be written; what is deferred; which block the first name stands for. -/
structure FM where
  f : Value
  m : Nat → Prop
  d : List Deferred
  p : Option Nat

def noM : Nat → Prop := fun _ => False
abbrev fm (f : Value) : FM := ⟨f, noM, [], none⟩

/-- What names stand for. -/
structure Nm where
  b : Nat → Nat
  s : Nat → Value
  f : FM

def slAdr : Value → Nat → Option Addr
  | .slice (some ⟨b, o, _⟩) _ _, k => some ⟨b, o + k, none⟩
  | _, _ => none

def ptr (b : Nat) : Value := .pointer (some ⟨b, 0, none⟩)

def Sc.con (ρ : Nm) : Sc → Value
  | .v x => x
  | .p i off => .pointer (some ⟨ρ.b i, off, none⟩)
  | .sl i => ρ.s i
  | .e i sz idx off => .pointer (slAdr (ρ.s i) (idx * sz + off))
  | .fn f caps => .func (.func f) #[] (caps.map fun i => ptr (ρ.b i)).toArray
  | .opq => ρ.f.f

def AV.con (ρ : Nm) : AV → Value
  | .s x => x.con ρ
  | .agg l => .agg (l.map (Sc.con ρ)).toArray

def FV.con (ρ : Nm) : FV → Value
  | .a x => x.con ρ
  | .tup l => .tuple (l.map (AV.con ρ)).toArray
  | .bad => .nilFunc

def AV.cells : AV → List Sc
  | .s x => [x]
  | .agg l => l

def FV.scs : FV → List Sc
  | .a x => x.cells
  | .tup l => l.flatMap AV.cells
  | .bad => []

def undefF : FV := .tup []

/-! ### Frames -/

def upd {α : Type} (f : Nat → α) (k : Nat) (v : α) : Nat → α := fun t => bif Nat.beq t k then v else f t

theorem upd_same {α : Type} (f : Nat → α) (k : Nat) (v : α) : upd f k v k = v := by simp [upd]
theorem beq_ne {t k : Nat} (h : t ≠ k) : Nat.beq t k = false := by
  cases hb : Nat.beq t k with
  | false => rfl
  | true => exact absurd (Nat.eq_of_beq_eq_true hb) h
theorem upd_ne {α : Type} {f : Nat → α} {k t : Nat} {v : α} (h : t ≠ k) : upd f k v t = f t := by
  simp [upd, beq_ne h]
theorem upd_comm {α : Type} (f : Nat → α) {i j : Nat} (u v : α) (h : i ≠ j) : upd (upd f i u) j v = upd (upd f j v) i u := by
  funext t
  by_cases h1 : t = i
  · subst h1; rw [upd_ne h, upd_same, upd_same]
  · by_cases h2 : t = j
    · subst h2; rw [upd_same, upd_ne h1, upd_same]
    · rw [upd_ne h2, upd_ne h1, upd_ne h1, upd_ne h2]

/-- A block: of the call's own; read alone; a slice; a slice's name that is no more (its row has grown). -/
inductive Bk where
  | own (cs : List Sc)
  | ro (cs : List Value)
  | sl (d : Dat) (m : Md)
  | dead

structure St where
  fr : Nat → FV
  hp : Nat → Option Bk
  nx : Nat

inductive Eff where
  | no
  | new (b : Bk)
  | set (i : Nat) (b : Bk)
  | app (i : Nat) (b : Bk)

def Eff.on (e : Eff) (id : Nat) (hp : Nat → Option Bk) : Nat → Option Bk :=
  match e with
  | .no => hp
  | .new b => upd hp id (some b)
  | .set i b => upd hp i (some b)
  | .app i b => upd (upd hp i (some .dead)) id (some b)

def putF (fr : Nat → FV) (dst : Option Tmp) (v : FV) : Nat → FV :=
  match dst with
  | some d => upd fr d v
  | none => fr

/-! ### Types -/

/-- What a type is: plain; a struct (of each field: offset, size, is it made of cells?); an array (length, an element's size, is it made of cells?); a slice (its elements' kind, their bytes). -/
inductive TK where
  | scal
  | str (fl : List (Nat × Nat × Bool))
  | arr (n sz : Nat) (agg : Bool)
  | slc (k : KN) (by_ el : Nat)

structure TE where
  t : Nat
  k : TK
  size : Nat
  zero : List Value

def TK.agg : TK → Bool
  | .str _ | .arr .. => true
  | _ => false

def descAgg : Option TypeDesc → Bool
  | some (.struct _) | some (.array ..) => true
  | _ => false

def tdesc (P : Program) (t : Nat) : Option TK :=
  match P.underlying t with
  | some (.struct fs) => some (.str (fs.toList.map fun f => (f.offset, P.cellsOf f.type, descAgg (P.underlying f.type))))
  | some (.array n el) => some (.arr n (P.cellsOf el) (descAgg (P.underlying el)))
  | some _ => some .scal
  | none => none

def TK.plain : TK → TK
  | .slc .. => .scal
  | k => k

/-- A slice's element: its type, its cells, its bytes, its zero's cells. -/
def rowD (P : Program) (t : Nat) : Option (Nat × Nat × Nat × Option Nat) :=
  match P.underlying t with
  | some (.slice el) => (P.info? el).map fun i => (el, i.size, i.bytes, i.zero.map (·.cells.size))
  | _ => none

def TK.row : TK → Option (Nat × Nat × Nat × Option Nat)
  | .slc k b el => some (el, k.cd.sz, b, some k.cd.sz)
  | _ => none

def zeroV (k : TK) (z : List Value) : Value := match k with
  | .str _ | .arr .. => .agg z.toArray
  | _ => z.headD undef

/-- The facts on a type that a program's tables bear. -/
structure TEok (P : Program) (e : TE) : Prop where
  kind : tdesc P e.t = some e.k.plain
  info : (P.info? e.t).map (fun i => (i.size, i.zero)) = some (e.size, some (zeroV e.k e.zero))
  cell : e.zero.all (·.oneCell') = true
  len : e.zero.length = e.size
  one : e.k.agg = false → e.size = 1
  all : (match e.k with
    | .str _ => match P.underlying e.t with | some (.struct fs) => fs.all fun f => (P.info? f.type).isSome && (P.underlying f.type).isSome | _ => true
    | .arr .. => match P.underlying e.t with | some (.array _ el) => (P.info? el).isSome && (P.underlying el).isSome | _ => true
    | _ => true) = true
  row : (match e.k with | .slc .. => rowD P e.t | _ => none) = e.k.row

def tget : List TE → Nat → Option TE
  | [], _ => none
  | e :: r, t => bif Nat.beq e.t t then some e else tget r t

theorem tget_mem {T : List TE} {t : Nat} {e : TE} (h : tget T t = some e) : e ∈ T ∧ e.t = t := by
  induction T with
  | nil => simp [tget] at h
  | cons x r ih =>
    simp only [tget] at h
    cases hx : Nat.beq x.t t with
    | true =>
      rw [hx] at h; simp at h; subst h
      exact ⟨List.mem_cons_self, Nat.eq_of_beq_eq_true hx⟩
    | false =>
      rw [hx] at h; simp at h
      obtain ⟨h1, h2⟩ := ih h
      exact ⟨List.mem_cons_of_mem _ h1, h2⟩

/-! ### Operations on plain values: the model's own, where they ask neither memory nor the tape -/

def prun {α : Type} (P : Program) : Sem α → Option α
  | .pure a => some a
  | .program k => prun P (k P)
  | _ => none

theorem prun_sound {α : Type} {P : Program} (s : Sem α) : ∀ {a : α}, prun P s = some a → ∀ w, s.run P w = .ok a w := by
  induction s with
  | pure x => intro a h w; simp [prun] at h; subst h; rfl
  | program k ih => intro a h w; exact ih P (by simpa [prun] using h) w
  | _ => intro a h; simp [prun] at h

def prunV (P : Program) (s : Sem Value) : Option FV :=
  match prun P s with
  | some v => bif v.oneCell' then some (.a (.s (.v v))) else none
  | none => none

theorem prunV_sound {P : Program} {s : Sem Value} {r : FV} (h : prunV P s = some r) : ∃ v, r = .a (.s (.v v)) ∧ v.oneCell' = true ∧ ∀ w, s.run P w = .ok v w := by
  unfold prunV at h
  cases hp : prun P s with
  | none => simp [hp] at h
  | some v =>
    simp only [hp] at h
    cases hv : v.oneCell' with
    | false => simp [hv] at h
    | true => simp [hv] at h; exact ⟨v, h.symm, hv, prun_sound s hp⟩

def prunN (P : Program) (s : Sem Next) : Option FV :=
  match prun P s with
  | some (.value v) => bif v.oneCell' then some (.a (.s (.v v))) else none
  | _ => none

theorem prunN_sound {P : Program} {s : Sem Next} {r : FV} (h : prunN P s = some r) : ∃ v, r = .a (.s (.v v)) ∧ v.oneCell' = true ∧ ∀ w, s.run P w = .ok (.value v) w := by
  unfold prunN at h
  cases hp : prun P s with
  | none => simp [hp] at h
  | some n =>
    cases n with
    | value v =>
      simp only [hp] at h
      cases hv : v.oneCell' with
      | false => simp [hv] at h
      | true => simp [hv] at h; exact ⟨v, h.symm, hv, prun_sound s hp⟩
    | _ => simp [hp] at h

/-! ### One operation -/

def cst (v : Value) : FV := bif v.oneCell' then .a (.s (.v v)) else .bad

def rd (fr : Nat → FV) : Operand → FV
  | .tmp t => fr t
  | .const v => cst v
  | .func f => .a (.s (.v (.func (.func f) #[] #[])))
  | .global g => .a (.s (.v (.pointer (some ⟨g, 0, none⟩))))

def setAt {α : Type} (cs : List α) (off : Nat) (l : List α) : List α := cs.take off ++ l ++ cs.drop (off + l.length)

/-- A value's parts, laid into a row of cells. -/
def fillS (place : Nat → Option (Nat × Nat)) : List Sc → List (Nat × FV) → Option (List Sc)
  | cells, [] => some cells
  | cells, (i, .a x) :: rest =>
    match place i with
    | none => none
    | some (off, size) =>
      bif Nat.beq x.cells.length size && Nat.ble (off + size) cells.length then fillS place (setAt cells off x.cells) rest else none
  | _, (_, _) :: _ => none

def vals : List Sc → Option (List Value)
  | [] => some []
  | .v x :: r => match vals r with
    | some l => some (x :: l)
    | none => none
  | _ :: _ => none

/-- A slice literal's parts, one behind the other. -/
def denseS (sz : Nat) : Nat → List (Nat × FV) → Option (List Value)
  | _, [] => some []
  | i, (j, .a x) :: r => bif Nat.beq i j then
      match vals x.cells with
      | some l => bif Nat.beq l.length sz then
          match denseS sz (i + 1) r with
          | some m => some (l ++ m)
          | none => none
        else none
      | none => none
    else none
  | _, _ :: _ => none

def ldS (e : TE) (cs : List Sc) (off : Nat) : Option FV :=
  match e.k with
  | .str _ | .arr .. => bif Nat.ble (off + e.size) cs.length then some (.a (.agg ((cs.drop off).take e.size))) else none
  | _ => match cs[off]? with
    | some x => some (.a (.s x))
    | none => none

def fldP (e : TE) (f : Nat) : Option Nat :=
  match e.k with
  | .str fl => match fl[f]? with
    | some (o, sz, _) => bif Nat.beq sz 0 then none else some o
    | none => none
  | _ => none

/-! #### What is handed over -/

def contents (hp : Nat → Option Bk) (i : Nat) : Option (List Value) :=
  match hp i with
  | some (.own cs) => vals cs
  | some (.ro cs) => some cs
  | _ => none

def conts (hp : Nat → Option Bk) : List Nat → Option (List (List Value))
  | [] => some []
  | i :: r => match contents hp i, conts hp r with
    | some c, some l => some (c :: l)
    | _, _ => none

def toD (hp : Nat → Option Bk) : Sc → Option Sd
  | .v x => some (.v x)
  | .sl i => match hp i with
    | some (.sl d m) => some (.sl d m)
    | _ => none
  | .p i off => bif Nat.beq off 0 then
      match contents hp i with
      | some c => some (.r c)
      | none => none
    else none
  | .fn f caps => match conts hp caps with
    | some l => some (.clo f l)
    | none => none
  | .opq => some .opq
  | .e .. => none

def toDs (hp : Nat → Option Bk) : List Sc → Option (List Sd)
  | [] => some []
  | x :: r => match toD hp x, toDs hp r with
    | some y, some l => some (y :: l)
    | _, _ => none

def toA (hp : Nat → Option Bk) : AV → Option AD
  | .s x => match toD hp x with
    | some y => some (.s y)
    | none => none
  | .agg l => match toDs hp l with
    | some m => some (.agg m)
    | none => none

def toAs (hp : Nat → Option Bk) : List FV → Option (List AD)
  | [] => some []
  | .a x :: r => match toA hp x, toAs hp r with
    | some y, some l => some (y :: l)
    | _, _ => none
  | _ :: _ => none

/-- What is handed back: its cells, and its slice, if it has one, by the name 'id'. -/
def ofS (id : Nat) : List Sd → Option Dat → Option (List Sc × Option Dat)
  | [], b => some ([], b)
  | .v x :: r, b => match ofS id r b with
    | some (l, b') => some (.v x :: l, b')
    | none => none
  | .sl d _ :: r, none => match ofS id r (some d) with
    | some (l, b') => some (.sl id :: l, b')
    | none => none
  | _ :: _, _ => none

def ofA (id : Nat) : AD → Option Dat → Option (AV × Option Dat)
  | .s x, b => match ofS id [x] b with
    | some ([y], b') => some (.s y, b')
    | _ => none
  | .agg l, b => match ofS id l b with
    | some (m, b') => some (.agg m, b')
    | none => none

def ofAs (id : Nat) : List AD → Option Dat → Option (List AV × Option Dat)
  | [], b => some ([], b)
  | x :: r, b => match ofA id x b with
    | some (y, b') => match ofAs id r b' with
      | some (l, b'') => some (y :: l, b'')
      | none => none
    | none => none

def effD : Option Dat → Eff
  | none => .no
  | some d => .new (.sl d (.mine none))

def ofR (id : Nat) : RD → Option (FV × Eff)
  | .a x => match ofA id x none with
    | some (y, b) => some (.a y, effD b)
    | none => none
  | .tup l => match ofAs id l none with
    | some (m, b) => some (.tup m, effD b)
    | none => none

/-- A cell of a struct that is compared. -/
inductive Lf where
  | int (k : IntKind)
  | bool
  | cx (k : FloatKind)

/-- Are two cells equal? -/
def eqC : Lf → Value → Value → Option Bool
  | .int k0, .int k a, .int k' b => bif k == k0 && k' == k0 then some (a == b) else none
  | .bool, .bool a, .bool b => some (a == b)
  | .cx k0, .complex k a a', .complex k' b b' => bif k == k0 && k' == k0 then some (Op.floatEq k0 a b && Op.floatEq k0 a' b') else none
  | _, _, _ => none

/-- Equal, cell by cell. -/
def eqS : List Lf → List Sc → List Sc → Option Bool
  | [], [], [] => some true
  | f :: s, .v x :: l, .v y :: m => match eqC f x y, eqS s l m with
    | some a, some r => some (a && r)
    | _, _ => none
  | _, _, _ => none

/-- The struct types whose values this text compares, and their cells. -/
abbrev EqT := List (Nat × List Lf)

def eqTy : EqT → Nat → Option (List Lf)
  | [], _ => none
  | p :: r, t => bif Nat.beq p.1 t then some p.2 else eqTy r t

def memN : List Nat → Nat → Bool
  | [], _ => false
  | x :: r, t => Nat.beq x t || memN r t

def pickD (c : Bool) : FV → FV → Option (FV × Eff)
  | .a (.s (.v (.bool x))), .a (.s (.v (.bool y))) => some (.a (.s (.v (.bool (cond c x y)))), .no)
  | .bad, _ => none
  | _, .bad => none
  | x, y => cond c (some (x, .no)) (some (y, .no))

def pickK {R : Type} (c : Bool) (K : FV → Eff → Option R) : FV → FV → Option R
  | .a (.s (.v (.bool x))), .a (.s (.v (.bool y))) => K (.a (.s (.v (.bool (cond c x y))))) .no
  | .bad, _ => none
  | _, .bad => none
  | x, y => cond c (K x .no) (K y .no)

def scal : FV → Option Value
  | .a (.s (.v x)) => some x
  | _ => none

def scals : List FV → Option (List Value)
  | [] => some []
  | .a (.s (.v x)) :: r => match scals r with
    | some l => some (x :: l)
    | none => none
  | _ => none

structure Env where
  P : Program
  T : List TE
  Q : EqT
  fn : Bool
  E : Nat → List AD → Option (Bool × RD)
  G : List AD → Option (Bool × RD)

def no (x : Option FV) : Option (FV × Eff) := match x with
  | some v => some (v, .no)
  | none => none

def outD (id : Nat) : Option (Bool × RD) → Option (Bool × FV × Eff)
  | some (g, r) => match ofR id r with
    | some x => some (g, x)
    | none => none
  | none => none

def caps (l : List (List Value)) : List AD := l.map fun c => .s (.r c)

/-- A call by a value. -/
def applyD (X : Env) (hp : Nat → Option Bk) (id : Nat) (cal : FV) (args : List FV) : Option (Bool × FV × Eff) :=
  match toAs hp args with
  | none => none
  | some l => match cal with
    | .a (.s (.v (.func (.func f) ⟨[]⟩ ⟨[]⟩))) => outD id (X.E f l)
    | .a (.s (.fn f cs)) => match conts hp cs with
      | some m => outD id (X.E f (l ++ caps m))
      | none => none
    | .a (.s .opq) => outD id (X.G l)
    | _ => none

def gApp (n m b : Nat) : Bool := Nat.ble ((n + m) * b) 140737488355328

def isCons {α : Type} : List α → Bool
  | [] => false
  | _ :: _ => true

def castL {a b : KN} (h : PLift (a = b)) (l : List a.ty) : List b.ty := h.down ▸ l

def app2 (id : Nat) (k : KN) (by_ el : Nat) (hp : Nat → Option Bk) (x : FV) (d : Dat) (na : Nat) : Option (Bool × FV × Eff) :=
  match KN.same d.k k with
  | none => none
  | some h => bif isCons d.l then
    match x with
    | .a (.s (.v (.slice none 0 0))) => some (gApp 0 d.n by_, .a (.s (.sl id)), .new (.sl ⟨k, castL h d.l⟩ (.mine (some el))))
    | .a (.s (.sl i)) => bif Nat.beq i na then none else
      match hp i with
      | some (.sl d' (.mine (some el'))) => bif Nat.beq el el' then
          match KN.same d'.k k with
          | some h' => some (gApp d'.n d.n by_, .a (.s (.sl id)), .app i (.sl ⟨k, castL h' d'.l ++ castL h d.l⟩ (.mine (some el))))
          | none => none
        else none
      | _ => none
    | _ => none
  else none

def appD (X : Env) (hp : Nat → Option Bk) (id : Nat) (c : Call) (args : List FV) : Option (Bool × FV × Eff) :=
  match args, c.argTypes.toList with
  | [x, .a (.s (.sl na))], [t, t'] => bif Nat.beq t t' then
      match tget X.T t with
      | some e => match e.k with
        | .slc k b el => bif Nat.ble 1 b then
            match hp na with
            | some (.sl d _) => app2 id k b el hp x d na
            | _ => none
          else none
        | _ => none
      | none => none
    else none
  | _, _ => none

def lenD (X : Env) (hp : Nat → Option Bk) (c : Call) (args : List FV) : Option (Bool × FV × Eff) :=
  match args, c.argTypes.toList with
  | [.a (.s (.sl i))], [t] => match hp i, tget X.T t with
    | some (.sl d _), some e => match e.k with
      | .slc .. => some (true, .a (.s (.v (.int .i64 d.n))), .no)
      | _ => none
    | _, _ => none
  | _, _ => none

def isSl1 : List FV → Bool
  | [.a (.s (.sl _))] => true
  | _ => false

def fMax (k : FloatKind) (x y : Nat) : Nat := match k.format.order x y with
  | some .lt => y
  | some .gt => x
  | _ => cond (k.decode x).neg y x
def fMin (k : FloatKind) (x y : Nat) : Nat := match k.format.order x y with
  | some .lt => x
  | some .gt => y
  | _ => cond (k.decode x).neg x y

def mmD : Builtin → List Value → Option (Bool × FV)
  | .max, [.float k x, .float k' y] => bif k == k' then some ((k.format.order x y).isSome, .a (.s (.v (.float k (fMax k x y))))) else none
  | .min, [.float k x, .float k' y] => bif k == k' then some ((k.format.order x y).isSome, .a (.s (.v (.float k (fMin k x y))))) else none
  | _, _ => none

def builtD (X : Env) (b : Builtin) (c : Call) (ty : TypeId) (args : List FV) : Option (Bool × FV × Eff) :=
  match scals args with
  | some l => match mmD b l with
    | some (g, v) => some (g, v, .no)
    | none => match prunN X.P (builtin b c.argTypes ty (c.args.map fun | .const _ => true | _ => false) l.toArray) with
      | some v => some (true, v, .no)
      | none => none
  | none => none

def callD (X : Env) (hp : Nat → Option Bk) (id : Nat) (c : Call) (ty : TypeId) (cal : FV) (args : List FV) : Option (Bool × FV × Eff) :=
  match c.callee with
  | .value _ => applyD X hp id cal args
  | .builtin b => match b with
    | .append => appD X hp id c args
    | .len => bif isSl1 args then lenD X hp c args else builtD X .len c ty args
    | b => builtD X b c ty args
  | _ => none

def eqD (X : Env) (op : BinOp) (t : TypeId) (l m : List Sc) : Option FV :=
  match eqTy X.Q t with
  | some s => match op, eqS s l m with
    | .eql, some b => some (.a (.s (.v (.bool b))))
    | .neq, some b => some (.a (.s (.v (.bool (!b)))))
    | _, _ => none
  | none => none

/-- A result of floats, where there is one. -/
def fbits (o : Option Nat) (f : Nat → Value) : Bool × FV := (o.isSome, .a (.s (.v (f (o.getD 0)))))
def cbits (o : Option (Nat × Nat)) : Bool × FV := (o.isSome, .a (.s (.v (.complex .f64 (o.getD (0, 0)).1 (o.getD (0, 0)).2))))

def isAr : BinOp → Bool
  | .add | .sub | .mul | .quo => true
  | _ => false

/-- May two texts be laid behind each other? -/
def catOk (x y : ByteArray) : Bool := !decide (((x.size + y.size : Nat) : Int) > IntKind.i64.max)

def cxD (op : BinOp) (a b c d : Nat) : Option (Bool × FV) := match op with
  | .add => some (cbits (cSumBits .add .f64 a b c d))
  | .sub => some (cbits (cSumBits .sub .f64 a b c d))
  | .mul => some (cbits (cMulBits a b c d))
  | _ => none

def flD (op : BinOp) (x y : Value) : Option (Bool × FV) := match x, y with
  | .float k a, .float k' b => bif isAr op && k == k' then some (fbits (floatBits op k a b) (.float k)) else none
  | .complex k a b, .complex k' c d => bif k == .f64 && k' == .f64 then cxD op a b c d else none
  | _, _ => none

/-- A quotient, a remainder, what floats make: is there one, and which? -/
def divD : BinOp → Value → Value → Option (Bool × FV)
  | .quo, .int k a, .int k' b => bif k == k' then some (!decide (b = 0), .a (.s (.v (.int k (k.wrap (a.tdiv b)))))) else none
  | .rem, .int k a, .int k' b => bif k == k' then some (!decide (b = 0), .a (.s (.v (.int k (a.tmod b))))) else none
  | .shl, .int k a, .int _ b => some (!decide (b < 0), .a (.s (.v (.int k (k.wrap (a * 2 ^ min b.toNat k.bits))))))
  | .shr, .int k a, .int _ b => some (!decide (b < 0), .a (.s (.v (.int k (a.fdiv (2 ^ min b.toNat k.bits))))))
  | .add, .string x, .string y => some (catOk x y, .a (.s (.v (.string (x ++ y)))))
  | op, x, y => flD op x y

def inB (n : Nat) (i : Int) : Bool := decide (0 ≤ i) && decide (i < n)

/-- A part of a slice. -/
def bnd (b : Option FV) (d : Nat) : Option Int := match b with
  | none => some d
  | some (.a (.s (.v (.int _ i)))) => some i
  | _ => none

def isStr (P : Program) (t : TypeId) : Bool := match P.underlying t with
  | some .string => true
  | _ => false

def strS (P : Program) (t : TypeId) (x : FV) (lo hi : Option FV) : Option (Bool × FV × Eff) :=
  match x with
  | .a (.s (.v (.string s))) => bif isStr P t then
      match bnd lo 0, bnd hi s.size with
      | some l, some r => some (decide (0 ≤ l) && decide (l ≤ r) && decide (r ≤ s.size), .a (.s (.v (.string (s.extract l.toNat r.toNat)))), .no)
      | _, _ => none
    else none
  | _ => none

def slD (X : Env) (fr : Nat → FV) (hp : Nat → Option Bk) (id : Nat) (t : TypeId) (x : Operand) (lo hi mx : Option Operand) : Option (Bool × FV × Eff) :=
  match mx with
  | some _ => none
  | none => match tget X.T t with
    | some e => match e.k with
      | .slc k _ _ => match rd fr x with
        | .a (.s (.sl i)) => match hp i with
          | some (.sl d .ro) => match KN.same d.k k, bnd (lo.map (rd fr)) 0, bnd (hi.map (rd fr)) d.n with
            | some h, some l, some r => some (decide (0 ≤ l) && decide (l ≤ r) && decide (r ≤ d.n), .a (.s (.sl id)), .new (.sl ⟨d.k, (d.l.take r.toNat).drop l.toNat⟩ .ro))
            | _, _, _ => none
          | _ => none
        | _ => none
      | _ => strS X.P t (rd fr x) (lo.map (rd fr)) (hi.map (rd fr))
    | none => none

/-- A byte of a text. -/
def chr (s : ByteArray) (i : Int) : Int := ((s.data.getD i.toNat 0).toNat : Int)

def ixD (X : Env) (t : TypeId) (x : FV) (i : Option Value) : Option (Bool × FV × Eff) :=
  match x, i with
  | .a (.s (.v (.string s))), some (.int _ i) => bif isStr X.P t then some (inB s.size i, .a (.s (.v (.int .u8 (chr s i)))), .no) else none
  | .a (.agg l), some (.int _ i) => match tget X.T t with
    | some e => match e.k with
      | .arr n sz ag => bif inB n i then (bif ag then (bif Nat.ble (i.toNat * sz + sz) l.length then some (true, .a (.agg ((l.drop (i.toNat * sz)).take sz)), .no) else none)
        else match l[i.toNat * sz]? with
          | some y => some (true, .a (.s y), .no)
          | none => none) else none
      | _ => none
    | none => none
  | _, _ => none

/-- A conversion: of a float to a whole number where it has one. -/
def cvD (P : Program) (s d : TypeId) (v : Value) : Option (Bool × FV × Eff) :=
  match v with
  | .float k b => match P.underlying d with
    | some (.int i) => bif (P.underlying s).isSome then some ((floatToIntVal k b i).isSome, .a (.s (.v (.int i ((floatToIntVal k b i).getD 0)))), .no) else none
    | _ => match prunV P (convert s d (.float k b)) with
      | some r => some (true, r, .no)
      | none => none
  | v => match prunV P (convert s d v) with
    | some r => some (true, r, .no)
    | none => none

def cvF (P : Program) (s d : TypeId) (x : Option Value) : Option (Bool × FV × Eff) := match x with
  | some v => cvD P s d v
  | none => none

def caps0 : List FV → Option (List Nat)
  | [] => some []
  | .a (.s (.p i 0)) :: r => match caps0 r with
    | some l => some (i :: l)
    | none => none
  | _ => none

/-- An operation with a guard: has it its value? -/
def gate (x : Option (Bool × FV × Eff)) : Option (FV × Eff) := match x with
  | some (g, v, e) => cond g (some (v, e)) none
  | none => none

def gateK {R : Type} (x : Option (Bool × FV × Eff)) (K : FV → Eff → Option R) : Option R := match x with
  | some (g, v, e) => cond g (K v e) none
  | none => none

theorem gateK_eq {R : Type} (x : Option (Bool × FV × Eff)) (K : FV → Eff → Option R) : gateK x K = match gate x with | some (v, e) => K v e | none => none := by
  unfold gateK gate
  split
  · rename_i g v e
    cases g <;> rfl
  · rfl

def idxD (X : Env) (fr : Nat → FV) (hp : Nat → Option Bk) (t : TypeId) (x i : Operand) : Option (Bool × FV × Eff) :=
  match tget X.T t with
  | some e => match e.k, rd fr x, rd fr i with
    | .slc k _ _, .a (.s (.sl nm)), .a (.s (.v (.int _ i))) => match hp nm with
      | some (.sl d _) => bif Nat.beq d.sz k.cd.sz then some (inB d.n i, .a (.s (.e nm d.sz i.toNat 0)), .no) else none
      | _ => none
    | .arr n sz _, .a (.s (.p id off)), .a (.s (.v (.int _ i))) => some (inB n i, .a (.s (.p id (off + i.toNat * sz))), .no)
    | _, _, _ => none
  | none => none

def isFn (P : Program) (t : TypeId) : Bool := match P.underlying t with
  | some (.func ..) => true
  | _ => false

def binD (X : Env) (fr : Nat → FV) (op : BinOp) (t : TypeId) (x y : Operand) : Option (Bool × FV × Eff) :=
  match rd fr x, rd fr y with
  | .a (.s (.v u)), .a (.s (.v v)) => match divD op u v with
    | some (g, r) => some (g, r, .no)
    | none => match prunV X.P (do eqGuard op t x y u v; binOp op t u v) with
      | some r => some (true, r, .no)
      | none => none
  | .a (.agg l), .a (.agg m) => match eqD X op t l m with
    | some r => some (true, r, .no)
    | none => none
  | .a (.s .opq), .a (.s (.v .nilFunc)) => bif X.fn && isFn X.P t then
      match op with
      | .eql => some (true, .a (.s (.v (.bool false))), .no)
      | .neq => some (true, .a (.s (.v (.bool true))), .no)
      | _ => none
    else none
  | _, _ => none

def opD (X : Env) (fr : Nat → FV) (hp : Nat → Option Bk) (id : Nat) (op : Op) (ty : TypeId) : Option (FV × Eff) :=
  match op with
  | .move x | .assign x => match rd fr x with
    | .bad => none
    | y => some (y, .no)
  | .pick c a b => match rd fr c with
    | .a (.s (.v (.bool c))) => pickD c (rd fr a) (rd fr b)
    | _ => none
  | .alloc t => match tget X.T t with
    | some e => some (.a (.s (.p id 0)), .new (.own (e.zero.map .v)))
    | none => none
  | .box _ x => match rd fr x with
    | .a y => some (.a (.s (.p id 0)), .new (.own y.cells))
    | _ => none
  | .build t parts => match tget X.T t with
    | some e => match e.k with
      | .str fl => match fillS (fun i => match fl[i]? with | some (o, s, _) => some (o, s) | none => none) (e.zero.map .v) (parts.toList.map fun x => (x.1, rd fr x.2)) with
        | some l => some (.a (.agg l), .no)
        | none => none
      | .arr _ sz _ => match fillS (fun i => some (i * sz, sz)) (e.zero.map .v) (parts.toList.map fun x => (x.1, rd fr x.2)) with
        | some l => some (.a (.agg l), .no)
        | none => none
      | _ => none
    | none => none
  | .buildSlice t len parts => match tget X.T t with
    | some e => match e.k with
      | .slc k _ el => bif Nat.beq parts.size len && Nat.ble 1 (len * k.cd.sz) && Nat.ble (len * k.cd.sz) 1000000 then
          match denseS k.cd.sz 0 (parts.toList.map fun x => (x.1, rd fr x.2)) with
          | some l => match decL k len l with
            | some m => some (.a (.s (.sl id)), .new (.sl ⟨k, m⟩ (.mine (some el))))
            | none => none
          | none => none
        else none
      | _ => none
    | none => none
  | .load t a => match tget X.T t with
    | some e => match rd fr a with
      | .a (.s (.p i off)) => match hp i with
        | some (.own cs) => no (ldS e cs off)
        | some (.ro cs) => no (ldS e (cs.map .v) off)
        | _ => none
      | .a (.s (.e nm _ idx off)) => match hp nm with
        | some (.sl d _) => no (ldS e ((d.row idx).map .v) off)
        | _ => none
      | _ => none
    | none => none
  | .store t a x => match tget X.T t with
    | some e => match rd fr a, rd fr x with
      | .a (.s (.p i off)), .a y => match hp i with
        | some (.own cs) => bif Nat.beq y.cells.length e.size && Nat.ble (off + e.size) cs.length then some (undefF, .set i (.own (setAt cs off y.cells))) else none
        | _ => none
      | .a (.s (.e nm _ idx off)), .a y => match hp nm, vals y.cells with
        | some (.sl d (.mine m)), some l => bif Nat.beq l.length e.size && Nat.ble (off + e.size) (d.row idx).length then
            match d.k.cd.dec (setAt (d.row idx) off l) with
            | some (a, []) => some (undefF, .set nm (.sl ⟨d.k, d.l.set idx a⟩ (.mine m)))
            | _ => none
          else none
        | _, _ => none
      | _, _ => none
    | none => none
  | .fieldAddr t x f => match tget X.T t with
    | some e => match fldP e f with
      | some o => match rd fr x with
        | .a (.s (.p i off)) => some (.a (.s (.p i (off + o))), .no)
        | .a (.s (.e i sz idx off)) => match hp i with
          | some (.sl ..) => some (.a (.s (.e i sz idx (off + o))), .no)
          | _ => none
        | _ => none
      | none => none
    | none => none
  | .field t x f => match tget X.T t with
    | some e => match e.k with
      | .str fl => match fl[f]?, rd fr x with
        | some (o, sz, ag), .a (.agg l) =>
          bif ag then (bif Nat.ble (o + sz) l.length then some (.a (.agg ((l.drop o).take sz)), .no) else none)
          else match l[o]? with
            | some y => some (.a (.s y), .no)
            | none => none
        | _, _ => none
      | _ => none
    | none => none
  | .extract x i => match rd fr x with
    | .tup l => match l[i]? with
      | some y => some (.a y, .no)
      | none => none
    | _ => none
  | .unOp u _ x => match scal (rd fr x) with
    | some v => no (prunV X.P (Op.unary u v))
    | none => none
  | .binOp op t x y _ => gate (binD X fr op t x y)
  | .convert s d x => gate (cvF X.P s d (scal (rd fr x)))
  | .nilCheck x => match rd fr x with
    | .a (.s (.p i off)) => some (.a (.s (.p i off)), .no)
    | _ => none
  | .makeFunc f first cs => match f, first.toList, caps0 (cs.toList.map (rd fr)) with
    | .func f, [], some l => some (.a (.s (.fn f l)), .no)
    | _, _, _ => none
  | .index t x i => gate (ixD X t (rd fr x) (scal (rd fr i)))
  | .indexAddr t x i => gate (idxD X fr hp t x i)
  | .slice t x lo hi mx => gate (slD X fr hp id t x lo hi mx)
  | .call c => gate (callD X hp id c ty (match c.callee with | .value x => rd fr x | _ => .bad) (c.args.toList.map (rd fr)))
  | _ => none

def opK {R : Type} (X : Env) (fr : Nat → FV) (hp : Nat → Option Bk) (id : Nat) (op : Op) (ty : TypeId) (K : FV → Eff → Option R) : Option R :=
  match op with
  | .pick c a b => match rd fr c with
    | .a (.s (.v (.bool c))) => pickK c K (rd fr a) (rd fr b)
    | _ => none
  | .indexAddr t x i => gateK (idxD X fr hp t x i) K
  | .index t x i => gateK (ixD X t (rd fr x) (scal (rd fr i))) K
  | .convert s d x => gateK (cvF X.P s d (scal (rd fr x))) K
  | .slice t x lo hi mx => gateK (slD X fr hp id t x lo hi mx) K
  | .call c => gateK (callD X hp id c ty (match c.callee with | .value x => rd fr x | _ => .bad) (c.args.toList.map (rd fr))) K
  | .binOp op t x y _ => gateK (binD X fr op t x y) K
  | op => match opD X fr hp id op ty with
    | some (v, e) => K v e
    | none => none

theorem pickK_eq {R : Type} (c : Bool) (K : FV → Eff → Option R) (x y : FV) : pickK c K x y = match pickD c x y with | some (v, e) => K v e | none => none := by
  unfold pickK pickD
  split <;> first | rfl | (cases c <;> simp_all)

theorem opK_eq {R : Type} (X : Env) (fr : Nat → FV) (hp : Nat → Option Bk) (id : Nat) (op : Op) (ty : TypeId) (K : FV → Eff → Option R) :
    opK X fr hp id op ty K = match opD X fr hp id op ty with | some (v, e) => K v e | none => none := by
  unfold opK
  split
  · simp only [opD]
    split
    · exact pickK_eq _ _ _ _
    · rfl
  · simp only [opD]; exact gateK_eq _ _
  · simp only [opD]; exact gateK_eq _ _
  · simp only [opD]; exact gateK_eq _ _
  · simp only [opD]; exact gateK_eq _ _
  · simp only [opD]; exact gateK_eq _ _
  · simp only [opD]; exact gateK_eq _ _
  · rfl

end Go.Proofs.Ytmmlpaehehgfnaa.Sx
