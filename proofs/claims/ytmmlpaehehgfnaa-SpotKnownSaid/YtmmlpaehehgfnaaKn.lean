/-
  What this text proves: how the program's data lie in cells ('Cd', 'KN').
  Conditions: none.
-/
import Derived.Orders
import Derived.Below
import Derived.LoopN
import Derived.ScopeJumps
import Derived.Tactics
import Derived.Laws.CopyRow
import Derived.Laws.AppendOwn
import Derived.Great.BuildSlice
import Derived.KernelRfl
namespace Go.Proofs.Ytmmlpaehehgfnaa.Sx
open Go.RowKit
set_option linter.unusedSimpArgs false
set_option linter.unusedVariables false

/-- How data lie in cells. -/
structure Cd (α : Type) where
  enc : α → List Value
  dec : List Value → Option (α × List Value)
  sz : Nat
  z : α
  ok : ∀ l a r, dec l = some (a, r) → l = enc a ++ r
  len : ∀ a, (enc a).length = sz
  one : ∀ a, ∀ v ∈ enc a, v.oneCell' = true

def cdInt : Cd Int where
  enc n := [.int .i64 n]
  dec
    | .int .i64 n :: r => some (n, r)
    | _ => none
  sz := 1
  z := 0
  ok l a r h := by
    split at h
    · cases h; rfl
    · cases h
  len _ := rfl
  one _ v h := by simp at h; subst h; rfl

def cdBool : Cd Bool where
  enc b := [.bool b]
  dec
    | .bool b :: r => some (b, r)
    | _ => none
  sz := 1
  z := false
  ok l a r h := by
    split at h
    · cases h; rfl
    · cases h
  len _ := rfl
  one _ v h := by simp at h; subst h; rfl

def cdStr : Cd ByteArray where
  enc b := [.string b]
  dec
    | .string b :: r => some (b, r)
    | _ => none
  sz := 1
  z := ⟨#[]⟩
  ok l a r h := by
    split at h
    · cases h; rfl
    · cases h
  len _ := rfl
  one _ v h := by simp at h; subst h; rfl

def cdByte : Cd Int where
  enc n := [.int .u8 n]
  dec
    | .int .u8 n :: r => some (n, r)
    | _ => none
  sz := 1
  z := 0
  ok l a r h := by
    split at h
    · cases h; rfl
    · cases h
  len _ := rfl
  one _ v h := by simp at h; subst h; rfl

/-- A complex number, by the bits of its parts. -/
structure Cx where
  re : Nat
  im : Nat
  deriving DecidableEq, Inhabited

def cdCx : Cd Cx where
  enc b := [.complex .f64 b.re b.im]
  dec
    | .complex .f64 x y :: r => some (⟨x, y⟩, r)
    | _ => none
  sz := 1
  z := ⟨0, 0⟩
  ok l a r h := by
    split at h
    · cases h; rfl
    · cases h
  len _ := rfl
  one _ v h := by simp at h; subst h; rfl

def Cd.pair {α β : Type} (A : Cd α) (B : Cd β) : Cd (α × β) where
  enc x := A.enc x.1 ++ B.enc x.2
  dec l := match A.dec l with
    | some (a, r) => match B.dec r with
      | some (b, r') => some ((a, b), r')
      | none => none
    | none => none
  sz := A.sz + B.sz
  z := (A.z, B.z)
  ok l x r h := by
    split at h
    · rename_i a r1 ha
      split at h
      · rename_i b r2 hb
        cases h
        rw [A.ok _ _ _ ha, B.ok _ _ _ hb, List.append_assoc]
      · cases h
    · cases h
  len x := by rw [List.length_append, A.len, B.len]
  one x v h := by
    rcases List.mem_append.1 h with h | h
    · exact A.one _ v h
    · exact B.one _ v h

def Cd.iso {α β : Type} (A : Cd α) (f : α → β) (g : β → α) (h : ∀ a, g (f a) = a) : Cd β where
  enc b := A.enc (g b)
  dec l := match A.dec l with
    | some (a, r) => some (f a, r)
    | none => none
  sz := A.sz
  z := f A.z
  ok l x r hd := by
    split at hd
    · rename_i a r1 ha
      cases hd
      rw [h, A.ok _ _ _ ha]
    · cases hd
  len _ := A.len _
  one _ v hv := A.one _ v hv

structure Iv where
  lo : Int
  hi : Int
  no : Bool
  deriving DecidableEq, Inhabited

def cdIv : Cd Iv where
  enc a := [.int .i64 a.lo, .int .i64 a.hi, .bool a.no]
  dec
    | .int .i64 a :: .int .i64 b :: .bool c :: r => some (⟨a, b, c⟩, r)
    | _ => none
  sz := 3
  z := ⟨0, 0, false⟩
  ok l a r h := by
    split at h
    · cases h; rfl
    · cases h
  len _ := rfl
  one _ v h := by
    simp at h
    rcases h with rfl | rfl | rfl <;> rfl

structure V3 where
  x : Iv
  y : Iv
  z : Iv
  deriving DecidableEq, Inhabited

structure Ray where
  o : V3
  d : V3
  deriving DecidableEq, Inhabited

structure Surf where
  stop : Bool
  bent : Bool
  curve : Iv
  conic : Iv
  a4 : Iv
  a6 : Iv
  at_ : Iv
  open2 : Iv
  ratio : Iv
  deriving DecidableEq, Inhabited

structure Dec where
  c : Int
  scale : Int
  deriving DecidableEq, Inhabited

structure Face where
  stop : Bool
  radius : Dec
  aperture : Dec
  thick : Dec
  conic : Dec
  a4 : Dec
  a6 : Dec
  glass : ByteArray
  deriving DecidableEq, Inhabited

structure Glass where
  name : ByteArray
  b0 : Dec
  b1 : Dec
  b2 : Dec
  c0 : Dec
  c1 : Dec
  c2 : Dec
  deriving DecidableEq, Inhabited

structure RawFace where
  kind : Int
  r : Int
  a : Int
  t : Int
  g : Int
  k : Int
  deriving DecidableEq, Inhabited

structure Pair where
  x : Int
  y : Int
  deriving DecidableEq, Inhabited

structure Place where
  x : Iv
  y : Iv
  deriving DecidableEq, Inhabited

structure Report where
  sure : Int
  maybe_ : Int
  all : Int
  some_ : Bool
  low : Cx
  high : Cx
  deriving DecidableEq, Inhabited

structure RReport where
  sure : Int
  maybe_ : Int
  all : Int
  some_ : Bool
  low : Pair
  high : Pair
  deriving DecidableEq, Inhabited

structure Row where
  film : Iv
  part : Iv
  r : Report
  deriving DecidableEq, Inhabited

structure RRow where
  film : Iv
  part : Iv
  r : RReport
  deriving DecidableEq, Inhabited

structure Spot where
  count : Int
  lost : Int
  x : Iv
  y : Iv
  mean : Iv
  deriving DecidableEq, Inhabited

structure TrRes where
  kind : Int
  at_ : Int
  r : Ray
  deriving DecidableEq, Inhabited

def cdV3 : Cd V3 := (cdIv.pair (cdIv.pair cdIv)).iso (fun a => ⟨a.1, a.2.1, a.2.2⟩) (fun a => (a.x, a.y, a.z)) fun _ => rfl
def cdRay : Cd Ray := (cdV3.pair cdV3).iso (fun a => ⟨a.1, a.2⟩) (fun a => (a.o, a.d)) fun _ => rfl
def cdSurf : Cd Surf := (cdBool.pair (cdBool.pair (cdIv.pair (cdIv.pair (cdIv.pair (cdIv.pair (cdIv.pair (cdIv.pair cdIv)))))))).iso
  (fun a => ⟨a.1, a.2.1, a.2.2.1, a.2.2.2.1, a.2.2.2.2.1, a.2.2.2.2.2.1, a.2.2.2.2.2.2.1, a.2.2.2.2.2.2.2.1, a.2.2.2.2.2.2.2.2⟩) (fun a => (a.stop, a.bent, a.curve, a.conic, a.a4, a.a6, a.at_, a.open2, a.ratio)) fun _ => rfl
def cdDec : Cd Dec := (cdInt.pair cdInt).iso (fun a => ⟨a.1, a.2⟩) (fun a => (a.c, a.scale)) fun _ => rfl
def cdFace : Cd Face := (cdBool.pair (cdDec.pair (cdDec.pair (cdDec.pair (cdDec.pair (cdDec.pair (cdDec.pair cdStr))))))).iso
  (fun a => ⟨a.1, a.2.1, a.2.2.1, a.2.2.2.1, a.2.2.2.2.1, a.2.2.2.2.2.1, a.2.2.2.2.2.2.1, a.2.2.2.2.2.2.2⟩) (fun a => (a.stop, a.radius, a.aperture, a.thick, a.conic, a.a4, a.a6, a.glass)) fun _ => rfl
def cdGlass : Cd Glass := (cdStr.pair (cdDec.pair (cdDec.pair (cdDec.pair (cdDec.pair (cdDec.pair cdDec)))))).iso
  (fun a => ⟨a.1, a.2.1, a.2.2.1, a.2.2.2.1, a.2.2.2.2.1, a.2.2.2.2.2.1, a.2.2.2.2.2.2⟩) (fun a => (a.name, a.b0, a.b1, a.b2, a.c0, a.c1, a.c2)) fun _ => rfl
def cdRaw : Cd RawFace := (cdInt.pair (cdInt.pair (cdInt.pair (cdInt.pair (cdInt.pair cdInt))))).iso (fun a => ⟨a.1, a.2.1, a.2.2.1, a.2.2.2.1, a.2.2.2.2.1, a.2.2.2.2.2⟩) (fun a => (a.kind, a.r, a.a, a.t, a.g, a.k)) fun _ => rfl
def cdPair : Cd Pair := (cdInt.pair cdInt).iso (fun a => ⟨a.1, a.2⟩) (fun a => (a.x, a.y)) fun _ => rfl
def cdPlace : Cd Place := (cdIv.pair cdIv).iso (fun a => ⟨a.1, a.2⟩) (fun a => (a.x, a.y)) fun _ => rfl
def cdReport : Cd Report := (cdInt.pair (cdInt.pair (cdInt.pair (cdBool.pair (cdCx.pair cdCx))))).iso (fun a => ⟨a.1, a.2.1, a.2.2.1, a.2.2.2.1, a.2.2.2.2.1, a.2.2.2.2.2⟩) (fun a => (a.sure, a.maybe_, a.all, a.some_, a.low, a.high)) fun _ => rfl
def cdRReport : Cd RReport := (cdInt.pair (cdInt.pair (cdInt.pair (cdBool.pair (cdPair.pair cdPair))))).iso (fun a => ⟨a.1, a.2.1, a.2.2.1, a.2.2.2.1, a.2.2.2.2.1, a.2.2.2.2.2⟩) (fun a => (a.sure, a.maybe_, a.all, a.some_, a.low, a.high)) fun _ => rfl
def cdRow : Cd Row := (cdIv.pair (cdIv.pair cdReport)).iso (fun a => ⟨a.1, a.2.1, a.2.2⟩) (fun a => (a.film, a.part, a.r)) fun _ => rfl
def cdRRow : Cd RRow := (cdIv.pair (cdIv.pair cdRReport)).iso (fun a => ⟨a.1, a.2.1, a.2.2⟩) (fun a => (a.film, a.part, a.r)) fun _ => rfl
def cdSpot : Cd Spot := (cdInt.pair (cdInt.pair (cdIv.pair (cdIv.pair cdIv)))).iso (fun a => ⟨a.1, a.2.1, a.2.2.1, a.2.2.2.1, a.2.2.2.2⟩) (fun a => (a.count, a.lost, a.x, a.y, a.mean)) fun _ => rfl
def cdTr : Cd TrRes := (cdInt.pair (cdInt.pair cdRay)).iso (fun a => ⟨a.1, a.2.1, a.2.2⟩) (fun a => (a.kind, a.at_, a.r)) fun _ => rfl

/-- What slices are made of. -/
inductive KN where
  | int | iv | surf | face | glass | raw | cx | pair | place | row | rrow | byte

def KN.ty : KN → Type
  | .int => Int
  | .iv => Iv
  | .surf => Surf
  | .face => Face
  | .glass => Glass
  | .raw => RawFace
  | .cx => Cx
  | .pair => Pair
  | .place => Place
  | .row => Row
  | .rrow => RRow
  | .byte => Int

def KN.cd : (k : KN) → Cd k.ty
  | .int => cdInt
  | .iv => cdIv
  | .surf => cdSurf
  | .face => cdFace
  | .glass => cdGlass
  | .raw => cdRaw
  | .cx => cdCx
  | .pair => cdPair
  | .place => cdPlace
  | .row => cdRow
  | .rrow => cdRRow
  | .byte => cdByte

def KN.same : (a b : KN) → Option (PLift (a = b))
  | .int, .int => some ⟨rfl⟩
  | .iv, .iv => some ⟨rfl⟩
  | .surf, .surf => some ⟨rfl⟩
  | .face, .face => some ⟨rfl⟩
  | .glass, .glass => some ⟨rfl⟩
  | .raw, .raw => some ⟨rfl⟩
  | .cx, .cx => some ⟨rfl⟩
  | .pair, .pair => some ⟨rfl⟩
  | .place, .place => some ⟨rfl⟩
  | .row, .row => some ⟨rfl⟩
  | .rrow, .rrow => some ⟨rfl⟩
  | .byte, .byte => some ⟨rfl⟩
  | _, _ => none

/-- A slice's elements. -/
structure Dat where
  k : KN
  l : List k.ty

def Dat.sz (d : Dat) : Nat := d.k.cd.sz
def Dat.n (d : Dat) : Nat := d.l.length
def Dat.get (d : Dat) (i : Nat) : d.k.ty := d.l.getD i d.k.cd.z
def Dat.row (d : Dat) (i : Nat) : List Value := d.k.cd.enc (d.get i)
def Dat.flat (d : Dat) : List Value := d.l.flatMap d.k.cd.enc

/-- Cells, read as elements of a kind. -/
def decL (k : KN) : Nat → List Value → Option (List k.ty)
  | 0, [] => some []
  | n + 1, l => match k.cd.dec l with
    | some (a, r) => match decL k n r with
      | some m => some (a :: m)
      | none => none
    | none => none
  | _, _ => none

theorem decL_ok {k : KN} : ∀ {n : Nat} {l : List Value} {m : List k.ty}, decL k n l = some m → l = m.flatMap k.cd.enc ∧ m.length = n
  | 0, [], m, h => by simp [decL] at h; subst h; exact ⟨rfl, rfl⟩
  | 0, _ :: _, m, h => by simp [decL] at h
  | n + 1, l, m, h => by
    simp only [decL] at h
    split at h
    · rename_i a r ha
      split at h
      · rename_i m' hm
        cases h
        obtain ⟨h1, h2⟩ := decL_ok hm
        rw [k.cd.ok _ _ _ ha, h1]
        exact ⟨rfl, by simp [h2]⟩
      · cases h
    · cases h

theorem flatMap_len {α : Type} (f : α → List Value) (s : Nat) (h : ∀ a, (f a).length = s) : ∀ l : List α, (l.flatMap f).length = l.length * s
  | [] => by simp
  | a :: l => by simp only [List.flatMap_cons, List.length_append, h, flatMap_len f s h l, List.length_cons, Nat.succ_mul]; omega

theorem flatMap_get {α : Type} (f : α → List Value) (s : Nat) (h : ∀ a, (f a).length = s) (z : α) : ∀ (l : List α) (i j : Nat), i < l.length → j < s → (l.flatMap f)[i * s + j]? = (f (l.getD i z))[j]?
  | a :: l, 0, j, _, hj => by
    simp only [List.flatMap_cons, Nat.zero_mul, Nat.zero_add]
    rw [List.getElem?_append_left (by rw [h]; exact hj)]
    rfl
  | a :: l, i + 1, j, hi, hj => by
    simp only [List.flatMap_cons]
    rw [List.getElem?_append_right (by rw [h, Nat.succ_mul]; omega), h]
    have : (i + 1) * s + j - s = i * s + j := by rw [Nat.succ_mul]; omega
    rw [this, flatMap_get f s h z l i j (by simpa using hi) hj]
    rfl

theorem Dat.flat_len (d : Dat) : d.flat.length = d.n * d.sz := flatMap_len _ _ d.k.cd.len d.l

theorem Dat.flat_get (d : Dat) {i j : Nat} (hi : i < d.n) (hj : j < d.sz) : d.flat[i * d.sz + j]? = (d.row i)[j]? := flatMap_get _ _ d.k.cd.len _ d.l i j hi hj

theorem Dat.flat_one (d : Dat) : ∀ v ∈ d.flat, v.oneCell' = true := by
  intro v hv
  simp only [Dat.flat, List.mem_flatMap] at hv
  obtain ⟨a, _, ha⟩ := hv
  exact d.k.cd.one a v ha

end Go.Proofs.Ytmmlpaehehgfnaa.Sx
