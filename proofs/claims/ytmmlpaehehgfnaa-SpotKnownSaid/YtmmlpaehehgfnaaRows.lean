/-
  No cell of these rows narrows 'for every input' (looked for: loops, veiled, ifaces, maps, wideKeys, modest, calm, conditions, laid).
  DERIVED. THE GIVEN ROWS OF THIS SEAT. 9 by the template 'for every input the law returns true; each argument reads behind the call as it read before'; 0 by the template 'total and deterministic' (their statements: YtmmlpaehehgfnaaTotals.lean).
  GIVEN WITH THE SEED: the statements are not yours to turn. If you find one false, say at which input.
  Laid BY PROGRAM, IN A SANDBOX (cutbox-rows.mjs): the forced cells as the released guide's own fill.sh prints them over the translation 4bc93ba0d6f952c5… (all of the seat's roots in one cut). By AI agents, Wed Nov 11 2026. No macro, syntax, notation, axiom, sorry.
-/
import Derived.Test.YtmmlpaehehgfnaaChecked
import GoSem.Claim
import GoSem.ClaimJoined
import GoSem.ClaimMapViews
import Derived.JoinedTies
import Derived.KernelRfl
namespace Go.Proofs.Ytmmlpaehehgfnaa
/- THE CELL 'sum', in the pinned program and in every row, IS THE sha256 OF THE DUMP (.gsa) THAT YtmmlpaehehgfnaaProg.lean LOADS. Nothing in Lean hashes anything: it is a label: what it is worth is what the hold of that sum in a sandbox is worth. -/
noncomputable def Try.pinned : Pinned := { name := "ytmmlpaehehgfnaa", sum := "4bc93ba0d6f952c5c017d0dfca02ec5d8f0795c09715dc1aef3b931d6df5be4e", checked := Try.checked }
namespace Rows
def none {H : Type} : Left H := { results := [], args := [] }

/-- 'meniscuslaw8.GaussTells': WHATEVER THE INPUT: true; the input reads as it did. -/
def gaussTellsSpec : ChangeSpec := { name := "gaussTells", fn := fun _ => fun
  | [d1, d2, d3, d4, d5, d6] => { results := [.lit (.bool true)], args := [d1, d2, d3, d4, d5, d6] }
  | _ => none }
def gaussTellsRow : OpenClaim := { program := "ytmmlpaehehgfnaa", sum := "4bc93ba0d6f952c5c017d0dfca02ec5d8f0795c09715dc1aef3b931d6df5be4e", func := "meniscus/meniscuslaw8.GaussTells", spec := "gaussTells", inPlace := ["math.archTrunc", "math.Float64bits", "math.Float64frombits"], apart := false }
def GaussTellsSaid : Prop := gaussTellsRow.holds Try.pinned (OpenSpec.ofChange gaussTellsSpec)

/-- ITS FALSE NEIGHBOUR: 'it returns false'. Refute it at one input. -/
def gaussTellsWrong : ChangeSpec := { name := "gaussTells", fn := fun _ => fun
  | [d1, d2, d3, d4, d5, d6] => { results := [.lit (.bool false)], args := [d1, d2, d3, d4, d5, d6] }
  | _ => none }
def GaussTellsWrongFalsely : Prop := gaussTellsRow.holds Try.pinned (OpenSpec.ofChange gaussTellsWrong)

/-- 'meniscuslaw8.GaussKnown': WHATEVER THE INPUT: true; the input reads as it did. -/
def gaussKnownSpec : ChangeSpec := { name := "gaussKnown", fn := fun _ => fun
  | [] => { results := [.lit (.bool true)], args := [] }
  | _ => none }
def gaussKnownRow : OpenClaim := { program := "ytmmlpaehehgfnaa", sum := "4bc93ba0d6f952c5c017d0dfca02ec5d8f0795c09715dc1aef3b931d6df5be4e", func := "meniscus/meniscuslaw8.GaussKnown", spec := "gaussKnown", inPlace := ["math.archTrunc", "math.Float64bits", "math.Float64frombits"], unfollowed := true, recurses := true, apart := false }
def GaussKnownSaid : Prop := gaussKnownRow.holds Try.pinned (OpenSpec.ofChange gaussKnownSpec)

/-- ITS FALSE NEIGHBOUR: 'it returns false'. Refute it at one input. -/
def gaussKnownWrong : ChangeSpec := { name := "gaussKnown", fn := fun _ => fun
  | [] => { results := [.lit (.bool false)], args := [] }
  | _ => none }
def GaussKnownWrongFalsely : Prop := gaussKnownRow.holds Try.pinned (OpenSpec.ofChange gaussKnownWrong)

/-- 'meniscuslaw7.NewtonAsks': WHATEVER THE INPUT: true; the input reads as it did. -/
def newtonAsksSpec : ChangeSpec := { name := "newtonAsks", fn := fun _ => fun
  | [d1, d2, d3, d4] => { results := [.lit (.bool true)], args := [d1, d2, d3, d4] }
  | _ => none }
def newtonAsksRow : OpenClaim := { program := "ytmmlpaehehgfnaa", sum := "4bc93ba0d6f952c5c017d0dfca02ec5d8f0795c09715dc1aef3b931d6df5be4e", func := "meniscus/meniscuslaw7.NewtonAsks", spec := "newtonAsks", unfollowed := true, recurses := true, apart := false }
def NewtonAsksSaid : Prop := newtonAsksRow.holds Try.pinned (OpenSpec.ofChange newtonAsksSpec)

/-- ITS FALSE NEIGHBOUR: 'it returns false'. Refute it at one input. -/
def newtonAsksWrong : ChangeSpec := { name := "newtonAsks", fn := fun _ => fun
  | [d1, d2, d3, d4] => { results := [.lit (.bool false)], args := [d1, d2, d3, d4] }
  | _ => none }
def NewtonAsksWrongFalsely : Prop := newtonAsksRow.holds Try.pinned (OpenSpec.ofChange newtonAsksWrong)

/-- 'meniscuslaw7.NewtonRoots': WHATEVER THE INPUT: true; the input reads as it did. -/
def newtonRootsSpec : ChangeSpec := { name := "newtonRoots", fn := fun _ => fun
  | [d1, d2, d3, d4] => { results := [.lit (.bool true)], args := [d1, d2, d3, d4] }
  | _ => none }
def newtonRootsRow : OpenClaim := { program := "ytmmlpaehehgfnaa", sum := "4bc93ba0d6f952c5c017d0dfca02ec5d8f0795c09715dc1aef3b931d6df5be4e", func := "meniscus/meniscuslaw7.NewtonRoots", spec := "newtonRoots", unfollowed := true, recurses := true, apart := false }
def NewtonRootsSaid : Prop := newtonRootsRow.holds Try.pinned (OpenSpec.ofChange newtonRootsSpec)

/-- ITS FALSE NEIGHBOUR: 'it returns false'. Refute it at one input. -/
def newtonRootsWrong : ChangeSpec := { name := "newtonRoots", fn := fun _ => fun
  | [d1, d2, d3, d4] => { results := [.lit (.bool false)], args := [d1, d2, d3, d4] }
  | _ => none }
def NewtonRootsWrongFalsely : Prop := newtonRootsRow.holds Try.pinned (OpenSpec.ofChange newtonRootsWrong)

/-- 'meniscuslaw15.HitOn': WHATEVER THE INPUT: true; the input reads as it did. -/
def hitOnSpec : ChangeSpec := { name := "hitOn", fn := fun _ => fun
  | [d1, d2, d3] => { results := [.lit (.bool true)], args := [d1, d2, d3] }
  | _ => none }
def hitOnRow : OpenClaim := { program := "ytmmlpaehehgfnaa", sum := "4bc93ba0d6f952c5c017d0dfca02ec5d8f0795c09715dc1aef3b931d6df5be4e", func := "meniscus/meniscuslaw15.HitOn", spec := "hitOn", unfollowed := true, recurses := true, apart := false }
def HitOnSaid : Prop := hitOnRow.holds Try.pinned (OpenSpec.ofChange hitOnSpec)

/-- ITS FALSE NEIGHBOUR: 'it returns false'. Refute it at one input. -/
def hitOnWrong : ChangeSpec := { name := "hitOn", fn := fun _ => fun
  | [d1, d2, d3] => { results := [.lit (.bool false)], args := [d1, d2, d3] }
  | _ => none }
def HitOnWrongFalsely : Prop := hitOnRow.holds Try.pinned (OpenSpec.ofChange hitOnWrong)

/-- 'meniscuslaw19.TraceStraight': WHATEVER THE INPUT: true; the input reads as it did. -/
def traceStraightSpec : ChangeSpec := { name := "traceStraight", fn := fun _ => fun
  | [d1, d2, d3, d4, d5, d6, d7] => { results := [.lit (.bool true)], args := [d1, d2, d3, d4, d5, d6, d7] }
  | _ => none }
def traceStraightRow : OpenClaim := { program := "ytmmlpaehehgfnaa", sum := "4bc93ba0d6f952c5c017d0dfca02ec5d8f0795c09715dc1aef3b931d6df5be4e", func := "meniscus/meniscuslaw19.TraceStraight", spec := "traceStraight", unfollowed := true, recurses := true, apart := false }
def TraceStraightSaid : Prop := traceStraightRow.holds Try.pinned (OpenSpec.ofChange traceStraightSpec)

/-- ITS FALSE NEIGHBOUR: 'it returns false'. Refute it at one input. -/
def traceStraightWrong : ChangeSpec := { name := "traceStraight", fn := fun _ => fun
  | [d1, d2, d3, d4, d5, d6, d7] => { results := [.lit (.bool false)], args := [d1, d2, d3, d4, d5, d6, d7] }
  | _ => none }
def TraceStraightWrongFalsely : Prop := traceStraightRow.holds Try.pinned (OpenSpec.ofChange traceStraightWrong)

/-- 'meniscuslaw23.PupilKnown': WHATEVER THE INPUT: true; the input reads as it did. -/
def pupilKnownSpec : ChangeSpec := { name := "pupilKnown", fn := fun _ => fun
  | [] => { results := [.lit (.bool true)], args := [] }
  | _ => none }
def pupilKnownRow : OpenClaim := { program := "ytmmlpaehehgfnaa", sum := "4bc93ba0d6f952c5c017d0dfca02ec5d8f0795c09715dc1aef3b931d6df5be4e", func := "meniscus/meniscuslaw23.PupilKnown", spec := "pupilKnown", inPlace := ["math.archTrunc", "math.Float64bits", "math.Float64frombits"], unfollowed := true, recurses := true, apart := false }
def PupilKnownSaid : Prop := pupilKnownRow.holds Try.pinned (OpenSpec.ofChange pupilKnownSpec)

/-- ITS FALSE NEIGHBOUR: 'it returns false'. Refute it at one input. -/
def pupilKnownWrong : ChangeSpec := { name := "pupilKnown", fn := fun _ => fun
  | [] => { results := [.lit (.bool false)], args := [] }
  | _ => none }
def PupilKnownWrongFalsely : Prop := pupilKnownRow.holds Try.pinned (OpenSpec.ofChange pupilKnownWrong)

/-- 'meniscuslaw24.VignetteKnown': WHATEVER THE INPUT: true; the input reads as it did. -/
def vignetteKnownSpec : ChangeSpec := { name := "vignetteKnown", fn := fun _ => fun
  | [] => { results := [.lit (.bool true)], args := [] }
  | _ => none }
def vignetteKnownRow : OpenClaim := { program := "ytmmlpaehehgfnaa", sum := "4bc93ba0d6f952c5c017d0dfca02ec5d8f0795c09715dc1aef3b931d6df5be4e", func := "meniscus/meniscuslaw24.VignetteKnown", spec := "vignetteKnown", inPlace := ["math.archTrunc", "math.Float64bits", "math.Float64frombits"], unfollowed := true, recurses := true, apart := false }
def VignetteKnownSaid : Prop := vignetteKnownRow.holds Try.pinned (OpenSpec.ofChange vignetteKnownSpec)

/-- ITS FALSE NEIGHBOUR: 'it returns false'. Refute it at one input. -/
def vignetteKnownWrong : ChangeSpec := { name := "vignetteKnown", fn := fun _ => fun
  | [] => { results := [.lit (.bool false)], args := [] }
  | _ => none }
def VignetteKnownWrongFalsely : Prop := vignetteKnownRow.holds Try.pinned (OpenSpec.ofChange vignetteKnownWrong)

/-- 'meniscuslaw25.SpotKnown': WHATEVER THE INPUT: true; the input reads as it did. -/
def spotKnownSpec : ChangeSpec := { name := "spotKnown", fn := fun _ => fun
  | [] => { results := [.lit (.bool true)], args := [] }
  | _ => none }
def spotKnownRow : OpenClaim := { program := "ytmmlpaehehgfnaa", sum := "4bc93ba0d6f952c5c017d0dfca02ec5d8f0795c09715dc1aef3b931d6df5be4e", func := "meniscus/meniscuslaw25.SpotKnown", spec := "spotKnown", inPlace := ["math.archTrunc", "math.Float64bits", "math.Float64frombits"], unfollowed := true, recurses := true, apart := false }
def SpotKnownSaid : Prop := spotKnownRow.holds Try.pinned (OpenSpec.ofChange spotKnownSpec)

/-- ITS FALSE NEIGHBOUR: 'it returns false'. Refute it at one input. -/
def spotKnownWrong : ChangeSpec := { name := "spotKnown", fn := fun _ => fun
  | [] => { results := [.lit (.bool false)], args := [] }
  | _ => none }
def SpotKnownWrongFalsely : Prop := spotKnownRow.holds Try.pinned (OpenSpec.ofChange spotKnownWrong)

/- THE SECOND FORM. 'bulk': how many values and letters a reading holds, each counted each time it is reached (what is shared counts as often as it is met; a slice's spare places count too). A statement '..UptoSaid' is the law's where the arguments, and the package variables that the reading takes, are together of bulk at most 1048576: NARROWER than '..Said'. Prove '..Said' where nothing that the law and all that it calls make is longer than what came in: it says more and counts as full. Else prove '..UptoSaid'. A law counts once. -/
mutual
def uptoBulk {H : Type} : DataW H → Nat
  | .lit (.string bytes) => bytes.length + 1
  | .lit _ => 1
  | .nil => 1
  | .ptr d => uptoBulk d + 1
  | .slice elems spare => uptoBulkAll elems + uptoBulkAll spare + 1
  | .agg parts => uptoBulkAll parts + 1
  | .iface _ d => uptoBulk d + 1
  | .map entries => uptoBulkEntries entries + 1
  | .held _ => 1
def uptoBulkAll {H : Type} : List (DataW H) → Nat
  | [] => 0
  | d :: r => uptoBulk d + uptoBulkAll r
def uptoBulkEntries {H : Type} : List (Lit × DataW H) → Nat
  | [] => 0
  | x :: r => uptoBulkEntry x + uptoBulkEntries r
def uptoBulkEntry {H : Type} : Lit × DataW H → Nat
  | (.string bytes, d) => bytes.length + uptoBulk d + 1
  | (_, d) => uptoBulk d + 1
 end
def uptoSmall : (H : Type) → List (DataW H) → Bool := fun _ ds => decide (uptoBulkAll ds ≤ 1048576)
def OpenSpec.upto (s : _root_.Go.ChangeSpec) : _root_.Go.OpenSpec := { _root_.Go.OpenSpec.ofChange s with cond := some uptoSmall }

/-- 'meniscuslaw8.GaussTells', WHERE WHAT IT READS IS OF BULK AT MOST 1048576: true; the input reads as it did. -/
def gaussTellsUptoRow : OpenClaim := { program := "ytmmlpaehehgfnaa", sum := "4bc93ba0d6f952c5c017d0dfca02ec5d8f0795c09715dc1aef3b931d6df5be4e", func := "meniscus/meniscuslaw8.GaussTells", spec := "gaussTells", inPlace := ["math.archTrunc", "math.Float64bits", "math.Float64frombits"], apart := false, narrowed := true }
def GaussTellsUptoSaid : Prop := gaussTellsUptoRow.holds Try.pinned (OpenSpec.upto gaussTellsSpec)

/-- 'meniscuslaw8.GaussKnown', WHERE WHAT IT READS IS OF BULK AT MOST 1048576: true; the input reads as it did. -/
def gaussKnownUptoRow : OpenClaim := { program := "ytmmlpaehehgfnaa", sum := "4bc93ba0d6f952c5c017d0dfca02ec5d8f0795c09715dc1aef3b931d6df5be4e", func := "meniscus/meniscuslaw8.GaussKnown", spec := "gaussKnown", inPlace := ["math.archTrunc", "math.Float64bits", "math.Float64frombits"], unfollowed := true, recurses := true, apart := false, narrowed := true }
def GaussKnownUptoSaid : Prop := gaussKnownUptoRow.holds Try.pinned (OpenSpec.upto gaussKnownSpec)

/-- 'meniscuslaw7.NewtonAsks', WHERE WHAT IT READS IS OF BULK AT MOST 1048576: true; the input reads as it did. -/
def newtonAsksUptoRow : OpenClaim := { program := "ytmmlpaehehgfnaa", sum := "4bc93ba0d6f952c5c017d0dfca02ec5d8f0795c09715dc1aef3b931d6df5be4e", func := "meniscus/meniscuslaw7.NewtonAsks", spec := "newtonAsks", unfollowed := true, recurses := true, apart := false, narrowed := true }
def NewtonAsksUptoSaid : Prop := newtonAsksUptoRow.holds Try.pinned (OpenSpec.upto newtonAsksSpec)

/-- 'meniscuslaw7.NewtonRoots', WHERE WHAT IT READS IS OF BULK AT MOST 1048576: true; the input reads as it did. -/
def newtonRootsUptoRow : OpenClaim := { program := "ytmmlpaehehgfnaa", sum := "4bc93ba0d6f952c5c017d0dfca02ec5d8f0795c09715dc1aef3b931d6df5be4e", func := "meniscus/meniscuslaw7.NewtonRoots", spec := "newtonRoots", unfollowed := true, recurses := true, apart := false, narrowed := true }
def NewtonRootsUptoSaid : Prop := newtonRootsUptoRow.holds Try.pinned (OpenSpec.upto newtonRootsSpec)

/-- 'meniscuslaw15.HitOn', WHERE WHAT IT READS IS OF BULK AT MOST 1048576: true; the input reads as it did. -/
def hitOnUptoRow : OpenClaim := { program := "ytmmlpaehehgfnaa", sum := "4bc93ba0d6f952c5c017d0dfca02ec5d8f0795c09715dc1aef3b931d6df5be4e", func := "meniscus/meniscuslaw15.HitOn", spec := "hitOn", unfollowed := true, recurses := true, apart := false, narrowed := true }
def HitOnUptoSaid : Prop := hitOnUptoRow.holds Try.pinned (OpenSpec.upto hitOnSpec)

/-- 'meniscuslaw19.TraceStraight', WHERE WHAT IT READS IS OF BULK AT MOST 1048576: true; the input reads as it did. -/
def traceStraightUptoRow : OpenClaim := { program := "ytmmlpaehehgfnaa", sum := "4bc93ba0d6f952c5c017d0dfca02ec5d8f0795c09715dc1aef3b931d6df5be4e", func := "meniscus/meniscuslaw19.TraceStraight", spec := "traceStraight", unfollowed := true, recurses := true, apart := false, narrowed := true }
def TraceStraightUptoSaid : Prop := traceStraightUptoRow.holds Try.pinned (OpenSpec.upto traceStraightSpec)

/-- 'meniscuslaw23.PupilKnown', WHERE WHAT IT READS IS OF BULK AT MOST 1048576: true; the input reads as it did. -/
def pupilKnownUptoRow : OpenClaim := { program := "ytmmlpaehehgfnaa", sum := "4bc93ba0d6f952c5c017d0dfca02ec5d8f0795c09715dc1aef3b931d6df5be4e", func := "meniscus/meniscuslaw23.PupilKnown", spec := "pupilKnown", inPlace := ["math.archTrunc", "math.Float64bits", "math.Float64frombits"], unfollowed := true, recurses := true, apart := false, narrowed := true }
def PupilKnownUptoSaid : Prop := pupilKnownUptoRow.holds Try.pinned (OpenSpec.upto pupilKnownSpec)

/-- 'meniscuslaw24.VignetteKnown', WHERE WHAT IT READS IS OF BULK AT MOST 1048576: true; the input reads as it did. -/
def vignetteKnownUptoRow : OpenClaim := { program := "ytmmlpaehehgfnaa", sum := "4bc93ba0d6f952c5c017d0dfca02ec5d8f0795c09715dc1aef3b931d6df5be4e", func := "meniscus/meniscuslaw24.VignetteKnown", spec := "vignetteKnown", inPlace := ["math.archTrunc", "math.Float64bits", "math.Float64frombits"], unfollowed := true, recurses := true, apart := false, narrowed := true }
def VignetteKnownUptoSaid : Prop := vignetteKnownUptoRow.holds Try.pinned (OpenSpec.upto vignetteKnownSpec)

/-- 'meniscuslaw25.SpotKnown', WHERE WHAT IT READS IS OF BULK AT MOST 1048576: true; the input reads as it did. -/
def spotKnownUptoRow : OpenClaim := { program := "ytmmlpaehehgfnaa", sum := "4bc93ba0d6f952c5c017d0dfca02ec5d8f0795c09715dc1aef3b931d6df5be4e", func := "meniscus/meniscuslaw25.SpotKnown", spec := "spotKnown", inPlace := ["math.archTrunc", "math.Float64bits", "math.Float64frombits"], unfollowed := true, recurses := true, apart := false, narrowed := true }
def SpotKnownUptoSaid : Prop := spotKnownUptoRow.holds Try.pinned (OpenSpec.upto spotKnownSpec)

end Rows
end Go.Proofs.Ytmmlpaehehgfnaa
