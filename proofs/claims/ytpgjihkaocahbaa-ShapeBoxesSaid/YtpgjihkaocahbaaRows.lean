/-
  No cell of these rows narrows 'for every input' (looked for: loops, veiled, ifaces, maps, wideKeys, modest, calm, conditions, laid).
  DERIVED. THE GIVEN ROWS OF THIS SEAT. 5 by the template 'for every input the law returns true; each argument reads behind the call as it read before'; 0 by the template 'total and deterministic' (their statements: YtpgjihkaocahbaaTotals.lean).
  GIVEN WITH THE SEED: the statements are not yours to turn. If you find one false, say at which input.
  Laid BY PROGRAM, IN A SANDBOX (cutbox-rows.mjs): the forced cells as the released guide's own fill.sh prints them over the translation 60eee37cf68dcc18… (all of the seat's roots in one cut). By AI agents, Wed Nov 11 2026. No macro, syntax, notation, axiom, sorry.
-/
import Derived.Test.YtpgjihkaocahbaaChecked
import GoSem.Claim
import GoSem.ClaimJoined
import GoSem.ClaimMapViews
import Derived.JoinedTies
import Derived.KernelRfl
namespace Go.Proofs.Ytpgjihkaocahbaa
/- THE CELL 'sum', in the pinned program and in every row, IS THE sha256 OF THE DUMP (.gsa) THAT YtpgjihkaocahbaaProg.lean LOADS. Nothing in Lean hashes anything: it is a label: what it is worth is what the hold of that sum in a sandbox is worth. -/
noncomputable def Try.pinned : Pinned := { name := "ytpgjihkaocahbaa", sum := "60eee37cf68dcc18c0a01ae17744d094947830714148476aa013a0638df47712", checked := Try.checked }
namespace Rows
def none {H : Type} : Left H := { results := [], args := [] }

/-- 'lanternlaw10.ShapeNests': WHATEVER THE INPUT: true; the input reads as it did. -/
def shapeNestsSpec : ChangeSpec := { name := "shapeNests", fn := fun _ => fun
  | [d1, d2, d3] => { results := [.lit (.bool true)], args := [d1, d2, d3] }
  | _ => none }
def shapeNestsRow : OpenClaim := { program := "ytpgjihkaocahbaa", sum := "60eee37cf68dcc18c0a01ae17744d094947830714148476aa013a0638df47712", func := "lantern/lanternlaw10.ShapeNests", spec := "shapeNests", inPlace := ["math.Float64frombits", "math.Float64bits", "math/bits.Add64", "math/bits.Sub64"], unfollowed := true, recurses := true, named := ["math/bits.divideError", "math/bits.overflowError"], apart := false }
def ShapeNestsSaid : Prop := shapeNestsRow.holds Try.pinned (OpenSpec.ofChange shapeNestsSpec)

/-- ITS FALSE NEIGHBOUR: 'it returns false'. Refute it at one input. -/
def shapeNestsWrong : ChangeSpec := { name := "shapeNests", fn := fun _ => fun
  | [d1, d2, d3] => { results := [.lit (.bool false)], args := [d1, d2, d3] }
  | _ => none }
def ShapeNestsWrongFalsely : Prop := shapeNestsRow.holds Try.pinned (OpenSpec.ofChange shapeNestsWrong)

/-- 'lanternlaw10.ShapeBoxes': WHATEVER THE INPUT: true; the input reads as it did. -/
def shapeBoxesSpec : ChangeSpec := { name := "shapeBoxes", fn := fun _ => fun
  | [d1, d2, d3, d4, d5] => { results := [.lit (.bool true)], args := [d1, d2, d3, d4, d5] }
  | _ => none }
def shapeBoxesRow : OpenClaim := { program := "ytpgjihkaocahbaa", sum := "60eee37cf68dcc18c0a01ae17744d094947830714148476aa013a0638df47712", func := "lantern/lanternlaw10.ShapeBoxes", spec := "shapeBoxes", inPlace := ["math.Float64frombits", "math.Float64bits", "math/bits.Add64", "math/bits.Sub64"], unfollowed := true, recurses := true, named := ["math/bits.divideError", "math/bits.overflowError"], apart := false }
def ShapeBoxesSaid : Prop := shapeBoxesRow.holds Try.pinned (OpenSpec.ofChange shapeBoxesSpec)

/-- ITS FALSE NEIGHBOUR: 'it returns false'. Refute it at one input. -/
def shapeBoxesWrong : ChangeSpec := { name := "shapeBoxes", fn := fun _ => fun
  | [d1, d2, d3, d4, d5] => { results := [.lit (.bool false)], args := [d1, d2, d3, d4, d5] }
  | _ => none }
def ShapeBoxesWrongFalsely : Prop := shapeBoxesRow.holds Try.pinned (OpenSpec.ofChange shapeBoxesWrong)

/-- 'lanternlaw13.LightSides': WHATEVER THE INPUT: true; the input reads as it did. -/
def lightSidesSpec : ChangeSpec := { name := "lightSides", fn := fun _ => fun
  | [d1, d2, d3, d4, d5, d6] => { results := [.lit (.bool true)], args := [d1, d2, d3, d4, d5, d6] }
  | _ => none }
def lightSidesRow : OpenClaim := { program := "ytpgjihkaocahbaa", sum := "60eee37cf68dcc18c0a01ae17744d094947830714148476aa013a0638df47712", func := "lantern/lanternlaw13.LightSides", spec := "lightSides", inPlace := ["math.Float64frombits", "math.Float64bits", "math/bits.Add64", "math/bits.Sub64"], unfollowed := true, recurses := true, named := ["math/bits.divideError", "math/bits.overflowError"], apart := false }
def LightSidesSaid : Prop := lightSidesRow.holds Try.pinned (OpenSpec.ofChange lightSidesSpec)

/-- ITS FALSE NEIGHBOUR: 'it returns false'. Refute it at one input. -/
def lightSidesWrong : ChangeSpec := { name := "lightSides", fn := fun _ => fun
  | [d1, d2, d3, d4, d5, d6] => { results := [.lit (.bool false)], args := [d1, d2, d3, d4, d5, d6] }
  | _ => none }
def LightSidesWrongFalsely : Prop := lightSidesRow.holds Try.pinned (OpenSpec.ofChange lightSidesWrong)

/-- 'lanternlaw13.LightFar': WHATEVER THE INPUT: true; the input reads as it did. -/
def lightFarSpec : ChangeSpec := { name := "lightFar", fn := fun _ => fun
  | [d1, d2] => { results := [.lit (.bool true)], args := [d1, d2] }
  | _ => none }
def lightFarRow : OpenClaim := { program := "ytpgjihkaocahbaa", sum := "60eee37cf68dcc18c0a01ae17744d094947830714148476aa013a0638df47712", func := "lantern/lanternlaw13.LightFar", spec := "lightFar", inPlace := ["math.Float64frombits", "math.Float64bits", "math/bits.Add64", "math/bits.Sub64"], unfollowed := true, recurses := true, named := ["math/bits.divideError", "math/bits.overflowError"], apart := false }
def LightFarSaid : Prop := lightFarRow.holds Try.pinned (OpenSpec.ofChange lightFarSpec)

/-- ITS FALSE NEIGHBOUR: 'it returns false'. Refute it at one input. -/
def lightFarWrong : ChangeSpec := { name := "lightFar", fn := fun _ => fun
  | [d1, d2] => { results := [.lit (.bool false)], args := [d1, d2] }
  | _ => none }
def LightFarWrongFalsely : Prop := lightFarRow.holds Try.pinned (OpenSpec.ofChange lightFarWrong)

/-- 'lanternlaw13.LightChances': WHATEVER THE INPUT: true; the input reads as it did. -/
def lightChancesSpec : ChangeSpec := { name := "lightChances", fn := fun _ => fun
  | [d1, d2] => { results := [.lit (.bool true)], args := [d1, d2] }
  | _ => none }
def lightChancesRow : OpenClaim := { program := "ytpgjihkaocahbaa", sum := "60eee37cf68dcc18c0a01ae17744d094947830714148476aa013a0638df47712", func := "lantern/lanternlaw13.LightChances", spec := "lightChances", inPlace := ["math.Float64frombits", "math.Float64bits", "math/bits.Add64", "math/bits.Sub64"], unfollowed := true, recurses := true, named := ["math/bits.divideError", "math/bits.overflowError"], apart := false }
def LightChancesSaid : Prop := lightChancesRow.holds Try.pinned (OpenSpec.ofChange lightChancesSpec)

/-- ITS FALSE NEIGHBOUR: 'it returns false'. Refute it at one input. -/
def lightChancesWrong : ChangeSpec := { name := "lightChances", fn := fun _ => fun
  | [d1, d2] => { results := [.lit (.bool false)], args := [d1, d2] }
  | _ => none }
def LightChancesWrongFalsely : Prop := lightChancesRow.holds Try.pinned (OpenSpec.ofChange lightChancesWrong)

/- THE SECOND FORM. 'bulk': how many values and letters a reading holds, each counted each time it is reached (what is shared counts as often as it is met; a slice's spare places count too). A statement '..UptoSaid' is the law's where the arguments, and the package variables that the reading takes, are together of bulk at most 1048576: NARROWER than '..Said'. Prove '..Said' where nothing that the law and all that it calls make is longer than what came in: it says more and counts as full. Else prove '..UptoSaid'. A law counts once. -/
mutual
def uptoBulk {H : Type} : DataW H → Nat
  | .lit (.string bytes) => bytes.length + 1
  | .lit _ => 1
  | .nil => 1
  | .ptr d => uptoBulk d + 1
  | .slice elems spare => uptoBulkAll elems + uptoBulkAll spare + 1
  | .agg parts => uptoBulkAll parts + 1
  | .iface _ d => uptoBulk d + 1
  | .map entries => uptoBulkEntries entries + 1
  | .held _ => 1
def uptoBulkAll {H : Type} : List (DataW H) → Nat
  | [] => 0
  | d :: r => uptoBulk d + uptoBulkAll r
def uptoBulkEntries {H : Type} : List (Lit × DataW H) → Nat
  | [] => 0
  | x :: r => uptoBulkEntry x + uptoBulkEntries r
def uptoBulkEntry {H : Type} : Lit × DataW H → Nat
  | (.string bytes, d) => bytes.length + uptoBulk d + 1
  | (_, d) => uptoBulk d + 1
 end
def uptoSmall : (H : Type) → List (DataW H) → Bool := fun _ ds => decide (uptoBulkAll ds ≤ 1048576)
def OpenSpec.upto (s : _root_.Go.ChangeSpec) : _root_.Go.OpenSpec := { _root_.Go.OpenSpec.ofChange s with cond := some uptoSmall }

/-- 'lanternlaw10.ShapeNests', WHERE WHAT IT READS IS OF BULK AT MOST 1048576: true; the input reads as it did. -/
def shapeNestsUptoRow : OpenClaim := { program := "ytpgjihkaocahbaa", sum := "60eee37cf68dcc18c0a01ae17744d094947830714148476aa013a0638df47712", func := "lantern/lanternlaw10.ShapeNests", spec := "shapeNests", inPlace := ["math.Float64frombits", "math.Float64bits", "math/bits.Add64", "math/bits.Sub64"], unfollowed := true, recurses := true, named := ["math/bits.divideError", "math/bits.overflowError"], apart := false, narrowed := true }
def ShapeNestsUptoSaid : Prop := shapeNestsUptoRow.holds Try.pinned (OpenSpec.upto shapeNestsSpec)

/-- 'lanternlaw10.ShapeBoxes', WHERE WHAT IT READS IS OF BULK AT MOST 1048576: true; the input reads as it did. -/
def shapeBoxesUptoRow : OpenClaim := { program := "ytpgjihkaocahbaa", sum := "60eee37cf68dcc18c0a01ae17744d094947830714148476aa013a0638df47712", func := "lantern/lanternlaw10.ShapeBoxes", spec := "shapeBoxes", inPlace := ["math.Float64frombits", "math.Float64bits", "math/bits.Add64", "math/bits.Sub64"], unfollowed := true, recurses := true, named := ["math/bits.divideError", "math/bits.overflowError"], apart := false, narrowed := true }
def ShapeBoxesUptoSaid : Prop := shapeBoxesUptoRow.holds Try.pinned (OpenSpec.upto shapeBoxesSpec)

/-- 'lanternlaw13.LightSides', WHERE WHAT IT READS IS OF BULK AT MOST 1048576: true; the input reads as it did. -/
def lightSidesUptoRow : OpenClaim := { program := "ytpgjihkaocahbaa", sum := "60eee37cf68dcc18c0a01ae17744d094947830714148476aa013a0638df47712", func := "lantern/lanternlaw13.LightSides", spec := "lightSides", inPlace := ["math.Float64frombits", "math.Float64bits", "math/bits.Add64", "math/bits.Sub64"], unfollowed := true, recurses := true, named := ["math/bits.divideError", "math/bits.overflowError"], apart := false, narrowed := true }
def LightSidesUptoSaid : Prop := lightSidesUptoRow.holds Try.pinned (OpenSpec.upto lightSidesSpec)

/-- 'lanternlaw13.LightFar', WHERE WHAT IT READS IS OF BULK AT MOST 1048576: true; the input reads as it did. -/
def lightFarUptoRow : OpenClaim := { program := "ytpgjihkaocahbaa", sum := "60eee37cf68dcc18c0a01ae17744d094947830714148476aa013a0638df47712", func := "lantern/lanternlaw13.LightFar", spec := "lightFar", inPlace := ["math.Float64frombits", "math.Float64bits", "math/bits.Add64", "math/bits.Sub64"], unfollowed := true, recurses := true, named := ["math/bits.divideError", "math/bits.overflowError"], apart := false, narrowed := true }
def LightFarUptoSaid : Prop := lightFarUptoRow.holds Try.pinned (OpenSpec.upto lightFarSpec)

/-- 'lanternlaw13.LightChances', WHERE WHAT IT READS IS OF BULK AT MOST 1048576: true; the input reads as it did. -/
def lightChancesUptoRow : OpenClaim := { program := "ytpgjihkaocahbaa", sum := "60eee37cf68dcc18c0a01ae17744d094947830714148476aa013a0638df47712", func := "lantern/lanternlaw13.LightChances", spec := "lightChances", inPlace := ["math.Float64frombits", "math.Float64bits", "math/bits.Add64", "math/bits.Sub64"], unfollowed := true, recurses := true, named := ["math/bits.divideError", "math/bits.overflowError"], apart := false, narrowed := true }
def LightChancesUptoSaid : Prop := lightChancesUptoRow.holds Try.pinned (OpenSpec.upto lightChancesSpec)

end Rows
end Go.Proofs.Ytpgjihkaocahbaa
