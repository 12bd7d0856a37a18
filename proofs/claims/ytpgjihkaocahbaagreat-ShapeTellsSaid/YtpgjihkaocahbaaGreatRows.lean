/-
  No cell of these rows narrows 'for every input' (looked for: loops, veiled, ifaces, maps, wideKeys, modest, calm, conditions, laid).
  DERIVED. THE GIVEN ROWS OF THIS SEAT. 6 by the template 'for every input the law returns true; each argument reads behind the call as it read before'; 0 by the template 'total and deterministic' (their statements: YtpgjihkaocahbaaGreatTotals.lean).
  GIVEN WITH THE SEED: the statements are not yours to turn. If you find one false, say at which input.
  Laid BY PROGRAM, IN A SANDBOX (cutbox-rows.mjs): the forced cells as the released guide's own fill.sh prints them over the translation c0d2958b3e83d34b… (all of the seat's roots in one cut). By AI agents, Wed Nov 11 2026. No macro, syntax, notation, axiom, sorry.
-/
import Derived.Test.YtpgjihkaocahbaaGreatChecked
import GoSem.Claim
import GoSem.ClaimJoined
import GoSem.ClaimMapViews
import Derived.JoinedTies
import Derived.KernelRfl
namespace Go.Proofs.YtpgjihkaocahbaaGreat
/- THE CELL 'sum', in the pinned program and in every row, IS THE sha256 OF THE DUMP (.gsa) THAT YtpgjihkaocahbaaGreatProg.lean LOADS. Nothing in Lean hashes anything: it is a label: what it is worth is what the hold of that sum in a sandbox is worth. -/
noncomputable def Tryz.pinned : Pinned := { name := "ytpgjihkaocahbaagreat", sum := "c0d2958b3e83d34bfa4f54e3e056358bde2a94856e994ae6a9837ee87a21d4f3", checked := Tryz.checked }
namespace Rows
def none {H : Type} : Left H := { results := [], args := [] }

/-- 'lanternlaw10.ShapeTells': WHATEVER THE INPUT: true; the input reads as it did. -/
def shapeTellsSpec : ChangeSpec := { name := "shapeTells", fn := fun _ => fun
  | [d1, d2, d3, d4] => { results := [.lit (.bool true)], args := [d1, d2, d3, d4] }
  | _ => none }
def shapeTellsRow : OpenClaim := { program := "ytpgjihkaocahbaagreat", sum := "c0d2958b3e83d34bfa4f54e3e056358bde2a94856e994ae6a9837ee87a21d4f3", func := "lantern/lanternlaw10.ShapeTells", spec := "shapeTells", inPlace := ["math.Float64frombits", "math.Float64bits", "math/bits.Add64", "math/bits.Sub64"], unfollowed := true, recurses := true, named := ["math/bits.divideError", "math/bits.overflowError"], apart := false }
def ShapeTellsSaid : Prop := shapeTellsRow.holds Tryz.pinned (OpenSpec.ofChange shapeTellsSpec)

/-- ITS FALSE NEIGHBOUR: 'it returns false'. Refute it at one input. -/
def shapeTellsWrong : ChangeSpec := { name := "shapeTells", fn := fun _ => fun
  | [d1, d2, d3, d4] => { results := [.lit (.bool false)], args := [d1, d2, d3, d4] }
  | _ => none }
def ShapeTellsWrongFalsely : Prop := shapeTellsRow.holds Tryz.pinned (OpenSpec.ofChange shapeTellsWrong)

/-- 'lanternlaw11.AccelSlabs': WHATEVER THE INPUT: true; the input reads as it did. -/
def accelSlabsSpec : ChangeSpec := { name := "accelSlabs", fn := fun _ => fun
  | [d1, d2, d3] => { results := [.lit (.bool true)], args := [d1, d2, d3] }
  | _ => none }
def accelSlabsRow : OpenClaim := { program := "ytpgjihkaocahbaagreat", sum := "c0d2958b3e83d34bfa4f54e3e056358bde2a94856e994ae6a9837ee87a21d4f3", func := "lantern/lanternlaw11.AccelSlabs", spec := "accelSlabs", inPlace := ["math.Float64frombits", "math.Float64bits", "math/bits.Add64", "math/bits.Sub64"], unfollowed := true, recurses := true, named := ["math/bits.divideError", "math/bits.overflowError"], apart := false }
def AccelSlabsSaid : Prop := accelSlabsRow.holds Tryz.pinned (OpenSpec.ofChange accelSlabsSpec)

/-- ITS FALSE NEIGHBOUR: 'it returns false'. Refute it at one input. -/
def accelSlabsWrong : ChangeSpec := { name := "accelSlabs", fn := fun _ => fun
  | [d1, d2, d3] => { results := [.lit (.bool false)], args := [d1, d2, d3] }
  | _ => none }
def AccelSlabsWrongFalsely : Prop := accelSlabsRow.holds Tryz.pinned (OpenSpec.ofChange accelSlabsWrong)

/-- 'lanternlaw11.AccelOne': WHATEVER THE INPUT: true; the input reads as it did. -/
def accelOneSpec : ChangeSpec := { name := "accelOne", fn := fun _ => fun
  | [d1, d2] => { results := [.lit (.bool true)], args := [d1, d2] }
  | _ => none }
def accelOneRow : OpenClaim := { program := "ytpgjihkaocahbaagreat", sum := "c0d2958b3e83d34bfa4f54e3e056358bde2a94856e994ae6a9837ee87a21d4f3", func := "lantern/lanternlaw11.AccelOne", spec := "accelOne", inPlace := ["math.Float64frombits", "math.Float64bits", "math/bits.Add64", "math/bits.Sub64"], unfollowed := true, recurses := true, named := ["math/bits.divideError", "math/bits.overflowError"], apart := false }
def AccelOneSaid : Prop := accelOneRow.holds Tryz.pinned (OpenSpec.ofChange accelOneSpec)

/-- ITS FALSE NEIGHBOUR: 'it returns false'. Refute it at one input. -/
def accelOneWrong : ChangeSpec := { name := "accelOne", fn := fun _ => fun
  | [d1, d2] => { results := [.lit (.bool false)], args := [d1, d2] }
  | _ => none }
def AccelOneWrongFalsely : Prop := accelOneRow.holds Tryz.pinned (OpenSpec.ofChange accelOneWrong)

/-- 'lanternlaw11.AccelMeets': WHATEVER THE INPUT: true; the input reads as it did. -/
def accelMeetsSpec : ChangeSpec := { name := "accelMeets", fn := fun _ => fun
  | [d1, d2, d3, d4] => { results := [.lit (.bool true)], args := [d1, d2, d3, d4] }
  | _ => none }
def accelMeetsRow : OpenClaim := { program := "ytpgjihkaocahbaagreat", sum := "c0d2958b3e83d34bfa4f54e3e056358bde2a94856e994ae6a9837ee87a21d4f3", func := "lantern/lanternlaw11.AccelMeets", spec := "accelMeets", inPlace := ["math.Float64frombits", "math.Float64bits", "math/bits.Add64", "math/bits.Sub64"], unfollowed := true, recurses := true, named := ["math/bits.divideError", "math/bits.overflowError"], apart := false }
def AccelMeetsSaid : Prop := accelMeetsRow.holds Tryz.pinned (OpenSpec.ofChange accelMeetsSpec)

/-- ITS FALSE NEIGHBOUR: 'it returns false'. Refute it at one input. -/
def accelMeetsWrong : ChangeSpec := { name := "accelMeets", fn := fun _ => fun
  | [d1, d2, d3, d4] => { results := [.lit (.bool false)], args := [d1, d2, d3, d4] }
  | _ => none }
def AccelMeetsWrongFalsely : Prop := accelMeetsRow.holds Tryz.pinned (OpenSpec.ofChange accelMeetsWrong)

/-- 'lanternlaw11.AccelOrder': WHATEVER THE INPUT: true; the input reads as it did. -/
def accelOrderSpec : ChangeSpec := { name := "accelOrder", fn := fun _ => fun
  | [d1, d2, d3] => { results := [.lit (.bool true)], args := [d1, d2, d3] }
  | _ => none }
def accelOrderRow : OpenClaim := { program := "ytpgjihkaocahbaagreat", sum := "c0d2958b3e83d34bfa4f54e3e056358bde2a94856e994ae6a9837ee87a21d4f3", func := "lantern/lanternlaw11.AccelOrder", spec := "accelOrder", inPlace := ["math.Float64frombits", "math.Float64bits", "math/bits.Add64", "math/bits.Sub64"], unfollowed := true, recurses := true, named := ["math/bits.divideError", "math/bits.overflowError"], apart := false }
def AccelOrderSaid : Prop := accelOrderRow.holds Tryz.pinned (OpenSpec.ofChange accelOrderSpec)

/-- ITS FALSE NEIGHBOUR: 'it returns false'. Refute it at one input. -/
def accelOrderWrong : ChangeSpec := { name := "accelOrder", fn := fun _ => fun
  | [d1, d2, d3] => { results := [.lit (.bool false)], args := [d1, d2, d3] }
  | _ => none }
def AccelOrderWrongFalsely : Prop := accelOrderRow.holds Tryz.pinned (OpenSpec.ofChange accelOrderWrong)

/-- 'lanternlaw11.AccelMore': WHATEVER THE INPUT: true; the input reads as it did. -/
def accelMoreSpec : ChangeSpec := { name := "accelMore", fn := fun _ => fun
  | [d1, d2, d3] => { results := [.lit (.bool true)], args := [d1, d2, d3] }
  | _ => none }
def accelMoreRow : OpenClaim := { program := "ytpgjihkaocahbaagreat", sum := "c0d2958b3e83d34bfa4f54e3e056358bde2a94856e994ae6a9837ee87a21d4f3", func := "lantern/lanternlaw11.AccelMore", spec := "accelMore", inPlace := ["math.Float64frombits", "math.Float64bits", "math/bits.Add64", "math/bits.Sub64"], unfollowed := true, recurses := true, named := ["math/bits.divideError", "math/bits.overflowError"], apart := false }
def AccelMoreSaid : Prop := accelMoreRow.holds Tryz.pinned (OpenSpec.ofChange accelMoreSpec)

/-- ITS FALSE NEIGHBOUR: 'it returns false'. Refute it at one input. -/
def accelMoreWrong : ChangeSpec := { name := "accelMore", fn := fun _ => fun
  | [d1, d2, d3] => { results := [.lit (.bool false)], args := [d1, d2, d3] }
  | _ => none }
def AccelMoreWrongFalsely : Prop := accelMoreRow.holds Tryz.pinned (OpenSpec.ofChange accelMoreWrong)

/- THE SECOND FORM. 'bulk': how many values and letters a reading holds, each counted each time it is reached (what is shared counts as often as it is met; a slice's spare places count too). A statement '..UptoSaid' is the law's where the arguments, and the package variables that the reading takes, are together of bulk at most 1048576: NARROWER than '..Said'. Prove '..Said' where nothing that the law and all that it calls make is longer than what came in: it says more and counts as full. Else prove '..UptoSaid'. A law counts once. -/
mutual
def uptoBulk {H : Type} : DataW H → Nat
  | .lit (.string bytes) => bytes.length + 1
  | .lit _ => 1
  | .nil => 1
  | .ptr d => uptoBulk d + 1
  | .slice elems spare => uptoBulkAll elems + uptoBulkAll spare + 1
  | .agg parts => uptoBulkAll parts + 1
  | .iface _ d => uptoBulk d + 1
  | .map entries => uptoBulkEntries entries + 1
  | .held _ => 1
def uptoBulkAll {H : Type} : List (DataW H) → Nat
  | [] => 0
  | d :: r => uptoBulk d + uptoBulkAll r
def uptoBulkEntries {H : Type} : List (Lit × DataW H) → Nat
  | [] => 0
  | x :: r => uptoBulkEntry x + uptoBulkEntries r
def uptoBulkEntry {H : Type} : Lit × DataW H → Nat
  | (.string bytes, d) => bytes.length + uptoBulk d + 1
  | (_, d) => uptoBulk d + 1
 end
def uptoSmall : (H : Type) → List (DataW H) → Bool := fun _ ds => decide (uptoBulkAll ds ≤ 1048576)
def OpenSpec.upto (s : _root_.Go.ChangeSpec) : _root_.Go.OpenSpec := { _root_.Go.OpenSpec.ofChange s with cond := some uptoSmall }

/-- 'lanternlaw10.ShapeTells', WHERE WHAT IT READS IS OF BULK AT MOST 1048576: true; the input reads as it did. -/
def shapeTellsUptoRow : OpenClaim := { program := "ytpgjihkaocahbaagreat", sum := "c0d2958b3e83d34bfa4f54e3e056358bde2a94856e994ae6a9837ee87a21d4f3", func := "lantern/lanternlaw10.ShapeTells", spec := "shapeTells", inPlace := ["math.Float64frombits", "math.Float64bits", "math/bits.Add64", "math/bits.Sub64"], unfollowed := true, recurses := true, named := ["math/bits.divideError", "math/bits.overflowError"], apart := false, narrowed := true }
def ShapeTellsUptoSaid : Prop := shapeTellsUptoRow.holds Tryz.pinned (OpenSpec.upto shapeTellsSpec)

/-- 'lanternlaw11.AccelSlabs', WHERE WHAT IT READS IS OF BULK AT MOST 1048576: true; the input reads as it did. -/
def accelSlabsUptoRow : OpenClaim := { program := "ytpgjihkaocahbaagreat", sum := "c0d2958b3e83d34bfa4f54e3e056358bde2a94856e994ae6a9837ee87a21d4f3", func := "lantern/lanternlaw11.AccelSlabs", spec := "accelSlabs", inPlace := ["math.Float64frombits", "math.Float64bits", "math/bits.Add64", "math/bits.Sub64"], unfollowed := true, recurses := true, named := ["math/bits.divideError", "math/bits.overflowError"], apart := false, narrowed := true }
def AccelSlabsUptoSaid : Prop := accelSlabsUptoRow.holds Tryz.pinned (OpenSpec.upto accelSlabsSpec)

/-- 'lanternlaw11.AccelOne', WHERE WHAT IT READS IS OF BULK AT MOST 1048576: true; the input reads as it did. -/
def accelOneUptoRow : OpenClaim := { program := "ytpgjihkaocahbaagreat", sum := "c0d2958b3e83d34bfa4f54e3e056358bde2a94856e994ae6a9837ee87a21d4f3", func := "lantern/lanternlaw11.AccelOne", spec := "accelOne", inPlace := ["math.Float64frombits", "math.Float64bits", "math/bits.Add64", "math/bits.Sub64"], unfollowed := true, recurses := true, named := ["math/bits.divideError", "math/bits.overflowError"], apart := false, narrowed := true }
def AccelOneUptoSaid : Prop := accelOneUptoRow.holds Tryz.pinned (OpenSpec.upto accelOneSpec)

/-- 'lanternlaw11.AccelMeets', WHERE WHAT IT READS IS OF BULK AT MOST 1048576: true; the input reads as it did. -/
def accelMeetsUptoRow : OpenClaim := { program := "ytpgjihkaocahbaagreat", sum := "c0d2958b3e83d34bfa4f54e3e056358bde2a94856e994ae6a9837ee87a21d4f3", func := "lantern/lanternlaw11.AccelMeets", spec := "accelMeets", inPlace := ["math.Float64frombits", "math.Float64bits", "math/bits.Add64", "math/bits.Sub64"], unfollowed := true, recurses := true, named := ["math/bits.divideError", "math/bits.overflowError"], apart := false, narrowed := true }
def AccelMeetsUptoSaid : Prop := accelMeetsUptoRow.holds Tryz.pinned (OpenSpec.upto accelMeetsSpec)

/-- 'lanternlaw11.AccelOrder', WHERE WHAT IT READS IS OF BULK AT MOST 1048576: true; the input reads as it did. -/
def accelOrderUptoRow : OpenClaim := { program := "ytpgjihkaocahbaagreat", sum := "c0d2958b3e83d34bfa4f54e3e056358bde2a94856e994ae6a9837ee87a21d4f3", func := "lantern/lanternlaw11.AccelOrder", spec := "accelOrder", inPlace := ["math.Float64frombits", "math.Float64bits", "math/bits.Add64", "math/bits.Sub64"], unfollowed := true, recurses := true, named := ["math/bits.divideError", "math/bits.overflowError"], apart := false, narrowed := true }
def AccelOrderUptoSaid : Prop := accelOrderUptoRow.holds Tryz.pinned (OpenSpec.upto accelOrderSpec)

/-- 'lanternlaw11.AccelMore', WHERE WHAT IT READS IS OF BULK AT MOST 1048576: true; the input reads as it did. -/
def accelMoreUptoRow : OpenClaim := { program := "ytpgjihkaocahbaagreat", sum := "c0d2958b3e83d34bfa4f54e3e056358bde2a94856e994ae6a9837ee87a21d4f3", func := "lantern/lanternlaw11.AccelMore", spec := "accelMore", inPlace := ["math.Float64frombits", "math.Float64bits", "math/bits.Add64", "math/bits.Sub64"], unfollowed := true, recurses := true, named := ["math/bits.divideError", "math/bits.overflowError"], apart := false, narrowed := true }
def AccelMoreUptoSaid : Prop := accelMoreUptoRow.holds Tryz.pinned (OpenSpec.upto accelMoreSpec)

end Rows
end Go.Proofs.YtpgjihkaocahbaaGreat
