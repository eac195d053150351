/-
  No cell of these rows narrows 'for every input' (looked for: loops, veiled, ifaces, maps, wideKeys, modest, calm, conditions, laid).
  DERIVED. THE GIVEN ROWS OF THIS SEAT. 9 by the template 'for every input the law returns true; each argument reads behind the call as it read before'; 0 by the template 'total and deterministic' (their statements: YtgodabkifdmfcaaGreatTotals.lean).
  GIVEN WITH THE SEED: the statements are not yours to turn. If you find one false, say at which input.
  Laid BY PROGRAM, IN A SANDBOX (cutbox-rows.mjs): the forced cells as the released guide's own fill.sh prints them over the translation f094e7e5a2b8cd98… (all of the seat's roots in one cut). By AI agents, Wed Nov 11 2026. No macro, syntax, notation, axiom, sorry.
-/
import Derived.Test.YtgodabkifdmfcaaGreatChecked
import GoSem.Claim
import GoSem.ClaimJoined
import GoSem.ClaimMapViews
import Derived.JoinedTies
import Derived.KernelRfl
namespace Go.Proofs.YtgodabkifdmfcaaGreat
/- THE CELL 'sum', in the pinned program and in every row, IS THE sha256 OF THE DUMP (.gsa) THAT YtgodabkifdmfcaaGreatProg.lean LOADS. Nothing in Lean hashes anything: it is a label: what it is worth is what the hold of that sum in a sandbox is worth. -/
noncomputable def Tryz.pinned : Pinned := { name := "ytgodabkifdmfcaagreat", sum := "f094e7e5a2b8cd98d33d3ddd85dd41f4de733a43fc152638f6b6dbd70cc2ac31", checked := Tryz.checked }
namespace Rows
def none {H : Type} : Left H := { results := [], args := [] }

/-- 'tallysticklaw10.IndexPlays': WHATEVER THE INPUT: true; the input reads as it did. -/
def indexPlaysSpec : ChangeSpec := { name := "indexPlays", fn := fun _ => fun
  | [d1, d2] => { results := [.lit (.bool true)], args := [d1, d2] }
  | _ => none }
def indexPlaysRow : OpenClaim := { program := "ytgodabkifdmfcaagreat", sum := "f094e7e5a2b8cd98d33d3ddd85dd41f4de733a43fc152638f6b6dbd70cc2ac31", func := "tallystick/tallysticklaw10.IndexPlays", spec := "indexPlays", inPlace := ["math/bits.Add64", "math/bits.Sub64"], recurses := true, plainKeys := false, apart := false }
def IndexPlaysSaid : Prop := indexPlaysRow.holds Tryz.pinned (OpenSpec.ofChange indexPlaysSpec)

/-- ITS FALSE NEIGHBOUR: 'it returns false'. Refute it at one input. -/
def indexPlaysWrong : ChangeSpec := { name := "indexPlays", fn := fun _ => fun
  | [d1, d2] => { results := [.lit (.bool false)], args := [d1, d2] }
  | _ => none }
def IndexPlaysWrongFalsely : Prop := indexPlaysRow.holds Tryz.pinned (OpenSpec.ofChange indexPlaysWrong)

/-- 'tallysticklaw10.IndexLooks': WHATEVER THE INPUT: true; the input reads as it did. -/
def indexLooksSpec : ChangeSpec := { name := "indexLooks", fn := fun _ => fun
  | [d1, d2, d3] => { results := [.lit (.bool true)], args := [d1, d2, d3] }
  | _ => none }
def indexLooksRow : OpenClaim := { program := "ytgodabkifdmfcaagreat", sum := "f094e7e5a2b8cd98d33d3ddd85dd41f4de733a43fc152638f6b6dbd70cc2ac31", func := "tallystick/tallysticklaw10.IndexLooks", spec := "indexLooks", inPlace := ["math/bits.Add64", "math/bits.Sub64"], recurses := true, plainKeys := false, apart := false }
def IndexLooksSaid : Prop := indexLooksRow.holds Tryz.pinned (OpenSpec.ofChange indexLooksSpec)

/-- ITS FALSE NEIGHBOUR: 'it returns false'. Refute it at one input. -/
def indexLooksWrong : ChangeSpec := { name := "indexLooks", fn := fun _ => fun
  | [d1, d2, d3] => { results := [.lit (.bool false)], args := [d1, d2, d3] }
  | _ => none }
def IndexLooksWrongFalsely : Prop := indexLooksRow.holds Tryz.pinned (OpenSpec.ofChange indexLooksWrong)

/-- 'tallysticklaw10.IndexWork': WHATEVER THE INPUT: true; the input reads as it did. -/
def indexWorkSpec : ChangeSpec := { name := "indexWork", fn := fun _ => fun
  | [d1, d2] => { results := [.lit (.bool true)], args := [d1, d2] }
  | _ => none }
def indexWorkRow : OpenClaim := { program := "ytgodabkifdmfcaagreat", sum := "f094e7e5a2b8cd98d33d3ddd85dd41f4de733a43fc152638f6b6dbd70cc2ac31", func := "tallystick/tallysticklaw10.IndexWork", spec := "indexWork", inPlace := ["math/bits.Add64", "math/bits.Sub64"], recurses := true, plainKeys := false, apart := false }
def IndexWorkSaid : Prop := indexWorkRow.holds Tryz.pinned (OpenSpec.ofChange indexWorkSpec)

/-- ITS FALSE NEIGHBOUR: 'it returns false'. Refute it at one input. -/
def indexWorkWrong : ChangeSpec := { name := "indexWork", fn := fun _ => fun
  | [d1, d2] => { results := [.lit (.bool false)], args := [d1, d2] }
  | _ => none }
def IndexWorkWrongFalsely : Prop := indexWorkRow.holds Tryz.pinned (OpenSpec.ofChange indexWorkWrong)

/-- 'tallysticklaw10.IndexFits': WHATEVER THE INPUT: true; the input reads as it did. -/
def indexFitsSpec : ChangeSpec := { name := "indexFits", fn := fun _ => fun
  | [d1, d2, d3] => { results := [.lit (.bool true)], args := [d1, d2, d3] }
  | _ => none }
def indexFitsRow : OpenClaim := { program := "ytgodabkifdmfcaagreat", sum := "f094e7e5a2b8cd98d33d3ddd85dd41f4de733a43fc152638f6b6dbd70cc2ac31", func := "tallystick/tallysticklaw10.IndexFits", spec := "indexFits", inPlace := ["math/bits.Add64", "math/bits.Sub64"], recurses := true, plainKeys := false, apart := false }
def IndexFitsSaid : Prop := indexFitsRow.holds Tryz.pinned (OpenSpec.ofChange indexFitsSpec)

/-- ITS FALSE NEIGHBOUR: 'it returns false'. Refute it at one input. -/
def indexFitsWrong : ChangeSpec := { name := "indexFits", fn := fun _ => fun
  | [d1, d2, d3] => { results := [.lit (.bool false)], args := [d1, d2, d3] }
  | _ => none }
def IndexFitsWrongFalsely : Prop := indexFitsRow.holds Tryz.pinned (OpenSpec.ofChange indexFitsWrong)

/-- 'tallysticklaw11.LocateHeights': WHATEVER THE INPUT: true; the input reads as it did. -/
def locateHeightsSpec : ChangeSpec := { name := "locateHeights", fn := fun _ => fun
  | [d] => { results := [.lit (.bool true)], args := [d] }
  | _ => none }
def locateHeightsRow : OpenClaim := { program := "ytgodabkifdmfcaagreat", sum := "f094e7e5a2b8cd98d33d3ddd85dd41f4de733a43fc152638f6b6dbd70cc2ac31", func := "tallystick/tallysticklaw11.LocateHeights", spec := "locateHeights", inPlace := ["math/bits.Add64", "math/bits.Sub64"], recurses := true, plainKeys := false, apart := false }
def LocateHeightsSaid : Prop := locateHeightsRow.holds Tryz.pinned (OpenSpec.ofChange locateHeightsSpec)

/-- ITS FALSE NEIGHBOUR: 'it returns false'. Refute it at one input. -/
def locateHeightsWrong : ChangeSpec := { name := "locateHeights", fn := fun _ => fun
  | [d] => { results := [.lit (.bool false)], args := [d] }
  | _ => none }
def LocateHeightsWrongFalsely : Prop := locateHeightsRow.holds Tryz.pinned (OpenSpec.ofChange locateHeightsWrong)

/-- 'tallysticklaw11.LocateForks': WHATEVER THE INPUT: true; the input reads as it did. -/
def locateForksSpec : ChangeSpec := { name := "locateForks", fn := fun _ => fun
  | [d1, d2, d3] => { results := [.lit (.bool true)], args := [d1, d2, d3] }
  | _ => none }
def locateForksRow : OpenClaim := { program := "ytgodabkifdmfcaagreat", sum := "f094e7e5a2b8cd98d33d3ddd85dd41f4de733a43fc152638f6b6dbd70cc2ac31", func := "tallystick/tallysticklaw11.LocateForks", spec := "locateForks", inPlace := ["math/bits.Add64", "math/bits.Sub64"], recurses := true, plainKeys := false, apart := false }
def LocateForksSaid : Prop := locateForksRow.holds Tryz.pinned (OpenSpec.ofChange locateForksSpec)

/-- ITS FALSE NEIGHBOUR: 'it returns false'. Refute it at one input. -/
def locateForksWrong : ChangeSpec := { name := "locateForks", fn := fun _ => fun
  | [d1, d2, d3] => { results := [.lit (.bool false)], args := [d1, d2, d3] }
  | _ => none }
def LocateForksWrongFalsely : Prop := locateForksRow.holds Tryz.pinned (OpenSpec.ofChange locateForksWrong)

/-- 'tallysticklaw11.LocateMeets': WHATEVER THE INPUT: true; the input reads as it did. -/
def locateMeetsSpec : ChangeSpec := { name := "locateMeets", fn := fun _ => fun
  | [d1, d2] => { results := [.lit (.bool true)], args := [d1, d2] }
  | _ => none }
def locateMeetsRow : OpenClaim := { program := "ytgodabkifdmfcaagreat", sum := "f094e7e5a2b8cd98d33d3ddd85dd41f4de733a43fc152638f6b6dbd70cc2ac31", func := "tallystick/tallysticklaw11.LocateMeets", spec := "locateMeets", inPlace := ["math/bits.Add64", "math/bits.Sub64"], recurses := true, plainKeys := false, apart := false }
def LocateMeetsSaid : Prop := locateMeetsRow.holds Tryz.pinned (OpenSpec.ofChange locateMeetsSpec)

/-- ITS FALSE NEIGHBOUR: 'it returns false'. Refute it at one input. -/
def locateMeetsWrong : ChangeSpec := { name := "locateMeets", fn := fun _ => fun
  | [d1, d2] => { results := [.lit (.bool false)], args := [d1, d2] }
  | _ => none }
def LocateMeetsWrongFalsely : Prop := locateMeetsRow.holds Tryz.pinned (OpenSpec.ofChange locateMeetsWrong)

/-- 'tallysticklaw11.LocateNames': WHATEVER THE INPUT: true; the input reads as it did. -/
def locateNamesSpec : ChangeSpec := { name := "locateNames", fn := fun _ => fun
  | [d1, d2] => { results := [.lit (.bool true)], args := [d1, d2] }
  | _ => none }
def locateNamesRow : OpenClaim := { program := "ytgodabkifdmfcaagreat", sum := "f094e7e5a2b8cd98d33d3ddd85dd41f4de733a43fc152638f6b6dbd70cc2ac31", func := "tallystick/tallysticklaw11.LocateNames", spec := "locateNames", inPlace := ["math/bits.Add64", "math/bits.Sub64"], recurses := true, plainKeys := false, apart := false }
def LocateNamesSaid : Prop := locateNamesRow.holds Tryz.pinned (OpenSpec.ofChange locateNamesSpec)

/-- ITS FALSE NEIGHBOUR: 'it returns false'. Refute it at one input. -/
def locateNamesWrong : ChangeSpec := { name := "locateNames", fn := fun _ => fun
  | [d1, d2] => { results := [.lit (.bool false)], args := [d1, d2] }
  | _ => none }
def LocateNamesWrongFalsely : Prop := locateNamesRow.holds Tryz.pinned (OpenSpec.ofChange locateNamesWrong)

/-- 'tallysticklaw11.LocateWays': WHATEVER THE INPUT: true; the input reads as it did. -/
def locateWaysSpec : ChangeSpec := { name := "locateWays", fn := fun _ => fun
  | [d1, d2] => { results := [.lit (.bool true)], args := [d1, d2] }
  | _ => none }
def locateWaysRow : OpenClaim := { program := "ytgodabkifdmfcaagreat", sum := "f094e7e5a2b8cd98d33d3ddd85dd41f4de733a43fc152638f6b6dbd70cc2ac31", func := "tallystick/tallysticklaw11.LocateWays", spec := "locateWays", inPlace := ["math/bits.Add64", "math/bits.Sub64"], recurses := true, plainKeys := false, apart := false }
def LocateWaysSaid : Prop := locateWaysRow.holds Tryz.pinned (OpenSpec.ofChange locateWaysSpec)

/-- ITS FALSE NEIGHBOUR: 'it returns false'. Refute it at one input. -/
def locateWaysWrong : ChangeSpec := { name := "locateWays", fn := fun _ => fun
  | [d1, d2] => { results := [.lit (.bool false)], args := [d1, d2] }
  | _ => none }
def LocateWaysWrongFalsely : Prop := locateWaysRow.holds Tryz.pinned (OpenSpec.ofChange locateWaysWrong)

/- THE SECOND FORM. 'bulk': how many values and letters a reading holds, each counted each time it is reached (what is shared counts as often as it is met; a slice's spare places count too). A statement '..UptoSaid' is the law's where the arguments, and the package variables that the reading takes, are together of bulk at most 1048576: NARROWER than '..Said'. Prove '..Said' where nothing that the law and all that it calls make is longer than what came in: it says more and counts as full. Else prove '..UptoSaid'. A law counts once. -/
mutual
def uptoBulk {H : Type} : DataW H → Nat
  | .lit (.string bytes) => bytes.length + 1
  | .lit _ => 1
  | .nil => 1
  | .ptr d => uptoBulk d + 1
  | .slice elems spare => uptoBulkAll elems + uptoBulkAll spare + 1
  | .agg parts => uptoBulkAll parts + 1
  | .iface _ d => uptoBulk d + 1
  | .map entries => uptoBulkEntries entries + 1
  | .held _ => 1
def uptoBulkAll {H : Type} : List (DataW H) → Nat
  | [] => 0
  | d :: r => uptoBulk d + uptoBulkAll r
def uptoBulkEntries {H : Type} : List (Lit × DataW H) → Nat
  | [] => 0
  | x :: r => uptoBulkEntry x + uptoBulkEntries r
def uptoBulkEntry {H : Type} : Lit × DataW H → Nat
  | (.string bytes, d) => bytes.length + uptoBulk d + 1
  | (_, d) => uptoBulk d + 1
 end
def uptoSmall : (H : Type) → List (DataW H) → Bool := fun _ ds => decide (uptoBulkAll ds ≤ 1048576)
def OpenSpec.upto (s : _root_.Go.ChangeSpec) : _root_.Go.OpenSpec := { _root_.Go.OpenSpec.ofChange s with cond := some uptoSmall }

/-- 'tallysticklaw10.IndexPlays', WHERE WHAT IT READS IS OF BULK AT MOST 1048576: true; the input reads as it did. -/
def indexPlaysUptoRow : OpenClaim := { program := "ytgodabkifdmfcaagreat", sum := "f094e7e5a2b8cd98d33d3ddd85dd41f4de733a43fc152638f6b6dbd70cc2ac31", func := "tallystick/tallysticklaw10.IndexPlays", spec := "indexPlays", inPlace := ["math/bits.Add64", "math/bits.Sub64"], recurses := true, plainKeys := false, apart := false, narrowed := true }
def IndexPlaysUptoSaid : Prop := indexPlaysUptoRow.holds Tryz.pinned (OpenSpec.upto indexPlaysSpec)

/-- 'tallysticklaw10.IndexLooks', WHERE WHAT IT READS IS OF BULK AT MOST 1048576: true; the input reads as it did. -/
def indexLooksUptoRow : OpenClaim := { program := "ytgodabkifdmfcaagreat", sum := "f094e7e5a2b8cd98d33d3ddd85dd41f4de733a43fc152638f6b6dbd70cc2ac31", func := "tallystick/tallysticklaw10.IndexLooks", spec := "indexLooks", inPlace := ["math/bits.Add64", "math/bits.Sub64"], recurses := true, plainKeys := false, apart := false, narrowed := true }
def IndexLooksUptoSaid : Prop := indexLooksUptoRow.holds Tryz.pinned (OpenSpec.upto indexLooksSpec)

/-- 'tallysticklaw10.IndexWork', WHERE WHAT IT READS IS OF BULK AT MOST 1048576: true; the input reads as it did. -/
def indexWorkUptoRow : OpenClaim := { program := "ytgodabkifdmfcaagreat", sum := "f094e7e5a2b8cd98d33d3ddd85dd41f4de733a43fc152638f6b6dbd70cc2ac31", func := "tallystick/tallysticklaw10.IndexWork", spec := "indexWork", inPlace := ["math/bits.Add64", "math/bits.Sub64"], recurses := true, plainKeys := false, apart := false, narrowed := true }
def IndexWorkUptoSaid : Prop := indexWorkUptoRow.holds Tryz.pinned (OpenSpec.upto indexWorkSpec)

/-- 'tallysticklaw10.IndexFits', WHERE WHAT IT READS IS OF BULK AT MOST 1048576: true; the input reads as it did. -/
def indexFitsUptoRow : OpenClaim := { program := "ytgodabkifdmfcaagreat", sum := "f094e7e5a2b8cd98d33d3ddd85dd41f4de733a43fc152638f6b6dbd70cc2ac31", func := "tallystick/tallysticklaw10.IndexFits", spec := "indexFits", inPlace := ["math/bits.Add64", "math/bits.Sub64"], recurses := true, plainKeys := false, apart := false, narrowed := true }
def IndexFitsUptoSaid : Prop := indexFitsUptoRow.holds Tryz.pinned (OpenSpec.upto indexFitsSpec)

/-- 'tallysticklaw11.LocateHeights', WHERE WHAT IT READS IS OF BULK AT MOST 1048576: true; the input reads as it did. -/
def locateHeightsUptoRow : OpenClaim := { program := "ytgodabkifdmfcaagreat", sum := "f094e7e5a2b8cd98d33d3ddd85dd41f4de733a43fc152638f6b6dbd70cc2ac31", func := "tallystick/tallysticklaw11.LocateHeights", spec := "locateHeights", inPlace := ["math/bits.Add64", "math/bits.Sub64"], recurses := true, plainKeys := false, apart := false, narrowed := true }
def LocateHeightsUptoSaid : Prop := locateHeightsUptoRow.holds Tryz.pinned (OpenSpec.upto locateHeightsSpec)

/-- 'tallysticklaw11.LocateForks', WHERE WHAT IT READS IS OF BULK AT MOST 1048576: true; the input reads as it did. -/
def locateForksUptoRow : OpenClaim := { program := "ytgodabkifdmfcaagreat", sum := "f094e7e5a2b8cd98d33d3ddd85dd41f4de733a43fc152638f6b6dbd70cc2ac31", func := "tallystick/tallysticklaw11.LocateForks", spec := "locateForks", inPlace := ["math/bits.Add64", "math/bits.Sub64"], recurses := true, plainKeys := false, apart := false, narrowed := true }
def LocateForksUptoSaid : Prop := locateForksUptoRow.holds Tryz.pinned (OpenSpec.upto locateForksSpec)

/-- 'tallysticklaw11.LocateMeets', WHERE WHAT IT READS IS OF BULK AT MOST 1048576: true; the input reads as it did. -/
def locateMeetsUptoRow : OpenClaim := { program := "ytgodabkifdmfcaagreat", sum := "f094e7e5a2b8cd98d33d3ddd85dd41f4de733a43fc152638f6b6dbd70cc2ac31", func := "tallystick/tallysticklaw11.LocateMeets", spec := "locateMeets", inPlace := ["math/bits.Add64", "math/bits.Sub64"], recurses := true, plainKeys := false, apart := false, narrowed := true }
def LocateMeetsUptoSaid : Prop := locateMeetsUptoRow.holds Tryz.pinned (OpenSpec.upto locateMeetsSpec)

/-- 'tallysticklaw11.LocateNames', WHERE WHAT IT READS IS OF BULK AT MOST 1048576: true; the input reads as it did. -/
def locateNamesUptoRow : OpenClaim := { program := "ytgodabkifdmfcaagreat", sum := "f094e7e5a2b8cd98d33d3ddd85dd41f4de733a43fc152638f6b6dbd70cc2ac31", func := "tallystick/tallysticklaw11.LocateNames", spec := "locateNames", inPlace := ["math/bits.Add64", "math/bits.Sub64"], recurses := true, plainKeys := false, apart := false, narrowed := true }
def LocateNamesUptoSaid : Prop := locateNamesUptoRow.holds Tryz.pinned (OpenSpec.upto locateNamesSpec)

/-- 'tallysticklaw11.LocateWays', WHERE WHAT IT READS IS OF BULK AT MOST 1048576: true; the input reads as it did. -/
def locateWaysUptoRow : OpenClaim := { program := "ytgodabkifdmfcaagreat", sum := "f094e7e5a2b8cd98d33d3ddd85dd41f4de733a43fc152638f6b6dbd70cc2ac31", func := "tallystick/tallysticklaw11.LocateWays", spec := "locateWays", inPlace := ["math/bits.Add64", "math/bits.Sub64"], recurses := true, plainKeys := false, apart := false, narrowed := true }
def LocateWaysUptoSaid : Prop := locateWaysUptoRow.holds Tryz.pinned (OpenSpec.upto locateWaysSpec)

end Rows
end Go.Proofs.YtgodabkifdmfcaaGreat
