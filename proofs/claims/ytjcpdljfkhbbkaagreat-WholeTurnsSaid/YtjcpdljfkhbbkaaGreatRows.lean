/-
  No cell of these rows narrows 'for every input' (looked for: loops, veiled, ifaces, maps, wideKeys, modest, calm, conditions, laid).
  DERIVED. THE GIVEN ROWS OF THIS SEAT. 11 by the template 'for every input the law returns true; each argument reads behind the call as it read before'; 0 by the template 'total and deterministic' (their statements: YtjcpdljfkhbbkaaGreatTotals.lean).
  GIVEN WITH THE SEED: the statements are not yours to turn. If you find one false, say at which input.
  Laid BY PROGRAM, IN A SANDBOX (cutbox-rows.mjs): the forced cells as the released guide's own fill.sh prints them over the translation 03d5f50b594909a3… (all of the seat's roots in one cut). By AI agents, Wed Nov 11 2026. No macro, syntax, notation, axiom, sorry.
-/
import Derived.Test.YtjcpdljfkhbbkaaGreatChecked
import GoSem.Claim
import GoSem.ClaimJoined
import GoSem.ClaimMapViews
import Derived.JoinedTies
import Derived.KernelRfl
namespace Go.Proofs.YtjcpdljfkhbbkaaGreat
/- THE CELL 'sum', in the pinned program and in every row, IS THE sha256 OF THE DUMP (.gsa) THAT YtjcpdljfkhbbkaaGreatProg.lean LOADS. Nothing in Lean hashes anything: it is a label: what it is worth is what the hold of that sum in a sandbox is worth. -/
noncomputable def Tryz.pinned : Pinned := { name := "ytjcpdljfkhbbkaagreat", sum := "03d5f50b594909a366fb7e0920bd5a39976337ddaebcd97dea9f1c665e56ea90", checked := Tryz.checked }
namespace Rows
def none {H : Type} : Left H := { results := [], args := [] }

/-- 'tallysticktop.WholeTurns': WHATEVER THE INPUT: true; the input reads as it did. -/
def wholeTurnsSpec : ChangeSpec := { name := "wholeTurns", fn := fun _ => fun
  | [d] => { results := [.lit (.bool true)], args := [d] }
  | _ => none }
def wholeTurnsRow : OpenClaim := { program := "ytjcpdljfkhbbkaagreat", sum := "03d5f50b594909a366fb7e0920bd5a39976337ddaebcd97dea9f1c665e56ea90", func := "tallystick/tallysticktop.WholeTurns", spec := "wholeTurns", inPlace := ["math/bits.Add64", "math/bits.Sub64", "maps.clone"], recurses := true, plainKeys := false, apart := false }
def WholeTurnsSaid : Prop := wholeTurnsRow.holds Tryz.pinned (OpenSpec.ofChange wholeTurnsSpec)

/-- ITS FALSE NEIGHBOUR: 'it returns false'. Refute it at one input. -/
def wholeTurnsWrong : ChangeSpec := { name := "wholeTurns", fn := fun _ => fun
  | [d] => { results := [.lit (.bool false)], args := [d] }
  | _ => none }
def WholeTurnsWrongFalsely : Prop := wholeTurnsRow.holds Tryz.pinned (OpenSpec.ofChange wholeTurnsWrong)

/-- 'tallysticktop.WholeFetched': WHATEVER THE INPUT: true; the input reads as it did. -/
def wholeFetchedSpec : ChangeSpec := { name := "wholeFetched", fn := fun _ => fun
  | [d1, d2, d3] => { results := [.lit (.bool true)], args := [d1, d2, d3] }
  | _ => none }
def wholeFetchedRow : OpenClaim := { program := "ytjcpdljfkhbbkaagreat", sum := "03d5f50b594909a366fb7e0920bd5a39976337ddaebcd97dea9f1c665e56ea90", func := "tallystick/tallysticktop.WholeFetched", spec := "wholeFetched", inPlace := ["math/bits.Add64", "math/bits.Sub64", "maps.clone"], recurses := true, plainKeys := false, apart := false }
def WholeFetchedSaid : Prop := wholeFetchedRow.holds Tryz.pinned (OpenSpec.ofChange wholeFetchedSpec)

/-- ITS FALSE NEIGHBOUR: 'it returns false'. Refute it at one input. -/
def wholeFetchedWrong : ChangeSpec := { name := "wholeFetched", fn := fun _ => fun
  | [d1, d2, d3] => { results := [.lit (.bool false)], args := [d1, d2, d3] }
  | _ => none }
def WholeFetchedWrongFalsely : Prop := wholeFetchedRow.holds Tryz.pinned (OpenSpec.ofChange wholeFetchedWrong)

/-- 'tallysticklaw18.WindowTime': WHATEVER THE INPUT: true; the input reads as it did. -/
def windowTimeSpec : ChangeSpec := { name := "windowTime", fn := fun _ => fun
  | [d] => { results := [.lit (.bool true)], args := [d] }
  | _ => none }
def windowTimeRow : OpenClaim := { program := "ytjcpdljfkhbbkaagreat", sum := "03d5f50b594909a366fb7e0920bd5a39976337ddaebcd97dea9f1c665e56ea90", func := "tallystick/tallysticklaw18.WindowTime", spec := "windowTime", inPlace := ["math/bits.Add64", "math/bits.Sub64", "maps.clone"], recurses := true, plainKeys := false, apart := false }
def WindowTimeSaid : Prop := windowTimeRow.holds Tryz.pinned (OpenSpec.ofChange windowTimeSpec)

/-- ITS FALSE NEIGHBOUR: 'it returns false'. Refute it at one input. -/
def windowTimeWrong : ChangeSpec := { name := "windowTime", fn := fun _ => fun
  | [d] => { results := [.lit (.bool false)], args := [d] }
  | _ => none }
def WindowTimeWrongFalsely : Prop := windowTimeRow.holds Tryz.pinned (OpenSpec.ofChange windowTimeWrong)

/-- 'tallysticklaw18.WindowFar': WHATEVER THE INPUT: true; the input reads as it did. -/
def windowFarSpec : ChangeSpec := { name := "windowFar", fn := fun _ => fun
  | [d1, d2] => { results := [.lit (.bool true)], args := [d1, d2] }
  | _ => none }
def windowFarRow : OpenClaim := { program := "ytjcpdljfkhbbkaagreat", sum := "03d5f50b594909a366fb7e0920bd5a39976337ddaebcd97dea9f1c665e56ea90", func := "tallystick/tallysticklaw18.WindowFar", spec := "windowFar", inPlace := ["math/bits.Add64", "math/bits.Sub64", "maps.clone"], recurses := true, plainKeys := false, apart := false }
def WindowFarSaid : Prop := windowFarRow.holds Tryz.pinned (OpenSpec.ofChange windowFarSpec)

/-- ITS FALSE NEIGHBOUR: 'it returns false'. Refute it at one input. -/
def windowFarWrong : ChangeSpec := { name := "windowFar", fn := fun _ => fun
  | [d1, d2] => { results := [.lit (.bool false)], args := [d1, d2] }
  | _ => none }
def WindowFarWrongFalsely : Prop := windowFarRow.holds Tryz.pinned (OpenSpec.ofChange windowFarWrong)

/-- 'tallysticklaw18.WindowLate': WHATEVER THE INPUT: true; the input reads as it did. -/
def windowLateSpec : ChangeSpec := { name := "windowLate", fn := fun _ => fun
  | [d1, d2] => { results := [.lit (.bool true)], args := [d1, d2] }
  | _ => none }
def windowLateRow : OpenClaim := { program := "ytjcpdljfkhbbkaagreat", sum := "03d5f50b594909a366fb7e0920bd5a39976337ddaebcd97dea9f1c665e56ea90", func := "tallystick/tallysticklaw18.WindowLate", spec := "windowLate", inPlace := ["math/bits.Add64", "math/bits.Sub64", "maps.clone"], recurses := true, plainKeys := false, apart := false }
def WindowLateSaid : Prop := windowLateRow.holds Tryz.pinned (OpenSpec.ofChange windowLateSpec)

/-- ITS FALSE NEIGHBOUR: 'it returns false'. Refute it at one input. -/
def windowLateWrong : ChangeSpec := { name := "windowLate", fn := fun _ => fun
  | [d1, d2] => { results := [.lit (.bool false)], args := [d1, d2] }
  | _ => none }
def WindowLateWrongFalsely : Prop := windowLateRow.holds Tryz.pinned (OpenSpec.ofChange windowLateWrong)

/-- 'tallysticklaw18.WindowPlays': WHATEVER THE INPUT: true; the input reads as it did. -/
def windowPlaysSpec : ChangeSpec := { name := "windowPlays", fn := fun _ => fun
  | [d] => { results := [.lit (.bool true)], args := [d] }
  | _ => none }
def windowPlaysRow : OpenClaim := { program := "ytjcpdljfkhbbkaagreat", sum := "03d5f50b594909a366fb7e0920bd5a39976337ddaebcd97dea9f1c665e56ea90", func := "tallystick/tallysticklaw18.WindowPlays", spec := "windowPlays", inPlace := ["math/bits.Add64", "math/bits.Sub64", "maps.clone"], unfollowed := true, recurses := true, plainKeys := false, apart := false }
def WindowPlaysSaid : Prop := windowPlaysRow.holds Tryz.pinned (OpenSpec.ofChange windowPlaysSpec)

/-- ITS FALSE NEIGHBOUR: 'it returns false'. Refute it at one input. -/
def windowPlaysWrong : ChangeSpec := { name := "windowPlays", fn := fun _ => fun
  | [d] => { results := [.lit (.bool false)], args := [d] }
  | _ => none }
def WindowPlaysWrongFalsely : Prop := windowPlaysRow.holds Tryz.pinned (OpenSpec.ofChange windowPlaysWrong)

/-- 'tallysticklaw18.WindowDrops': WHATEVER THE INPUT: true; the input reads as it did. -/
def windowDropsSpec : ChangeSpec := { name := "windowDrops", fn := fun _ => fun
  | [d1, d2] => { results := [.lit (.bool true)], args := [d1, d2] }
  | _ => none }
def windowDropsRow : OpenClaim := { program := "ytjcpdljfkhbbkaagreat", sum := "03d5f50b594909a366fb7e0920bd5a39976337ddaebcd97dea9f1c665e56ea90", func := "tallystick/tallysticklaw18.WindowDrops", spec := "windowDrops", inPlace := ["math/bits.Add64", "math/bits.Sub64", "maps.clone"], recurses := true, plainKeys := false, apart := false }
def WindowDropsSaid : Prop := windowDropsRow.holds Tryz.pinned (OpenSpec.ofChange windowDropsSpec)

/-- ITS FALSE NEIGHBOUR: 'it returns false'. Refute it at one input. -/
def windowDropsWrong : ChangeSpec := { name := "windowDrops", fn := fun _ => fun
  | [d1, d2] => { results := [.lit (.bool false)], args := [d1, d2] }
  | _ => none }
def WindowDropsWrongFalsely : Prop := windowDropsRow.holds Tryz.pinned (OpenSpec.ofChange windowDropsWrong)

/-- 'tallysticklaw18.WindowWants': WHATEVER THE INPUT: true; the input reads as it did. -/
def windowWantsSpec : ChangeSpec := { name := "windowWants", fn := fun _ => fun
  | [d1, d2, d3] => { results := [.lit (.bool true)], args := [d1, d2, d3] }
  | _ => none }
def windowWantsRow : OpenClaim := { program := "ytjcpdljfkhbbkaagreat", sum := "03d5f50b594909a366fb7e0920bd5a39976337ddaebcd97dea9f1c665e56ea90", func := "tallystick/tallysticklaw18.WindowWants", spec := "windowWants", inPlace := ["math/bits.Add64", "math/bits.Sub64", "maps.clone"], recurses := true, plainKeys := false, apart := false }
def WindowWantsSaid : Prop := windowWantsRow.holds Tryz.pinned (OpenSpec.ofChange windowWantsSpec)

/-- ITS FALSE NEIGHBOUR: 'it returns false'. Refute it at one input. -/
def windowWantsWrong : ChangeSpec := { name := "windowWants", fn := fun _ => fun
  | [d1, d2, d3] => { results := [.lit (.bool false)], args := [d1, d2, d3] }
  | _ => none }
def WindowWantsWrongFalsely : Prop := windowWantsRow.holds Tryz.pinned (OpenSpec.ofChange windowWantsWrong)

/-- 'tallysticklaw19.HonestChains': WHATEVER THE INPUT: true; the input reads as it did. -/
def honestChainsSpec : ChangeSpec := { name := "honestChains", fn := fun _ => fun
  | [d1, d2, d3] => { results := [.lit (.bool true)], args := [d1, d2, d3] }
  | _ => none }
def honestChainsRow : OpenClaim := { program := "ytjcpdljfkhbbkaagreat", sum := "03d5f50b594909a366fb7e0920bd5a39976337ddaebcd97dea9f1c665e56ea90", func := "tallystick/tallysticklaw19.HonestChains", spec := "honestChains", inPlace := ["math/bits.Add64", "math/bits.Sub64", "maps.clone"], recurses := true, plainKeys := false, apart := false }
def HonestChainsSaid : Prop := honestChainsRow.holds Tryz.pinned (OpenSpec.ofChange honestChainsSpec)

/-- ITS FALSE NEIGHBOUR: 'it returns false'. Refute it at one input. -/
def honestChainsWrong : ChangeSpec := { name := "honestChains", fn := fun _ => fun
  | [d1, d2, d3] => { results := [.lit (.bool false)], args := [d1, d2, d3] }
  | _ => none }
def HonestChainsWrongFalsely : Prop := honestChainsRow.holds Tryz.pinned (OpenSpec.ofChange honestChainsWrong)

/-- 'tallysticklaw14.ChainMutant': WHATEVER THE INPUT: true; the input reads as it did. -/
def chainMutantSpec : ChangeSpec := { name := "chainMutant", fn := fun _ => fun
  | [d1, d2] => { results := [.lit (.bool true)], args := [d1, d2] }
  | _ => none }
def chainMutantRow : OpenClaim := { program := "ytjcpdljfkhbbkaagreat", sum := "03d5f50b594909a366fb7e0920bd5a39976337ddaebcd97dea9f1c665e56ea90", func := "tallystick/tallysticklaw14.ChainMutant", spec := "chainMutant", inPlace := ["math/bits.Add64", "math/bits.Sub64", "maps.clone"], recurses := true, plainKeys := false, apart := false }
def ChainMutantSaid : Prop := chainMutantRow.holds Tryz.pinned (OpenSpec.ofChange chainMutantSpec)

/-- ITS FALSE NEIGHBOUR: 'it returns false'. Refute it at one input. -/
def chainMutantWrong : ChangeSpec := { name := "chainMutant", fn := fun _ => fun
  | [d1, d2] => { results := [.lit (.bool false)], args := [d1, d2] }
  | _ => none }
def ChainMutantWrongFalsely : Prop := chainMutantRow.holds Tryz.pinned (OpenSpec.ofChange chainMutantWrong)

/-- 'tallysticklaw14.ChainWork': WHATEVER THE INPUT: true; the input reads as it did. -/
def chainWorkSpec : ChangeSpec := { name := "chainWork", fn := fun _ => fun
  | [d] => { results := [.lit (.bool true)], args := [d] }
  | _ => none }
def chainWorkRow : OpenClaim := { program := "ytjcpdljfkhbbkaagreat", sum := "03d5f50b594909a366fb7e0920bd5a39976337ddaebcd97dea9f1c665e56ea90", func := "tallystick/tallysticklaw14.ChainWork", spec := "chainWork", inPlace := ["math/bits.Add64", "math/bits.Sub64", "maps.clone"], recurses := true, plainKeys := false, apart := false }
def ChainWorkSaid : Prop := chainWorkRow.holds Tryz.pinned (OpenSpec.ofChange chainWorkSpec)

/-- ITS FALSE NEIGHBOUR: 'it returns false'. Refute it at one input. -/
def chainWorkWrong : ChangeSpec := { name := "chainWork", fn := fun _ => fun
  | [d] => { results := [.lit (.bool false)], args := [d] }
  | _ => none }
def ChainWorkWrongFalsely : Prop := chainWorkRow.holds Tryz.pinned (OpenSpec.ofChange chainWorkWrong)

/- THE SECOND FORM. 'bulk': how many values and letters a reading holds, each counted each time it is reached (what is shared counts as often as it is met; a slice's spare places count too). A statement '..UptoSaid' is the law's where the arguments, and the package variables that the reading takes, are together of bulk at most 1048576: NARROWER than '..Said'. Prove '..Said' where nothing that the law and all that it calls make is longer than what came in: it says more and counts as full. Else prove '..UptoSaid'. A law counts once. -/
mutual
def uptoBulk {H : Type} : DataW H → Nat
  | .lit (.string bytes) => bytes.length + 1
  | .lit _ => 1
  | .nil => 1
  | .ptr d => uptoBulk d + 1
  | .slice elems spare => uptoBulkAll elems + uptoBulkAll spare + 1
  | .agg parts => uptoBulkAll parts + 1
  | .iface _ d => uptoBulk d + 1
  | .map entries => uptoBulkEntries entries + 1
  | .held _ => 1
def uptoBulkAll {H : Type} : List (DataW H) → Nat
  | [] => 0
  | d :: r => uptoBulk d + uptoBulkAll r
def uptoBulkEntries {H : Type} : List (Lit × DataW H) → Nat
  | [] => 0
  | x :: r => uptoBulkEntry x + uptoBulkEntries r
def uptoBulkEntry {H : Type} : Lit × DataW H → Nat
  | (.string bytes, d) => bytes.length + uptoBulk d + 1
  | (_, d) => uptoBulk d + 1
 end
def uptoSmall : (H : Type) → List (DataW H) → Bool := fun _ ds => decide (uptoBulkAll ds ≤ 1048576)
def OpenSpec.upto (s : _root_.Go.ChangeSpec) : _root_.Go.OpenSpec := { _root_.Go.OpenSpec.ofChange s with cond := some uptoSmall }

/-- 'tallysticktop.WholeTurns', WHERE WHAT IT READS IS OF BULK AT MOST 1048576: true; the input reads as it did. -/
def wholeTurnsUptoRow : OpenClaim := { program := "ytjcpdljfkhbbkaagreat", sum := "03d5f50b594909a366fb7e0920bd5a39976337ddaebcd97dea9f1c665e56ea90", func := "tallystick/tallysticktop.WholeTurns", spec := "wholeTurns", inPlace := ["math/bits.Add64", "math/bits.Sub64", "maps.clone"], recurses := true, plainKeys := false, apart := false, narrowed := true }
def WholeTurnsUptoSaid : Prop := wholeTurnsUptoRow.holds Tryz.pinned (OpenSpec.upto wholeTurnsSpec)

/-- 'tallysticktop.WholeFetched', WHERE WHAT IT READS IS OF BULK AT MOST 1048576: true; the input reads as it did. -/
def wholeFetchedUptoRow : OpenClaim := { program := "ytjcpdljfkhbbkaagreat", sum := "03d5f50b594909a366fb7e0920bd5a39976337ddaebcd97dea9f1c665e56ea90", func := "tallystick/tallysticktop.WholeFetched", spec := "wholeFetched", inPlace := ["math/bits.Add64", "math/bits.Sub64", "maps.clone"], recurses := true, plainKeys := false, apart := false, narrowed := true }
def WholeFetchedUptoSaid : Prop := wholeFetchedUptoRow.holds Tryz.pinned (OpenSpec.upto wholeFetchedSpec)

/-- 'tallysticklaw18.WindowTime', WHERE WHAT IT READS IS OF BULK AT MOST 1048576: true; the input reads as it did. -/
def windowTimeUptoRow : OpenClaim := { program := "ytjcpdljfkhbbkaagreat", sum := "03d5f50b594909a366fb7e0920bd5a39976337ddaebcd97dea9f1c665e56ea90", func := "tallystick/tallysticklaw18.WindowTime", spec := "windowTime", inPlace := ["math/bits.Add64", "math/bits.Sub64", "maps.clone"], recurses := true, plainKeys := false, apart := false, narrowed := true }
def WindowTimeUptoSaid : Prop := windowTimeUptoRow.holds Tryz.pinned (OpenSpec.upto windowTimeSpec)

/-- 'tallysticklaw18.WindowFar', WHERE WHAT IT READS IS OF BULK AT MOST 1048576: true; the input reads as it did. -/
def windowFarUptoRow : OpenClaim := { program := "ytjcpdljfkhbbkaagreat", sum := "03d5f50b594909a366fb7e0920bd5a39976337ddaebcd97dea9f1c665e56ea90", func := "tallystick/tallysticklaw18.WindowFar", spec := "windowFar", inPlace := ["math/bits.Add64", "math/bits.Sub64", "maps.clone"], recurses := true, plainKeys := false, apart := false, narrowed := true }
def WindowFarUptoSaid : Prop := windowFarUptoRow.holds Tryz.pinned (OpenSpec.upto windowFarSpec)

/-- 'tallysticklaw18.WindowLate', WHERE WHAT IT READS IS OF BULK AT MOST 1048576: true; the input reads as it did. -/
def windowLateUptoRow : OpenClaim := { program := "ytjcpdljfkhbbkaagreat", sum := "03d5f50b594909a366fb7e0920bd5a39976337ddaebcd97dea9f1c665e56ea90", func := "tallystick/tallysticklaw18.WindowLate", spec := "windowLate", inPlace := ["math/bits.Add64", "math/bits.Sub64", "maps.clone"], recurses := true, plainKeys := false, apart := false, narrowed := true }
def WindowLateUptoSaid : Prop := windowLateUptoRow.holds Tryz.pinned (OpenSpec.upto windowLateSpec)

/-- 'tallysticklaw18.WindowPlays', WHERE WHAT IT READS IS OF BULK AT MOST 1048576: true; the input reads as it did. -/
def windowPlaysUptoRow : OpenClaim := { program := "ytjcpdljfkhbbkaagreat", sum := "03d5f50b594909a366fb7e0920bd5a39976337ddaebcd97dea9f1c665e56ea90", func := "tallystick/tallysticklaw18.WindowPlays", spec := "windowPlays", inPlace := ["math/bits.Add64", "math/bits.Sub64", "maps.clone"], unfollowed := true, recurses := true, plainKeys := false, apart := false, narrowed := true }
def WindowPlaysUptoSaid : Prop := windowPlaysUptoRow.holds Tryz.pinned (OpenSpec.upto windowPlaysSpec)

/-- 'tallysticklaw18.WindowDrops', WHERE WHAT IT READS IS OF BULK AT MOST 1048576: true; the input reads as it did. -/
def windowDropsUptoRow : OpenClaim := { program := "ytjcpdljfkhbbkaagreat", sum := "03d5f50b594909a366fb7e0920bd5a39976337ddaebcd97dea9f1c665e56ea90", func := "tallystick/tallysticklaw18.WindowDrops", spec := "windowDrops", inPlace := ["math/bits.Add64", "math/bits.Sub64", "maps.clone"], recurses := true, plainKeys := false, apart := false, narrowed := true }
def WindowDropsUptoSaid : Prop := windowDropsUptoRow.holds Tryz.pinned (OpenSpec.upto windowDropsSpec)

/-- 'tallysticklaw18.WindowWants', WHERE WHAT IT READS IS OF BULK AT MOST 1048576: true; the input reads as it did. -/
def windowWantsUptoRow : OpenClaim := { program := "ytjcpdljfkhbbkaagreat", sum := "03d5f50b594909a366fb7e0920bd5a39976337ddaebcd97dea9f1c665e56ea90", func := "tallystick/tallysticklaw18.WindowWants", spec := "windowWants", inPlace := ["math/bits.Add64", "math/bits.Sub64", "maps.clone"], recurses := true, plainKeys := false, apart := false, narrowed := true }
def WindowWantsUptoSaid : Prop := windowWantsUptoRow.holds Tryz.pinned (OpenSpec.upto windowWantsSpec)

/-- 'tallysticklaw19.HonestChains', WHERE WHAT IT READS IS OF BULK AT MOST 1048576: true; the input reads as it did. -/
def honestChainsUptoRow : OpenClaim := { program := "ytjcpdljfkhbbkaagreat", sum := "03d5f50b594909a366fb7e0920bd5a39976337ddaebcd97dea9f1c665e56ea90", func := "tallystick/tallysticklaw19.HonestChains", spec := "honestChains", inPlace := ["math/bits.Add64", "math/bits.Sub64", "maps.clone"], recurses := true, plainKeys := false, apart := false, narrowed := true }
def HonestChainsUptoSaid : Prop := honestChainsUptoRow.holds Tryz.pinned (OpenSpec.upto honestChainsSpec)

/-- 'tallysticklaw14.ChainMutant', WHERE WHAT IT READS IS OF BULK AT MOST 1048576: true; the input reads as it did. -/
def chainMutantUptoRow : OpenClaim := { program := "ytjcpdljfkhbbkaagreat", sum := "03d5f50b594909a366fb7e0920bd5a39976337ddaebcd97dea9f1c665e56ea90", func := "tallystick/tallysticklaw14.ChainMutant", spec := "chainMutant", inPlace := ["math/bits.Add64", "math/bits.Sub64", "maps.clone"], recurses := true, plainKeys := false, apart := false, narrowed := true }
def ChainMutantUptoSaid : Prop := chainMutantUptoRow.holds Tryz.pinned (OpenSpec.upto chainMutantSpec)

/-- 'tallysticklaw14.ChainWork', WHERE WHAT IT READS IS OF BULK AT MOST 1048576: true; the input reads as it did. -/
def chainWorkUptoRow : OpenClaim := { program := "ytjcpdljfkhbbkaagreat", sum := "03d5f50b594909a366fb7e0920bd5a39976337ddaebcd97dea9f1c665e56ea90", func := "tallystick/tallysticklaw14.ChainWork", spec := "chainWork", inPlace := ["math/bits.Add64", "math/bits.Sub64", "maps.clone"], recurses := true, plainKeys := false, apart := false, narrowed := true }
def ChainWorkUptoSaid : Prop := chainWorkUptoRow.holds Tryz.pinned (OpenSpec.upto chainWorkSpec)

end Rows
end Go.Proofs.YtjcpdljfkhbbkaaGreat
