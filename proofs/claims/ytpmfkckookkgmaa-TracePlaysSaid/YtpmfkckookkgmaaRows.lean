/-
  No cell of these rows narrows 'for every input' (looked for: loops, veiled, ifaces, maps, wideKeys, modest, calm, conditions, laid).
  DERIVED. THE GIVEN ROWS OF THIS SEAT. 9 by the template 'for every input the law returns true; each argument reads behind the call as it read before'; 0 by the template 'total and deterministic' (their statements: YtpmfkckookkgmaaTotals.lean).
  GIVEN WITH THE SEED: the statements are not yours to turn. If you find one false, say at which input.
  Laid BY PROGRAM, IN A SANDBOX (cutbox-rows.mjs): the forced cells as the released guide's own fill.sh prints them over the translation 7a31bd940a6e668d… (all of the seat's roots in one cut). By AI agents, Wed Nov 11 2026. No macro, syntax, notation, axiom, sorry.
-/
import Derived.Test.YtpmfkckookkgmaaChecked
import GoSem.Claim
import GoSem.ClaimJoined
import GoSem.ClaimMapViews
import Derived.JoinedTies
import Derived.KernelRfl
namespace Go.Proofs.Ytpmfkckookkgmaa
/- THE CELL 'sum', in the pinned program and in every row, IS THE sha256 OF THE DUMP (.gsa) THAT YtpmfkckookkgmaaProg.lean LOADS. Nothing in Lean hashes anything: it is a label: what it is worth is what the hold of that sum in a sandbox is worth. -/
noncomputable def Try.pinned : Pinned := { name := "ytpmfkckookkgmaa", sum := "7a31bd940a6e668dce78e2b87eedeed5ff3f6d7ae7463fa57dc08ee31b38781f", checked := Try.checked }
namespace Rows
def none {H : Type} : Left H := { results := [], args := [] }

/-- 'tallysticklaw17.BanSmall': WHATEVER THE INPUT: true; the input reads as it did. -/
def banSmallSpec : ChangeSpec := { name := "banSmall", fn := fun _ => fun
  | [d] => { results := [.lit (.bool true)], args := [d] }
  | _ => none }
def banSmallRow : OpenClaim := { program := "ytpmfkckookkgmaa", sum := "7a31bd940a6e668dce78e2b87eedeed5ff3f6d7ae7463fa57dc08ee31b38781f", func := "tallystick/tallysticklaw17.BanSmall", spec := "banSmall", unfollowed := true, recurses := true, plainKeys := false, apart := false }
def BanSmallSaid : Prop := banSmallRow.holds Try.pinned (OpenSpec.ofChange banSmallSpec)

/-- ITS FALSE NEIGHBOUR: 'it returns false'. Refute it at one input. -/
def banSmallWrong : ChangeSpec := { name := "banSmall", fn := fun _ => fun
  | [d] => { results := [.lit (.bool false)], args := [d] }
  | _ => none }
def BanSmallWrongFalsely : Prop := banSmallRow.holds Try.pinned (OpenSpec.ofChange banSmallWrong)

/-- 'tallysticklaw17.BanApart': WHATEVER THE INPUT: true; the input reads as it did. -/
def banApartSpec : ChangeSpec := { name := "banApart", fn := fun _ => fun
  | [d1, d2, d3] => { results := [.lit (.bool true)], args := [d1, d2, d3] }
  | _ => none }
def banApartRow : OpenClaim := { program := "ytpmfkckookkgmaa", sum := "7a31bd940a6e668dce78e2b87eedeed5ff3f6d7ae7463fa57dc08ee31b38781f", func := "tallystick/tallysticklaw17.BanApart", spec := "banApart", unfollowed := true, recurses := true, plainKeys := false, apart := false }
def BanApartSaid : Prop := banApartRow.holds Try.pinned (OpenSpec.ofChange banApartSpec)

/-- ITS FALSE NEIGHBOUR: 'it returns false'. Refute it at one input. -/
def banApartWrong : ChangeSpec := { name := "banApart", fn := fun _ => fun
  | [d1, d2, d3] => { results := [.lit (.bool false)], args := [d1, d2, d3] }
  | _ => none }
def BanApartWrongFalsely : Prop := banApartRow.holds Try.pinned (OpenSpec.ofChange banApartWrong)

/-- 'tallysticklaw17.BanPlays': WHATEVER THE INPUT: true; the input reads as it did. -/
def banPlaysSpec : ChangeSpec := { name := "banPlays", fn := fun _ => fun
  | [d1, d2] => { results := [.lit (.bool true)], args := [d1, d2] }
  | _ => none }
def banPlaysRow : OpenClaim := { program := "ytpmfkckookkgmaa", sum := "7a31bd940a6e668dce78e2b87eedeed5ff3f6d7ae7463fa57dc08ee31b38781f", func := "tallystick/tallysticklaw17.BanPlays", spec := "banPlays", unfollowed := true, recurses := true, plainKeys := false, apart := false }
def BanPlaysSaid : Prop := banPlaysRow.holds Try.pinned (OpenSpec.ofChange banPlaysSpec)

/-- ITS FALSE NEIGHBOUR: 'it returns false'. Refute it at one input. -/
def banPlaysWrong : ChangeSpec := { name := "banPlays", fn := fun _ => fun
  | [d1, d2] => { results := [.lit (.bool false)], args := [d1, d2] }
  | _ => none }
def BanPlaysWrongFalsely : Prop := banPlaysRow.holds Try.pinned (OpenSpec.ofChange banPlaysWrong)

/-- 'tallysticklaw17.BanLonger': WHATEVER THE INPUT: true; the input reads as it did. -/
def banLongerSpec : ChangeSpec := { name := "banLonger", fn := fun _ => fun
  | [d1, d2, d3] => { results := [.lit (.bool true)], args := [d1, d2, d3] }
  | _ => none }
def banLongerRow : OpenClaim := { program := "ytpmfkckookkgmaa", sum := "7a31bd940a6e668dce78e2b87eedeed5ff3f6d7ae7463fa57dc08ee31b38781f", func := "tallystick/tallysticklaw17.BanLonger", spec := "banLonger", unfollowed := true, recurses := true, plainKeys := false, apart := false }
def BanLongerSaid : Prop := banLongerRow.holds Try.pinned (OpenSpec.ofChange banLongerSpec)

/-- ITS FALSE NEIGHBOUR: 'it returns false'. Refute it at one input. -/
def banLongerWrong : ChangeSpec := { name := "banLonger", fn := fun _ => fun
  | [d1, d2, d3] => { results := [.lit (.bool false)], args := [d1, d2, d3] }
  | _ => none }
def BanLongerWrongFalsely : Prop := banLongerRow.holds Try.pinned (OpenSpec.ofChange banLongerWrong)

/-- 'tallysticklaw17.BanSwept': WHATEVER THE INPUT: true; the input reads as it did. -/
def banSweptSpec : ChangeSpec := { name := "banSwept", fn := fun _ => fun
  | [d1, d2] => { results := [.lit (.bool true)], args := [d1, d2] }
  | _ => none }
def banSweptRow : OpenClaim := { program := "ytpmfkckookkgmaa", sum := "7a31bd940a6e668dce78e2b87eedeed5ff3f6d7ae7463fa57dc08ee31b38781f", func := "tallystick/tallysticklaw17.BanSwept", spec := "banSwept", unfollowed := true, recurses := true, plainKeys := false, apart := false }
def BanSweptSaid : Prop := banSweptRow.holds Try.pinned (OpenSpec.ofChange banSweptSpec)

/-- ITS FALSE NEIGHBOUR: 'it returns false'. Refute it at one input. -/
def banSweptWrong : ChangeSpec := { name := "banSwept", fn := fun _ => fun
  | [d1, d2] => { results := [.lit (.bool false)], args := [d1, d2] }
  | _ => none }
def BanSweptWrongFalsely : Prop := banSweptRow.holds Try.pinned (OpenSpec.ofChange banSweptWrong)

/-- 'tallysticklaw21.TraceOnce': WHATEVER THE INPUT: true; the input reads as it did. -/
def traceOnceSpec : ChangeSpec := { name := "traceOnce", fn := fun _ => fun
  | [d1, d2] => { results := [.lit (.bool true)], args := [d1, d2] }
  | _ => none }
def traceOnceRow : OpenClaim := { program := "ytpmfkckookkgmaa", sum := "7a31bd940a6e668dce78e2b87eedeed5ff3f6d7ae7463fa57dc08ee31b38781f", func := "tallystick/tallysticklaw21.TraceOnce", spec := "traceOnce", plainKeys := false, apart := false }
def TraceOnceSaid : Prop := traceOnceRow.holds Try.pinned (OpenSpec.ofChange traceOnceSpec)

/-- ITS FALSE NEIGHBOUR: 'it returns false'. Refute it at one input. -/
def traceOnceWrong : ChangeSpec := { name := "traceOnce", fn := fun _ => fun
  | [d1, d2] => { results := [.lit (.bool false)], args := [d1, d2] }
  | _ => none }
def TraceOnceWrongFalsely : Prop := traceOnceRow.holds Try.pinned (OpenSpec.ofChange traceOnceWrong)

/-- 'tallysticklaw21.TraceGreets': WHATEVER THE INPUT: true; the input reads as it did. -/
def traceGreetsSpec : ChangeSpec := { name := "traceGreets", fn := fun _ => fun
  | [d] => { results := [.lit (.bool true)], args := [d] }
  | _ => none }
def traceGreetsRow : OpenClaim := { program := "ytpmfkckookkgmaa", sum := "7a31bd940a6e668dce78e2b87eedeed5ff3f6d7ae7463fa57dc08ee31b38781f", func := "tallystick/tallysticklaw21.TraceGreets", spec := "traceGreets", plainKeys := false, apart := false }
def TraceGreetsSaid : Prop := traceGreetsRow.holds Try.pinned (OpenSpec.ofChange traceGreetsSpec)

/-- ITS FALSE NEIGHBOUR: 'it returns false'. Refute it at one input. -/
def traceGreetsWrong : ChangeSpec := { name := "traceGreets", fn := fun _ => fun
  | [d] => { results := [.lit (.bool false)], args := [d] }
  | _ => none }
def TraceGreetsWrongFalsely : Prop := traceGreetsRow.holds Try.pinned (OpenSpec.ofChange traceGreetsWrong)

/-- 'tallysticklaw21.TracePlays': WHATEVER THE INPUT: true; the input reads as it did. -/
def tracePlaysSpec : ChangeSpec := { name := "tracePlays", fn := fun _ => fun
  | [d] => { results := [.lit (.bool true)], args := [d] }
  | _ => none }
def tracePlaysRow : OpenClaim := { program := "ytpmfkckookkgmaa", sum := "7a31bd940a6e668dce78e2b87eedeed5ff3f6d7ae7463fa57dc08ee31b38781f", func := "tallystick/tallysticklaw21.TracePlays", spec := "tracePlays", plainKeys := false, apart := false }
def TracePlaysSaid : Prop := tracePlaysRow.holds Try.pinned (OpenSpec.ofChange tracePlaysSpec)

/-- ITS FALSE NEIGHBOUR: 'it returns false'. Refute it at one input. -/
def tracePlaysWrong : ChangeSpec := { name := "tracePlays", fn := fun _ => fun
  | [d] => { results := [.lit (.bool false)], args := [d] }
  | _ => none }
def TracePlaysWrongFalsely : Prop := tracePlaysRow.holds Try.pinned (OpenSpec.ofChange tracePlaysWrong)

/-- 'tallysticklaw21.TraceGone': WHATEVER THE INPUT: true; the input reads as it did. -/
def traceGoneSpec : ChangeSpec := { name := "traceGone", fn := fun _ => fun
  | [d] => { results := [.lit (.bool true)], args := [d] }
  | _ => none }
def traceGoneRow : OpenClaim := { program := "ytpmfkckookkgmaa", sum := "7a31bd940a6e668dce78e2b87eedeed5ff3f6d7ae7463fa57dc08ee31b38781f", func := "tallystick/tallysticklaw21.TraceGone", spec := "traceGone", plainKeys := false, apart := false }
def TraceGoneSaid : Prop := traceGoneRow.holds Try.pinned (OpenSpec.ofChange traceGoneSpec)

/-- ITS FALSE NEIGHBOUR: 'it returns false'. Refute it at one input. -/
def traceGoneWrong : ChangeSpec := { name := "traceGone", fn := fun _ => fun
  | [d] => { results := [.lit (.bool false)], args := [d] }
  | _ => none }
def TraceGoneWrongFalsely : Prop := traceGoneRow.holds Try.pinned (OpenSpec.ofChange traceGoneWrong)

/- THE SECOND FORM. 'bulk': how many values and letters a reading holds, each counted each time it is reached (what is shared counts as often as it is met; a slice's spare places count too). A statement '..UptoSaid' is the law's where the arguments, and the package variables that the reading takes, are together of bulk at most 1048576: NARROWER than '..Said'. Prove '..Said' where nothing that the law and all that it calls make is longer than what came in: it says more and counts as full. Else prove '..UptoSaid'. A law counts once. -/
mutual
def uptoBulk {H : Type} : DataW H → Nat
  | .lit (.string bytes) => bytes.length + 1
  | .lit _ => 1
  | .nil => 1
  | .ptr d => uptoBulk d + 1
  | .slice elems spare => uptoBulkAll elems + uptoBulkAll spare + 1
  | .agg parts => uptoBulkAll parts + 1
  | .iface _ d => uptoBulk d + 1
  | .map entries => uptoBulkEntries entries + 1
  | .held _ => 1
def uptoBulkAll {H : Type} : List (DataW H) → Nat
  | [] => 0
  | d :: r => uptoBulk d + uptoBulkAll r
def uptoBulkEntries {H : Type} : List (Lit × DataW H) → Nat
  | [] => 0
  | x :: r => uptoBulkEntry x + uptoBulkEntries r
def uptoBulkEntry {H : Type} : Lit × DataW H → Nat
  | (.string bytes, d) => bytes.length + uptoBulk d + 1
  | (_, d) => uptoBulk d + 1
 end
def uptoSmall : (H : Type) → List (DataW H) → Bool := fun _ ds => decide (uptoBulkAll ds ≤ 1048576)
def OpenSpec.upto (s : _root_.Go.ChangeSpec) : _root_.Go.OpenSpec := { _root_.Go.OpenSpec.ofChange s with cond := some uptoSmall }

/-- 'tallysticklaw17.BanSmall', WHERE WHAT IT READS IS OF BULK AT MOST 1048576: true; the input reads as it did. -/
def banSmallUptoRow : OpenClaim := { program := "ytpmfkckookkgmaa", sum := "7a31bd940a6e668dce78e2b87eedeed5ff3f6d7ae7463fa57dc08ee31b38781f", func := "tallystick/tallysticklaw17.BanSmall", spec := "banSmall", unfollowed := true, recurses := true, plainKeys := false, apart := false, narrowed := true }
def BanSmallUptoSaid : Prop := banSmallUptoRow.holds Try.pinned (OpenSpec.upto banSmallSpec)

/-- 'tallysticklaw17.BanApart', WHERE WHAT IT READS IS OF BULK AT MOST 1048576: true; the input reads as it did. -/
def banApartUptoRow : OpenClaim := { program := "ytpmfkckookkgmaa", sum := "7a31bd940a6e668dce78e2b87eedeed5ff3f6d7ae7463fa57dc08ee31b38781f", func := "tallystick/tallysticklaw17.BanApart", spec := "banApart", unfollowed := true, recurses := true, plainKeys := false, apart := false, narrowed := true }
def BanApartUptoSaid : Prop := banApartUptoRow.holds Try.pinned (OpenSpec.upto banApartSpec)

/-- 'tallysticklaw17.BanPlays', WHERE WHAT IT READS IS OF BULK AT MOST 1048576: true; the input reads as it did. -/
def banPlaysUptoRow : OpenClaim := { program := "ytpmfkckookkgmaa", sum := "7a31bd940a6e668dce78e2b87eedeed5ff3f6d7ae7463fa57dc08ee31b38781f", func := "tallystick/tallysticklaw17.BanPlays", spec := "banPlays", unfollowed := true, recurses := true, plainKeys := false, apart := false, narrowed := true }
def BanPlaysUptoSaid : Prop := banPlaysUptoRow.holds Try.pinned (OpenSpec.upto banPlaysSpec)

/-- 'tallysticklaw17.BanLonger', WHERE WHAT IT READS IS OF BULK AT MOST 1048576: true; the input reads as it did. -/
def banLongerUptoRow : OpenClaim := { program := "ytpmfkckookkgmaa", sum := "7a31bd940a6e668dce78e2b87eedeed5ff3f6d7ae7463fa57dc08ee31b38781f", func := "tallystick/tallysticklaw17.BanLonger", spec := "banLonger", unfollowed := true, recurses := true, plainKeys := false, apart := false, narrowed := true }
def BanLongerUptoSaid : Prop := banLongerUptoRow.holds Try.pinned (OpenSpec.upto banLongerSpec)

/-- 'tallysticklaw17.BanSwept', WHERE WHAT IT READS IS OF BULK AT MOST 1048576: true; the input reads as it did. -/
def banSweptUptoRow : OpenClaim := { program := "ytpmfkckookkgmaa", sum := "7a31bd940a6e668dce78e2b87eedeed5ff3f6d7ae7463fa57dc08ee31b38781f", func := "tallystick/tallysticklaw17.BanSwept", spec := "banSwept", unfollowed := true, recurses := true, plainKeys := false, apart := false, narrowed := true }
def BanSweptUptoSaid : Prop := banSweptUptoRow.holds Try.pinned (OpenSpec.upto banSweptSpec)

/-- 'tallysticklaw21.TraceOnce', WHERE WHAT IT READS IS OF BULK AT MOST 1048576: true; the input reads as it did. -/
def traceOnceUptoRow : OpenClaim := { program := "ytpmfkckookkgmaa", sum := "7a31bd940a6e668dce78e2b87eedeed5ff3f6d7ae7463fa57dc08ee31b38781f", func := "tallystick/tallysticklaw21.TraceOnce", spec := "traceOnce", plainKeys := false, apart := false, narrowed := true }
def TraceOnceUptoSaid : Prop := traceOnceUptoRow.holds Try.pinned (OpenSpec.upto traceOnceSpec)

/-- 'tallysticklaw21.TraceGreets', WHERE WHAT IT READS IS OF BULK AT MOST 1048576: true; the input reads as it did. -/
def traceGreetsUptoRow : OpenClaim := { program := "ytpmfkckookkgmaa", sum := "7a31bd940a6e668dce78e2b87eedeed5ff3f6d7ae7463fa57dc08ee31b38781f", func := "tallystick/tallysticklaw21.TraceGreets", spec := "traceGreets", plainKeys := false, apart := false, narrowed := true }
def TraceGreetsUptoSaid : Prop := traceGreetsUptoRow.holds Try.pinned (OpenSpec.upto traceGreetsSpec)

/-- 'tallysticklaw21.TracePlays', WHERE WHAT IT READS IS OF BULK AT MOST 1048576: true; the input reads as it did. -/
def tracePlaysUptoRow : OpenClaim := { program := "ytpmfkckookkgmaa", sum := "7a31bd940a6e668dce78e2b87eedeed5ff3f6d7ae7463fa57dc08ee31b38781f", func := "tallystick/tallysticklaw21.TracePlays", spec := "tracePlays", plainKeys := false, apart := false, narrowed := true }
def TracePlaysUptoSaid : Prop := tracePlaysUptoRow.holds Try.pinned (OpenSpec.upto tracePlaysSpec)

/-- 'tallysticklaw21.TraceGone', WHERE WHAT IT READS IS OF BULK AT MOST 1048576: true; the input reads as it did. -/
def traceGoneUptoRow : OpenClaim := { program := "ytpmfkckookkgmaa", sum := "7a31bd940a6e668dce78e2b87eedeed5ff3f6d7ae7463fa57dc08ee31b38781f", func := "tallystick/tallysticklaw21.TraceGone", spec := "traceGone", plainKeys := false, apart := false, narrowed := true }
def TraceGoneUptoSaid : Prop := traceGoneUptoRow.holds Try.pinned (OpenSpec.upto traceGoneSpec)

end Rows
end Go.Proofs.Ytpmfkckookkgmaa
