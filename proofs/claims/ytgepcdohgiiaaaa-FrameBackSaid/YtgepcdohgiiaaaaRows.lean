/-
  No cell of these rows narrows 'for every input' (looked for: loops, veiled, ifaces, maps, wideKeys, modest, calm, conditions, laid).
  DERIVED. THE GIVEN ROWS OF THIS SEAT. 10 by the template 'for every input the law returns true; each argument reads behind the call as it read before'; 0 by the template 'total and deterministic' (their statements: YtgepcdohgiiaaaaTotals.lean).
  GIVEN WITH THE SEED: the statements are not yours to turn. If you find one false, say at which input.
  Laid BY PROGRAM, IN A SANDBOX (cutbox-rows.mjs): the forced cells as the released guide's own fill.sh prints them over the translation adc08ee1a662899c… (all of the seat's roots in one cut). By AI agents, Wed Nov 11 2026. No macro, syntax, notation, axiom, sorry.
-/
import Derived.Test.YtgepcdohgiiaaaaChecked
import GoSem.Claim
import GoSem.ClaimJoined
import GoSem.ClaimMapViews
import Derived.JoinedTies
import Derived.KernelRfl
namespace Go.Proofs.Ytgepcdohgiiaaaa
/- THE CELL 'sum', in the pinned program and in every row, IS THE sha256 OF THE DUMP (.gsa) THAT YtgepcdohgiiaaaaProg.lean LOADS. Nothing in Lean hashes anything: it is a label: what it is worth is what the hold of that sum in a sandbox is worth. -/
noncomputable def Try.pinned : Pinned := { name := "ytgepcdohgiiaaaa", sum := "adc08ee1a662899c8c5abff4b958c1215de7b8cbe20479e9eef94fa49054aa22", checked := Try.checked }
namespace Rows
def none {H : Type} : Left H := { results := [], args := [] }

/-- 'woodgrainlaw24.FrameMakes': WHATEVER THE INPUT: true; the input reads as it did. -/
def frameMakesSpec : ChangeSpec := { name := "frameMakes", fn := fun _ => fun
  | [d] => { results := [.lit (.bool true)], args := [d] }
  | _ => none }
def frameMakesRow : OpenClaim := { program := "ytgepcdohgiiaaaa", sum := "adc08ee1a662899c8c5abff4b958c1215de7b8cbe20479e9eef94fa49054aa22", func := "woodgrain/woodgrainlaw24.FrameMakes", spec := "frameMakes", unfollowed := true, recurses := true, apart := false }
def FrameMakesSaid : Prop := frameMakesRow.holds Try.pinned (OpenSpec.ofChange frameMakesSpec)

/-- ITS FALSE NEIGHBOUR: 'it returns false'. Refute it at one input. -/
def frameMakesWrong : ChangeSpec := { name := "frameMakes", fn := fun _ => fun
  | [d] => { results := [.lit (.bool false)], args := [d] }
  | _ => none }
def FrameMakesWrongFalsely : Prop := frameMakesRow.holds Try.pinned (OpenSpec.ofChange frameMakesWrong)

/-- 'woodgrainlaw24.FrameLines': WHATEVER THE INPUT: true; the input reads as it did. -/
def frameLinesSpec : ChangeSpec := { name := "frameLines", fn := fun _ => fun
  | [d] => { results := [.lit (.bool true)], args := [d] }
  | _ => none }
def frameLinesRow : OpenClaim := { program := "ytgepcdohgiiaaaa", sum := "adc08ee1a662899c8c5abff4b958c1215de7b8cbe20479e9eef94fa49054aa22", func := "woodgrain/woodgrainlaw24.FrameLines", spec := "frameLines", unfollowed := true, recurses := true, apart := false }
def FrameLinesSaid : Prop := frameLinesRow.holds Try.pinned (OpenSpec.ofChange frameLinesSpec)

/-- ITS FALSE NEIGHBOUR: 'it returns false'. Refute it at one input. -/
def frameLinesWrong : ChangeSpec := { name := "frameLines", fn := fun _ => fun
  | [d] => { results := [.lit (.bool false)], args := [d] }
  | _ => none }
def FrameLinesWrongFalsely : Prop := frameLinesRow.holds Try.pinned (OpenSpec.ofChange frameLinesWrong)

/-- 'woodgrainlaw24.FrameNil': WHATEVER THE INPUT: true; the input reads as it did. -/
def frameNilSpec : ChangeSpec := { name := "frameNil", fn := fun _ => fun
  | [d] => { results := [.lit (.bool true)], args := [d] }
  | _ => none }
def frameNilRow : OpenClaim := { program := "ytgepcdohgiiaaaa", sum := "adc08ee1a662899c8c5abff4b958c1215de7b8cbe20479e9eef94fa49054aa22", func := "woodgrain/woodgrainlaw24.FrameNil", spec := "frameNil", unfollowed := true, recurses := true, apart := false }
def FrameNilSaid : Prop := frameNilRow.holds Try.pinned (OpenSpec.ofChange frameNilSpec)

/-- ITS FALSE NEIGHBOUR: 'it returns false'. Refute it at one input. -/
def frameNilWrong : ChangeSpec := { name := "frameNil", fn := fun _ => fun
  | [d] => { results := [.lit (.bool false)], args := [d] }
  | _ => none }
def FrameNilWrongFalsely : Prop := frameNilRow.holds Try.pinned (OpenSpec.ofChange frameNilWrong)

/-- 'woodgrainlaw24.FrameShades': WHATEVER THE INPUT: true; the input reads as it did. -/
def frameShadesSpec : ChangeSpec := { name := "frameShades", fn := fun _ => fun
  | [d] => { results := [.lit (.bool true)], args := [d] }
  | _ => none }
def frameShadesRow : OpenClaim := { program := "ytgepcdohgiiaaaa", sum := "adc08ee1a662899c8c5abff4b958c1215de7b8cbe20479e9eef94fa49054aa22", func := "woodgrain/woodgrainlaw24.FrameShades", spec := "frameShades", unfollowed := true, recurses := true, apart := false }
def FrameShadesSaid : Prop := frameShadesRow.holds Try.pinned (OpenSpec.ofChange frameShadesSpec)

/-- ITS FALSE NEIGHBOUR: 'it returns false'. Refute it at one input. -/
def frameShadesWrong : ChangeSpec := { name := "frameShades", fn := fun _ => fun
  | [d] => { results := [.lit (.bool false)], args := [d] }
  | _ => none }
def FrameShadesWrongFalsely : Prop := frameShadesRow.holds Try.pinned (OpenSpec.ofChange frameShadesWrong)

/-- 'woodgrainlaw24.FrameApart': WHATEVER THE INPUT: true; the input reads as it did. -/
def frameApartSpec : ChangeSpec := { name := "frameApart", fn := fun _ => fun
  | [d1, d2] => { results := [.lit (.bool true)], args := [d1, d2] }
  | _ => none }
def frameApartRow : OpenClaim := { program := "ytgepcdohgiiaaaa", sum := "adc08ee1a662899c8c5abff4b958c1215de7b8cbe20479e9eef94fa49054aa22", func := "woodgrain/woodgrainlaw24.FrameApart", spec := "frameApart", unfollowed := true, recurses := true, apart := false }
def FrameApartSaid : Prop := frameApartRow.holds Try.pinned (OpenSpec.ofChange frameApartSpec)

/-- ITS FALSE NEIGHBOUR: 'it returns false'. Refute it at one input. -/
def frameApartWrong : ChangeSpec := { name := "frameApart", fn := fun _ => fun
  | [d1, d2] => { results := [.lit (.bool false)], args := [d1, d2] }
  | _ => none }
def FrameApartWrongFalsely : Prop := frameApartRow.holds Try.pinned (OpenSpec.ofChange frameApartWrong)

/-- 'woodgrainlaw24.FrameReads': WHATEVER THE INPUT: true; the input reads as it did. -/
def frameReadsSpec : ChangeSpec := { name := "frameReads", fn := fun _ => fun
  | [d] => { results := [.lit (.bool true)], args := [d] }
  | _ => none }
def frameReadsRow : OpenClaim := { program := "ytgepcdohgiiaaaa", sum := "adc08ee1a662899c8c5abff4b958c1215de7b8cbe20479e9eef94fa49054aa22", func := "woodgrain/woodgrainlaw24.FrameReads", spec := "frameReads", unfollowed := true, recurses := true, apart := false }
def FrameReadsSaid : Prop := frameReadsRow.holds Try.pinned (OpenSpec.ofChange frameReadsSpec)

/-- ITS FALSE NEIGHBOUR: 'it returns false'. Refute it at one input. -/
def frameReadsWrong : ChangeSpec := { name := "frameReads", fn := fun _ => fun
  | [d] => { results := [.lit (.bool false)], args := [d] }
  | _ => none }
def FrameReadsWrongFalsely : Prop := frameReadsRow.holds Try.pinned (OpenSpec.ofChange frameReadsWrong)

/-- 'woodgrainlaw24.FrameBack': WHATEVER THE INPUT: true; the input reads as it did. -/
def frameBackSpec : ChangeSpec := { name := "frameBack", fn := fun _ => fun
  | [d1, d2] => { results := [.lit (.bool true)], args := [d1, d2] }
  | _ => none }
def frameBackRow : OpenClaim := { program := "ytgepcdohgiiaaaa", sum := "adc08ee1a662899c8c5abff4b958c1215de7b8cbe20479e9eef94fa49054aa22", func := "woodgrain/woodgrainlaw24.FrameBack", spec := "frameBack", unfollowed := true, recurses := true, apart := false }
def FrameBackSaid : Prop := frameBackRow.holds Try.pinned (OpenSpec.ofChange frameBackSpec)

/-- ITS FALSE NEIGHBOUR: 'it returns false'. Refute it at one input. -/
def frameBackWrong : ChangeSpec := { name := "frameBack", fn := fun _ => fun
  | [d1, d2] => { results := [.lit (.bool false)], args := [d1, d2] }
  | _ => none }
def FrameBackWrongFalsely : Prop := frameBackRow.holds Try.pinned (OpenSpec.ofChange frameBackWrong)

/-- 'woodgrainlaw24.FrameStreams': WHATEVER THE INPUT: true; the input reads as it did. -/
def frameStreamsSpec : ChangeSpec := { name := "frameStreams", fn := fun _ => fun
  | [d1, d2, d3] => { results := [.lit (.bool true)], args := [d1, d2, d3] }
  | _ => none }
def frameStreamsRow : OpenClaim := { program := "ytgepcdohgiiaaaa", sum := "adc08ee1a662899c8c5abff4b958c1215de7b8cbe20479e9eef94fa49054aa22", func := "woodgrain/woodgrainlaw24.FrameStreams", spec := "frameStreams", unfollowed := true, recurses := true, apart := false }
def FrameStreamsSaid : Prop := frameStreamsRow.holds Try.pinned (OpenSpec.ofChange frameStreamsSpec)

/-- ITS FALSE NEIGHBOUR: 'it returns false'. Refute it at one input. -/
def frameStreamsWrong : ChangeSpec := { name := "frameStreams", fn := fun _ => fun
  | [d1, d2, d3] => { results := [.lit (.bool false)], args := [d1, d2, d3] }
  | _ => none }
def FrameStreamsWrongFalsely : Prop := frameStreamsRow.holds Try.pinned (OpenSpec.ofChange frameStreamsWrong)

/-- 'woodgrainlaw24.FrameUnstreams': WHATEVER THE INPUT: true; the input reads as it did. -/
def frameUnstreamsSpec : ChangeSpec := { name := "frameUnstreams", fn := fun _ => fun
  | [d] => { results := [.lit (.bool true)], args := [d] }
  | _ => none }
def frameUnstreamsRow : OpenClaim := { program := "ytgepcdohgiiaaaa", sum := "adc08ee1a662899c8c5abff4b958c1215de7b8cbe20479e9eef94fa49054aa22", func := "woodgrain/woodgrainlaw24.FrameUnstreams", spec := "frameUnstreams", unfollowed := true, recurses := true, apart := false }
def FrameUnstreamsSaid : Prop := frameUnstreamsRow.holds Try.pinned (OpenSpec.ofChange frameUnstreamsSpec)

/-- ITS FALSE NEIGHBOUR: 'it returns false'. Refute it at one input. -/
def frameUnstreamsWrong : ChangeSpec := { name := "frameUnstreams", fn := fun _ => fun
  | [d] => { results := [.lit (.bool false)], args := [d] }
  | _ => none }
def FrameUnstreamsWrongFalsely : Prop := frameUnstreamsRow.holds Try.pinned (OpenSpec.ofChange frameUnstreamsWrong)

/-- 'woodgrainlaw24.FrameFlows': WHATEVER THE INPUT: true; the input reads as it did. -/
def frameFlowsSpec : ChangeSpec := { name := "frameFlows", fn := fun _ => fun
  | [d] => { results := [.lit (.bool true)], args := [d] }
  | _ => none }
def frameFlowsRow : OpenClaim := { program := "ytgepcdohgiiaaaa", sum := "adc08ee1a662899c8c5abff4b958c1215de7b8cbe20479e9eef94fa49054aa22", func := "woodgrain/woodgrainlaw24.FrameFlows", spec := "frameFlows", unfollowed := true, recurses := true, apart := false }
def FrameFlowsSaid : Prop := frameFlowsRow.holds Try.pinned (OpenSpec.ofChange frameFlowsSpec)

/-- ITS FALSE NEIGHBOUR: 'it returns false'. Refute it at one input. -/
def frameFlowsWrong : ChangeSpec := { name := "frameFlows", fn := fun _ => fun
  | [d] => { results := [.lit (.bool false)], args := [d] }
  | _ => none }
def FrameFlowsWrongFalsely : Prop := frameFlowsRow.holds Try.pinned (OpenSpec.ofChange frameFlowsWrong)

/- THE SECOND FORM. 'bulk': how many values and letters a reading holds, each counted each time it is reached (what is shared counts as often as it is met; a slice's spare places count too). A statement '..UptoSaid' is the law's where the arguments, and the package variables that the reading takes, are together of bulk at most 1048576: NARROWER than '..Said'. Prove '..Said' where nothing that the law and all that it calls make is longer than what came in: it says more and counts as full. Else prove '..UptoSaid'. A law counts once. -/
mutual
def uptoBulk {H : Type} : DataW H → Nat
  | .lit (.string bytes) => bytes.length + 1
  | .lit _ => 1
  | .nil => 1
  | .ptr d => uptoBulk d + 1
  | .slice elems spare => uptoBulkAll elems + uptoBulkAll spare + 1
  | .agg parts => uptoBulkAll parts + 1
  | .iface _ d => uptoBulk d + 1
  | .map entries => uptoBulkEntries entries + 1
  | .held _ => 1
def uptoBulkAll {H : Type} : List (DataW H) → Nat
  | [] => 0
  | d :: r => uptoBulk d + uptoBulkAll r
def uptoBulkEntries {H : Type} : List (Lit × DataW H) → Nat
  | [] => 0
  | x :: r => uptoBulkEntry x + uptoBulkEntries r
def uptoBulkEntry {H : Type} : Lit × DataW H → Nat
  | (.string bytes, d) => bytes.length + uptoBulk d + 1
  | (_, d) => uptoBulk d + 1
 end
def uptoSmall : (H : Type) → List (DataW H) → Bool := fun _ ds => decide (uptoBulkAll ds ≤ 1048576)
def OpenSpec.upto (s : _root_.Go.ChangeSpec) : _root_.Go.OpenSpec := { _root_.Go.OpenSpec.ofChange s with cond := some uptoSmall }

/-- 'woodgrainlaw24.FrameMakes', WHERE WHAT IT READS IS OF BULK AT MOST 1048576: true; the input reads as it did. -/
def frameMakesUptoRow : OpenClaim := { program := "ytgepcdohgiiaaaa", sum := "adc08ee1a662899c8c5abff4b958c1215de7b8cbe20479e9eef94fa49054aa22", func := "woodgrain/woodgrainlaw24.FrameMakes", spec := "frameMakes", unfollowed := true, recurses := true, apart := false, narrowed := true }
def FrameMakesUptoSaid : Prop := frameMakesUptoRow.holds Try.pinned (OpenSpec.upto frameMakesSpec)

/-- 'woodgrainlaw24.FrameLines', WHERE WHAT IT READS IS OF BULK AT MOST 1048576: true; the input reads as it did. -/
def frameLinesUptoRow : OpenClaim := { program := "ytgepcdohgiiaaaa", sum := "adc08ee1a662899c8c5abff4b958c1215de7b8cbe20479e9eef94fa49054aa22", func := "woodgrain/woodgrainlaw24.FrameLines", spec := "frameLines", unfollowed := true, recurses := true, apart := false, narrowed := true }
def FrameLinesUptoSaid : Prop := frameLinesUptoRow.holds Try.pinned (OpenSpec.upto frameLinesSpec)

/-- 'woodgrainlaw24.FrameNil', WHERE WHAT IT READS IS OF BULK AT MOST 1048576: true; the input reads as it did. -/
def frameNilUptoRow : OpenClaim := { program := "ytgepcdohgiiaaaa", sum := "adc08ee1a662899c8c5abff4b958c1215de7b8cbe20479e9eef94fa49054aa22", func := "woodgrain/woodgrainlaw24.FrameNil", spec := "frameNil", unfollowed := true, recurses := true, apart := false, narrowed := true }
def FrameNilUptoSaid : Prop := frameNilUptoRow.holds Try.pinned (OpenSpec.upto frameNilSpec)

/-- 'woodgrainlaw24.FrameShades', WHERE WHAT IT READS IS OF BULK AT MOST 1048576: true; the input reads as it did. -/
def frameShadesUptoRow : OpenClaim := { program := "ytgepcdohgiiaaaa", sum := "adc08ee1a662899c8c5abff4b958c1215de7b8cbe20479e9eef94fa49054aa22", func := "woodgrain/woodgrainlaw24.FrameShades", spec := "frameShades", unfollowed := true, recurses := true, apart := false, narrowed := true }
def FrameShadesUptoSaid : Prop := frameShadesUptoRow.holds Try.pinned (OpenSpec.upto frameShadesSpec)

/-- 'woodgrainlaw24.FrameApart', WHERE WHAT IT READS IS OF BULK AT MOST 1048576: true; the input reads as it did. -/
def frameApartUptoRow : OpenClaim := { program := "ytgepcdohgiiaaaa", sum := "adc08ee1a662899c8c5abff4b958c1215de7b8cbe20479e9eef94fa49054aa22", func := "woodgrain/woodgrainlaw24.FrameApart", spec := "frameApart", unfollowed := true, recurses := true, apart := false, narrowed := true }
def FrameApartUptoSaid : Prop := frameApartUptoRow.holds Try.pinned (OpenSpec.upto frameApartSpec)

/-- 'woodgrainlaw24.FrameReads', WHERE WHAT IT READS IS OF BULK AT MOST 1048576: true; the input reads as it did. -/
def frameReadsUptoRow : OpenClaim := { program := "ytgepcdohgiiaaaa", sum := "adc08ee1a662899c8c5abff4b958c1215de7b8cbe20479e9eef94fa49054aa22", func := "woodgrain/woodgrainlaw24.FrameReads", spec := "frameReads", unfollowed := true, recurses := true, apart := false, narrowed := true }
def FrameReadsUptoSaid : Prop := frameReadsUptoRow.holds Try.pinned (OpenSpec.upto frameReadsSpec)

/-- 'woodgrainlaw24.FrameBack', WHERE WHAT IT READS IS OF BULK AT MOST 1048576: true; the input reads as it did. -/
def frameBackUptoRow : OpenClaim := { program := "ytgepcdohgiiaaaa", sum := "adc08ee1a662899c8c5abff4b958c1215de7b8cbe20479e9eef94fa49054aa22", func := "woodgrain/woodgrainlaw24.FrameBack", spec := "frameBack", unfollowed := true, recurses := true, apart := false, narrowed := true }
def FrameBackUptoSaid : Prop := frameBackUptoRow.holds Try.pinned (OpenSpec.upto frameBackSpec)

/-- 'woodgrainlaw24.FrameStreams', WHERE WHAT IT READS IS OF BULK AT MOST 1048576: true; the input reads as it did. -/
def frameStreamsUptoRow : OpenClaim := { program := "ytgepcdohgiiaaaa", sum := "adc08ee1a662899c8c5abff4b958c1215de7b8cbe20479e9eef94fa49054aa22", func := "woodgrain/woodgrainlaw24.FrameStreams", spec := "frameStreams", unfollowed := true, recurses := true, apart := false, narrowed := true }
def FrameStreamsUptoSaid : Prop := frameStreamsUptoRow.holds Try.pinned (OpenSpec.upto frameStreamsSpec)

/-- 'woodgrainlaw24.FrameUnstreams', WHERE WHAT IT READS IS OF BULK AT MOST 1048576: true; the input reads as it did. -/
def frameUnstreamsUptoRow : OpenClaim := { program := "ytgepcdohgiiaaaa", sum := "adc08ee1a662899c8c5abff4b958c1215de7b8cbe20479e9eef94fa49054aa22", func := "woodgrain/woodgrainlaw24.FrameUnstreams", spec := "frameUnstreams", unfollowed := true, recurses := true, apart := false, narrowed := true }
def FrameUnstreamsUptoSaid : Prop := frameUnstreamsUptoRow.holds Try.pinned (OpenSpec.upto frameUnstreamsSpec)

/-- 'woodgrainlaw24.FrameFlows', WHERE WHAT IT READS IS OF BULK AT MOST 1048576: true; the input reads as it did. -/
def frameFlowsUptoRow : OpenClaim := { program := "ytgepcdohgiiaaaa", sum := "adc08ee1a662899c8c5abff4b958c1215de7b8cbe20479e9eef94fa49054aa22", func := "woodgrain/woodgrainlaw24.FrameFlows", spec := "frameFlows", unfollowed := true, recurses := true, apart := false, narrowed := true }
def FrameFlowsUptoSaid : Prop := frameFlowsUptoRow.holds Try.pinned (OpenSpec.upto frameFlowsSpec)

end Rows
end Go.Proofs.Ytgepcdohgiiaaaa
