/-
  No cell of these rows narrows 'for every input' (looked for: loops, veiled, ifaces, maps, wideKeys, modest, calm, conditions, laid).
  DERIVED. THE GIVEN ROWS OF THIS SEAT. 6 by the template 'for every input the law returns true; each argument reads behind the call as it read before'; 0 by the template 'total and deterministic' (their statements: YtmmeloklnkfjjaaTotals.lean).
  GIVEN WITH THE SEED: the statements are not yours to turn. If you find one false, say at which input.
  Laid BY PROGRAM, IN A SANDBOX (cutbox-rows.mjs): the forced cells as the released guide's own fill.sh prints them over the translation 3f6f6a25ac36901c… (all of the seat's roots in one cut). By AI agents, Wed Nov 11 2026. No macro, syntax, notation, axiom, sorry.
-/
import Derived.Test.YtmmeloklnkfjjaaChecked
import GoSem.Claim
import GoSem.ClaimJoined
import GoSem.ClaimMapViews
import Derived.JoinedTies
import Derived.KernelRfl
namespace Go.Proofs.Ytmmeloklnkfjjaa
/- THE CELL 'sum', in the pinned program and in every row, IS THE sha256 OF THE DUMP (.gsa) THAT YtmmeloklnkfjjaaProg.lean LOADS. Nothing in Lean hashes anything: it is a label: what it is worth is what the hold of that sum in a sandbox is worth. -/
noncomputable def Try.pinned : Pinned := { name := "ytmmeloklnkfjjaa", sum := "3f6f6a25ac36901c33ccea4b575b7c89364ed034a0d8a41f7d730ec87f826fc7", checked := Try.checked }
namespace Rows
def none {H : Type} : Left H := { results := [], args := [] }

/-- 'bargatelaw28.CaptureBack': WHATEVER THE INPUT: true; the input reads as it did. -/
def captureBackSpec : ChangeSpec := { name := "captureBack", fn := fun _ => fun
  | [d1, d2, d3] => { results := [.lit (.bool true)], args := [d1, d2, d3] }
  | _ => none }
def captureBackRow : OpenClaim := { program := "ytmmeloklnkfjjaa", sum := "3f6f6a25ac36901c33ccea4b575b7c89364ed034a0d8a41f7d730ec87f826fc7", func := "bargate/bargatelaw28.CaptureBack", spec := "captureBack", unfollowed := true, recurses := true, apart := false }
def CaptureBackSaid : Prop := captureBackRow.holds Try.pinned (OpenSpec.ofChange captureBackSpec)

/-- ITS FALSE NEIGHBOUR: 'it returns false'. Refute it at one input. -/
def captureBackWrong : ChangeSpec := { name := "captureBack", fn := fun _ => fun
  | [d1, d2, d3] => { results := [.lit (.bool false)], args := [d1, d2, d3] }
  | _ => none }
def CaptureBackWrongFalsely : Prop := captureBackRow.holds Try.pinned (OpenSpec.ofChange captureBackWrong)

/-- 'bargatelaw28.CaptureReads': WHATEVER THE INPUT: true; the input reads as it did. -/
def captureReadsSpec : ChangeSpec := { name := "captureReads", fn := fun _ => fun
  | [d] => { results := [.lit (.bool true)], args := [d] }
  | _ => none }
def captureReadsRow : OpenClaim := { program := "ytmmeloklnkfjjaa", sum := "3f6f6a25ac36901c33ccea4b575b7c89364ed034a0d8a41f7d730ec87f826fc7", func := "bargate/bargatelaw28.CaptureReads", spec := "captureReads", unfollowed := true, recurses := true, apart := false }
def CaptureReadsSaid : Prop := captureReadsRow.holds Try.pinned (OpenSpec.ofChange captureReadsSpec)

/-- ITS FALSE NEIGHBOUR: 'it returns false'. Refute it at one input. -/
def captureReadsWrong : ChangeSpec := { name := "captureReads", fn := fun _ => fun
  | [d] => { results := [.lit (.bool false)], args := [d] }
  | _ => none }
def CaptureReadsWrongFalsely : Prop := captureReadsRow.holds Try.pinned (OpenSpec.ofChange captureReadsWrong)

/-- 'bargatelaw28.CaptureMerges': WHATEVER THE INPUT: true; the input reads as it did. -/
def captureMergesSpec : ChangeSpec := { name := "captureMerges", fn := fun _ => fun
  | [d1, d2] => { results := [.lit (.bool true)], args := [d1, d2] }
  | _ => none }
def captureMergesRow : OpenClaim := { program := "ytmmeloklnkfjjaa", sum := "3f6f6a25ac36901c33ccea4b575b7c89364ed034a0d8a41f7d730ec87f826fc7", func := "bargate/bargatelaw28.CaptureMerges", spec := "captureMerges", unfollowed := true, recurses := true, apart := false }
def CaptureMergesSaid : Prop := captureMergesRow.holds Try.pinned (OpenSpec.ofChange captureMergesSpec)

/-- ITS FALSE NEIGHBOUR: 'it returns false'. Refute it at one input. -/
def captureMergesWrong : ChangeSpec := { name := "captureMerges", fn := fun _ => fun
  | [d1, d2] => { results := [.lit (.bool false)], args := [d1, d2] }
  | _ => none }
def CaptureMergesWrongFalsely : Prop := captureMergesRow.holds Try.pinned (OpenSpec.ofChange captureMergesWrong)

/-- 'bargatelaw28.CaptureWindows': WHATEVER THE INPUT: true; the input reads as it did. -/
def captureWindowsSpec : ChangeSpec := { name := "captureWindows", fn := fun _ => fun
  | [d1, d2, d3] => { results := [.lit (.bool true)], args := [d1, d2, d3] }
  | _ => none }
def captureWindowsRow : OpenClaim := { program := "ytmmeloklnkfjjaa", sum := "3f6f6a25ac36901c33ccea4b575b7c89364ed034a0d8a41f7d730ec87f826fc7", func := "bargate/bargatelaw28.CaptureWindows", spec := "captureWindows", unfollowed := true, recurses := true, apart := false }
def CaptureWindowsSaid : Prop := captureWindowsRow.holds Try.pinned (OpenSpec.ofChange captureWindowsSpec)

/-- ITS FALSE NEIGHBOUR: 'it returns false'. Refute it at one input. -/
def captureWindowsWrong : ChangeSpec := { name := "captureWindows", fn := fun _ => fun
  | [d1, d2, d3] => { results := [.lit (.bool false)], args := [d1, d2, d3] }
  | _ => none }
def CaptureWindowsWrongFalsely : Prop := captureWindowsRow.holds Try.pinned (OpenSpec.ofChange captureWindowsWrong)

/-- 'bargatelaw28.CaptureOverlaps': WHATEVER THE INPUT: true; the input reads as it did. -/
def captureOverlapsSpec : ChangeSpec := { name := "captureOverlaps", fn := fun _ => fun
  | [d] => { results := [.lit (.bool true)], args := [d] }
  | _ => none }
def captureOverlapsRow : OpenClaim := { program := "ytmmeloklnkfjjaa", sum := "3f6f6a25ac36901c33ccea4b575b7c89364ed034a0d8a41f7d730ec87f826fc7", func := "bargate/bargatelaw28.CaptureOverlaps", spec := "captureOverlaps", unfollowed := true, recurses := true, apart := false }
def CaptureOverlapsSaid : Prop := captureOverlapsRow.holds Try.pinned (OpenSpec.ofChange captureOverlapsSpec)

/-- ITS FALSE NEIGHBOUR: 'it returns false'. Refute it at one input. -/
def captureOverlapsWrong : ChangeSpec := { name := "captureOverlaps", fn := fun _ => fun
  | [d] => { results := [.lit (.bool false)], args := [d] }
  | _ => none }
def CaptureOverlapsWrongFalsely : Prop := captureOverlapsRow.holds Try.pinned (OpenSpec.ofChange captureOverlapsWrong)

/-- 'bargatelaw28.CaptureBytes': WHATEVER THE INPUT: true; the input reads as it did. -/
def captureBytesSpec : ChangeSpec := { name := "captureBytes", fn := fun _ => fun
  | [d1, d2] => { results := [.lit (.bool true)], args := [d1, d2] }
  | _ => none }
def captureBytesRow : OpenClaim := { program := "ytmmeloklnkfjjaa", sum := "3f6f6a25ac36901c33ccea4b575b7c89364ed034a0d8a41f7d730ec87f826fc7", func := "bargate/bargatelaw28.CaptureBytes", spec := "captureBytes", unfollowed := true, recurses := true, apart := false }
def CaptureBytesSaid : Prop := captureBytesRow.holds Try.pinned (OpenSpec.ofChange captureBytesSpec)

/-- ITS FALSE NEIGHBOUR: 'it returns false'. Refute it at one input. -/
def captureBytesWrong : ChangeSpec := { name := "captureBytes", fn := fun _ => fun
  | [d1, d2] => { results := [.lit (.bool false)], args := [d1, d2] }
  | _ => none }
def CaptureBytesWrongFalsely : Prop := captureBytesRow.holds Try.pinned (OpenSpec.ofChange captureBytesWrong)

/- THE SECOND FORM. 'bulk': how many values and letters a reading holds, each counted each time it is reached (what is shared counts as often as it is met; a slice's spare places count too). A statement '..UptoSaid' is the law's where the arguments, and the package variables that the reading takes, are together of bulk at most 1048576: NARROWER than '..Said'. Prove '..Said' where nothing that the law and all that it calls make is longer than what came in: it says more and counts as full. Else prove '..UptoSaid'. A law counts once. -/
mutual
def uptoBulk {H : Type} : DataW H → Nat
  | .lit (.string bytes) => bytes.length + 1
  | .lit _ => 1
  | .nil => 1
  | .ptr d => uptoBulk d + 1
  | .slice elems spare => uptoBulkAll elems + uptoBulkAll spare + 1
  | .agg parts => uptoBulkAll parts + 1
  | .iface _ d => uptoBulk d + 1
  | .map entries => uptoBulkEntries entries + 1
  | .held _ => 1
def uptoBulkAll {H : Type} : List (DataW H) → Nat
  | [] => 0
  | d :: r => uptoBulk d + uptoBulkAll r
def uptoBulkEntries {H : Type} : List (Lit × DataW H) → Nat
  | [] => 0
  | x :: r => uptoBulkEntry x + uptoBulkEntries r
def uptoBulkEntry {H : Type} : Lit × DataW H → Nat
  | (.string bytes, d) => bytes.length + uptoBulk d + 1
  | (_, d) => uptoBulk d + 1
 end
def uptoSmall : (H : Type) → List (DataW H) → Bool := fun _ ds => decide (uptoBulkAll ds ≤ 1048576)
def OpenSpec.upto (s : _root_.Go.ChangeSpec) : _root_.Go.OpenSpec := { _root_.Go.OpenSpec.ofChange s with cond := some uptoSmall }

/-- 'bargatelaw28.CaptureBack', WHERE WHAT IT READS IS OF BULK AT MOST 1048576: true; the input reads as it did. -/
def captureBackUptoRow : OpenClaim := { program := "ytmmeloklnkfjjaa", sum := "3f6f6a25ac36901c33ccea4b575b7c89364ed034a0d8a41f7d730ec87f826fc7", func := "bargate/bargatelaw28.CaptureBack", spec := "captureBack", unfollowed := true, recurses := true, apart := false, narrowed := true }
def CaptureBackUptoSaid : Prop := captureBackUptoRow.holds Try.pinned (OpenSpec.upto captureBackSpec)

/-- 'bargatelaw28.CaptureReads', WHERE WHAT IT READS IS OF BULK AT MOST 1048576: true; the input reads as it did. -/
def captureReadsUptoRow : OpenClaim := { program := "ytmmeloklnkfjjaa", sum := "3f6f6a25ac36901c33ccea4b575b7c89364ed034a0d8a41f7d730ec87f826fc7", func := "bargate/bargatelaw28.CaptureReads", spec := "captureReads", unfollowed := true, recurses := true, apart := false, narrowed := true }
def CaptureReadsUptoSaid : Prop := captureReadsUptoRow.holds Try.pinned (OpenSpec.upto captureReadsSpec)

/-- 'bargatelaw28.CaptureMerges', WHERE WHAT IT READS IS OF BULK AT MOST 1048576: true; the input reads as it did. -/
def captureMergesUptoRow : OpenClaim := { program := "ytmmeloklnkfjjaa", sum := "3f6f6a25ac36901c33ccea4b575b7c89364ed034a0d8a41f7d730ec87f826fc7", func := "bargate/bargatelaw28.CaptureMerges", spec := "captureMerges", unfollowed := true, recurses := true, apart := false, narrowed := true }
def CaptureMergesUptoSaid : Prop := captureMergesUptoRow.holds Try.pinned (OpenSpec.upto captureMergesSpec)

/-- 'bargatelaw28.CaptureWindows', WHERE WHAT IT READS IS OF BULK AT MOST 1048576: true; the input reads as it did. -/
def captureWindowsUptoRow : OpenClaim := { program := "ytmmeloklnkfjjaa", sum := "3f6f6a25ac36901c33ccea4b575b7c89364ed034a0d8a41f7d730ec87f826fc7", func := "bargate/bargatelaw28.CaptureWindows", spec := "captureWindows", unfollowed := true, recurses := true, apart := false, narrowed := true }
def CaptureWindowsUptoSaid : Prop := captureWindowsUptoRow.holds Try.pinned (OpenSpec.upto captureWindowsSpec)

/-- 'bargatelaw28.CaptureOverlaps', WHERE WHAT IT READS IS OF BULK AT MOST 1048576: true; the input reads as it did. -/
def captureOverlapsUptoRow : OpenClaim := { program := "ytmmeloklnkfjjaa", sum := "3f6f6a25ac36901c33ccea4b575b7c89364ed034a0d8a41f7d730ec87f826fc7", func := "bargate/bargatelaw28.CaptureOverlaps", spec := "captureOverlaps", unfollowed := true, recurses := true, apart := false, narrowed := true }
def CaptureOverlapsUptoSaid : Prop := captureOverlapsUptoRow.holds Try.pinned (OpenSpec.upto captureOverlapsSpec)

/-- 'bargatelaw28.CaptureBytes', WHERE WHAT IT READS IS OF BULK AT MOST 1048576: true; the input reads as it did. -/
def captureBytesUptoRow : OpenClaim := { program := "ytmmeloklnkfjjaa", sum := "3f6f6a25ac36901c33ccea4b575b7c89364ed034a0d8a41f7d730ec87f826fc7", func := "bargate/bargatelaw28.CaptureBytes", spec := "captureBytes", unfollowed := true, recurses := true, apart := false, narrowed := true }
def CaptureBytesUptoSaid : Prop := captureBytesUptoRow.holds Try.pinned (OpenSpec.upto captureBytesSpec)

end Rows
end Go.Proofs.Ytmmeloklnkfjjaa
