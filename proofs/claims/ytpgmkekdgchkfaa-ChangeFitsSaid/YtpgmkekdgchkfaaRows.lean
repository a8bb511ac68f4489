/-
  No cell of these rows narrows 'for every input' (looked for: loops, veiled, ifaces, maps, wideKeys, modest, calm, conditions, laid).
  DERIVED. THE GIVEN ROWS OF THIS SEAT. 10 by the template 'for every input the law returns true; each argument reads behind the call as it read before'; 0 by the template 'total and deterministic' (their statements: YtpgmkekdgchkfaaTotals.lean).
  GIVEN WITH THE SEED: the statements are not yours to turn. If you find one false, say at which input.
  Laid BY PROGRAM, IN A SANDBOX (cutbox-rows.mjs): the forced cells as the released guide's own fill.sh prints them over the translation 818daa52cc367bb9… (all of the seat's roots in one cut). By AI agents, Wed Nov 11 2026. No macro, syntax, notation, axiom, sorry.
-/
import Derived.Test.YtpgmkekdgchkfaaChecked
import GoSem.Claim
import GoSem.ClaimJoined
import GoSem.ClaimMapViews
import Derived.JoinedTies
import Derived.KernelRfl
namespace Go.Proofs.Ytpgmkekdgchkfaa
/- THE CELL 'sum', in the pinned program and in every row, IS THE sha256 OF THE DUMP (.gsa) THAT YtpgmkekdgchkfaaProg.lean LOADS. Nothing in Lean hashes anything: it is a label: what it is worth is what the hold of that sum in a sandbox is worth. -/
noncomputable def Try.pinned : Pinned := { name := "ytpgmkekdgchkfaa", sum := "818daa52cc367bb93256135e5dad11dedcc4d2e0d493621f51d40d83afa34394", checked := Try.checked }
namespace Rows
def none {H : Type} : Left H := { results := [], args := [] }

/-- 'bargatelaw06.PoolPlays': WHATEVER THE INPUT: true; the input reads as it did. -/
def poolPlaysSpec : ChangeSpec := { name := "poolPlays", fn := fun _ => fun
  | [d1, d2] => { results := [.lit (.bool true)], args := [d1, d2] }
  | _ => none }
def poolPlaysRow : OpenClaim := { program := "ytpgmkekdgchkfaa", sum := "818daa52cc367bb93256135e5dad11dedcc4d2e0d493621f51d40d83afa34394", func := "bargate/bargatelaw06.PoolPlays", spec := "poolPlays", apart := false }
def PoolPlaysSaid : Prop := poolPlaysRow.holds Try.pinned (OpenSpec.ofChange poolPlaysSpec)

/-- ITS FALSE NEIGHBOUR: 'it returns false'. Refute it at one input. -/
def poolPlaysWrong : ChangeSpec := { name := "poolPlays", fn := fun _ => fun
  | [d1, d2] => { results := [.lit (.bool false)], args := [d1, d2] }
  | _ => none }
def PoolPlaysWrongFalsely : Prop := poolPlaysRow.holds Try.pinned (OpenSpec.ofChange poolPlaysWrong)

/-- 'bargatelaw06.PoolOwn': WHATEVER THE INPUT: true; the input reads as it did. -/
def poolOwnSpec : ChangeSpec := { name := "poolOwn", fn := fun _ => fun
  | [d] => { results := [.lit (.bool true)], args := [d] }
  | _ => none }
def poolOwnRow : OpenClaim := { program := "ytpgmkekdgchkfaa", sum := "818daa52cc367bb93256135e5dad11dedcc4d2e0d493621f51d40d83afa34394", func := "bargate/bargatelaw06.PoolOwn", spec := "poolOwn", apart := false }
def PoolOwnSaid : Prop := poolOwnRow.holds Try.pinned (OpenSpec.ofChange poolOwnSpec)

/-- ITS FALSE NEIGHBOUR: 'it returns false'. Refute it at one input. -/
def poolOwnWrong : ChangeSpec := { name := "poolOwn", fn := fun _ => fun
  | [d] => { results := [.lit (.bool false)], args := [d] }
  | _ => none }
def PoolOwnWrongFalsely : Prop := poolOwnRow.holds Try.pinned (OpenSpec.ofChange poolOwnWrong)

/-- 'bargatelaw06.PoolFull': WHATEVER THE INPUT: true; the input reads as it did. -/
def poolFullSpec : ChangeSpec := { name := "poolFull", fn := fun _ => fun
  | [d1, d2] => { results := [.lit (.bool true)], args := [d1, d2] }
  | _ => none }
def poolFullRow : OpenClaim := { program := "ytpgmkekdgchkfaa", sum := "818daa52cc367bb93256135e5dad11dedcc4d2e0d493621f51d40d83afa34394", func := "bargate/bargatelaw06.PoolFull", spec := "poolFull", apart := false }
def PoolFullSaid : Prop := poolFullRow.holds Try.pinned (OpenSpec.ofChange poolFullSpec)

/-- ITS FALSE NEIGHBOUR: 'it returns false'. Refute it at one input. -/
def poolFullWrong : ChangeSpec := { name := "poolFull", fn := fun _ => fun
  | [d1, d2] => { results := [.lit (.bool false)], args := [d1, d2] }
  | _ => none }
def PoolFullWrongFalsely : Prop := poolFullRow.holds Try.pinned (OpenSpec.ofChange poolFullWrong)

/-- 'bargatelaw06.PoolHolds': WHATEVER THE INPUT: true; the input reads as it did. -/
def poolHoldsSpec : ChangeSpec := { name := "poolHolds", fn := fun _ => fun
  | [d1, d2] => { results := [.lit (.bool true)], args := [d1, d2] }
  | _ => none }
def poolHoldsRow : OpenClaim := { program := "ytpgmkekdgchkfaa", sum := "818daa52cc367bb93256135e5dad11dedcc4d2e0d493621f51d40d83afa34394", func := "bargate/bargatelaw06.PoolHolds", spec := "poolHolds", apart := false }
def PoolHoldsSaid : Prop := poolHoldsRow.holds Try.pinned (OpenSpec.ofChange poolHoldsSpec)

/-- ITS FALSE NEIGHBOUR: 'it returns false'. Refute it at one input. -/
def poolHoldsWrong : ChangeSpec := { name := "poolHolds", fn := fun _ => fun
  | [d1, d2] => { results := [.lit (.bool false)], args := [d1, d2] }
  | _ => none }
def PoolHoldsWrongFalsely : Prop := poolHoldsRow.holds Try.pinned (OpenSpec.ofChange poolHoldsWrong)

/-- 'bargatelaw07.RingPlays': WHATEVER THE INPUT: true; the input reads as it did. -/
def ringPlaysSpec : ChangeSpec := { name := "ringPlays", fn := fun _ => fun
  | [d1, d2] => { results := [.lit (.bool true)], args := [d1, d2] }
  | _ => none }
def ringPlaysRow : OpenClaim := { program := "ytpgmkekdgchkfaa", sum := "818daa52cc367bb93256135e5dad11dedcc4d2e0d493621f51d40d83afa34394", func := "bargate/bargatelaw07.RingPlays", spec := "ringPlays", apart := false }
def RingPlaysSaid : Prop := ringPlaysRow.holds Try.pinned (OpenSpec.ofChange ringPlaysSpec)

/-- ITS FALSE NEIGHBOUR: 'it returns false'. Refute it at one input. -/
def ringPlaysWrong : ChangeSpec := { name := "ringPlays", fn := fun _ => fun
  | [d1, d2] => { results := [.lit (.bool false)], args := [d1, d2] }
  | _ => none }
def RingPlaysWrongFalsely : Prop := ringPlaysRow.holds Try.pinned (OpenSpec.ofChange ringPlaysWrong)

/-- 'bargatelaw07.RingRound': WHATEVER THE INPUT: true; the input reads as it did. -/
def ringRoundSpec : ChangeSpec := { name := "ringRound", fn := fun _ => fun
  | [d1, d2, d3] => { results := [.lit (.bool true)], args := [d1, d2, d3] }
  | _ => none }
def ringRoundRow : OpenClaim := { program := "ytpgmkekdgchkfaa", sum := "818daa52cc367bb93256135e5dad11dedcc4d2e0d493621f51d40d83afa34394", func := "bargate/bargatelaw07.RingRound", spec := "ringRound", apart := false }
def RingRoundSaid : Prop := ringRoundRow.holds Try.pinned (OpenSpec.ofChange ringRoundSpec)

/-- ITS FALSE NEIGHBOUR: 'it returns false'. Refute it at one input. -/
def ringRoundWrong : ChangeSpec := { name := "ringRound", fn := fun _ => fun
  | [d1, d2, d3] => { results := [.lit (.bool false)], args := [d1, d2, d3] }
  | _ => none }
def RingRoundWrongFalsely : Prop := ringRoundRow.holds Try.pinned (OpenSpec.ofChange ringRoundWrong)

/-- 'bargatelaw07.RingApart': WHATEVER THE INPUT: true; the input reads as it did. -/
def ringApartSpec : ChangeSpec := { name := "ringApart", fn := fun _ => fun
  | [d1, d2, d3] => { results := [.lit (.bool true)], args := [d1, d2, d3] }
  | _ => none }
def ringApartRow : OpenClaim := { program := "ytpgmkekdgchkfaa", sum := "818daa52cc367bb93256135e5dad11dedcc4d2e0d493621f51d40d83afa34394", func := "bargate/bargatelaw07.RingApart", spec := "ringApart", apart := false }
def RingApartSaid : Prop := ringApartRow.holds Try.pinned (OpenSpec.ofChange ringApartSpec)

/-- ITS FALSE NEIGHBOUR: 'it returns false'. Refute it at one input. -/
def ringApartWrong : ChangeSpec := { name := "ringApart", fn := fun _ => fun
  | [d1, d2, d3] => { results := [.lit (.bool false)], args := [d1, d2, d3] }
  | _ => none }
def RingApartWrongFalsely : Prop := ringApartRow.holds Try.pinned (OpenSpec.ofChange ringApartWrong)

/-- 'bargatelaw17.ChangeNexts': WHATEVER THE INPUT: true; the input reads as it did. -/
def changeNextsSpec : ChangeSpec := { name := "changeNexts", fn := fun _ => fun
  | [d1, d2, d3] => { results := [.lit (.bool true)], args := [d1, d2, d3] }
  | _ => none }
def changeNextsRow : OpenClaim := { program := "ytpgmkekdgchkfaa", sum := "818daa52cc367bb93256135e5dad11dedcc4d2e0d493621f51d40d83afa34394", func := "bargate/bargatelaw17.ChangeNexts", spec := "changeNexts", unfollowed := true, recurses := true, apart := false }
def ChangeNextsSaid : Prop := changeNextsRow.holds Try.pinned (OpenSpec.ofChange changeNextsSpec)

/-- ITS FALSE NEIGHBOUR: 'it returns false'. Refute it at one input. -/
def changeNextsWrong : ChangeSpec := { name := "changeNexts", fn := fun _ => fun
  | [d1, d2, d3] => { results := [.lit (.bool false)], args := [d1, d2, d3] }
  | _ => none }
def ChangeNextsWrongFalsely : Prop := changeNextsRow.holds Try.pinned (OpenSpec.ofChange changeNextsWrong)

/-- 'bargatelaw17.ChangeFits': WHATEVER THE INPUT: true; the input reads as it did. -/
def changeFitsSpec : ChangeSpec := { name := "changeFits", fn := fun _ => fun
  | [d1, d2, d3] => { results := [.lit (.bool true)], args := [d1, d2, d3] }
  | _ => none }
def changeFitsRow : OpenClaim := { program := "ytpgmkekdgchkfaa", sum := "818daa52cc367bb93256135e5dad11dedcc4d2e0d493621f51d40d83afa34394", func := "bargate/bargatelaw17.ChangeFits", spec := "changeFits", unfollowed := true, recurses := true, apart := false }
def ChangeFitsSaid : Prop := changeFitsRow.holds Try.pinned (OpenSpec.ofChange changeFitsSpec)

/-- ITS FALSE NEIGHBOUR: 'it returns false'. Refute it at one input. -/
def changeFitsWrong : ChangeSpec := { name := "changeFits", fn := fun _ => fun
  | [d1, d2, d3] => { results := [.lit (.bool false)], args := [d1, d2, d3] }
  | _ => none }
def ChangeFitsWrongFalsely : Prop := changeFitsRow.holds Try.pinned (OpenSpec.ofChange changeFitsWrong)

/-- 'bargatelaw17.ChangeAt': WHATEVER THE INPUT: true; the input reads as it did. -/
def changeAtSpec : ChangeSpec := { name := "changeAt", fn := fun _ => fun
  | [d1, d2, d3] => { results := [.lit (.bool true)], args := [d1, d2, d3] }
  | _ => none }
def changeAtRow : OpenClaim := { program := "ytpgmkekdgchkfaa", sum := "818daa52cc367bb93256135e5dad11dedcc4d2e0d493621f51d40d83afa34394", func := "bargate/bargatelaw17.ChangeAt", spec := "changeAt", unfollowed := true, recurses := true, apart := false }
def ChangeAtSaid : Prop := changeAtRow.holds Try.pinned (OpenSpec.ofChange changeAtSpec)

/-- ITS FALSE NEIGHBOUR: 'it returns false'. Refute it at one input. -/
def changeAtWrong : ChangeSpec := { name := "changeAt", fn := fun _ => fun
  | [d1, d2, d3] => { results := [.lit (.bool false)], args := [d1, d2, d3] }
  | _ => none }
def ChangeAtWrongFalsely : Prop := changeAtRow.holds Try.pinned (OpenSpec.ofChange changeAtWrong)

/- THE SECOND FORM. 'bulk': how many values and letters a reading holds, each counted each time it is reached (what is shared counts as often as it is met; a slice's spare places count too). A statement '..UptoSaid' is the law's where the arguments, and the package variables that the reading takes, are together of bulk at most 1048576: NARROWER than '..Said'. Prove '..Said' where nothing that the law and all that it calls make is longer than what came in: it says more and counts as full. Else prove '..UptoSaid'. A law counts once. -/
mutual
def uptoBulk {H : Type} : DataW H → Nat
  | .lit (.string bytes) => bytes.length + 1
  | .lit _ => 1
  | .nil => 1
  | .ptr d => uptoBulk d + 1
  | .slice elems spare => uptoBulkAll elems + uptoBulkAll spare + 1
  | .agg parts => uptoBulkAll parts + 1
  | .iface _ d => uptoBulk d + 1
  | .map entries => uptoBulkEntries entries + 1
  | .held _ => 1
def uptoBulkAll {H : Type} : List (DataW H) → Nat
  | [] => 0
  | d :: r => uptoBulk d + uptoBulkAll r
def uptoBulkEntries {H : Type} : List (Lit × DataW H) → Nat
  | [] => 0
  | x :: r => uptoBulkEntry x + uptoBulkEntries r
def uptoBulkEntry {H : Type} : Lit × DataW H → Nat
  | (.string bytes, d) => bytes.length + uptoBulk d + 1
  | (_, d) => uptoBulk d + 1
 end
def uptoSmall : (H : Type) → List (DataW H) → Bool := fun _ ds => decide (uptoBulkAll ds ≤ 1048576)
def OpenSpec.upto (s : _root_.Go.ChangeSpec) : _root_.Go.OpenSpec := { _root_.Go.OpenSpec.ofChange s with cond := some uptoSmall }

/-- 'bargatelaw06.PoolPlays', WHERE WHAT IT READS IS OF BULK AT MOST 1048576: true; the input reads as it did. -/
def poolPlaysUptoRow : OpenClaim := { program := "ytpgmkekdgchkfaa", sum := "818daa52cc367bb93256135e5dad11dedcc4d2e0d493621f51d40d83afa34394", func := "bargate/bargatelaw06.PoolPlays", spec := "poolPlays", apart := false, narrowed := true }
def PoolPlaysUptoSaid : Prop := poolPlaysUptoRow.holds Try.pinned (OpenSpec.upto poolPlaysSpec)

/-- 'bargatelaw06.PoolOwn', WHERE WHAT IT READS IS OF BULK AT MOST 1048576: true; the input reads as it did. -/
def poolOwnUptoRow : OpenClaim := { program := "ytpgmkekdgchkfaa", sum := "818daa52cc367bb93256135e5dad11dedcc4d2e0d493621f51d40d83afa34394", func := "bargate/bargatelaw06.PoolOwn", spec := "poolOwn", apart := false, narrowed := true }
def PoolOwnUptoSaid : Prop := poolOwnUptoRow.holds Try.pinned (OpenSpec.upto poolOwnSpec)

/-- 'bargatelaw06.PoolFull', WHERE WHAT IT READS IS OF BULK AT MOST 1048576: true; the input reads as it did. -/
def poolFullUptoRow : OpenClaim := { program := "ytpgmkekdgchkfaa", sum := "818daa52cc367bb93256135e5dad11dedcc4d2e0d493621f51d40d83afa34394", func := "bargate/bargatelaw06.PoolFull", spec := "poolFull", apart := false, narrowed := true }
def PoolFullUptoSaid : Prop := poolFullUptoRow.holds Try.pinned (OpenSpec.upto poolFullSpec)

/-- 'bargatelaw06.PoolHolds', WHERE WHAT IT READS IS OF BULK AT MOST 1048576: true; the input reads as it did. -/
def poolHoldsUptoRow : OpenClaim := { program := "ytpgmkekdgchkfaa", sum := "818daa52cc367bb93256135e5dad11dedcc4d2e0d493621f51d40d83afa34394", func := "bargate/bargatelaw06.PoolHolds", spec := "poolHolds", apart := false, narrowed := true }
def PoolHoldsUptoSaid : Prop := poolHoldsUptoRow.holds Try.pinned (OpenSpec.upto poolHoldsSpec)

/-- 'bargatelaw07.RingPlays', WHERE WHAT IT READS IS OF BULK AT MOST 1048576: true; the input reads as it did. -/
def ringPlaysUptoRow : OpenClaim := { program := "ytpgmkekdgchkfaa", sum := "818daa52cc367bb93256135e5dad11dedcc4d2e0d493621f51d40d83afa34394", func := "bargate/bargatelaw07.RingPlays", spec := "ringPlays", apart := false, narrowed := true }
def RingPlaysUptoSaid : Prop := ringPlaysUptoRow.holds Try.pinned (OpenSpec.upto ringPlaysSpec)

/-- 'bargatelaw07.RingRound', WHERE WHAT IT READS IS OF BULK AT MOST 1048576: true; the input reads as it did. -/
def ringRoundUptoRow : OpenClaim := { program := "ytpgmkekdgchkfaa", sum := "818daa52cc367bb93256135e5dad11dedcc4d2e0d493621f51d40d83afa34394", func := "bargate/bargatelaw07.RingRound", spec := "ringRound", apart := false, narrowed := true }
def RingRoundUptoSaid : Prop := ringRoundUptoRow.holds Try.pinned (OpenSpec.upto ringRoundSpec)

/-- 'bargatelaw07.RingApart', WHERE WHAT IT READS IS OF BULK AT MOST 1048576: true; the input reads as it did. -/
def ringApartUptoRow : OpenClaim := { program := "ytpgmkekdgchkfaa", sum := "818daa52cc367bb93256135e5dad11dedcc4d2e0d493621f51d40d83afa34394", func := "bargate/bargatelaw07.RingApart", spec := "ringApart", apart := false, narrowed := true }
def RingApartUptoSaid : Prop := ringApartUptoRow.holds Try.pinned (OpenSpec.upto ringApartSpec)

/-- 'bargatelaw17.ChangeNexts', WHERE WHAT IT READS IS OF BULK AT MOST 1048576: true; the input reads as it did. -/
def changeNextsUptoRow : OpenClaim := { program := "ytpgmkekdgchkfaa", sum := "818daa52cc367bb93256135e5dad11dedcc4d2e0d493621f51d40d83afa34394", func := "bargate/bargatelaw17.ChangeNexts", spec := "changeNexts", unfollowed := true, recurses := true, apart := false, narrowed := true }
def ChangeNextsUptoSaid : Prop := changeNextsUptoRow.holds Try.pinned (OpenSpec.upto changeNextsSpec)

/-- 'bargatelaw17.ChangeFits', WHERE WHAT IT READS IS OF BULK AT MOST 1048576: true; the input reads as it did. -/
def changeFitsUptoRow : OpenClaim := { program := "ytpgmkekdgchkfaa", sum := "818daa52cc367bb93256135e5dad11dedcc4d2e0d493621f51d40d83afa34394", func := "bargate/bargatelaw17.ChangeFits", spec := "changeFits", unfollowed := true, recurses := true, apart := false, narrowed := true }
def ChangeFitsUptoSaid : Prop := changeFitsUptoRow.holds Try.pinned (OpenSpec.upto changeFitsSpec)

/-- 'bargatelaw17.ChangeAt', WHERE WHAT IT READS IS OF BULK AT MOST 1048576: true; the input reads as it did. -/
def changeAtUptoRow : OpenClaim := { program := "ytpgmkekdgchkfaa", sum := "818daa52cc367bb93256135e5dad11dedcc4d2e0d493621f51d40d83afa34394", func := "bargate/bargatelaw17.ChangeAt", spec := "changeAt", unfollowed := true, recurses := true, apart := false, narrowed := true }
def ChangeAtUptoSaid : Prop := changeAtUptoRow.holds Try.pinned (OpenSpec.upto changeAtSpec)

end Rows
end Go.Proofs.Ytpgmkekdgchkfaa
