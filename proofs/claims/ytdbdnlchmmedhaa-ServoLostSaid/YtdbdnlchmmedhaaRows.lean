/-
  No cell of these rows narrows 'for every input' (looked for: loops, veiled, ifaces, maps, wideKeys, modest, calm, conditions, laid).
  DERIVED. THE GIVEN ROWS OF THIS SEAT. 4 by the template 'for every input the law returns true; each argument reads behind the call as it read before'; 0 by the template 'total and deterministic' (their statements: YtdbdnlchmmedhaaTotals.lean).
  GIVEN WITH THE SEED: the statements are not yours to turn. If you find one false, say at which input.
  Laid BY PROGRAM, IN A SANDBOX (cutbox-rows.mjs): the forced cells as the released guide's own fill.sh prints them over the translation 0c757c7cc3e23d3f… (all of the seat's roots in one cut). By AI agents, Wed Nov 11 2026. No macro, syntax, notation, axiom, sorry.
-/
import Derived.Test.YtdbdnlchmmedhaaChecked
import GoSem.Claim
import GoSem.ClaimJoined
import GoSem.ClaimMapViews
import Derived.JoinedTies
import Derived.KernelRfl
namespace Go.Proofs.Ytdbdnlchmmedhaa
/- THE CELL 'sum', in the pinned program and in every row, IS THE sha256 OF THE DUMP (.gsa) THAT YtdbdnlchmmedhaaProg.lean LOADS. Nothing in Lean hashes anything: it is a label: what it is worth is what the hold of that sum in a sandbox is worth. -/
noncomputable def Try.pinned : Pinned := { name := "ytdbdnlchmmedhaa", sum := "0c757c7cc3e23d3fd10a0e40050761dd10d8db4575568e2a7e7002096d5943ac", checked := Try.checked }
namespace Rows
def none {H : Type} : Left H := { results := [], args := [] }

/-- 'ambidexterlaw25.ServoLost': WHATEVER THE INPUT: true; the input reads as it did. -/
def servoLostSpec : ChangeSpec := { name := "servoLost", fn := fun _ => fun
  | [d1, d2, d3] => { results := [.lit (.bool true)], args := [d1, d2, d3] }
  | _ => none }
def servoLostRow : OpenClaim := { program := "ytdbdnlchmmedhaa", sum := "0c757c7cc3e23d3fd10a0e40050761dd10d8db4575568e2a7e7002096d5943ac", func := "ambidexter/ambidexterlaw25.ServoLost", spec := "servoLost", unfollowed := true, recurses := true, plainKeys := false, apart := false }
def ServoLostSaid : Prop := servoLostRow.holds Try.pinned (OpenSpec.ofChange servoLostSpec)

/-- ITS FALSE NEIGHBOUR: 'it returns false'. Refute it at one input. -/
def servoLostWrong : ChangeSpec := { name := "servoLost", fn := fun _ => fun
  | [d1, d2, d3] => { results := [.lit (.bool false)], args := [d1, d2, d3] }
  | _ => none }
def ServoLostWrongFalsely : Prop := servoLostRow.holds Try.pinned (OpenSpec.ofChange servoLostWrong)

/-- 'ambidextertop.TopSafeStop': WHATEVER THE INPUT: true; the input reads as it did. -/
def topSafeStopSpec : ChangeSpec := { name := "topSafeStop", fn := fun _ => fun
  | [d1, d2, d3, d4] => { results := [.lit (.bool true)], args := [d1, d2, d3, d4] }
  | _ => none }
def topSafeStopRow : OpenClaim := { program := "ytdbdnlchmmedhaa", sum := "0c757c7cc3e23d3fd10a0e40050761dd10d8db4575568e2a7e7002096d5943ac", func := "ambidexter/ambidextertop.TopSafeStop", spec := "topSafeStop", unfollowed := true, recurses := true, plainKeys := false, apart := false }
def TopSafeStopSaid : Prop := topSafeStopRow.holds Try.pinned (OpenSpec.ofChange topSafeStopSpec)

/-- ITS FALSE NEIGHBOUR: 'it returns false'. Refute it at one input. -/
def topSafeStopWrong : ChangeSpec := { name := "topSafeStop", fn := fun _ => fun
  | [d1, d2, d3, d4] => { results := [.lit (.bool false)], args := [d1, d2, d3, d4] }
  | _ => none }
def TopSafeStopWrongFalsely : Prop := topSafeStopRow.holds Try.pinned (OpenSpec.ofChange topSafeStopWrong)

/-- 'ambidextertop.TopDualChannelInterlock': WHATEVER THE INPUT: true; the input reads as it did. -/
def topDualChannelInterlockSpec : ChangeSpec := { name := "topDualChannelInterlock", fn := fun _ => fun
  | [d1, d2] => { results := [.lit (.bool true)], args := [d1, d2] }
  | _ => none }
def topDualChannelInterlockRow : OpenClaim := { program := "ytdbdnlchmmedhaa", sum := "0c757c7cc3e23d3fd10a0e40050761dd10d8db4575568e2a7e7002096d5943ac", func := "ambidexter/ambidextertop.TopDualChannelInterlock", spec := "topDualChannelInterlock", unfollowed := true, recurses := true, plainKeys := false, apart := false }
def TopDualChannelInterlockSaid : Prop := topDualChannelInterlockRow.holds Try.pinned (OpenSpec.ofChange topDualChannelInterlockSpec)

/-- ITS FALSE NEIGHBOUR: 'it returns false'. Refute it at one input. -/
def topDualChannelInterlockWrong : ChangeSpec := { name := "topDualChannelInterlock", fn := fun _ => fun
  | [d1, d2] => { results := [.lit (.bool false)], args := [d1, d2] }
  | _ => none }
def TopDualChannelInterlockWrongFalsely : Prop := topDualChannelInterlockRow.holds Try.pinned (OpenSpec.ofChange topDualChannelInterlockWrong)

/-- 'ambidextertop.TopStopTravel': WHATEVER THE INPUT: true; the input reads as it did. -/
def topStopTravelSpec : ChangeSpec := { name := "topStopTravel", fn := fun _ => fun
  | [d1, d2, d3] => { results := [.lit (.bool true)], args := [d1, d2, d3] }
  | _ => none }
def topStopTravelRow : OpenClaim := { program := "ytdbdnlchmmedhaa", sum := "0c757c7cc3e23d3fd10a0e40050761dd10d8db4575568e2a7e7002096d5943ac", func := "ambidexter/ambidextertop.TopStopTravel", spec := "topStopTravel", unfollowed := true, recurses := true, plainKeys := false, apart := false }
def TopStopTravelSaid : Prop := topStopTravelRow.holds Try.pinned (OpenSpec.ofChange topStopTravelSpec)

/-- ITS FALSE NEIGHBOUR: 'it returns false'. Refute it at one input. -/
def topStopTravelWrong : ChangeSpec := { name := "topStopTravel", fn := fun _ => fun
  | [d1, d2, d3] => { results := [.lit (.bool false)], args := [d1, d2, d3] }
  | _ => none }
def TopStopTravelWrongFalsely : Prop := topStopTravelRow.holds Try.pinned (OpenSpec.ofChange topStopTravelWrong)

/- THE SECOND FORM. 'bulk': how many values and letters a reading holds, each counted each time it is reached (what is shared counts as often as it is met; a slice's spare places count too). A statement '..UptoSaid' is the law's where the arguments, and the package variables that the reading takes, are together of bulk at most 1048576: NARROWER than '..Said'. Prove '..Said' where nothing that the law and all that it calls make is longer than what came in: it says more and counts as full. Else prove '..UptoSaid'. A law counts once. -/
mutual
def uptoBulk {H : Type} : DataW H → Nat
  | .lit (.string bytes) => bytes.length + 1
  | .lit _ => 1
  | .nil => 1
  | .ptr d => uptoBulk d + 1
  | .slice elems spare => uptoBulkAll elems + uptoBulkAll spare + 1
  | .agg parts => uptoBulkAll parts + 1
  | .iface _ d => uptoBulk d + 1
  | .map entries => uptoBulkEntries entries + 1
  | .held _ => 1
def uptoBulkAll {H : Type} : List (DataW H) → Nat
  | [] => 0
  | d :: r => uptoBulk d + uptoBulkAll r
def uptoBulkEntries {H : Type} : List (Lit × DataW H) → Nat
  | [] => 0
  | x :: r => uptoBulkEntry x + uptoBulkEntries r
def uptoBulkEntry {H : Type} : Lit × DataW H → Nat
  | (.string bytes, d) => bytes.length + uptoBulk d + 1
  | (_, d) => uptoBulk d + 1
 end
def uptoSmall : (H : Type) → List (DataW H) → Bool := fun _ ds => decide (uptoBulkAll ds ≤ 1048576)
def OpenSpec.upto (s : _root_.Go.ChangeSpec) : _root_.Go.OpenSpec := { _root_.Go.OpenSpec.ofChange s with cond := some uptoSmall }

/-- 'ambidexterlaw25.ServoLost', WHERE WHAT IT READS IS OF BULK AT MOST 1048576: true; the input reads as it did. -/
def servoLostUptoRow : OpenClaim := { program := "ytdbdnlchmmedhaa", sum := "0c757c7cc3e23d3fd10a0e40050761dd10d8db4575568e2a7e7002096d5943ac", func := "ambidexter/ambidexterlaw25.ServoLost", spec := "servoLost", unfollowed := true, recurses := true, plainKeys := false, apart := false, narrowed := true }
def ServoLostUptoSaid : Prop := servoLostUptoRow.holds Try.pinned (OpenSpec.upto servoLostSpec)

/-- 'ambidextertop.TopSafeStop', WHERE WHAT IT READS IS OF BULK AT MOST 1048576: true; the input reads as it did. -/
def topSafeStopUptoRow : OpenClaim := { program := "ytdbdnlchmmedhaa", sum := "0c757c7cc3e23d3fd10a0e40050761dd10d8db4575568e2a7e7002096d5943ac", func := "ambidexter/ambidextertop.TopSafeStop", spec := "topSafeStop", unfollowed := true, recurses := true, plainKeys := false, apart := false, narrowed := true }
def TopSafeStopUptoSaid : Prop := topSafeStopUptoRow.holds Try.pinned (OpenSpec.upto topSafeStopSpec)

/-- 'ambidextertop.TopDualChannelInterlock', WHERE WHAT IT READS IS OF BULK AT MOST 1048576: true; the input reads as it did. -/
def topDualChannelInterlockUptoRow : OpenClaim := { program := "ytdbdnlchmmedhaa", sum := "0c757c7cc3e23d3fd10a0e40050761dd10d8db4575568e2a7e7002096d5943ac", func := "ambidexter/ambidextertop.TopDualChannelInterlock", spec := "topDualChannelInterlock", unfollowed := true, recurses := true, plainKeys := false, apart := false, narrowed := true }
def TopDualChannelInterlockUptoSaid : Prop := topDualChannelInterlockUptoRow.holds Try.pinned (OpenSpec.upto topDualChannelInterlockSpec)

/-- 'ambidextertop.TopStopTravel', WHERE WHAT IT READS IS OF BULK AT MOST 1048576: true; the input reads as it did. -/
def topStopTravelUptoRow : OpenClaim := { program := "ytdbdnlchmmedhaa", sum := "0c757c7cc3e23d3fd10a0e40050761dd10d8db4575568e2a7e7002096d5943ac", func := "ambidexter/ambidextertop.TopStopTravel", spec := "topStopTravel", unfollowed := true, recurses := true, plainKeys := false, apart := false, narrowed := true }
def TopStopTravelUptoSaid : Prop := topStopTravelUptoRow.holds Try.pinned (OpenSpec.upto topStopTravelSpec)

end Rows
end Go.Proofs.Ytdbdnlchmmedhaa
