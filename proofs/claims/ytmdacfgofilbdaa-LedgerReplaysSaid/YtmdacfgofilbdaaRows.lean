/-
  No cell of these rows narrows 'for every input' (looked for: loops, veiled, ifaces, maps, wideKeys, modest, calm, conditions, laid).
  DERIVED. THE GIVEN ROWS OF THIS SEAT. 8 by the template 'for every input the law returns true; each argument reads behind the call as it read before'; 0 by the template 'total and deterministic' (their statements: YtmdacfgofilbdaaTotals.lean).
  GIVEN WITH THE SEED: the statements are not yours to turn. If you find one false, say at which input.
  Laid BY PROGRAM, IN A SANDBOX (cutbox-rows.mjs): the forced cells as the released guide's own fill.sh prints them over the translation ad7aded7b6ddbc69… (all of the seat's roots in one cut). By AI agents, Wed Nov 11 2026. No macro, syntax, notation, axiom, sorry.
-/
import Derived.Test.YtmdacfgofilbdaaChecked
import GoSem.Claim
import GoSem.ClaimJoined
import GoSem.ClaimMapViews
import Derived.JoinedTies
import Derived.KernelRfl
namespace Go.Proofs.Ytmdacfgofilbdaa
/- THE CELL 'sum', in the pinned program and in every row, IS THE sha256 OF THE DUMP (.gsa) THAT YtmdacfgofilbdaaProg.lean LOADS. Nothing in Lean hashes anything: it is a label: what it is worth is what the hold of that sum in a sandbox is worth. -/
noncomputable def Try.pinned : Pinned := { name := "ytmdacfgofilbdaa", sum := "ad7aded7b6ddbc69390400188226a73d98fdad457a944441dce5daae9e4d330e", checked := Try.checked }
namespace Rows
def none {H : Type} : Left H := { results := [], args := [] }

/-- 'saleroomlaw18.HoldPlays': WHATEVER THE INPUT: true; the input reads as it did. -/
def holdPlaysSpec : ChangeSpec := { name := "holdPlays", fn := fun _ => fun
  | [d1, d2] => { results := [.lit (.bool true)], args := [d1, d2] }
  | _ => none }
def holdPlaysRow : OpenClaim := { program := "ytmdacfgofilbdaa", sum := "ad7aded7b6ddbc69390400188226a73d98fdad457a944441dce5daae9e4d330e", func := "saleroom/saleroomlaw18.HoldPlays", spec := "holdPlays", recurses := true, apart := false }
def HoldPlaysSaid : Prop := holdPlaysRow.holds Try.pinned (OpenSpec.ofChange holdPlaysSpec)

/-- ITS FALSE NEIGHBOUR: 'it returns false'. Refute it at one input. -/
def holdPlaysWrong : ChangeSpec := { name := "holdPlays", fn := fun _ => fun
  | [d1, d2] => { results := [.lit (.bool false)], args := [d1, d2] }
  | _ => none }
def HoldPlaysWrongFalsely : Prop := holdPlaysRow.holds Try.pinned (OpenSpec.ofChange holdPlaysWrong)

/-- 'saleroomlaw18.HoldSets': WHATEVER THE INPUT: true; the input reads as it did. -/
def holdSetsSpec : ChangeSpec := { name := "holdSets", fn := fun _ => fun
  | [d1, d2, d3] => { results := [.lit (.bool true)], args := [d1, d2, d3] }
  | _ => none }
def holdSetsRow : OpenClaim := { program := "ytmdacfgofilbdaa", sum := "ad7aded7b6ddbc69390400188226a73d98fdad457a944441dce5daae9e4d330e", func := "saleroom/saleroomlaw18.HoldSets", spec := "holdSets", unfollowed := true, recurses := true, apart := false }
def HoldSetsSaid : Prop := holdSetsRow.holds Try.pinned (OpenSpec.ofChange holdSetsSpec)

/-- ITS FALSE NEIGHBOUR: 'it returns false'. Refute it at one input. -/
def holdSetsWrong : ChangeSpec := { name := "holdSets", fn := fun _ => fun
  | [d1, d2, d3] => { results := [.lit (.bool false)], args := [d1, d2, d3] }
  | _ => none }
def HoldSetsWrongFalsely : Prop := holdSetsRow.holds Try.pinned (OpenSpec.ofChange holdSetsWrong)

/-- 'saleroomlaw18.HoldKeeps': WHATEVER THE INPUT: true; the input reads as it did. -/
def holdKeepsSpec : ChangeSpec := { name := "holdKeeps", fn := fun _ => fun
  | [d] => { results := [.lit (.bool true)], args := [d] }
  | _ => none }
def holdKeepsRow : OpenClaim := { program := "ytmdacfgofilbdaa", sum := "ad7aded7b6ddbc69390400188226a73d98fdad457a944441dce5daae9e4d330e", func := "saleroom/saleroomlaw18.HoldKeeps", spec := "holdKeeps", unfollowed := true, recurses := true, apart := false }
def HoldKeepsSaid : Prop := holdKeepsRow.holds Try.pinned (OpenSpec.ofChange holdKeepsSpec)

/-- ITS FALSE NEIGHBOUR: 'it returns false'. Refute it at one input. -/
def holdKeepsWrong : ChangeSpec := { name := "holdKeeps", fn := fun _ => fun
  | [d] => { results := [.lit (.bool false)], args := [d] }
  | _ => none }
def HoldKeepsWrongFalsely : Prop := holdKeepsRow.holds Try.pinned (OpenSpec.ofChange holdKeepsWrong)

/-- 'saleroomlaw17.LedgerPlays': WHATEVER THE INPUT: true; the input reads as it did. -/
def ledgerPlaysSpec : ChangeSpec := { name := "ledgerPlays", fn := fun _ => fun
  | [d1, d2] => { results := [.lit (.bool true)], args := [d1, d2] }
  | _ => none }
def ledgerPlaysRow : OpenClaim := { program := "ytmdacfgofilbdaa", sum := "ad7aded7b6ddbc69390400188226a73d98fdad457a944441dce5daae9e4d330e", func := "saleroom/saleroomlaw17.LedgerPlays", spec := "ledgerPlays", unfollowed := true, recurses := true, apart := false }
def LedgerPlaysSaid : Prop := ledgerPlaysRow.holds Try.pinned (OpenSpec.ofChange ledgerPlaysSpec)

/-- ITS FALSE NEIGHBOUR: 'it returns false'. Refute it at one input. -/
def ledgerPlaysWrong : ChangeSpec := { name := "ledgerPlays", fn := fun _ => fun
  | [d1, d2] => { results := [.lit (.bool false)], args := [d1, d2] }
  | _ => none }
def LedgerPlaysWrongFalsely : Prop := ledgerPlaysRow.holds Try.pinned (OpenSpec.ofChange ledgerPlaysWrong)

/-- 'saleroomlaw17.LedgerSums': WHATEVER THE INPUT: true; the input reads as it did. -/
def ledgerSumsSpec : ChangeSpec := { name := "ledgerSums", fn := fun _ => fun
  | [d] => { results := [.lit (.bool true)], args := [d] }
  | _ => none }
def ledgerSumsRow : OpenClaim := { program := "ytmdacfgofilbdaa", sum := "ad7aded7b6ddbc69390400188226a73d98fdad457a944441dce5daae9e4d330e", func := "saleroom/saleroomlaw17.LedgerSums", spec := "ledgerSums", unfollowed := true, recurses := true, apart := false }
def LedgerSumsSaid : Prop := ledgerSumsRow.holds Try.pinned (OpenSpec.ofChange ledgerSumsSpec)

/-- ITS FALSE NEIGHBOUR: 'it returns false'. Refute it at one input. -/
def ledgerSumsWrong : ChangeSpec := { name := "ledgerSums", fn := fun _ => fun
  | [d] => { results := [.lit (.bool false)], args := [d] }
  | _ => none }
def LedgerSumsWrongFalsely : Prop := ledgerSumsRow.holds Try.pinned (OpenSpec.ofChange ledgerSumsWrong)

/-- 'saleroomlaw17.LedgerBack': WHATEVER THE INPUT: true; the input reads as it did. -/
def ledgerBackSpec : ChangeSpec := { name := "ledgerBack", fn := fun _ => fun
  | [d1, d2, d3, d4] => { results := [.lit (.bool true)], args := [d1, d2, d3, d4] }
  | _ => none }
def ledgerBackRow : OpenClaim := { program := "ytmdacfgofilbdaa", sum := "ad7aded7b6ddbc69390400188226a73d98fdad457a944441dce5daae9e4d330e", func := "saleroom/saleroomlaw17.LedgerBack", spec := "ledgerBack", unfollowed := true, recurses := true, apart := false }
def LedgerBackSaid : Prop := ledgerBackRow.holds Try.pinned (OpenSpec.ofChange ledgerBackSpec)

/-- ITS FALSE NEIGHBOUR: 'it returns false'. Refute it at one input. -/
def ledgerBackWrong : ChangeSpec := { name := "ledgerBack", fn := fun _ => fun
  | [d1, d2, d3, d4] => { results := [.lit (.bool false)], args := [d1, d2, d3, d4] }
  | _ => none }
def LedgerBackWrongFalsely : Prop := ledgerBackRow.holds Try.pinned (OpenSpec.ofChange ledgerBackWrong)

/-- 'saleroomlaw17.LedgerParties': WHATEVER THE INPUT: true; the input reads as it did. -/
def ledgerPartiesSpec : ChangeSpec := { name := "ledgerParties", fn := fun _ => fun
  | [d1, d2] => { results := [.lit (.bool true)], args := [d1, d2] }
  | _ => none }
def ledgerPartiesRow : OpenClaim := { program := "ytmdacfgofilbdaa", sum := "ad7aded7b6ddbc69390400188226a73d98fdad457a944441dce5daae9e4d330e", func := "saleroom/saleroomlaw17.LedgerParties", spec := "ledgerParties", unfollowed := true, recurses := true, apart := false }
def LedgerPartiesSaid : Prop := ledgerPartiesRow.holds Try.pinned (OpenSpec.ofChange ledgerPartiesSpec)

/-- ITS FALSE NEIGHBOUR: 'it returns false'. Refute it at one input. -/
def ledgerPartiesWrong : ChangeSpec := { name := "ledgerParties", fn := fun _ => fun
  | [d1, d2] => { results := [.lit (.bool false)], args := [d1, d2] }
  | _ => none }
def LedgerPartiesWrongFalsely : Prop := ledgerPartiesRow.holds Try.pinned (OpenSpec.ofChange ledgerPartiesWrong)

/-- 'saleroomlaw17.LedgerReplays': WHATEVER THE INPUT: true; the input reads as it did. -/
def ledgerReplaysSpec : ChangeSpec := { name := "ledgerReplays", fn := fun _ => fun
  | [d] => { results := [.lit (.bool true)], args := [d] }
  | _ => none }
def ledgerReplaysRow : OpenClaim := { program := "ytmdacfgofilbdaa", sum := "ad7aded7b6ddbc69390400188226a73d98fdad457a944441dce5daae9e4d330e", func := "saleroom/saleroomlaw17.LedgerReplays", spec := "ledgerReplays", unfollowed := true, recurses := true, apart := false }
def LedgerReplaysSaid : Prop := ledgerReplaysRow.holds Try.pinned (OpenSpec.ofChange ledgerReplaysSpec)

/-- ITS FALSE NEIGHBOUR: 'it returns false'. Refute it at one input. -/
def ledgerReplaysWrong : ChangeSpec := { name := "ledgerReplays", fn := fun _ => fun
  | [d] => { results := [.lit (.bool false)], args := [d] }
  | _ => none }
def LedgerReplaysWrongFalsely : Prop := ledgerReplaysRow.holds Try.pinned (OpenSpec.ofChange ledgerReplaysWrong)

/- THE SECOND FORM. 'bulk': how many values and letters a reading holds, each counted each time it is reached (what is shared counts as often as it is met; a slice's spare places count too). A statement '..UptoSaid' is the law's where the arguments, and the package variables that the reading takes, are together of bulk at most 1048576: NARROWER than '..Said'. Prove '..Said' where nothing that the law and all that it calls make is longer than what came in: it says more and counts as full. Else prove '..UptoSaid'. A law counts once. -/
mutual
def uptoBulk {H : Type} : DataW H → Nat
  | .lit (.string bytes) => bytes.length + 1
  | .lit _ => 1
  | .nil => 1
  | .ptr d => uptoBulk d + 1
  | .slice elems spare => uptoBulkAll elems + uptoBulkAll spare + 1
  | .agg parts => uptoBulkAll parts + 1
  | .iface _ d => uptoBulk d + 1
  | .map entries => uptoBulkEntries entries + 1
  | .held _ => 1
def uptoBulkAll {H : Type} : List (DataW H) → Nat
  | [] => 0
  | d :: r => uptoBulk d + uptoBulkAll r
def uptoBulkEntries {H : Type} : List (Lit × DataW H) → Nat
  | [] => 0
  | x :: r => uptoBulkEntry x + uptoBulkEntries r
def uptoBulkEntry {H : Type} : Lit × DataW H → Nat
  | (.string bytes, d) => bytes.length + uptoBulk d + 1
  | (_, d) => uptoBulk d + 1
 end
def uptoSmall : (H : Type) → List (DataW H) → Bool := fun _ ds => decide (uptoBulkAll ds ≤ 1048576)
def OpenSpec.upto (s : _root_.Go.ChangeSpec) : _root_.Go.OpenSpec := { _root_.Go.OpenSpec.ofChange s with cond := some uptoSmall }

/-- 'saleroomlaw18.HoldPlays', WHERE WHAT IT READS IS OF BULK AT MOST 1048576: true; the input reads as it did. -/
def holdPlaysUptoRow : OpenClaim := { program := "ytmdacfgofilbdaa", sum := "ad7aded7b6ddbc69390400188226a73d98fdad457a944441dce5daae9e4d330e", func := "saleroom/saleroomlaw18.HoldPlays", spec := "holdPlays", recurses := true, apart := false, narrowed := true }
def HoldPlaysUptoSaid : Prop := holdPlaysUptoRow.holds Try.pinned (OpenSpec.upto holdPlaysSpec)

/-- 'saleroomlaw18.HoldSets', WHERE WHAT IT READS IS OF BULK AT MOST 1048576: true; the input reads as it did. -/
def holdSetsUptoRow : OpenClaim := { program := "ytmdacfgofilbdaa", sum := "ad7aded7b6ddbc69390400188226a73d98fdad457a944441dce5daae9e4d330e", func := "saleroom/saleroomlaw18.HoldSets", spec := "holdSets", unfollowed := true, recurses := true, apart := false, narrowed := true }
def HoldSetsUptoSaid : Prop := holdSetsUptoRow.holds Try.pinned (OpenSpec.upto holdSetsSpec)

/-- 'saleroomlaw18.HoldKeeps', WHERE WHAT IT READS IS OF BULK AT MOST 1048576: true; the input reads as it did. -/
def holdKeepsUptoRow : OpenClaim := { program := "ytmdacfgofilbdaa", sum := "ad7aded7b6ddbc69390400188226a73d98fdad457a944441dce5daae9e4d330e", func := "saleroom/saleroomlaw18.HoldKeeps", spec := "holdKeeps", unfollowed := true, recurses := true, apart := false, narrowed := true }
def HoldKeepsUptoSaid : Prop := holdKeepsUptoRow.holds Try.pinned (OpenSpec.upto holdKeepsSpec)

/-- 'saleroomlaw17.LedgerPlays', WHERE WHAT IT READS IS OF BULK AT MOST 1048576: true; the input reads as it did. -/
def ledgerPlaysUptoRow : OpenClaim := { program := "ytmdacfgofilbdaa", sum := "ad7aded7b6ddbc69390400188226a73d98fdad457a944441dce5daae9e4d330e", func := "saleroom/saleroomlaw17.LedgerPlays", spec := "ledgerPlays", unfollowed := true, recurses := true, apart := false, narrowed := true }
def LedgerPlaysUptoSaid : Prop := ledgerPlaysUptoRow.holds Try.pinned (OpenSpec.upto ledgerPlaysSpec)

/-- 'saleroomlaw17.LedgerSums', WHERE WHAT IT READS IS OF BULK AT MOST 1048576: true; the input reads as it did. -/
def ledgerSumsUptoRow : OpenClaim := { program := "ytmdacfgofilbdaa", sum := "ad7aded7b6ddbc69390400188226a73d98fdad457a944441dce5daae9e4d330e", func := "saleroom/saleroomlaw17.LedgerSums", spec := "ledgerSums", unfollowed := true, recurses := true, apart := false, narrowed := true }
def LedgerSumsUptoSaid : Prop := ledgerSumsUptoRow.holds Try.pinned (OpenSpec.upto ledgerSumsSpec)

/-- 'saleroomlaw17.LedgerBack', WHERE WHAT IT READS IS OF BULK AT MOST 1048576: true; the input reads as it did. -/
def ledgerBackUptoRow : OpenClaim := { program := "ytmdacfgofilbdaa", sum := "ad7aded7b6ddbc69390400188226a73d98fdad457a944441dce5daae9e4d330e", func := "saleroom/saleroomlaw17.LedgerBack", spec := "ledgerBack", unfollowed := true, recurses := true, apart := false, narrowed := true }
def LedgerBackUptoSaid : Prop := ledgerBackUptoRow.holds Try.pinned (OpenSpec.upto ledgerBackSpec)

/-- 'saleroomlaw17.LedgerParties', WHERE WHAT IT READS IS OF BULK AT MOST 1048576: true; the input reads as it did. -/
def ledgerPartiesUptoRow : OpenClaim := { program := "ytmdacfgofilbdaa", sum := "ad7aded7b6ddbc69390400188226a73d98fdad457a944441dce5daae9e4d330e", func := "saleroom/saleroomlaw17.LedgerParties", spec := "ledgerParties", unfollowed := true, recurses := true, apart := false, narrowed := true }
def LedgerPartiesUptoSaid : Prop := ledgerPartiesUptoRow.holds Try.pinned (OpenSpec.upto ledgerPartiesSpec)

/-- 'saleroomlaw17.LedgerReplays', WHERE WHAT IT READS IS OF BULK AT MOST 1048576: true; the input reads as it did. -/
def ledgerReplaysUptoRow : OpenClaim := { program := "ytmdacfgofilbdaa", sum := "ad7aded7b6ddbc69390400188226a73d98fdad457a944441dce5daae9e4d330e", func := "saleroom/saleroomlaw17.LedgerReplays", spec := "ledgerReplays", unfollowed := true, recurses := true, apart := false, narrowed := true }
def LedgerReplaysUptoSaid : Prop := ledgerReplaysUptoRow.holds Try.pinned (OpenSpec.upto ledgerReplaysSpec)

end Rows
end Go.Proofs.Ytmdacfgofilbdaa
