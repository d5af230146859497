/-
  No cell of these rows narrows 'for every input' (looked for: loops, veiled, ifaces, maps, wideKeys, modest, calm, conditions, laid).
  DERIVED. THE GIVEN ROWS OF THIS SEAT. 6 by the template 'for every input the law returns true; each argument reads behind the call as it read before'; 0 by the template 'total and deterministic' (their statements: YtgoomogpcfpekaaTotals.lean).
  GIVEN WITH THE SEED: the statements are not yours to turn. If you find one false, say at which input.
  Laid BY PROGRAM, IN A SANDBOX (cutbox-rows.mjs): the forced cells as the released guide's own fill.sh prints them over the translation ec01b86385ef4ebb… (all of the seat's roots in one cut). By AI agents, Wed Nov 11 2026. No macro, syntax, notation, axiom, sorry.
-/
import Derived.Test.YtgoomogpcfpekaaChecked
import GoSem.Claim
import GoSem.ClaimJoined
import GoSem.ClaimMapViews
import Derived.JoinedTies
import Derived.KernelRfl
namespace Go.Proofs.Ytgoomogpcfpekaa
/- THE CELL 'sum', in the pinned program and in every row, IS THE sha256 OF THE DUMP (.gsa) THAT YtgoomogpcfpekaaProg.lean LOADS. Nothing in Lean hashes anything: it is a label: what it is worth is what the hold of that sum in a sandbox is worth. -/
noncomputable def Try.pinned : Pinned := { name := "ytgoomogpcfpekaa", sum := "ec01b86385ef4ebb8b0b276dc5e2ac0f4644312d4687e144b01fd458e2734b07", checked := Try.checked }
namespace Rows
def none {H : Type} : Left H := { results := [], args := [] }

/-- 'saleroomlaw08.TablePlays': WHATEVER THE INPUT: true; the input reads as it did. -/
def tablePlaysSpec : ChangeSpec := { name := "tablePlays", fn := fun _ => fun
  | [d1, d2, d3] => { results := [.lit (.bool true)], args := [d1, d2, d3] }
  | _ => none }
def tablePlaysRow : OpenClaim := { program := "ytgoomogpcfpekaa", sum := "ec01b86385ef4ebb8b0b276dc5e2ac0f4644312d4687e144b01fd458e2734b07", func := "saleroom/saleroomlaw08.TablePlays", spec := "tablePlays", unfollowed := true, recurses := true, apart := false }
def TablePlaysSaid : Prop := tablePlaysRow.holds Try.pinned (OpenSpec.ofChange tablePlaysSpec)

/-- ITS FALSE NEIGHBOUR: 'it returns false'. Refute it at one input. -/
def tablePlaysWrong : ChangeSpec := { name := "tablePlays", fn := fun _ => fun
  | [d1, d2, d3] => { results := [.lit (.bool false)], args := [d1, d2, d3] }
  | _ => none }
def TablePlaysWrongFalsely : Prop := tablePlaysRow.holds Try.pinned (OpenSpec.ofChange tablePlaysWrong)

/-- 'saleroomlaw08.TableClones': WHATEVER THE INPUT: true; the input reads as it did. -/
def tableClonesSpec : ChangeSpec := { name := "tableClones", fn := fun _ => fun
  | [d1, d2] => { results := [.lit (.bool true)], args := [d1, d2] }
  | _ => none }
def tableClonesRow : OpenClaim := { program := "ytgoomogpcfpekaa", sum := "ec01b86385ef4ebb8b0b276dc5e2ac0f4644312d4687e144b01fd458e2734b07", func := "saleroom/saleroomlaw08.TableClones", spec := "tableClones", unfollowed := true, recurses := true, apart := false }
def TableClonesSaid : Prop := tableClonesRow.holds Try.pinned (OpenSpec.ofChange tableClonesSpec)

/-- ITS FALSE NEIGHBOUR: 'it returns false'. Refute it at one input. -/
def tableClonesWrong : ChangeSpec := { name := "tableClones", fn := fun _ => fun
  | [d1, d2] => { results := [.lit (.bool false)], args := [d1, d2] }
  | _ => none }
def TableClonesWrongFalsely : Prop := tableClonesRow.holds Try.pinned (OpenSpec.ofChange tableClonesWrong)

/-- 'saleroomlaw08.TableGoes': WHATEVER THE INPUT: true; the input reads as it did. -/
def tableGoesSpec : ChangeSpec := { name := "tableGoes", fn := fun _ => fun
  | [d1, d2] => { results := [.lit (.bool true)], args := [d1, d2] }
  | _ => none }
def tableGoesRow : OpenClaim := { program := "ytgoomogpcfpekaa", sum := "ec01b86385ef4ebb8b0b276dc5e2ac0f4644312d4687e144b01fd458e2734b07", func := "saleroom/saleroomlaw08.TableGoes", spec := "tableGoes", unfollowed := true, recurses := true, apart := false }
def TableGoesSaid : Prop := tableGoesRow.holds Try.pinned (OpenSpec.ofChange tableGoesSpec)

/-- ITS FALSE NEIGHBOUR: 'it returns false'. Refute it at one input. -/
def tableGoesWrong : ChangeSpec := { name := "tableGoes", fn := fun _ => fun
  | [d1, d2] => { results := [.lit (.bool false)], args := [d1, d2] }
  | _ => none }
def TableGoesWrongFalsely : Prop := tableGoesRow.holds Try.pinned (OpenSpec.ofChange tableGoesWrong)

/-- 'saleroomlaw08.TableTexts': WHATEVER THE INPUT: true; the input reads as it did. -/
def tableTextsSpec : ChangeSpec := { name := "tableTexts", fn := fun _ => fun
  | [d] => { results := [.lit (.bool true)], args := [d] }
  | _ => none }
def tableTextsRow : OpenClaim := { program := "ytgoomogpcfpekaa", sum := "ec01b86385ef4ebb8b0b276dc5e2ac0f4644312d4687e144b01fd458e2734b07", func := "saleroom/saleroomlaw08.TableTexts", spec := "tableTexts", unfollowed := true, recurses := true, apart := false }
def TableTextsSaid : Prop := tableTextsRow.holds Try.pinned (OpenSpec.ofChange tableTextsSpec)

/-- ITS FALSE NEIGHBOUR: 'it returns false'. Refute it at one input. -/
def tableTextsWrong : ChangeSpec := { name := "tableTexts", fn := fun _ => fun
  | [d] => { results := [.lit (.bool false)], args := [d] }
  | _ => none }
def TableTextsWrongFalsely : Prop := tableTextsRow.holds Try.pinned (OpenSpec.ofChange tableTextsWrong)

/-- 'saleroomlaw08.TableMaps': WHATEVER THE INPUT: true; the input reads as it did. -/
def tableMapsSpec : ChangeSpec := { name := "tableMaps", fn := fun _ => fun
  | [d1, d2] => { results := [.lit (.bool true)], args := [d1, d2] }
  | _ => none }
def tableMapsRow : OpenClaim := { program := "ytgoomogpcfpekaa", sum := "ec01b86385ef4ebb8b0b276dc5e2ac0f4644312d4687e144b01fd458e2734b07", func := "saleroom/saleroomlaw08.TableMaps", spec := "tableMaps", unfollowed := true, recurses := true, apart := false }
def TableMapsSaid : Prop := tableMapsRow.holds Try.pinned (OpenSpec.ofChange tableMapsSpec)

/-- ITS FALSE NEIGHBOUR: 'it returns false'. Refute it at one input. -/
def tableMapsWrong : ChangeSpec := { name := "tableMaps", fn := fun _ => fun
  | [d1, d2] => { results := [.lit (.bool false)], args := [d1, d2] }
  | _ => none }
def TableMapsWrongFalsely : Prop := tableMapsRow.holds Try.pinned (OpenSpec.ofChange tableMapsWrong)

/-- 'saleroomlaw08.TableMerges': WHATEVER THE INPUT: true; the input reads as it did. -/
def tableMergesSpec : ChangeSpec := { name := "tableMerges", fn := fun _ => fun
  | [d1, d2, d3, d4] => { results := [.lit (.bool true)], args := [d1, d2, d3, d4] }
  | _ => none }
def tableMergesRow : OpenClaim := { program := "ytgoomogpcfpekaa", sum := "ec01b86385ef4ebb8b0b276dc5e2ac0f4644312d4687e144b01fd458e2734b07", func := "saleroom/saleroomlaw08.TableMerges", spec := "tableMerges", unfollowed := true, recurses := true, apart := false }
def TableMergesSaid : Prop := tableMergesRow.holds Try.pinned (OpenSpec.ofChange tableMergesSpec)

/-- ITS FALSE NEIGHBOUR: 'it returns false'. Refute it at one input. -/
def tableMergesWrong : ChangeSpec := { name := "tableMerges", fn := fun _ => fun
  | [d1, d2, d3, d4] => { results := [.lit (.bool false)], args := [d1, d2, d3, d4] }
  | _ => none }
def TableMergesWrongFalsely : Prop := tableMergesRow.holds Try.pinned (OpenSpec.ofChange tableMergesWrong)

/- THE SECOND FORM. 'bulk': how many values and letters a reading holds, each counted each time it is reached (what is shared counts as often as it is met; a slice's spare places count too). A statement '..UptoSaid' is the law's where the arguments, and the package variables that the reading takes, are together of bulk at most 1048576: NARROWER than '..Said'. Prove '..Said' where nothing that the law and all that it calls make is longer than what came in: it says more and counts as full. Else prove '..UptoSaid'. A law counts once. -/
mutual
def uptoBulk {H : Type} : DataW H → Nat
  | .lit (.string bytes) => bytes.length + 1
  | .lit _ => 1
  | .nil => 1
  | .ptr d => uptoBulk d + 1
  | .slice elems spare => uptoBulkAll elems + uptoBulkAll spare + 1
  | .agg parts => uptoBulkAll parts + 1
  | .iface _ d => uptoBulk d + 1
  | .map entries => uptoBulkEntries entries + 1
  | .held _ => 1
def uptoBulkAll {H : Type} : List (DataW H) → Nat
  | [] => 0
  | d :: r => uptoBulk d + uptoBulkAll r
def uptoBulkEntries {H : Type} : List (Lit × DataW H) → Nat
  | [] => 0
  | x :: r => uptoBulkEntry x + uptoBulkEntries r
def uptoBulkEntry {H : Type} : Lit × DataW H → Nat
  | (.string bytes, d) => bytes.length + uptoBulk d + 1
  | (_, d) => uptoBulk d + 1
 end
def uptoSmall : (H : Type) → List (DataW H) → Bool := fun _ ds => decide (uptoBulkAll ds ≤ 1048576)
def OpenSpec.upto (s : _root_.Go.ChangeSpec) : _root_.Go.OpenSpec := { _root_.Go.OpenSpec.ofChange s with cond := some uptoSmall }

/-- 'saleroomlaw08.TablePlays', WHERE WHAT IT READS IS OF BULK AT MOST 1048576: true; the input reads as it did. -/
def tablePlaysUptoRow : OpenClaim := { program := "ytgoomogpcfpekaa", sum := "ec01b86385ef4ebb8b0b276dc5e2ac0f4644312d4687e144b01fd458e2734b07", func := "saleroom/saleroomlaw08.TablePlays", spec := "tablePlays", unfollowed := true, recurses := true, apart := false, narrowed := true }
def TablePlaysUptoSaid : Prop := tablePlaysUptoRow.holds Try.pinned (OpenSpec.upto tablePlaysSpec)

/-- 'saleroomlaw08.TableClones', WHERE WHAT IT READS IS OF BULK AT MOST 1048576: true; the input reads as it did. -/
def tableClonesUptoRow : OpenClaim := { program := "ytgoomogpcfpekaa", sum := "ec01b86385ef4ebb8b0b276dc5e2ac0f4644312d4687e144b01fd458e2734b07", func := "saleroom/saleroomlaw08.TableClones", spec := "tableClones", unfollowed := true, recurses := true, apart := false, narrowed := true }
def TableClonesUptoSaid : Prop := tableClonesUptoRow.holds Try.pinned (OpenSpec.upto tableClonesSpec)

/-- 'saleroomlaw08.TableGoes', WHERE WHAT IT READS IS OF BULK AT MOST 1048576: true; the input reads as it did. -/
def tableGoesUptoRow : OpenClaim := { program := "ytgoomogpcfpekaa", sum := "ec01b86385ef4ebb8b0b276dc5e2ac0f4644312d4687e144b01fd458e2734b07", func := "saleroom/saleroomlaw08.TableGoes", spec := "tableGoes", unfollowed := true, recurses := true, apart := false, narrowed := true }
def TableGoesUptoSaid : Prop := tableGoesUptoRow.holds Try.pinned (OpenSpec.upto tableGoesSpec)

/-- 'saleroomlaw08.TableTexts', WHERE WHAT IT READS IS OF BULK AT MOST 1048576: true; the input reads as it did. -/
def tableTextsUptoRow : OpenClaim := { program := "ytgoomogpcfpekaa", sum := "ec01b86385ef4ebb8b0b276dc5e2ac0f4644312d4687e144b01fd458e2734b07", func := "saleroom/saleroomlaw08.TableTexts", spec := "tableTexts", unfollowed := true, recurses := true, apart := false, narrowed := true }
def TableTextsUptoSaid : Prop := tableTextsUptoRow.holds Try.pinned (OpenSpec.upto tableTextsSpec)

/-- 'saleroomlaw08.TableMaps', WHERE WHAT IT READS IS OF BULK AT MOST 1048576: true; the input reads as it did. -/
def tableMapsUptoRow : OpenClaim := { program := "ytgoomogpcfpekaa", sum := "ec01b86385ef4ebb8b0b276dc5e2ac0f4644312d4687e144b01fd458e2734b07", func := "saleroom/saleroomlaw08.TableMaps", spec := "tableMaps", unfollowed := true, recurses := true, apart := false, narrowed := true }
def TableMapsUptoSaid : Prop := tableMapsUptoRow.holds Try.pinned (OpenSpec.upto tableMapsSpec)

/-- 'saleroomlaw08.TableMerges', WHERE WHAT IT READS IS OF BULK AT MOST 1048576: true; the input reads as it did. -/
def tableMergesUptoRow : OpenClaim := { program := "ytgoomogpcfpekaa", sum := "ec01b86385ef4ebb8b0b276dc5e2ac0f4644312d4687e144b01fd458e2734b07", func := "saleroom/saleroomlaw08.TableMerges", spec := "tableMerges", unfollowed := true, recurses := true, apart := false, narrowed := true }
def TableMergesUptoSaid : Prop := tableMergesUptoRow.holds Try.pinned (OpenSpec.upto tableMergesSpec)

end Rows
end Go.Proofs.Ytgoomogpcfpekaa
