/-
  No cell of these rows narrows 'for every input' (looked for: loops, veiled, ifaces, maps, wideKeys, modest, calm, conditions, laid).
  DERIVED. THE GIVEN ROWS OF THIS SEAT. 11 by the template 'for every input the law returns true; each argument reads behind the call as it read before'; 0 by the template 'total and deterministic' (their statements: YtnlhgnioedalpaaTotals.lean).
  GIVEN WITH THE SEED: the statements are not yours to turn. If you find one false, say at which input.
  Laid BY PROGRAM, IN A SANDBOX (cutbox-rows.mjs): the forced cells as the released guide's own fill.sh prints them over the translation 8bc774d83abaa738… (all of the seat's roots in one cut). By AI agents, Wed Nov 11 2026. No macro, syntax, notation, axiom, sorry.
-/
import Derived.Test.YtnlhgnioedalpaaChecked
import GoSem.Claim
import GoSem.ClaimJoined
import GoSem.ClaimMapViews
import Derived.JoinedTies
import Derived.KernelRfl
namespace Go.Proofs.Ytnlhgnioedalpaa
/- THE CELL 'sum', in the pinned program and in every row, IS THE sha256 OF THE DUMP (.gsa) THAT YtnlhgnioedalpaaProg.lean LOADS. Nothing in Lean hashes anything: it is a label: what it is worth is what the hold of that sum in a sandbox is worth. -/
noncomputable def Try.pinned : Pinned := { name := "ytnlhgnioedalpaa", sum := "8bc774d83abaa7383995a37fcb5037716fbb7cd3e238c841b877468c554e1755", checked := Try.checked }
namespace Rows
def none {H : Type} : Left H := { results := [], args := [] }

/-- 'saleroomlaw11.PricePlays': WHATEVER THE INPUT: true; the input reads as it did. -/
def pricePlaysSpec : ChangeSpec := { name := "pricePlays", fn := fun _ => fun
  | [d1, d2, d3, d4] => { results := [.lit (.bool true)], args := [d1, d2, d3, d4] }
  | _ => none }
def pricePlaysRow : OpenClaim := { program := "ytnlhgnioedalpaa", sum := "8bc774d83abaa7383995a37fcb5037716fbb7cd3e238c841b877468c554e1755", func := "saleroom/saleroomlaw11.PricePlays", spec := "pricePlays", inPlace := ["slices.overlaps[saleroom/api.Entry]"], unfollowed := true, recurses := true, apart := false }
def PricePlaysSaid : Prop := pricePlaysRow.holds Try.pinned (OpenSpec.ofChange pricePlaysSpec)

/-- ITS FALSE NEIGHBOUR: 'it returns false'. Refute it at one input. -/
def pricePlaysWrong : ChangeSpec := { name := "pricePlays", fn := fun _ => fun
  | [d1, d2, d3, d4] => { results := [.lit (.bool false)], args := [d1, d2, d3, d4] }
  | _ => none }
def PricePlaysWrongFalsely : Prop := pricePlaysRow.holds Try.pinned (OpenSpec.ofChange pricePlaysWrong)

/-- 'saleroomlaw11.PriceGrows': WHATEVER THE INPUT: true; the input reads as it did. -/
def priceGrowsSpec : ChangeSpec := { name := "priceGrows", fn := fun _ => fun
  | [d1, d2, d3] => { results := [.lit (.bool true)], args := [d1, d2, d3] }
  | _ => none }
def priceGrowsRow : OpenClaim := { program := "ytnlhgnioedalpaa", sum := "8bc774d83abaa7383995a37fcb5037716fbb7cd3e238c841b877468c554e1755", func := "saleroom/saleroomlaw11.PriceGrows", spec := "priceGrows", inPlace := ["slices.overlaps[saleroom/api.Entry]"], unfollowed := true, recurses := true, apart := false }
def PriceGrowsSaid : Prop := priceGrowsRow.holds Try.pinned (OpenSpec.ofChange priceGrowsSpec)

/-- ITS FALSE NEIGHBOUR: 'it returns false'. Refute it at one input. -/
def priceGrowsWrong : ChangeSpec := { name := "priceGrows", fn := fun _ => fun
  | [d1, d2, d3] => { results := [.lit (.bool false)], args := [d1, d2, d3] }
  | _ => none }
def PriceGrowsWrongFalsely : Prop := priceGrowsRow.holds Try.pinned (OpenSpec.ofChange priceGrowsWrong)

/-- 'saleroomlaw11.PriceOrder': WHATEVER THE INPUT: true; the input reads as it did. -/
def priceOrderSpec : ChangeSpec := { name := "priceOrder", fn := fun _ => fun
  | [d1, d2] => { results := [.lit (.bool true)], args := [d1, d2] }
  | _ => none }
def priceOrderRow : OpenClaim := { program := "ytnlhgnioedalpaa", sum := "8bc774d83abaa7383995a37fcb5037716fbb7cd3e238c841b877468c554e1755", func := "saleroom/saleroomlaw11.PriceOrder", spec := "priceOrder", inPlace := ["slices.overlaps[saleroom/api.Entry]"], unfollowed := true, recurses := true, apart := false }
def PriceOrderSaid : Prop := priceOrderRow.holds Try.pinned (OpenSpec.ofChange priceOrderSpec)

/-- ITS FALSE NEIGHBOUR: 'it returns false'. Refute it at one input. -/
def priceOrderWrong : ChangeSpec := { name := "priceOrder", fn := fun _ => fun
  | [d1, d2] => { results := [.lit (.bool false)], args := [d1, d2] }
  | _ => none }
def PriceOrderWrongFalsely : Prop := priceOrderRow.holds Try.pinned (OpenSpec.ofChange priceOrderWrong)

/-- 'saleroomlaw11.PriceClones': WHATEVER THE INPUT: true; the input reads as it did. -/
def priceClonesSpec : ChangeSpec := { name := "priceClones", fn := fun _ => fun
  | [d1, d2, d3] => { results := [.lit (.bool true)], args := [d1, d2, d3] }
  | _ => none }
def priceClonesRow : OpenClaim := { program := "ytnlhgnioedalpaa", sum := "8bc774d83abaa7383995a37fcb5037716fbb7cd3e238c841b877468c554e1755", func := "saleroom/saleroomlaw11.PriceClones", spec := "priceClones", inPlace := ["slices.overlaps[saleroom/api.Entry]"], unfollowed := true, recurses := true, apart := false }
def PriceClonesSaid : Prop := priceClonesRow.holds Try.pinned (OpenSpec.ofChange priceClonesSpec)

/-- ITS FALSE NEIGHBOUR: 'it returns false'. Refute it at one input. -/
def priceClonesWrong : ChangeSpec := { name := "priceClones", fn := fun _ => fun
  | [d1, d2, d3] => { results := [.lit (.bool false)], args := [d1, d2, d3] }
  | _ => none }
def PriceClonesWrongFalsely : Prop := priceClonesRow.holds Try.pinned (OpenSpec.ofChange priceClonesWrong)

/-- 'saleroomlaw11.PriceMerges': WHATEVER THE INPUT: true; the input reads as it did. -/
def priceMergesSpec : ChangeSpec := { name := "priceMerges", fn := fun _ => fun
  | [d1, d2, d3] => { results := [.lit (.bool true)], args := [d1, d2, d3] }
  | _ => none }
def priceMergesRow : OpenClaim := { program := "ytnlhgnioedalpaa", sum := "8bc774d83abaa7383995a37fcb5037716fbb7cd3e238c841b877468c554e1755", func := "saleroom/saleroomlaw11.PriceMerges", spec := "priceMerges", inPlace := ["slices.overlaps[saleroom/api.Entry]"], unfollowed := true, recurses := true, apart := false }
def PriceMergesSaid : Prop := priceMergesRow.holds Try.pinned (OpenSpec.ofChange priceMergesSpec)

/-- ITS FALSE NEIGHBOUR: 'it returns false'. Refute it at one input. -/
def priceMergesWrong : ChangeSpec := { name := "priceMerges", fn := fun _ => fun
  | [d1, d2, d3] => { results := [.lit (.bool false)], args := [d1, d2, d3] }
  | _ => none }
def PriceMergesWrongFalsely : Prop := priceMergesRow.holds Try.pinned (OpenSpec.ofChange priceMergesWrong)

/-- 'saleroomlaw20.CheckBids': WHATEVER THE INPUT: true; the input reads as it did. -/
def checkBidsSpec : ChangeSpec := { name := "checkBids", fn := fun _ => fun
  | [d1, d2, d3, d4] => { results := [.lit (.bool true)], args := [d1, d2, d3, d4] }
  | _ => none }
def checkBidsRow : OpenClaim := { program := "ytnlhgnioedalpaa", sum := "8bc774d83abaa7383995a37fcb5037716fbb7cd3e238c841b877468c554e1755", func := "saleroom/saleroomlaw20.CheckBids", spec := "checkBids", inPlace := ["slices.overlaps[saleroom/api.Entry]"], unfollowed := true, recurses := true, apart := false }
def CheckBidsSaid : Prop := checkBidsRow.holds Try.pinned (OpenSpec.ofChange checkBidsSpec)

/-- ITS FALSE NEIGHBOUR: 'it returns false'. Refute it at one input. -/
def checkBidsWrong : ChangeSpec := { name := "checkBids", fn := fun _ => fun
  | [d1, d2, d3, d4] => { results := [.lit (.bool false)], args := [d1, d2, d3, d4] }
  | _ => none }
def CheckBidsWrongFalsely : Prop := checkBidsRow.holds Try.pinned (OpenSpec.ofChange checkBidsWrong)

/-- 'saleroomlaw20.CheckReports': WHATEVER THE INPUT: true; the input reads as it did. -/
def checkReportsSpec : ChangeSpec := { name := "checkReports", fn := fun _ => fun
  | [d1, d2, d3, d4] => { results := [.lit (.bool true)], args := [d1, d2, d3, d4] }
  | _ => none }
def checkReportsRow : OpenClaim := { program := "ytnlhgnioedalpaa", sum := "8bc774d83abaa7383995a37fcb5037716fbb7cd3e238c841b877468c554e1755", func := "saleroom/saleroomlaw20.CheckReports", spec := "checkReports", inPlace := ["slices.overlaps[saleroom/api.Entry]"], unfollowed := true, recurses := true, apart := false }
def CheckReportsSaid : Prop := checkReportsRow.holds Try.pinned (OpenSpec.ofChange checkReportsSpec)

/-- ITS FALSE NEIGHBOUR: 'it returns false'. Refute it at one input. -/
def checkReportsWrong : ChangeSpec := { name := "checkReports", fn := fun _ => fun
  | [d1, d2, d3, d4] => { results := [.lit (.bool false)], args := [d1, d2, d3, d4] }
  | _ => none }
def CheckReportsWrongFalsely : Prop := checkReportsRow.holds Try.pinned (OpenSpec.ofChange checkReportsWrong)

/-- 'saleroomlaw12.DeltaBooks': WHATEVER THE INPUT: true; the input reads as it did. -/
def deltaBooksSpec : ChangeSpec := { name := "deltaBooks", fn := fun _ => fun
  | [d1, d2] => { results := [.lit (.bool true)], args := [d1, d2] }
  | _ => none }
def deltaBooksRow : OpenClaim := { program := "ytnlhgnioedalpaa", sum := "8bc774d83abaa7383995a37fcb5037716fbb7cd3e238c841b877468c554e1755", func := "saleroom/saleroomlaw12.DeltaBooks", spec := "deltaBooks", inPlace := ["slices.overlaps[saleroom/api.Entry]"], unfollowed := true, recurses := true, apart := false }
def DeltaBooksSaid : Prop := deltaBooksRow.holds Try.pinned (OpenSpec.ofChange deltaBooksSpec)

/-- ITS FALSE NEIGHBOUR: 'it returns false'. Refute it at one input. -/
def deltaBooksWrong : ChangeSpec := { name := "deltaBooks", fn := fun _ => fun
  | [d1, d2] => { results := [.lit (.bool false)], args := [d1, d2] }
  | _ => none }
def DeltaBooksWrongFalsely : Prop := deltaBooksRow.holds Try.pinned (OpenSpec.ofChange deltaBooksWrong)

/-- 'saleroomlaw12.DeltaBack': WHATEVER THE INPUT: true; the input reads as it did. -/
def deltaBackSpec : ChangeSpec := { name := "deltaBack", fn := fun _ => fun
  | [d1, d2] => { results := [.lit (.bool true)], args := [d1, d2] }
  | _ => none }
def deltaBackRow : OpenClaim := { program := "ytnlhgnioedalpaa", sum := "8bc774d83abaa7383995a37fcb5037716fbb7cd3e238c841b877468c554e1755", func := "saleroom/saleroomlaw12.DeltaBack", spec := "deltaBack", inPlace := ["slices.overlaps[saleroom/api.Entry]"], unfollowed := true, recurses := true, apart := false }
def DeltaBackSaid : Prop := deltaBackRow.holds Try.pinned (OpenSpec.ofChange deltaBackSpec)

/-- ITS FALSE NEIGHBOUR: 'it returns false'. Refute it at one input. -/
def deltaBackWrong : ChangeSpec := { name := "deltaBack", fn := fun _ => fun
  | [d1, d2] => { results := [.lit (.bool false)], args := [d1, d2] }
  | _ => none }
def DeltaBackWrongFalsely : Prop := deltaBackRow.holds Try.pinned (OpenSpec.ofChange deltaBackWrong)

/-- 'saleroomlaw12.DeltaTight': WHATEVER THE INPUT: true; the input reads as it did. -/
def deltaTightSpec : ChangeSpec := { name := "deltaTight", fn := fun _ => fun
  | [d1, d2] => { results := [.lit (.bool true)], args := [d1, d2] }
  | _ => none }
def deltaTightRow : OpenClaim := { program := "ytnlhgnioedalpaa", sum := "8bc774d83abaa7383995a37fcb5037716fbb7cd3e238c841b877468c554e1755", func := "saleroom/saleroomlaw12.DeltaTight", spec := "deltaTight", inPlace := ["slices.overlaps[saleroom/api.Entry]"], unfollowed := true, recurses := true, apart := false }
def DeltaTightSaid : Prop := deltaTightRow.holds Try.pinned (OpenSpec.ofChange deltaTightSpec)

/-- ITS FALSE NEIGHBOUR: 'it returns false'. Refute it at one input. -/
def deltaTightWrong : ChangeSpec := { name := "deltaTight", fn := fun _ => fun
  | [d1, d2] => { results := [.lit (.bool false)], args := [d1, d2] }
  | _ => none }
def DeltaTightWrongFalsely : Prop := deltaTightRow.holds Try.pinned (OpenSpec.ofChange deltaTightWrong)

/-- 'saleroomlaw12.DeltaSteps': WHATEVER THE INPUT: true; the input reads as it did. -/
def deltaStepsSpec : ChangeSpec := { name := "deltaSteps", fn := fun _ => fun
  | [d1, d2] => { results := [.lit (.bool true)], args := [d1, d2] }
  | _ => none }
def deltaStepsRow : OpenClaim := { program := "ytnlhgnioedalpaa", sum := "8bc774d83abaa7383995a37fcb5037716fbb7cd3e238c841b877468c554e1755", func := "saleroom/saleroomlaw12.DeltaSteps", spec := "deltaSteps", inPlace := ["slices.overlaps[saleroom/api.Entry]"], unfollowed := true, recurses := true, apart := false }
def DeltaStepsSaid : Prop := deltaStepsRow.holds Try.pinned (OpenSpec.ofChange deltaStepsSpec)

/-- ITS FALSE NEIGHBOUR: 'it returns false'. Refute it at one input. -/
def deltaStepsWrong : ChangeSpec := { name := "deltaSteps", fn := fun _ => fun
  | [d1, d2] => { results := [.lit (.bool false)], args := [d1, d2] }
  | _ => none }
def DeltaStepsWrongFalsely : Prop := deltaStepsRow.holds Try.pinned (OpenSpec.ofChange deltaStepsWrong)

/- THE SECOND FORM. 'bulk': how many values and letters a reading holds, each counted each time it is reached (what is shared counts as often as it is met; a slice's spare places count too). A statement '..UptoSaid' is the law's where the arguments, and the package variables that the reading takes, are together of bulk at most 1048576: NARROWER than '..Said'. Prove '..Said' where nothing that the law and all that it calls make is longer than what came in: it says more and counts as full. Else prove '..UptoSaid'. A law counts once. -/
mutual
def uptoBulk {H : Type} : DataW H → Nat
  | .lit (.string bytes) => bytes.length + 1
  | .lit _ => 1
  | .nil => 1
  | .ptr d => uptoBulk d + 1
  | .slice elems spare => uptoBulkAll elems + uptoBulkAll spare + 1
  | .agg parts => uptoBulkAll parts + 1
  | .iface _ d => uptoBulk d + 1
  | .map entries => uptoBulkEntries entries + 1
  | .held _ => 1
def uptoBulkAll {H : Type} : List (DataW H) → Nat
  | [] => 0
  | d :: r => uptoBulk d + uptoBulkAll r
def uptoBulkEntries {H : Type} : List (Lit × DataW H) → Nat
  | [] => 0
  | x :: r => uptoBulkEntry x + uptoBulkEntries r
def uptoBulkEntry {H : Type} : Lit × DataW H → Nat
  | (.string bytes, d) => bytes.length + uptoBulk d + 1
  | (_, d) => uptoBulk d + 1
 end
def uptoSmall : (H : Type) → List (DataW H) → Bool := fun _ ds => decide (uptoBulkAll ds ≤ 1048576)
def OpenSpec.upto (s : _root_.Go.ChangeSpec) : _root_.Go.OpenSpec := { _root_.Go.OpenSpec.ofChange s with cond := some uptoSmall }

/-- 'saleroomlaw11.PricePlays', WHERE WHAT IT READS IS OF BULK AT MOST 1048576: true; the input reads as it did. -/
def pricePlaysUptoRow : OpenClaim := { program := "ytnlhgnioedalpaa", sum := "8bc774d83abaa7383995a37fcb5037716fbb7cd3e238c841b877468c554e1755", func := "saleroom/saleroomlaw11.PricePlays", spec := "pricePlays", inPlace := ["slices.overlaps[saleroom/api.Entry]"], unfollowed := true, recurses := true, apart := false, narrowed := true }
def PricePlaysUptoSaid : Prop := pricePlaysUptoRow.holds Try.pinned (OpenSpec.upto pricePlaysSpec)

/-- 'saleroomlaw11.PriceGrows', WHERE WHAT IT READS IS OF BULK AT MOST 1048576: true; the input reads as it did. -/
def priceGrowsUptoRow : OpenClaim := { program := "ytnlhgnioedalpaa", sum := "8bc774d83abaa7383995a37fcb5037716fbb7cd3e238c841b877468c554e1755", func := "saleroom/saleroomlaw11.PriceGrows", spec := "priceGrows", inPlace := ["slices.overlaps[saleroom/api.Entry]"], unfollowed := true, recurses := true, apart := false, narrowed := true }
def PriceGrowsUptoSaid : Prop := priceGrowsUptoRow.holds Try.pinned (OpenSpec.upto priceGrowsSpec)

/-- 'saleroomlaw11.PriceOrder', WHERE WHAT IT READS IS OF BULK AT MOST 1048576: true; the input reads as it did. -/
def priceOrderUptoRow : OpenClaim := { program := "ytnlhgnioedalpaa", sum := "8bc774d83abaa7383995a37fcb5037716fbb7cd3e238c841b877468c554e1755", func := "saleroom/saleroomlaw11.PriceOrder", spec := "priceOrder", inPlace := ["slices.overlaps[saleroom/api.Entry]"], unfollowed := true, recurses := true, apart := false, narrowed := true }
def PriceOrderUptoSaid : Prop := priceOrderUptoRow.holds Try.pinned (OpenSpec.upto priceOrderSpec)

/-- 'saleroomlaw11.PriceClones', WHERE WHAT IT READS IS OF BULK AT MOST 1048576: true; the input reads as it did. -/
def priceClonesUptoRow : OpenClaim := { program := "ytnlhgnioedalpaa", sum := "8bc774d83abaa7383995a37fcb5037716fbb7cd3e238c841b877468c554e1755", func := "saleroom/saleroomlaw11.PriceClones", spec := "priceClones", inPlace := ["slices.overlaps[saleroom/api.Entry]"], unfollowed := true, recurses := true, apart := false, narrowed := true }
def PriceClonesUptoSaid : Prop := priceClonesUptoRow.holds Try.pinned (OpenSpec.upto priceClonesSpec)

/-- 'saleroomlaw11.PriceMerges', WHERE WHAT IT READS IS OF BULK AT MOST 1048576: true; the input reads as it did. -/
def priceMergesUptoRow : OpenClaim := { program := "ytnlhgnioedalpaa", sum := "8bc774d83abaa7383995a37fcb5037716fbb7cd3e238c841b877468c554e1755", func := "saleroom/saleroomlaw11.PriceMerges", spec := "priceMerges", inPlace := ["slices.overlaps[saleroom/api.Entry]"], unfollowed := true, recurses := true, apart := false, narrowed := true }
def PriceMergesUptoSaid : Prop := priceMergesUptoRow.holds Try.pinned (OpenSpec.upto priceMergesSpec)

/-- 'saleroomlaw20.CheckBids', WHERE WHAT IT READS IS OF BULK AT MOST 1048576: true; the input reads as it did. -/
def checkBidsUptoRow : OpenClaim := { program := "ytnlhgnioedalpaa", sum := "8bc774d83abaa7383995a37fcb5037716fbb7cd3e238c841b877468c554e1755", func := "saleroom/saleroomlaw20.CheckBids", spec := "checkBids", inPlace := ["slices.overlaps[saleroom/api.Entry]"], unfollowed := true, recurses := true, apart := false, narrowed := true }
def CheckBidsUptoSaid : Prop := checkBidsUptoRow.holds Try.pinned (OpenSpec.upto checkBidsSpec)

/-- 'saleroomlaw20.CheckReports', WHERE WHAT IT READS IS OF BULK AT MOST 1048576: true; the input reads as it did. -/
def checkReportsUptoRow : OpenClaim := { program := "ytnlhgnioedalpaa", sum := "8bc774d83abaa7383995a37fcb5037716fbb7cd3e238c841b877468c554e1755", func := "saleroom/saleroomlaw20.CheckReports", spec := "checkReports", inPlace := ["slices.overlaps[saleroom/api.Entry]"], unfollowed := true, recurses := true, apart := false, narrowed := true }
def CheckReportsUptoSaid : Prop := checkReportsUptoRow.holds Try.pinned (OpenSpec.upto checkReportsSpec)

/-- 'saleroomlaw12.DeltaBooks', WHERE WHAT IT READS IS OF BULK AT MOST 1048576: true; the input reads as it did. -/
def deltaBooksUptoRow : OpenClaim := { program := "ytnlhgnioedalpaa", sum := "8bc774d83abaa7383995a37fcb5037716fbb7cd3e238c841b877468c554e1755", func := "saleroom/saleroomlaw12.DeltaBooks", spec := "deltaBooks", inPlace := ["slices.overlaps[saleroom/api.Entry]"], unfollowed := true, recurses := true, apart := false, narrowed := true }
def DeltaBooksUptoSaid : Prop := deltaBooksUptoRow.holds Try.pinned (OpenSpec.upto deltaBooksSpec)

/-- 'saleroomlaw12.DeltaBack', WHERE WHAT IT READS IS OF BULK AT MOST 1048576: true; the input reads as it did. -/
def deltaBackUptoRow : OpenClaim := { program := "ytnlhgnioedalpaa", sum := "8bc774d83abaa7383995a37fcb5037716fbb7cd3e238c841b877468c554e1755", func := "saleroom/saleroomlaw12.DeltaBack", spec := "deltaBack", inPlace := ["slices.overlaps[saleroom/api.Entry]"], unfollowed := true, recurses := true, apart := false, narrowed := true }
def DeltaBackUptoSaid : Prop := deltaBackUptoRow.holds Try.pinned (OpenSpec.upto deltaBackSpec)

/-- 'saleroomlaw12.DeltaTight', WHERE WHAT IT READS IS OF BULK AT MOST 1048576: true; the input reads as it did. -/
def deltaTightUptoRow : OpenClaim := { program := "ytnlhgnioedalpaa", sum := "8bc774d83abaa7383995a37fcb5037716fbb7cd3e238c841b877468c554e1755", func := "saleroom/saleroomlaw12.DeltaTight", spec := "deltaTight", inPlace := ["slices.overlaps[saleroom/api.Entry]"], unfollowed := true, recurses := true, apart := false, narrowed := true }
def DeltaTightUptoSaid : Prop := deltaTightUptoRow.holds Try.pinned (OpenSpec.upto deltaTightSpec)

/-- 'saleroomlaw12.DeltaSteps', WHERE WHAT IT READS IS OF BULK AT MOST 1048576: true; the input reads as it did. -/
def deltaStepsUptoRow : OpenClaim := { program := "ytnlhgnioedalpaa", sum := "8bc774d83abaa7383995a37fcb5037716fbb7cd3e238c841b877468c554e1755", func := "saleroom/saleroomlaw12.DeltaSteps", spec := "deltaSteps", inPlace := ["slices.overlaps[saleroom/api.Entry]"], unfollowed := true, recurses := true, apart := false, narrowed := true }
def DeltaStepsUptoSaid : Prop := deltaStepsUptoRow.holds Try.pinned (OpenSpec.upto deltaStepsSpec)

end Rows
end Go.Proofs.Ytnlhgnioedalpaa
