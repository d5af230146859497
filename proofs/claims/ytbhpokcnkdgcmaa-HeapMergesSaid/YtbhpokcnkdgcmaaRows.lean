/-
  No cell of these rows narrows 'for every input' (looked for: loops, veiled, ifaces, maps, wideKeys, modest, calm, conditions, laid).
  DERIVED. THE GIVEN ROWS OF THIS SEAT. 10 by the template 'for every input the law returns true; each argument reads behind the call as it read before'; 0 by the template 'total and deterministic' (their statements: YtbhpokcnkdgcmaaTotals.lean).
  GIVEN WITH THE SEED: the statements are not yours to turn. If you find one false, say at which input.
  Laid BY PROGRAM, IN A SANDBOX (cutbox-rows.mjs): the forced cells as the released guide's own fill.sh prints them over the translation 60ee331e920dc9d3… (all of the seat's roots in one cut). By AI agents, Wed Nov 11 2026. No macro, syntax, notation, axiom, sorry.
-/
import Derived.Test.YtbhpokcnkdgcmaaChecked
import GoSem.Claim
import GoSem.ClaimJoined
import GoSem.ClaimMapViews
import Derived.JoinedTies
import Derived.KernelRfl
namespace Go.Proofs.Ytbhpokcnkdgcmaa
/- THE CELL 'sum', in the pinned program and in every row, IS THE sha256 OF THE DUMP (.gsa) THAT YtbhpokcnkdgcmaaProg.lean LOADS. Nothing in Lean hashes anything: it is a label: what it is worth is what the hold of that sum in a sandbox is worth. -/
noncomputable def Try.pinned : Pinned := { name := "ytbhpokcnkdgcmaa", sum := "60ee331e920dc9d3deb27a9b671194e58e142c024625c6f42639d62731facfd9", checked := Try.checked }
namespace Rows
def none {H : Type} : Left H := { results := [], args := [] }

/-- 'saleroomlaw01.MoneyCeils': WHATEVER THE INPUT: true; the input reads as it did. -/
def moneyCeilsSpec : ChangeSpec := { name := "moneyCeils", fn := fun _ => fun
  | [d1, d2] => { results := [.lit (.bool true)], args := [d1, d2] }
  | _ => none }
def moneyCeilsRow : OpenClaim := { program := "ytbhpokcnkdgcmaa", sum := "60ee331e920dc9d3deb27a9b671194e58e142c024625c6f42639d62731facfd9", func := "saleroom/saleroomlaw01.MoneyCeils", spec := "moneyCeils", unfollowed := true, recurses := true, apart := false }
def MoneyCeilsSaid : Prop := moneyCeilsRow.holds Try.pinned (OpenSpec.ofChange moneyCeilsSpec)

/-- ITS FALSE NEIGHBOUR: 'it returns false'. Refute it at one input. -/
def moneyCeilsWrong : ChangeSpec := { name := "moneyCeils", fn := fun _ => fun
  | [d1, d2] => { results := [.lit (.bool false)], args := [d1, d2] }
  | _ => none }
def MoneyCeilsWrongFalsely : Prop := moneyCeilsRow.holds Try.pinned (OpenSpec.ofChange moneyCeilsWrong)

/-- 'saleroomlaw01.MoneyTwo': WHATEVER THE INPUT: true; the input reads as it did. -/
def moneyTwoSpec : ChangeSpec := { name := "moneyTwo", fn := fun _ => fun
  | [d1, d2, d3] => { results := [.lit (.bool true)], args := [d1, d2, d3] }
  | _ => none }
def moneyTwoRow : OpenClaim := { program := "ytbhpokcnkdgcmaa", sum := "60ee331e920dc9d3deb27a9b671194e58e142c024625c6f42639d62731facfd9", func := "saleroom/saleroomlaw01.MoneyTwo", spec := "moneyTwo", unfollowed := true, recurses := true, apart := false }
def MoneyTwoSaid : Prop := moneyTwoRow.holds Try.pinned (OpenSpec.ofChange moneyTwoSpec)

/-- ITS FALSE NEIGHBOUR: 'it returns false'. Refute it at one input. -/
def moneyTwoWrong : ChangeSpec := { name := "moneyTwo", fn := fun _ => fun
  | [d1, d2, d3] => { results := [.lit (.bool false)], args := [d1, d2, d3] }
  | _ => none }
def MoneyTwoWrongFalsely : Prop := moneyTwoRow.holds Try.pinned (OpenSpec.ofChange moneyTwoWrong)

/-- 'saleroomlaw01.MoneyBack': WHATEVER THE INPUT: true; the input reads as it did. -/
def moneyBackSpec : ChangeSpec := { name := "moneyBack", fn := fun _ => fun
  | [d1, d2, d3] => { results := [.lit (.bool true)], args := [d1, d2, d3] }
  | _ => none }
def moneyBackRow : OpenClaim := { program := "ytbhpokcnkdgcmaa", sum := "60ee331e920dc9d3deb27a9b671194e58e142c024625c6f42639d62731facfd9", func := "saleroom/saleroomlaw01.MoneyBack", spec := "moneyBack", unfollowed := true, recurses := true, apart := false }
def MoneyBackSaid : Prop := moneyBackRow.holds Try.pinned (OpenSpec.ofChange moneyBackSpec)

/-- ITS FALSE NEIGHBOUR: 'it returns false'. Refute it at one input. -/
def moneyBackWrong : ChangeSpec := { name := "moneyBack", fn := fun _ => fun
  | [d1, d2, d3] => { results := [.lit (.bool false)], args := [d1, d2, d3] }
  | _ => none }
def MoneyBackWrongFalsely : Prop := moneyBackRow.holds Try.pinned (OpenSpec.ofChange moneyBackWrong)

/-- 'saleroomlaw13.HeapPlays': WHATEVER THE INPUT: true; the input reads as it did. -/
def heapPlaysSpec : ChangeSpec := { name := "heapPlays", fn := fun _ => fun
  | [d1, d2] => { results := [.lit (.bool true)], args := [d1, d2] }
  | _ => none }
def heapPlaysRow : OpenClaim := { program := "ytbhpokcnkdgcmaa", sum := "60ee331e920dc9d3deb27a9b671194e58e142c024625c6f42639d62731facfd9", func := "saleroom/saleroomlaw13.HeapPlays", spec := "heapPlays", unfollowed := true, recurses := true, apart := false }
def HeapPlaysSaid : Prop := heapPlaysRow.holds Try.pinned (OpenSpec.ofChange heapPlaysSpec)

/-- ITS FALSE NEIGHBOUR: 'it returns false'. Refute it at one input. -/
def heapPlaysWrong : ChangeSpec := { name := "heapPlays", fn := fun _ => fun
  | [d1, d2] => { results := [.lit (.bool false)], args := [d1, d2] }
  | _ => none }
def HeapPlaysWrongFalsely : Prop := heapPlaysRow.holds Try.pinned (OpenSpec.ofChange heapPlaysWrong)

/-- 'saleroomlaw13.HeapSorts': WHATEVER THE INPUT: true; the input reads as it did. -/
def heapSortsSpec : ChangeSpec := { name := "heapSorts", fn := fun _ => fun
  | [d1, d2] => { results := [.lit (.bool true)], args := [d1, d2] }
  | _ => none }
def heapSortsRow : OpenClaim := { program := "ytbhpokcnkdgcmaa", sum := "60ee331e920dc9d3deb27a9b671194e58e142c024625c6f42639d62731facfd9", func := "saleroom/saleroomlaw13.HeapSorts", spec := "heapSorts", unfollowed := true, recurses := true, apart := false }
def HeapSortsSaid : Prop := heapSortsRow.holds Try.pinned (OpenSpec.ofChange heapSortsSpec)

/-- ITS FALSE NEIGHBOUR: 'it returns false'. Refute it at one input. -/
def heapSortsWrong : ChangeSpec := { name := "heapSorts", fn := fun _ => fun
  | [d1, d2] => { results := [.lit (.bool false)], args := [d1, d2] }
  | _ => none }
def HeapSortsWrongFalsely : Prop := heapSortsRow.holds Try.pinned (OpenSpec.ofChange heapSortsWrong)

/-- 'saleroomlaw13.HeapGrows': WHATEVER THE INPUT: true; the input reads as it did. -/
def heapGrowsSpec : ChangeSpec := { name := "heapGrows", fn := fun _ => fun
  | [d1, d2] => { results := [.lit (.bool true)], args := [d1, d2] }
  | _ => none }
def heapGrowsRow : OpenClaim := { program := "ytbhpokcnkdgcmaa", sum := "60ee331e920dc9d3deb27a9b671194e58e142c024625c6f42639d62731facfd9", func := "saleroom/saleroomlaw13.HeapGrows", spec := "heapGrows", unfollowed := true, recurses := true, apart := false }
def HeapGrowsSaid : Prop := heapGrowsRow.holds Try.pinned (OpenSpec.ofChange heapGrowsSpec)

/-- ITS FALSE NEIGHBOUR: 'it returns false'. Refute it at one input. -/
def heapGrowsWrong : ChangeSpec := { name := "heapGrows", fn := fun _ => fun
  | [d1, d2] => { results := [.lit (.bool false)], args := [d1, d2] }
  | _ => none }
def HeapGrowsWrongFalsely : Prop := heapGrowsRow.holds Try.pinned (OpenSpec.ofChange heapGrowsWrong)

/-- 'saleroomlaw05.CodecWrites': WHATEVER THE INPUT: true; the input reads as it did. -/
def codecWritesSpec : ChangeSpec := { name := "codecWrites", fn := fun _ => fun
  | [d1, d2, d3, d4] => { results := [.lit (.bool true)], args := [d1, d2, d3, d4] }
  | _ => none }
def codecWritesRow : OpenClaim := { program := "ytbhpokcnkdgcmaa", sum := "60ee331e920dc9d3deb27a9b671194e58e142c024625c6f42639d62731facfd9", func := "saleroom/saleroomlaw05.CodecWrites", spec := "codecWrites", unfollowed := true, recurses := true, apart := false }
def CodecWritesSaid : Prop := codecWritesRow.holds Try.pinned (OpenSpec.ofChange codecWritesSpec)

/-- ITS FALSE NEIGHBOUR: 'it returns false'. Refute it at one input. -/
def codecWritesWrong : ChangeSpec := { name := "codecWrites", fn := fun _ => fun
  | [d1, d2, d3, d4] => { results := [.lit (.bool false)], args := [d1, d2, d3, d4] }
  | _ => none }
def CodecWritesWrongFalsely : Prop := codecWritesRow.holds Try.pinned (OpenSpec.ofChange codecWritesWrong)

/-- 'saleroomlaw05.CodecBack': WHATEVER THE INPUT: true; the input reads as it did. -/
def codecBackSpec : ChangeSpec := { name := "codecBack", fn := fun _ => fun
  | [d1, d2, d3, d4] => { results := [.lit (.bool true)], args := [d1, d2, d3, d4] }
  | _ => none }
def codecBackRow : OpenClaim := { program := "ytbhpokcnkdgcmaa", sum := "60ee331e920dc9d3deb27a9b671194e58e142c024625c6f42639d62731facfd9", func := "saleroom/saleroomlaw05.CodecBack", spec := "codecBack", unfollowed := true, recurses := true, apart := false }
def CodecBackSaid : Prop := codecBackRow.holds Try.pinned (OpenSpec.ofChange codecBackSpec)

/-- ITS FALSE NEIGHBOUR: 'it returns false'. Refute it at one input. -/
def codecBackWrong : ChangeSpec := { name := "codecBack", fn := fun _ => fun
  | [d1, d2, d3, d4] => { results := [.lit (.bool false)], args := [d1, d2, d3, d4] }
  | _ => none }
def CodecBackWrongFalsely : Prop := codecBackRow.holds Try.pinned (OpenSpec.ofChange codecBackWrong)

/-- 'saleroomlaw05.CodecEnds': WHATEVER THE INPUT: true; the input reads as it did. -/
def codecEndsSpec : ChangeSpec := { name := "codecEnds", fn := fun _ => fun
  | [d1, d2, d3] => { results := [.lit (.bool true)], args := [d1, d2, d3] }
  | _ => none }
def codecEndsRow : OpenClaim := { program := "ytbhpokcnkdgcmaa", sum := "60ee331e920dc9d3deb27a9b671194e58e142c024625c6f42639d62731facfd9", func := "saleroom/saleroomlaw05.CodecEnds", spec := "codecEnds", unfollowed := true, recurses := true, apart := false }
def CodecEndsSaid : Prop := codecEndsRow.holds Try.pinned (OpenSpec.ofChange codecEndsSpec)

/-- ITS FALSE NEIGHBOUR: 'it returns false'. Refute it at one input. -/
def codecEndsWrong : ChangeSpec := { name := "codecEnds", fn := fun _ => fun
  | [d1, d2, d3] => { results := [.lit (.bool false)], args := [d1, d2, d3] }
  | _ => none }
def CodecEndsWrongFalsely : Prop := codecEndsRow.holds Try.pinned (OpenSpec.ofChange codecEndsWrong)

/-- 'saleroomlaw13.HeapMerges': WHATEVER THE INPUT: true; the input reads as it did. -/
def heapMergesSpec : ChangeSpec := { name := "heapMerges", fn := fun _ => fun
  | [d1, d2] => { results := [.lit (.bool true)], args := [d1, d2] }
  | _ => none }
def heapMergesRow : OpenClaim := { program := "ytbhpokcnkdgcmaa", sum := "60ee331e920dc9d3deb27a9b671194e58e142c024625c6f42639d62731facfd9", func := "saleroom/saleroomlaw13.HeapMerges", spec := "heapMerges", unfollowed := true, recurses := true, apart := false }
def HeapMergesSaid : Prop := heapMergesRow.holds Try.pinned (OpenSpec.ofChange heapMergesSpec)

/-- ITS FALSE NEIGHBOUR: 'it returns false'. Refute it at one input. -/
def heapMergesWrong : ChangeSpec := { name := "heapMerges", fn := fun _ => fun
  | [d1, d2] => { results := [.lit (.bool false)], args := [d1, d2] }
  | _ => none }
def HeapMergesWrongFalsely : Prop := heapMergesRow.holds Try.pinned (OpenSpec.ofChange heapMergesWrong)

/- THE SECOND FORM. 'bulk': how many values and letters a reading holds, each counted each time it is reached (what is shared counts as often as it is met; a slice's spare places count too). A statement '..UptoSaid' is the law's where the arguments, and the package variables that the reading takes, are together of bulk at most 1048576: NARROWER than '..Said'. Prove '..Said' where nothing that the law and all that it calls make is longer than what came in: it says more and counts as full. Else prove '..UptoSaid'. A law counts once. -/
mutual
def uptoBulk {H : Type} : DataW H → Nat
  | .lit (.string bytes) => bytes.length + 1
  | .lit _ => 1
  | .nil => 1
  | .ptr d => uptoBulk d + 1
  | .slice elems spare => uptoBulkAll elems + uptoBulkAll spare + 1
  | .agg parts => uptoBulkAll parts + 1
  | .iface _ d => uptoBulk d + 1
  | .map entries => uptoBulkEntries entries + 1
  | .held _ => 1
def uptoBulkAll {H : Type} : List (DataW H) → Nat
  | [] => 0
  | d :: r => uptoBulk d + uptoBulkAll r
def uptoBulkEntries {H : Type} : List (Lit × DataW H) → Nat
  | [] => 0
  | x :: r => uptoBulkEntry x + uptoBulkEntries r
def uptoBulkEntry {H : Type} : Lit × DataW H → Nat
  | (.string bytes, d) => bytes.length + uptoBulk d + 1
  | (_, d) => uptoBulk d + 1
 end
def uptoSmall : (H : Type) → List (DataW H) → Bool := fun _ ds => decide (uptoBulkAll ds ≤ 1048576)
def OpenSpec.upto (s : _root_.Go.ChangeSpec) : _root_.Go.OpenSpec := { _root_.Go.OpenSpec.ofChange s with cond := some uptoSmall }

/-- 'saleroomlaw01.MoneyCeils', WHERE WHAT IT READS IS OF BULK AT MOST 1048576: true; the input reads as it did. -/
def moneyCeilsUptoRow : OpenClaim := { program := "ytbhpokcnkdgcmaa", sum := "60ee331e920dc9d3deb27a9b671194e58e142c024625c6f42639d62731facfd9", func := "saleroom/saleroomlaw01.MoneyCeils", spec := "moneyCeils", unfollowed := true, recurses := true, apart := false, narrowed := true }
def MoneyCeilsUptoSaid : Prop := moneyCeilsUptoRow.holds Try.pinned (OpenSpec.upto moneyCeilsSpec)

/-- 'saleroomlaw01.MoneyTwo', WHERE WHAT IT READS IS OF BULK AT MOST 1048576: true; the input reads as it did. -/
def moneyTwoUptoRow : OpenClaim := { program := "ytbhpokcnkdgcmaa", sum := "60ee331e920dc9d3deb27a9b671194e58e142c024625c6f42639d62731facfd9", func := "saleroom/saleroomlaw01.MoneyTwo", spec := "moneyTwo", unfollowed := true, recurses := true, apart := false, narrowed := true }
def MoneyTwoUptoSaid : Prop := moneyTwoUptoRow.holds Try.pinned (OpenSpec.upto moneyTwoSpec)

/-- 'saleroomlaw01.MoneyBack', WHERE WHAT IT READS IS OF BULK AT MOST 1048576: true; the input reads as it did. -/
def moneyBackUptoRow : OpenClaim := { program := "ytbhpokcnkdgcmaa", sum := "60ee331e920dc9d3deb27a9b671194e58e142c024625c6f42639d62731facfd9", func := "saleroom/saleroomlaw01.MoneyBack", spec := "moneyBack", unfollowed := true, recurses := true, apart := false, narrowed := true }
def MoneyBackUptoSaid : Prop := moneyBackUptoRow.holds Try.pinned (OpenSpec.upto moneyBackSpec)

/-- 'saleroomlaw13.HeapPlays', WHERE WHAT IT READS IS OF BULK AT MOST 1048576: true; the input reads as it did. -/
def heapPlaysUptoRow : OpenClaim := { program := "ytbhpokcnkdgcmaa", sum := "60ee331e920dc9d3deb27a9b671194e58e142c024625c6f42639d62731facfd9", func := "saleroom/saleroomlaw13.HeapPlays", spec := "heapPlays", unfollowed := true, recurses := true, apart := false, narrowed := true }
def HeapPlaysUptoSaid : Prop := heapPlaysUptoRow.holds Try.pinned (OpenSpec.upto heapPlaysSpec)

/-- 'saleroomlaw13.HeapSorts', WHERE WHAT IT READS IS OF BULK AT MOST 1048576: true; the input reads as it did. -/
def heapSortsUptoRow : OpenClaim := { program := "ytbhpokcnkdgcmaa", sum := "60ee331e920dc9d3deb27a9b671194e58e142c024625c6f42639d62731facfd9", func := "saleroom/saleroomlaw13.HeapSorts", spec := "heapSorts", unfollowed := true, recurses := true, apart := false, narrowed := true }
def HeapSortsUptoSaid : Prop := heapSortsUptoRow.holds Try.pinned (OpenSpec.upto heapSortsSpec)

/-- 'saleroomlaw13.HeapGrows', WHERE WHAT IT READS IS OF BULK AT MOST 1048576: true; the input reads as it did. -/
def heapGrowsUptoRow : OpenClaim := { program := "ytbhpokcnkdgcmaa", sum := "60ee331e920dc9d3deb27a9b671194e58e142c024625c6f42639d62731facfd9", func := "saleroom/saleroomlaw13.HeapGrows", spec := "heapGrows", unfollowed := true, recurses := true, apart := false, narrowed := true }
def HeapGrowsUptoSaid : Prop := heapGrowsUptoRow.holds Try.pinned (OpenSpec.upto heapGrowsSpec)

/-- 'saleroomlaw05.CodecWrites', WHERE WHAT IT READS IS OF BULK AT MOST 1048576: true; the input reads as it did. -/
def codecWritesUptoRow : OpenClaim := { program := "ytbhpokcnkdgcmaa", sum := "60ee331e920dc9d3deb27a9b671194e58e142c024625c6f42639d62731facfd9", func := "saleroom/saleroomlaw05.CodecWrites", spec := "codecWrites", unfollowed := true, recurses := true, apart := false, narrowed := true }
def CodecWritesUptoSaid : Prop := codecWritesUptoRow.holds Try.pinned (OpenSpec.upto codecWritesSpec)

/-- 'saleroomlaw05.CodecBack', WHERE WHAT IT READS IS OF BULK AT MOST 1048576: true; the input reads as it did. -/
def codecBackUptoRow : OpenClaim := { program := "ytbhpokcnkdgcmaa", sum := "60ee331e920dc9d3deb27a9b671194e58e142c024625c6f42639d62731facfd9", func := "saleroom/saleroomlaw05.CodecBack", spec := "codecBack", unfollowed := true, recurses := true, apart := false, narrowed := true }
def CodecBackUptoSaid : Prop := codecBackUptoRow.holds Try.pinned (OpenSpec.upto codecBackSpec)

/-- 'saleroomlaw05.CodecEnds', WHERE WHAT IT READS IS OF BULK AT MOST 1048576: true; the input reads as it did. -/
def codecEndsUptoRow : OpenClaim := { program := "ytbhpokcnkdgcmaa", sum := "60ee331e920dc9d3deb27a9b671194e58e142c024625c6f42639d62731facfd9", func := "saleroom/saleroomlaw05.CodecEnds", spec := "codecEnds", unfollowed := true, recurses := true, apart := false, narrowed := true }
def CodecEndsUptoSaid : Prop := codecEndsUptoRow.holds Try.pinned (OpenSpec.upto codecEndsSpec)

/-- 'saleroomlaw13.HeapMerges', WHERE WHAT IT READS IS OF BULK AT MOST 1048576: true; the input reads as it did. -/
def heapMergesUptoRow : OpenClaim := { program := "ytbhpokcnkdgcmaa", sum := "60ee331e920dc9d3deb27a9b671194e58e142c024625c6f42639d62731facfd9", func := "saleroom/saleroomlaw13.HeapMerges", spec := "heapMerges", unfollowed := true, recurses := true, apart := false, narrowed := true }
def HeapMergesUptoSaid : Prop := heapMergesUptoRow.holds Try.pinned (OpenSpec.upto heapMergesSpec)

end Rows
end Go.Proofs.Ytbhpokcnkdgcmaa
