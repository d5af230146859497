/- hold: the purse's functions. -/
import Derived.Test.YtmdacfgofilbdaaLed2
import Derived.Deep.RegionWith
import Derived.Deep.RegionHeld3
import Derived.Deep.AppendLies
import Derived.Deep.RegionLaw
set_option linter.unusedSimpArgs false
set_option linter.unusedVariables false
namespace Go.Proofs.Ytmdacfgofilbdaa.Led
open Go.RowKit Go.Proofs.Ytmdacfgofilbdaa.TabL Go.Proofs.YtmdacfgofilbdaaW.PrintWords Go.Proofs.Ytmdacfgofilbdaa.PHoldPlays
open Go.Proofs.Ytmdacfgofilbdaa.TabB (ltI lin getV TMg)
attribute [local go_sem] Oper.semAt_some

end Go.Proofs.Ytmdacfgofilbdaa.Led

/- hold: Set, Refund. -/
set_option linter.unusedSimpArgs false
set_option linter.unusedVariables false
namespace Go.Proofs.Ytmdacfgofilbdaa.Led
open Go.RowKit Go.Proofs.Ytmdacfgofilbdaa.TabL Go.Proofs.YtmdacfgofilbdaaW.PrintWords Go.Proofs.Ytmdacfgofilbdaa.PHoldPlays
open Go.Proofs.Ytmdacfgofilbdaa.TabB (ltI lin getV TMg)
attribute [local go_sem] Oper.semAt_some

/-- what Set lets go: the move -/
def setM (xs : Bs) (who n : Int) : Mv := if 0 ≤ n - getV xs (holdA who) then (freeA who, holdA who, n - getV xs (holdA who)) else (holdA who, freeA who, -(n - getV xs (holdA who)))
def setE (xs : Bs) (who n : Int) : Int := if partyA who = false ∨ rightM n = false then 1 else moveE (getV xs) (setM xs who n)
def setB (xs : Bs) (who n : Int) : Bs := if partyA who = false ∨ rightM n = false then xs else moveL xs (setM xs who n)
end Go.Proofs.Ytmdacfgofilbdaa.Led

/- hold: Settle. -/
set_option linter.unusedSimpArgs false
set_option linter.unusedVariables false
namespace Go.Proofs.Ytmdacfgofilbdaa.Led
open Go.RowKit Go.Proofs.Ytmdacfgofilbdaa.TabL Go.Proofs.YtmdacfgofilbdaaW.PrintWords Go.Proofs.Ytmdacfgofilbdaa.PHoldPlays
open Go.Proofs.Ytmdacfgofilbdaa.TabB (ltI lin getV TMg)
attribute [local go_sem] Oper.semAt_some

theorem infoM : (Try.prog.info? 78).map (fun i => (i.zero, i.size, i.bytes)) = some (some (.agg #[.int .i64 0, .int .i64 0, .int .i64 0]), 3, 24) := by kernel_rfl
theorem cM_length (m : Mv) : (cM m).length = 3 := rfl
def cB (b : Int × Int) : List Value := [.int .i64 b.1, .int .i64 b.2]
/-- the moves of bills -/
def bms (bills : List (Int × Int)) : List Mv := bills.map (fun b => (holdA b.1, 1, b.2))
end Go.Proofs.Ytmdacfgofilbdaa.Led
