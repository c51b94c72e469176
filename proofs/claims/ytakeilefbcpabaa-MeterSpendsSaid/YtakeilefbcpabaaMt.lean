/- MeterSpends: the walk, for every input. -/
import Derived.Test.YtakeilefbcpabaaMs
namespace Go.Proofs.Ytakeilefbcpabaa
open Go.RowKit
theorem meterSpends_walk (most : Int) (A : Option Addr) (len cap : Nat) (zs : List Int) (w : World) (_h : (Lit.int .i64 most).wf = true) (hrow : RowOf .i64 w A len cap zs) :
    Calls Try.prog 3 #[.int .i64 most, .slice A len cap] w fun e w' => e = .returned (.bool true) ∧ Below w.heap.size w w' := by
  by_cases h : most < 0 ∨ 60 < most ∨ 60 < len
  · exact meterSpends_out most A len cap w hrow.2.1 h
  · exact meterSpends_in most A len cap zs w hrow (by omega) (by omega) (by omega)
end Go.Proofs.Ytakeilefbcpabaa
