/- Forge, as it is asked for by the laws. -/
import Derived.Test.YtakeilefbcpabaaRf
import Derived.Test.YtakeilefbcpabaaDg
namespace Go.Proofs.Ytakeilefbcpabaa
open Go.RowKit
section
variable {c : Con} {F : List HP} {w : World} {p : Nat} {D D' : DiskM}
theorem disk_forge_is (i : Int) (i0 : -9223372036854775808 ≤ i) (i1 : i ≤ 9223372036854775807) (v : Value) (b : List UInt8) {E : Int} (hE : D.forgeE i b.length = E) (hD : D.forge i b = D') (hb : ∀ W, St c F W → Reads W v b.length 1 (bvs b)) (hwl : D.waits.length ≤ 1073741824) (H : St c (DiskAt p D :: F) w) :
    Calls Try.prog 41 #[.pointer (some ⟨p, 0, none⟩), .int .i64 i, v] w fun e w' => e = .returned (.int .i64 E) ∧ St c (DiskAt p D' :: F) w' := by
  subst hE hD
  exact disk_forge i0 i1 v b hb hwl H
end
end Go.Proofs.Ytakeilefbcpabaa
