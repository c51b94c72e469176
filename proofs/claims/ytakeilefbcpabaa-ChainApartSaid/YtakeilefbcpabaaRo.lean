/- A slice of bytes among the arguments, and inside a struct's cells. -/
import Derived.Test.YtakeilefbcpabaaRd
namespace Go.Proofs.Ytakeilefbcpabaa
open Go.RowKit
section
variable {H : Type} {enc : TypeId × Value → H} {W : World}
theorem elem_slice_bytes {P : Program} {t e : TypeId} (ht : P.underlying t = some (.slice e)) (he : P.underlying e = some (.int .u8)) (hs : P.cellsOf e = 1) {n : Nat} {cs : List Value} {x : DataW H × List MemPlace}
    (h : DataW.trod enc P W 0 (fun _ => true) true n t cs = some x) : ∃ a len cap, ∃ l : List UInt8, cs = [.slice a len cap] ∧ l.length = len ∧ Reads W (.slice a len cap) len 1 (bvs l) := by
  obtain ⟨a, len, cap, rfl, h0, h1, h2, ys, hy⟩ := open_elems (R := IsByte) ht hs (fun n cs x _ hh => elem_byte he hh) h
  exact ⟨a, len, cap, ys, rfl, reads_of_elems hy h0 h1 h2⟩
theorem open_bytes {P : Program} {t e : TypeId} (ht : P.underlying t = some (.slice e)) (he : P.underlying e = some (.int .u8)) (hs : P.cellsOf e = 1) {a : Option Addr} {len cap : Nat} {d : DataW H} {ps : List MemPlace}
    (h : DataW.Trod enc P W 0 (fun _ => true) true t (.slice a len cap) d ps) : ∃ l : List UInt8, l.length = len ∧ Reads W (.slice a len cap) len 1 (bvs l) := by
  obtain ⟨fuel, hf⟩ := h
  obtain ⟨a', len', cap', l, hcs, h1, h2⟩ := elem_slice_bytes ht he hs hf
  simp [Value.cells] at hcs
  obtain ⟨rfl, rfl, rfl⟩ := hcs
  exact ⟨l, h1, h2⟩
end
end Go.Proofs.Ytakeilefbcpabaa
