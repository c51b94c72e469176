/- Bytes as cells. No program in sight. -/
import Derived.WalkKit
namespace Go.Proofs.Ytakeilefbcpabaa

def bv (b : UInt8) : Value := .int .u8 (b.toNat : Int)
def bvs (l : List UInt8) : List Value := l.map bv
/-- Bytes with noughts behind them. -/
def zeros (n : Nat) : List UInt8 := List.replicate n 0
theorem zeros_length (n : Nat) : (zeros n).length = n := List.length_replicate ..
theorem bvs_oneCell (l : List UInt8) : ∀ v ∈ bvs l, v.oneCell' = true := by
  intro v hv
  obtain ⟨b, _, rfl⟩ := List.mem_map.1 hv
  rfl
theorem bvs_length (l : List UInt8) : (bvs l).length = l.length := by simp [bvs]
theorem bvs_append (l m : List UInt8) : bvs (l ++ m) = bvs l ++ bvs m := by simp [bvs]
end Go.Proofs.Ytakeilefbcpabaa
