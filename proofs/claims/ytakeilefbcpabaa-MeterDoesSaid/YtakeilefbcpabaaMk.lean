/- The calls of the laws on the register, opened. -/
import Derived.Test.YtakeilefbcpabaaMp
import Derived.Test.YtakeilefbcpabaaOq
namespace Go.Proofs.Ytakeilefbcpabaa
open Go.ChangeShapes Go.WideShapes Go.ChangeAt Go.RowKit Go.Deep

section
variable {H : Type} {enc : TypeId × Value → H} {W : World}
theorem elem_mcall (n : Nat) (cs : List Value) (x : DataW H × List MemPlace) (hc : cs.length = 35) (h : DataW.trod enc Try.prog W 0 (fun _ => true) true n 40 cs = some x) : ∃ y : MCall, IsMCall W y cs := by
  obtain ⟨y0, y1, y2, y3, n, _, _, h0, h1, h2, h3⟩ := Go.Joins.trod_struct4 Try.underlying40 h
  obtain ⟨k, e0, k0, k1⟩ := elem_int Try.underlying3 h0
  obtain ⟨e, e1, e0', e1'⟩ := elem_int Try.underlying3 h1
  obtain ⟨r, e2, hr⟩ := elem_bytes Try.underlying28 Try.underlying5 (by kernel_rfl) (by kernel_rfl) h2
  obtain ⟨p, e3, p0, p1⟩ := elem_u64 Try.underlying38 h3
  refine ⟨⟨k, e, r, p⟩, ⟨k0, k1, e0', e1', hr, p0, p1⟩, ?_⟩
  have q0 : (cs.drop 0).take 1 = [.int .i64 k] := (congrArg (fun n => (cs.drop 0).take n) (show 1 = Try.prog.cellsOf 3 by kernel_rfl)).trans e0
  have q1 : (cs.drop 1).take 1 = [.int .i64 e] := (congrArg (fun n => (cs.drop 1).take n) (show 1 = Try.prog.cellsOf 3 by kernel_rfl)).trans e1
  have q2 : (cs.drop 2).take 32 = bvs r := (congrArg (fun n => (cs.drop 2).take n) (show 32 = Try.prog.cellsOf 28 by kernel_rfl)).trans e2
  have q3 : (cs.drop 34).take 1 = [.int .u64 p] := (congrArg (fun n => (cs.drop 34).take n) (show 1 = Try.prog.cellsOf 38 by kernel_rfl)).trans e3
  have t3 : cs.drop 34 = [.int .u64 p] := by rw [← q3, List.take_of_length_le (by simp; omega)]
  have t2 : cs.drop 2 = bvs r ++ [.int .u64 p] := by
    rw [← List.take_append_drop 32 (cs.drop 2), q2, List.drop_drop, t3]
  have t1 : cs.drop 1 = .int .i64 e :: (bvs r ++ [.int .u64 p]) := by
    rw [← List.take_append_drop 1 (cs.drop 1), q1, List.drop_drop, t2]; rfl
  show cs = .int .i64 k :: .int .i64 e :: (bvs r ++ [.int .u64 p])
  rw [← List.take_append_drop 1 cs, t1]
  rw [List.drop_zero] at q0
  rw [q0]; rfl
theorem open_mcalls {a : Option Addr} {len cap : Nat} {d : DataW H} {ps : List MemPlace}
    (h : DataW.Trod enc Try.prog W 0 (fun _ => true) true 36 (.slice a len cap) d ps) : ∃ zs, ElemsOf IsMCall 35 W a len zs := by
  obtain ⟨fuel, hf⟩ := h
  obtain ⟨a', len', cap', hcs, _, _, _, ys, hy⟩ := open_elems Try.underlying36 (by kernel_rfl) elem_mcall hf
  simp [Value.cells] at hcs
  obtain ⟨rfl, rfl, rfl⟩ := hcs
  exact ⟨ys, hy⟩
end
end Go.Proofs.Ytakeilefbcpabaa
