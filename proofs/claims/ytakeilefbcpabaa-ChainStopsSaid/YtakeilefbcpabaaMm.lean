/- The register as plain data, and how it lies in memory; a disk or none. -/
import Derived.Test.YtakeilefbcpabaaDn
namespace Go.Proofs.Ytakeilefbcpabaa
open Go.RowKit

structure MeterM where
  count : Int
  epoch : Int
  root : List UInt8
  most : Int
structure MeterM.WF (M : MeterM) : Prop where
  root : M.root.length = 32
  count0 : 0 ≤ M.count
  count1 : M.count ≤ M.most
  most : M.most ≤ 1099511627776
  epoch0 : 0 ≤ M.epoch
  epoch1 : M.epoch ≤ 9223372036854775807

/-- A disk, or none. -/
abbrev DiskO := Option DiskM
namespace DiskO
def down : DiskO → Bool | none => false | some D => D.down
def goes : DiskO → Bool | none => false | some D => D.goes
def keeps : DiskO → Int | none => 0 | some D => D.keeps
def act : DiskO → DiskO | none => none | some D => some D.act
def off (k : Int) : DiskO → DiskO | none => none | some D => some (D.off k)
end DiskO
def DiskV (dv : Value) : DiskO → HP
  | none => fun _ => dv = .pointer none
  | some D => fun h => ∃ p, dv = .pointer (some ⟨p, 0, none⟩) ∧ DiskAt p D h

namespace MeterM
def nextE (M : MeterM) (D : DiskO) (ep : Int) : Int :=
  if D.down then 8 else if ep < M.epoch then 1 else if M.most - M.count = 0 then 10 else if D.goes then 8 else 0
/-- It goes on. -/
def steps (M : MeterM) (D : DiskO) (ep : Int) : Bool := !D.down && !decide (ep < M.epoch) && !decide (M.most - M.count = 0)
def next (M : MeterM) (D : DiskO) (ep : Int) (r : List UInt8) : MeterM :=
  if M.steps D ep && (!D.goes || decide (9223372036854775808 ≤ D.keeps)) then { M with count := M.count + 1, epoch := ep, root := r } else M
def nextD (M : MeterM) (D : DiskO) (ep : Int) : DiskO :=
  if M.steps D ep then (if D.goes then D.act.off D.keeps else D.act) else D
end MeterM

theorem MeterM.WF.next {M : MeterM} (h : M.WF) (D : DiskO) (ep : Int) (r : List UInt8) (hr : r.length = 32) (h1 : ep ≤ 9223372036854775807) : (M.next D ep r).WF := by
  unfold MeterM.next
  split
  · rename_i hs
    have e : ¬ ep < M.epoch ∧ ¬ M.most - M.count = 0 := by
      simp only [MeterM.steps, Bool.and_eq_true, Bool.not_eq_true', decide_eq_false_iff_not] at hs
      exact ⟨hs.1.1.2, hs.1.2⟩
    have := h.count0; have := h.count1; have := h.most; have := h.epoch0
    exact ⟨hr, by show 0 ≤ M.count + 1; omega, by show M.count + 1 ≤ M.most; omega, h.most, by show 0 ≤ ep; omega, h1⟩
  · exact h

def meterCells (dv : Value) (M : MeterM) : Array Value := (.int .i64 M.count :: .int .i64 M.epoch :: (bvs M.root ++ [.int .i64 M.most, dv])).toArray
def MeterAt (m : Nat) (dv : Value) (M : MeterM) : HP := Pure M.WF (Pt m (.cells (meterCells dv M) 34 (0, 0)))

theorem meterCells_most (dv : Value) {M : MeterM} (h : M.root.length = 32) : (meterCells dv M)[34]? = some (.int .i64 M.most) := by
  have e : (bvs M.root).length = 32 := by rw [bvs, List.length_map, h]
  simp only [meterCells, List.getElem?_toArray, List.getElem?_cons_succ]
  rw [List.getElem?_append_right (by omega), e]; rfl
theorem meterCells_disk (dv : Value) {M : MeterM} (h : M.root.length = 32) : (meterCells dv M)[35]? = some dv := by
  have e : (bvs M.root).length = 32 := by rw [bvs, List.length_map, h]
  simp only [meterCells, List.getElem?_toArray, List.getElem?_cons_succ]
  rw [List.getElem?_append_right (by omega), e]; rfl
theorem meterCells_size (dv : Value) {M : MeterM} (h : M.root.length = 32) : (meterCells dv M).size = 36 := by
  simp [meterCells, bvs, h]
/-- What a load, a store of the value is. -/
def valueCells (c e : Int) (r : List UInt8) : Array Value := (.int .i64 c :: .int .i64 e :: bvs r).toArray
theorem meterCells_value (dv : Value) {M : MeterM} (h : M.root.length = 32) : (meterCells dv M).extract 0 (0 + 34) = valueCells M.count M.epoch M.root := by
  have e : (bvs M.root).length = 32 := by rw [bvs, List.length_map, h]
  apply Array.ext'
  rw [Array.toList_extract, List.extract_eq_take_drop, List.drop_zero, meterCells, List.toList_toArray, valueCells, List.toList_toArray]
  show List.take 34 _ = _
  rw [List.take_succ_cons, List.take_succ_cons, List.take_left' e]
theorem meterCells_store (dv : Value) {M : MeterM} (h : M.root.length = 32) (c e : Int) {r : List UInt8} (hr : r.length = 32) :
    (splice (meterCells dv M).toList 0 (valueCells c e r).toList).toArray = meterCells dv { M with count := c, epoch := e, root := r } := by
  have e1 : (bvs M.root).length = 32 := by rw [bvs, List.length_map, h]
  have e2 : (bvs r).length = 32 := by rw [bvs, List.length_map, hr]
  congr 1
  rw [splice, List.take_zero, List.nil_append, Nat.zero_add, valueCells, List.toList_toArray, List.length_cons, List.length_cons, e2, meterCells, List.toList_toArray]
  rw [List.drop_succ_cons, List.drop_succ_cons, ← e1, List.drop_left]
  rfl
theorem valueCells_size (c e : Int) {r : List UInt8} (hr : r.length = 32) : (valueCells c e r).size = 34 := by simp [valueCells, bvs, hr]
theorem valueCells_all (c e : Int) (r : List UInt8) : (valueCells c e r).all (·.oneCell') = true := all_oneCell_toArray (by
  intro v hv
  rcases List.mem_cons.1 hv with rfl | hv
  · rfl
  · rcases List.mem_cons.1 hv with rfl | hv
    · rfl
    · exact bvs_oneCell _ v hv)
def zeroRoot : List UInt8 := zeros 32
theorem zeroRoot_length : zeroRoot.length = 32 := zeros_length 32
theorem build_value (a b : Int) (r : List UInt8) (hr : r.length = 32) (w : World) :
    (Instr.build 31 #[(0, .int .i64 a), (1, .int .i64 b), (2, .agg (bvs r).toArray)]).run Try.prog w = .ok (.agg (valueCells a b r)) w := by
  have hs : (bvs r).length = 32 := by rw [bvs, List.length_map, hr]
  have e : valueCells a b r = (#[Value.int IntKind.i64 a, Value.int IntKind.i64 b] : Array Value) ++ (bvs r).toArray := by simp [valueCells]
  rw [e]
  generalize hb : (bvs r).toArray = cells
  have hc : cells.size = 32 := by rw [← hb, List.size_toArray, hs]
  clear e hb
  simp [Instr.build, go_sem, hc]
  rw [fold_arr 2 32 cells _ hc (by rw [hc]; simp)]
  have hl : cells.toList.length = 32 := by simpa using hc
  simp [splice, hl]
end Go.Proofs.Ytakeilefbcpabaa
