/- The register's values held against one another. -/
import Derived.Test.YtakeilefbcpabaaMo
namespace Go.Proofs.Ytakeilefbcpabaa
open Go.RowKit

theorem keyOk_value : Try.prog.keyTypeAt 5 31 = true := by kernel_rfl
theorem guard_value : Try.prog.eqGuardType Try.prog.depth 31 = false := by kernel_rfl
theorem lits_int {d : Nat} {z : Int} (h : -9223372036854775808 ≤ z ∧ z ≤ 9223372036854775807) : Try.prog.keyLits (d + 1) 3 [.int .i64 z] = some [Lit.int .i64 z] := by
  have hw : (Lit.int .i64 z).wf = true := by simp [Lit.wf, IntKind.min, IntKind.max, IntKind.signed, IntKind.bits]; omega
  simp [Program.keyLits, Try.underlying3, hw]
theorem lits_value {c e : Int} {r : List UInt8} (hc : -9223372036854775808 ≤ c ∧ c ≤ 9223372036854775807) (he : -9223372036854775808 ≤ e ∧ e ≤ 9223372036854775807) (hr : r.length = 32) :
    Try.prog.keyLits 5 31 (valueCells c e r).toList = some (Lit.int .i64 c :: Lit.int .i64 e :: r.map fun b => Lit.int .u8 (b.toNat : Int)) := by
  have h1 : Try.prog.cellsOf 31 = 34 := by kernel_rfl
  have h2 : Try.prog.cellsOf 3 = 1 := by kernel_rfl
  have h3 : Try.prog.cellsOf 28 = 32 := by kernel_rfl
  have h4 : Try.prog.cellsOf 5 = 1 := by kernel_rfl
  have hb := lits_bytes (P := Try.prog) (d := 2) Try.underlying28 Try.underlying5 h4 h3 hr
  have hl : (valueCells c e r).toList.length = 34 := by rw [Array.length_toList]; exact valueCells_size c e hr
  have i1 := lits_int (d := 3) hc
  have i2 := lits_int (d := 3) he
  unfold Program.keyLits
  rw [Try.underlying31]
  simp only
  rw [if_pos ⟨by rw [hl, h1], by kernel_rfl⟩]
  have d0 : ((valueCells c e r).toList.drop 0).take 1 = [.int .i64 c] := rfl
  have d1 : ((valueCells c e r).toList.drop 1).take 1 = [.int .i64 e] := rfl
  have d2 : ((valueCells c e r).toList.drop 2).take 32 = bvs r := by
    show (bvs r).take 32 = bvs r
    exact List.take_of_length_le (by rw [bvs, List.length_map, hr]; omega)
  simp only [List.mapM_cons, List.mapM_nil, h2, h3, d0, d1, d2, i1, i2, hb]
  simp
theorem value_neq {c e c' e' : Int} {r r' : List UInt8} (hc : -9223372036854775808 ≤ c ∧ c ≤ 9223372036854775807) (he : -9223372036854775808 ≤ e ∧ e ≤ 9223372036854775807) (hr : r.length = 32)
    (hc' : -9223372036854775808 ≤ c' ∧ c' ≤ 9223372036854775807) (he' : -9223372036854775808 ≤ e' ∧ e' ≤ 9223372036854775807) (hr' : r'.length = 32) (w : World) :
    ∃ b, (binOp .neq 31 (.agg (valueCells c e r)) (.agg (valueCells c' e' r'))).run Try.prog w = .ok (.bool b) w ∧ (b = false ↔ c = c' ∧ e = e' ∧ r = r') := by
  have hf : ∀ {c e : Int} {r : List UInt8}, r.length = 32 → (Value.agg (valueCells c e r)).formed Try.prog 31 = true := by
    intro c e r hr
    have h1 : Try.prog.cellsOf 31 = 34 := by kernel_rfl
    simp only [Value.formed, Try.underlying31, valueCells_size c e hr, h1]
    rfl
  obtain ⟨b, h1, h2⟩ := run_neq_lits (P := Try.prog) (w := w) keyOk_value (by omega) (lits_value hc he hr) (lits_value hc' he' hr') (hf hr) (hf hr')
  refine ⟨b, h1, h2.trans ⟨fun h => ?_, fun ⟨h1, h2, h3⟩ => by rw [h1, h2, h3]⟩⟩
  simp only [List.cons.injEq, Lit.int.injEq, true_and] at h
  refine ⟨h.1, h.2.1, ?_⟩
  refine (List.map_inj_right ?_).1 h.2.2
  intro x y hxy
  simp only [Lit.int.injEq, true_and] at hxy
  exact UInt8.toNat_inj.1 (by omega)
theorem value_same {c e : Int} {r : List UInt8} (hc : -9223372036854775808 ≤ c ∧ c ≤ 9223372036854775807) (he : -9223372036854775808 ≤ e ∧ e ≤ 9223372036854775807) (hr : r.length = 32) (w : World) :
    (binOp .neq 31 (.agg (valueCells c e r)) (.agg (valueCells c e r))).run Try.prog w = .ok (.bool false) w := by
  obtain ⟨b, h1, h2⟩ := value_neq hc he hr hc he hr w
  rw [h1, h2.2 ⟨rfl, rfl, rfl⟩]

/-! ### A call of the scripts -/
structure MCall where
  kind : Int
  epoch : Int
  root : List UInt8
  keep : Int
structure MCall.WF (x : MCall) : Prop where
  k0 : -9223372036854775808 ≤ x.kind
  k1 : x.kind ≤ 9223372036854775807
  e0 : -9223372036854775808 ≤ x.epoch
  e1 : x.epoch ≤ 9223372036854775807
  root : x.root.length = 32
  p0 : 0 ≤ x.keep
  p1 : x.keep < 18446744073709551616
def mcallCells (x : MCall) : List Value := .int .i64 x.kind :: .int .i64 x.epoch :: (bvs x.root ++ [.int .u64 x.keep])
def IsMCall (_ : World) (x : MCall) (cs : List Value) : Prop := x.WF ∧ cs = mcallCells x
theorem mcall_length {x : MCall} (h : x.root.length = 32) : (mcallCells x).length = 35 := by simp [mcallCells, bvs, h]
theorem mcall_keep {x : MCall} (h : x.root.length = 32) : (mcallCells x)[34]? = some (.int .u64 x.keep) := by
  have e : (bvs x.root).length = 32 := by rw [bvs, List.length_map, h]
  simp only [mcallCells, List.getElem?_cons_succ]
  rw [List.getElem?_append_right (by omega), e]; rfl
theorem mcall_root {x : MCall} (h : x.root.length = 32) : (mcallCells x).toArray.extract 2 (2 + 32) = (bvs x.root).toArray := by
  have e : (bvs x.root).length = 32 := by rw [bvs, List.length_map, h]
  apply Array.ext'
  rw [Array.toList_extract, List.extract_eq_take_drop, mcallCells, List.toList_toArray, List.toList_toArray]
  show List.take 32 (bvs x.root ++ _) = _
  rw [List.take_left' e]
theorem mcall_all (x : MCall) : (mcallCells x).toArray.all (·.oneCell') = true := all_oneCell_toArray (by
  intro v hv
  simp only [mcallCells, List.mem_cons, List.mem_append, List.not_mem_nil, or_false] at hv
  rcases hv with rfl | rfl | hv | rfl
  · rfl
  · rfl
  · exact bvs_oneCell _ v hv
  · rfl)
/-- What the walk asks of a copy of a call at block v. -/
theorem mcall_facts {c : Con} {F : List HP} {w : World} {v : Nat} {x : MCall} {T : TypeId} (hx : x.root.length = 32) (H : St c (Pt v (.cells (mcallCells x).toArray T (0, 0)) :: F) w) :
    w.cell? ⟨v, 0, none⟩ = some (.int .i64 x.kind) ∧ w.cell? ⟨v, 1, none⟩ = some (.int .i64 x.epoch) ∧ w.cell? ⟨v, 34, none⟩ = some (.int .u64 x.keep) := by
  have h := H.pt
  exact ⟨cell_of_row w v 0 _ _ _ h, cell_of_row w v 1 _ _ _ h, by rw [cell_of_row w v 34 _ _ _ h, List.getElem?_toArray]; exact mcall_keep hx⟩
end Go.Proofs.Ytakeilefbcpabaa
