/- The register with a disk: its calls said of the disk itself; comparisons of values. -/
import Derived.Test.YtakeilefbcpabaaMl
import Derived.DeepKeys
namespace Go.Proofs.Ytakeilefbcpabaa
open Go.RowKit

section
variable {c : Con} {F : List HP} {w : World} {m p : Nat} {M : MeterM} {D : DiskM}

theorem St.toV (H : St c (DiskAt p D :: F) w) : St c (DiskV (.pointer (some ⟨p, 0, none⟩)) (some D) :: F) w := H.toDisk
theorem St.ofV (H : St c (DiskV (.pointer (some ⟨p, 0, none⟩)) (some D) :: F) w) : St c (DiskAt p D :: F) w := by
  obtain ⟨q, e, H2⟩ := H.someDisk
  cases e
  exact H2
def MeterM.nextDm (M : MeterM) (D : DiskM) (ep : Int) : DiskM := if M.steps (some D) ep then (if D.goes then D.act.off D.keeps else D.act) else D
theorem nextD_some (M : MeterM) (D : DiskM) (ep : Int) : M.nextD (some D) ep = some (M.nextDm D ep) := by
  unfold MeterM.nextD MeterM.nextDm
  split
  · show (if D.goes = true then _ else _) = _
    split <;> rfl
  · rfl
theorem meter_next_d (H : St c (MeterAt m (.pointer (some ⟨p, 0, none⟩)) M :: DiskAt p D :: F) w) (ep : Int) (cs : Array Value) (r : List UInt8) (hcs : cs = (bvs r).toArray) (hr : r.length = 32) (he1 : ep ≤ 9223372036854775807) {E : Int} {M' : MeterM} {D' : DiskM}
    (h1 : M.nextE (some D) ep = E) (h2 : M.next (some D) ep r = M') (h3 : M.nextDm D ep = D') :
    Calls Try.prog 19 #[.pointer (some ⟨m, 0, none⟩), .int .i64 ep, .agg cs] w fun e w' =>
      e = .returned (.int .i64 E) ∧ St c (MeterAt m (.pointer (some ⟨p, 0, none⟩)) M' :: DiskAt p D' :: F) w' := by
  subst hcs h1 h2 h3
  refine (meter_next (D := some D) H.swap.toV.swap ep r hr he1).mono ?_
  rintro e w' ⟨h1, h2⟩
  rw [nextD_some] at h2
  exact ⟨h1, h2.swap.ofV.swap⟩
theorem meter_get_d (hd : D.down = false) (H : St c (MeterAt m (.pointer (some ⟨p, 0, none⟩)) M :: DiskAt p D :: F) w) :
    Calls Try.prog 25 #[.pointer (some ⟨m, 0, none⟩)] w fun e w' =>
      e = .returned (.tuple #[.agg (valueCells M.count M.epoch M.root), .int .i64 0]) ∧ St c (MeterAt m (.pointer (some ⟨p, 0, none⟩)) M :: DiskAt p D :: F) w' := by
  refine (meter_get (D := some D) (Lib.hid hd) H.swap.toV.swap).mono ?_
  rintro e w' ⟨h1, h2⟩
  exact ⟨h1, h2.swap.ofV.swap⟩
theorem meter_get_down_d (hd : D.down = true) (H : St c (MeterAt m (.pointer (some ⟨p, 0, none⟩)) M :: DiskAt p D :: F) w) :
    Calls Try.prog 25 #[.pointer (some ⟨m, 0, none⟩)] w fun e w' =>
      e = .returned (.tuple #[.agg (valueCells 0 0 zeroRoot), .int .i64 8]) ∧ St c (MeterAt m (.pointer (some ⟨p, 0, none⟩)) M :: DiskAt p D :: F) w' := by
  refine (meter_get_down (D := some D) (Lib.hid hd) H.swap.toV.swap).mono ?_
  rintro e w' ⟨h1, h2⟩
  exact ⟨h1, h2.swap.ofV.swap⟩
end

/-! ### Values held against one another -/
section
variable {P : Program} {op : Oper} {a : Act} {w : World} {K : Act → World → Prop} {Q : Exit → Act → World → Prop}
theorem mapM_all {α β : Type} {f : α → Option β} {g : α → β} : ∀ (l : List α), (∀ i ∈ l, f i = some (g i)) → l.mapM f = some (l.map g)
  | [], _ => rfl
  | x :: l, h => by
    rw [List.mapM_cons, h x List.mem_cons_self, mapM_all l fun i hi => h i (List.mem_cons_of_mem _ hi)]; rfl
theorem flatten_ones {α β : Type} (h : α → β) : ∀ l : List α, (l.map fun i => [h i]).flatten = l.map h
  | [] => rfl
  | x :: l => by rw [List.map_cons, List.flatten_cons, flatten_ones h l]; rfl
theorem lits_bytes {t e : TypeId} {k d : Nat} (ht : P.underlying t = some (.array k e)) (he : P.underlying e = some (.int .u8)) (hc : P.cellsOf e = 1) (hk : P.cellsOf t = k) {r : List UInt8} (hr : r.length = k) :
    P.keyLits (d + 2) t (bvs r) = some (r.map fun b => Lit.int .u8 (b.toNat : Int)) := by
  have hb : ∀ b : UInt8, P.keyLits (d + 1) e [bv b] = some [Lit.int .u8 (b.toNat : Int)] := by
    intro b
    have h1 := b.toNat_lt
    have hw : (Lit.int .u8 (b.toNat : Int)).wf = true := by
      simp [Lit.wf, IntKind.min, IntKind.max, IntKind.signed, IntKind.bits]; omega
    simp [Program.keyLits, he, bv, hw]
  have hm : (List.range k).mapM (fun i => P.keyLits (d + 1) e (((bvs r).drop (i * P.cellsOf e)).take (P.cellsOf e))) = some ((List.range k).map fun i => [Lit.int .u8 ((r.getD i 0).toNat : Int)]) := by
    refine mapM_all _ fun i hi => ?_
    have hi' : i < r.length := by rw [hr]; exact List.mem_range.1 hi
    rw [hc, Nat.mul_one, List.drop_eq_getElem_cons (by rw [bvs, List.length_map]; exact hi'), List.take_succ_cons, List.take_zero]
    have e : (bvs r)[i]'(by rw [bvs, List.length_map]; exact hi') = bv (r.getD i 0) := by
      rw [List.getD_eq_getElem?_getD, List.getElem?_eq_getElem hi']; simp [bvs]
    rw [e, hb]
  unfold Program.keyLits
  rw [ht]
  simp only
  rw [if_pos (by rw [bvs, List.length_map, hr, hk]), hm, Option.map_some, flatten_ones]
  congr 1
  apply List.ext_getElem
  · simp [hr]
  · intro i h1 h2
    have hi : i < r.length := by simpa using h2
    simp [List.getElem?_eq_getElem hi]
/-- '!=' of two arrays, two structs that are told by their lits. -/
theorem run_neq_lits {t : TypeId} {m D : Nat} {xs ys : Array Value} {L M : List Lit} (hk : P.keyTypeAt m t = true) (hm : m ≤ 10000)
    (hx : P.keyLits D t xs.toList = some L) (hy : P.keyLits D t ys.toList = some M) (fx : (Value.agg xs).formed P t = true) (fy : (Value.agg ys).formed P t = true) :
    ∃ r, (binOp .neq t (.agg xs) (.agg ys)).run P w = .ok (.bool r) w ∧ (r = false ↔ L = M) := by
  have h := run_equalIn_deep (P := P) (10000 - m) m t hk
  rw [Nat.sub_add_cancel hm] at h
  obtain ⟨r, h1, h2⟩ := h w D D (.agg xs) (.agg ys) L M fx fy hx hy
  refine ⟨!r, ?_, ?_⟩
  · rw [run_neq_struct, h1]; rfl
  · rw [← h2]; cases r <;> simp
theorem run_eql_lits {t : TypeId} {m D : Nat} {xs ys : Array Value} {L M : List Lit} (hk : P.keyTypeAt m t = true) (hm : m ≤ 10000)
    (hx : P.keyLits D t xs.toList = some L) (hy : P.keyLits D t ys.toList = some M) (fx : (Value.agg xs).formed P t = true) (fy : (Value.agg ys).formed P t = true) :
    ∃ r, (binOp .eql t (.agg xs) (.agg ys)).run P w = .ok (.bool r) w ∧ (r = true ↔ L = M) := by
  have h := run_equalIn_deep (P := P) (10000 - m) m t hk
  rw [Nat.sub_add_cancel hm] at h
  obtain ⟨r, h1, h2⟩ := h w D D (.agg xs) (.agg ys) L M fx fy hx hy
  refine ⟨r, ?_, h2⟩
  rw [run_eql_struct, h1]; rfl
/-- The operation: what it leaves. -/
theorem op_cmp (bo : BinOp) (t : TypeId) (x y : Operand) (t' : TypeId) (ho : op.op = .binOp bo t x y t') (xs ys : Array Value) (r : Bool) (hx : a.eval x = .agg xs) (hy : a.eval y = .agg ys)
    (hg : P.eqGuardType P.depth t = false) (hr : (binOp bo t (.agg xs) (.agg ys)).run P w = .ok (.bool r) w) (h : K (a.put op.dst (.bool r)) w) : op.wp P a w K Q := by
  unfold Oper.wp execOp
  simp only [ho, hx, hy, Sem.run_bind, run_eqGuard_agg w bo t x y xs ys hg, hr, Result.andThen_ok, Sem.run_pure]
  exact h
end
end Go.Proofs.Ytakeilefbcpabaa
