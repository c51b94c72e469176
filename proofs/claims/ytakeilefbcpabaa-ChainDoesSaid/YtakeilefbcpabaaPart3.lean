/- Part 3 of what the statement rests on: each piece below begins with its own remark. -/
import Derived.Test.YtakeilefbcpabaaPart2
import Derived.RangeFuncLeaves
import Derived.RangeFuncSeq
import Derived.RangeFuncRecord
import Derived.OrdersIn
import Derived.TacticsIn
/- The register: what each call does. -/
namespace Go.Proofs.Ytakeilefbcpabaa
open Go.RowKit

section
variable {c : Con} {F : List HP} {w : World} {m : Nat} {M : MeterM} {dv : Value} {D : DiskO}

theorem dv_form (H : St c (DiskV dv D :: F) w) : dv = .pointer none ∨ ∃ p, dv = .pointer (some ⟨p, 0, none⟩) := by
  obtain ⟨h, a, _⟩ := H.get
  cases D with
  | none => exact .inl a
  | some D => obtain ⟨p, e, _⟩ := a; exact .inr ⟨p, e⟩
theorem St.someDisk {D : DiskM} (H : St c (DiskV dv (some D) :: F) w) : ∃ p, dv = .pointer (some ⟨p, 0, none⟩) ∧ St c (DiskAt p D :: F) w := by
  obtain ⟨h, ⟨p, e, a⟩, l, r⟩ := H.stars
  exact ⟨p, e, H.con, h, a, l, r⟩
theorem St.toDisk {D : DiskM} {p : Nat} (H : St c (DiskAt p D :: F) w) : St c (DiskV (.pointer (some ⟨p, 0, none⟩)) (some D) :: F) w := H.imp fun _ a => ⟨p, rfl, a⟩
theorem St.noDisk (H : St c F w) : St c (DiskV (.pointer none) none :: F) w := H.new w _ rfl (fun _ _ => rfl) rfl

/-- Down, Act, Off of a disk or none. -/
theorem disko_down (H : St c (DiskV dv D :: F) w) :
    Calls Try.prog 40 #[dv] w fun e w' => e = .returned (.bool D.down) ∧ w = w' := by
  cases D with
  | none => obtain ⟨h, rfl, _⟩ := H.get; exact disk_down_nil w
  | some D => obtain ⟨p, rfl, H2⟩ := H.someDisk; exact disk_down H2
theorem disko_down_is {b : Bool} (hd : Hid (D.down = b)) (H : St c (DiskV dv D :: F) w) :
    Calls Try.prog 40 #[dv] w fun e w' => e = .returned (.bool b) ∧ w = w' := by
  have h := disko_down H
  rw [hd.out] at h
  exact h
theorem disko_act (H : St c (DiskV dv D :: F) w) :
    Calls Try.prog 57 #[dv] w fun e w' => e = .returned (.tuple #[.bool D.goes, .int .u64 D.keeps]) ∧ St c (DiskV dv D.act :: F) w' := by
  cases D with
  | none =>
    obtain ⟨h, rfl, _⟩ := H.get
    exact (disk_act_nil w).mono fun e w' ⟨h1, h2⟩ => ⟨h1, by rw [← h2]; exact H⟩
  | some D =>
    obtain ⟨p, rfl, H2⟩ := H.someDisk
    exact (disk_act H2).mono fun e w' ⟨h1, h2⟩ => ⟨h1, h2.toDisk⟩
theorem disko_off (H : St c (DiskV dv D :: F) w) (hg : D.goes = true) (k : Int) (hk0 : 0 ≤ k) (hk1 : k < 18446744073709551616) (D1 : DiskO) (H1 : St c (DiskV dv D1 :: F) w) (hd : D1 = D.act) :
    Calls Try.prog 22 #[dv, .int .u64 k] w fun e w' => e = .returned (.tuple #[]) ∧ St c (DiskV dv (D.act.off k) :: F) w' := by
  subst hd
  cases D with
  | none => simp [DiskO.goes] at hg
  | some D =>
    obtain ⟨p, rfl, H2⟩ := H1.someDisk
    exact (disk_off H2 k hk0 hk1).mono fun e w' ⟨h1, h2⟩ => ⟨h1, h2.toDisk⟩

theorem meter_cells (H : St c (MeterAt m dv M :: F) w) : M.WF ∧ w.heap[m]? = some (.cells (meterCells dv M) 34 (0, 0)) := by
  obtain ⟨h, H⟩ := St.pure H
  exact ⟨h, H.pt⟩

/-- Left. -/
theorem meter_left (H : St c (MeterAt m dv M :: F) w) :
    Calls Try.prog 20 #[.pointer (some ⟨m, 0, none⟩)] w fun e w' => e = .returned (.int .i64 (M.most - M.count)) ∧ ∃ n, w' = w.drewN n := by
  obtain ⟨hw, hm⟩ := meter_cells H
  have hc0 : w.cell? ⟨m, 0, none⟩ = some (.int .i64 M.count) := cell_of_row w m 0 _ _ _ hm
  have hc34 : w.cell? ⟨m, 34, none⟩ = some (.int .i64 M.most) := (cell_of_row w m 34 _ _ _ hm).trans (meterCells_most dv hw.root)
  have h1 := hw.count0
  have h2 := hw.count1
  have h3 := hw.most
  clear hm
  go_enter Try.func20, Try.ntmps20
  go_wp2
  go_quiet (fail)
  go_wp2
  go_returns
  exact ⟨by go_num, _, rfl⟩
theorem meter_left_nil (w : World) :
    Calls Try.prog 20 #[.pointer none] w fun e w' => e = .returned (.int .i64 0) ∧ w = w' := by
  go_enter Try.func20, Try.ntmps20
  go_wp2
  go_returns
  exact ⟨rfl, rfl⟩

/-- New. -/
def meterOf (most : Int) : MeterM := ⟨0, 0, zeroRoot, min (max most 0) 1099511627776⟩
theorem meterOf_wf (most : Int) : (meterOf most).WF := ⟨zeroRoot_length, by simp [meterOf], by simp only [meterOf]; omega, by simp only [meterOf]; omega, by simp [meterOf], by simp [meterOf]⟩
theorem meterCells_new (dv : Value) (x : Int) : (#[.int .i64 0, .int .i64 0, .int .u8 0, .int .u8 0, .int .u8 0, .int .u8 0, .int .u8 0, .int .u8 0, .int .u8 0, .int .u8 0, .int .u8 0, .int .u8 0, .int .u8 0, .int .u8 0, .int .u8 0, .int .u8 0, .int .u8 0, .int .u8 0, .int .u8 0, .int .u8 0, .int .u8 0, .int .u8 0, .int .u8 0, .int .u8 0, .int .u8 0, .int .u8 0, .int .u8 0, .int .u8 0, .int .u8 0, .int .u8 0, .int .u8 0, .int .u8 0, .int .u8 0, .int .u8 0, .int .i64 x, dv] : Array Value) = meterCells dv ⟨0, 0, zeroRoot, x⟩ := by kernel_rfl
set_option maxRecDepth 100000 in
theorem meter_new (H : St c F w) (most : Int) (dv : Value) (hdv : dv = .pointer none ∨ ∃ p, dv = .pointer (some ⟨p, 0, none⟩)) :
    Calls Try.prog 18 #[.int .i64 most, dv] w fun e w' => ∃ m, e = .returned (.pointer (some ⟨m, 0, none⟩)) ∧ St c (MeterAt m dv (meterOf most) :: F) w' := by
  have HF : ∀ (x : Int) (cs : Array Value), x = min (max most 0) 1099511627776 → cs = meterCells dv ⟨0, 0, zeroRoot, x⟩ → St c (MeterAt w.heap.size dv (meterOf most) :: F) (w.alloc (.cells cs 34)) := by
    rintro x cs rfl rfl
    exact St.toPure (meterOf_wf most) (H.allocPt _)
  have HF := Lib.hid HF
  rcases hdv with rfl | ⟨p, rfl⟩
  · go_enter Try.func18, Try.ntmps18
    go_wp2
    all_goals go_returns
    all_goals exact ⟨_, rfl, HF.out _ _ (by omega) (meterCells_new _ _)⟩
  · go_enter Try.func18, Try.ntmps18
    go_wp2
    all_goals go_returns
    all_goals exact ⟨_, rfl, HF.out _ _ (by omega) (meterCells_new _ _)⟩

theorem value_info : (Try.prog.info? 31).map (·.size) = some 34 := by kernel_rfl
theorem value_zero : (Try.prog.info? 31).map (fun i => (i.zero, i.size)) = some (some (.agg (valueCells 0 0 zeroRoot)), 34) := by kernel_rfl
theorem value_build (w : World) : (Instr.build 31 #[]).run Try.prog w = .ok (.agg (valueCells 0 0 zeroRoot)) w := by kernel_rfl
set_option maxRecDepth 100000 in
set_option maxHeartbeats 1000000 in
/-- Get. -/
theorem meter_get_down (hd : Hid (D.down = true)) (H : St c (MeterAt m dv M :: DiskV dv D :: F) w) :
    Calls Try.prog 25 #[.pointer (some ⟨m, 0, none⟩)] w fun e w' =>
      e = .returned (.tuple #[.agg (valueCells 0 0 zeroRoot), .int .i64 8]) ∧
      St c (MeterAt m dv M :: DiskV dv D :: F) w' := by
  obtain ⟨hw, hm⟩ := meter_cells H
  clear hm
  have hv := meterCells_value dv hw.root
  have hsz := meterCells_size dv hw.root
  have Hvs := Lib.hid (valueCells_size M.count M.epoch hw.root)
  have Hvz := Lib.hid (valueCells_size 0 0 zeroRoot_length)
  have Hv := Lib.hid hv
  have Hsz := Lib.hid hsz
  clear hv hsz
  go_enter Try.func25, Try.ntmps25
  go_upto_region 1 with (refine go_alloc_big (P := Try.prog) (op := ⟨some 2, .alloc 31, _, _, _, _⟩) (by rfl) _ (by rfl) value_zero ?_)
  refine wp_gen (H.allocPt (.cells (valueCells 0 0 zeroRoot) 31)) ?_
  generalize w.heap.size = q
  clear H
  intro w1 H
  obtain ⟨_, hm⟩ := meter_cells H.tail
  have hc35 : w1.cell? ⟨m, 35, none⟩ = some dv := (cell_of_row w1 m 35 _ _ _ hm).trans (meterCells_disk dv hw.root)
  have Hm := Lib.hid hm
  have Hq := Lib.hid H.pt
  have Hi := Lib.hid value_info
  have hdv := dv_form H.tail.tail
  clear hm
  rcases hdv with rfl | ⟨p, rfl⟩
  all_goals
    go_wp2_with (first
      | (go_at_call 40; refine (disko_down_is hd H.pull2).mono ?_; rintro e w' ⟨rfl, rfl⟩)
      | (refine wpList_plain (o := ⟨some 14, .build 31 #[], _, _, _, _⟩) (by rfl) (fun K hK => op_build (P := Try.prog) _ _ (by rfl) #[] (by rfl) _ (value_build _) (hK _ _ ?_)))
      | (refine go_store_row (P := Try.prog) (op := ⟨none, .store 31 (.tmp 2) (.tmp 14), _, _, _, _⟩) (by rfl) _ _ _ (by rfl) q 0 (valueCells 0 0 zeroRoot) (valueCells 0 0 zeroRoot) (by rfl) (by rfl) 31 (by exact Hq.out) (by rw [Hvz.out]; omega) (by rw [Hvz.out]; exact Hi.out) (valueCells_all _ _ _) ?_))
    have H2 := H.setRowPt (splice (valueCells 0 0 zeroRoot).toList 0 (valueCells 0 0 zeroRoot).toList).toArray
    rw [splice_whole _ _ rfl, Array.toArray_toList] at H2 ⊢
    exact bodyPost_ret (results_ct rfl _ _ q _ _ (0, 0) _ (by rfl) H2.pt Try.underlying31 rfl (by rw [Hvz.out]; exact Hi.out)) rfl ⟨rfl, H2.tail⟩

set_option maxRecDepth 100000 in
set_option maxHeartbeats 1000000 in
/-- Get. -/
theorem meter_get (hd : Hid (D.down = false)) (H : St c (MeterAt m dv M :: DiskV dv D :: F) w) :
    Calls Try.prog 25 #[.pointer (some ⟨m, 0, none⟩)] w fun e w' =>
      e = .returned (.tuple #[.agg (valueCells M.count M.epoch M.root), .int .i64 0]) ∧
      St c (MeterAt m dv M :: DiskV dv D :: F) w' := by
  obtain ⟨hw, hm⟩ := meter_cells H
  clear hm
  have hv := meterCells_value dv hw.root
  have hsz := meterCells_size dv hw.root
  have Hvs := Lib.hid (valueCells_size M.count M.epoch hw.root)
  have Hvz := Lib.hid (valueCells_size 0 0 zeroRoot_length)
  have Hv := Lib.hid hv
  have Hsz := Lib.hid hsz
  clear hv hsz
  go_enter Try.func25, Try.ntmps25
  go_upto_region 1 with (refine go_alloc_big (P := Try.prog) (op := ⟨some 2, .alloc 31, _, _, _, _⟩) (by rfl) _ (by rfl) value_zero ?_)
  refine wp_gen (H.allocPt (.cells (valueCells 0 0 zeroRoot) 31)) ?_
  generalize w.heap.size = q
  clear H
  intro w1 H
  obtain ⟨_, hm⟩ := meter_cells H.tail
  have hc35 : w1.cell? ⟨m, 35, none⟩ = some dv := (cell_of_row w1 m 35 _ _ _ hm).trans (meterCells_disk dv hw.root)
  have Hm := Lib.hid hm
  have Hq := Lib.hid H.pt
  have Hi := Lib.hid value_info
  have hdv := dv_form H.tail.tail
  clear hm
  rcases hdv with rfl | ⟨p, rfl⟩
  all_goals
    go_wp2_with (first
      | (go_at_call 40; refine (disko_down_is hd H.pull2).mono ?_; rintro e w' ⟨rfl, rfl⟩)
      | (refine go_load_row (P := Try.prog) (op := ⟨some 18, .load 31 (.tmp 17), _, _, _, _⟩) (by rfl) _ _ (by rfl) m 0 34 (by rfl) _ _ 34 (0, 0) _ (by exact Hm.out) (by rw [Hsz.out]; omega) Hv.out Try.underlying31 (by rfl) Hi.out ?_)
      | (refine go_store_row (P := Try.prog) (op := ⟨none, .store 31 (.tmp 2) (.tmp 18), _, _, _, _⟩) (by rfl) _ _ _ (by rfl) q 0 (valueCells M.count M.epoch M.root) (valueCells 0 0 zeroRoot) (by rfl) (by rfl) 31 (by exact Hq.out) (by rw [Hvz.out, Hvs.out]; omega) (by rw [Hvs.out]; exact Hi.out) (valueCells_all _ _ _) ?_))
    have H2 := H.setRowPt (splice (valueCells 0 0 zeroRoot).toList 0 (valueCells M.count M.epoch M.root).toList).toArray
    rw [splice_whole _ _ (by rw [Array.length_toList, Array.length_toList, Hvz.out, Hvs.out]), Array.toArray_toList] at H2 ⊢
    exact bodyPost_ret (results_ct rfl _ _ q _ _ (0, 0) _ (by rfl) H2.pt Try.underlying31 rfl (by rw [Hvs.out]; exact Hi.out)) rfl ⟨rfl, H2.tail⟩
end
end Go.Proofs.Ytakeilefbcpabaa

/- The register goes on. -/
namespace Go.Proofs.Ytakeilefbcpabaa
open Go.RowKit

section
variable {c : Con} {F : List HP} {w : World} {m : Nat} {M : MeterM} {dv : Value} {D : DiskO}

theorem meter_dv (H : St c (MeterAt m dv M :: F) w) : w.cell? ⟨m, 35, none⟩ = some dv := by
  obtain ⟨hw, hm⟩ := meter_cells H
  exact (cell_of_row w m 35 _ _ _ hm).trans (meterCells_disk dv hw.root)
theorem disko_act_is {b : Bool} {k : Int} (hg : Hid (D.goes = b)) (hk : Hid (D.keeps = k)) (H : St c (DiskV dv D :: F) w) :
    Calls Try.prog 57 #[dv] w fun e w' => e = .returned (.tuple #[.bool b, .int .u64 k]) ∧ St c (DiskV dv D.act :: F) w' := by
  have h := disko_act H
  rw [hg.out, hk.out] at h
  exact h
theorem disko_off_is (H1 : St c (DiskV dv D.act :: F) w) (hg : D.goes = true) (k : Int) (hk0 : 0 ≤ k) (hk1 : k < 18446744073709551616) :
    Calls Try.prog 22 #[dv, .int .u64 k] w fun e w' => e = .returned (.tuple #[]) ∧ St c (DiskV dv (D.act.off k) :: F) w' := by
  cases D with
  | none => simp [DiskO.goes] at hg
  | some D =>
    obtain ⟨p, rfl, H2⟩ := H1.someDisk
    exact (disk_off H2 k hk0 hk1).mono fun e w' ⟨h1, h2⟩ => ⟨h1, h2.toDisk⟩
theorem St.keeps (H : St c (DiskV dv D :: F) w) : 0 ≤ D.keeps ∧ D.keeps < 18446744073709551616 := by
  cases D with
  | none => exact ⟨Int.le_refl _, by show (0 : Int) < _; omega⟩
  | some D =>
    obtain ⟨p, rfl, H2⟩ := H.someDisk
    obtain ⟨hw, _⟩ := H2.openDisk
    show 0 ≤ D.keeps ∧ D.keeps < _
    unfold DiskM.keeps
    split
    · exact ⟨hw.keep0, hw.keep1⟩
    · exact ⟨Int.le_refl _, by omega⟩
theorem root_info : (Try.prog.info? 28).map (·.size) = some 32 := by kernel_rfl

set_option maxRecDepth 100000 in
set_option maxHeartbeats 1000000 in
theorem meter_next_down (hd : Hid (D.down = true)) (H : St c (MeterAt m dv M :: DiskV dv D :: F) w) (ep : Int) (r : List UInt8) (_hr : r.length = 32) :
    Calls Try.prog 19 #[.pointer (some ⟨m, 0, none⟩), .int .i64 ep, .agg (bvs r).toArray] w fun e w' =>
      e = .returned (.int .i64 8) ∧ St c (MeterAt m dv M :: DiskV dv D :: F) w' := by
  obtain ⟨hw, _⟩ := meter_cells H
  have q0 := hw.count0
  have q1 := hw.count1
  have q2 := hw.most
  go_enter Try.func19, Try.ntmps19
  go_upto_region 1 with (fail)
  refine wp_gen (H.allocPt (.cells (bvs r).toArray 28)) ?_
  generalize w.heap.size = q
  clear H
  intro w1 H
  obtain ⟨_, hm⟩ := meter_cells H.tail
  have hc0 : w1.cell? ⟨m, 0, none⟩ = some (.int .i64 M.count) := cell_of_row w1 m 0 _ _ _ hm
  have hc1 : w1.cell? ⟨m, 1, none⟩ = some (.int .i64 M.epoch) := cell_of_row w1 m 1 _ _ _ hm
  have hc35 : w1.cell? ⟨m, 35, none⟩ = some dv := (cell_of_row w1 m 35 _ _ _ hm).trans (meterCells_disk dv hw.root)
  have hdv := dv_form H.tail.tail
  clear hm
  rcases hdv with rfl | ⟨p, rfl⟩
  all_goals
    go_wp2_with (go_at_call 40; refine (disko_down_is hd H.pull2).mono ?_; rintro e w' ⟨rfl, rfl⟩)
    go_returns
    exact ⟨rfl, H.tail⟩

set_option maxRecDepth 100000 in
set_option maxHeartbeats 1000000 in
theorem meter_next_arg (hd : Hid (D.down = false)) (H : St c (MeterAt m dv M :: DiskV dv D :: F) w) (ep : Int) (r : List UInt8) (_hr : r.length = 32) (he : ep < M.epoch) :
    Calls Try.prog 19 #[.pointer (some ⟨m, 0, none⟩), .int .i64 ep, .agg (bvs r).toArray] w fun e w' =>
      e = .returned (.int .i64 1) ∧ St c (MeterAt m dv M :: DiskV dv D :: F) w' := by
  obtain ⟨hw, _⟩ := meter_cells H
  have q0 := hw.count0
  have q1 := hw.count1
  have q2 := hw.most
  go_enter Try.func19, Try.ntmps19
  go_upto_region 1 with (fail)
  refine wp_gen (H.allocPt (.cells (bvs r).toArray 28)) ?_
  generalize w.heap.size = q
  clear H
  intro w1 H
  obtain ⟨_, hm⟩ := meter_cells H.tail
  have hc0 : w1.cell? ⟨m, 0, none⟩ = some (.int .i64 M.count) := cell_of_row w1 m 0 _ _ _ hm
  have hc1 : w1.cell? ⟨m, 1, none⟩ = some (.int .i64 M.epoch) := cell_of_row w1 m 1 _ _ _ hm
  have hc35 : w1.cell? ⟨m, 35, none⟩ = some dv := (cell_of_row w1 m 35 _ _ _ hm).trans (meterCells_disk dv hw.root)
  have hdv := dv_form H.tail.tail
  clear hm
  rcases hdv with rfl | ⟨p, rfl⟩
  all_goals
    go_wp2_with (go_at_call 40; refine (disko_down_is hd H.pull2).mono ?_; rintro e w' ⟨rfl, rfl⟩)
    go_returns
    exact ⟨rfl, H.tail⟩

set_option maxRecDepth 100000 in
set_option maxHeartbeats 1000000 in
theorem meter_next_spent (hd : Hid (D.down = false)) (H : St c (MeterAt m dv M :: DiskV dv D :: F) w) (ep : Int) (r : List UInt8) (_hr : r.length = 32) (he : M.epoch ≤ ep) (hs : Hid (M.most - M.count = 0)) :
    Calls Try.prog 19 #[.pointer (some ⟨m, 0, none⟩), .int .i64 ep, .agg (bvs r).toArray] w fun e w' =>
      e = .returned (.int .i64 10) ∧ St c (MeterAt m dv M :: DiskV dv D :: F) w' := by
  obtain ⟨hw, _⟩ := meter_cells H
  have q0 := hw.count0
  have q1 := hw.count1
  have q2 := hw.most
  go_enter Try.func19, Try.ntmps19
  go_upto_region 1 with (fail)
  refine wp_gen (H.allocPt (.cells (bvs r).toArray 28)) ?_
  generalize w.heap.size = q
  clear H
  intro w1 H
  obtain ⟨_, hm⟩ := meter_cells H.tail
  have hc0 : w1.cell? ⟨m, 0, none⟩ = some (.int .i64 M.count) := cell_of_row w1 m 0 _ _ _ hm
  have hc1 : w1.cell? ⟨m, 1, none⟩ = some (.int .i64 M.epoch) := cell_of_row w1 m 1 _ _ _ hm
  have hc35 : w1.cell? ⟨m, 35, none⟩ = some dv := (cell_of_row w1 m 35 _ _ _ hm).trans (meterCells_disk dv hw.root)
  have hdv := dv_form H.tail.tail
  clear hm
  have hs' : (M.most - M.count == 0) = true := by simpa using hs.out
  rcases hdv with rfl | ⟨p, rfl⟩
  all_goals
    go_wp2_with (first | (go_at_call 40; refine (disko_down_is hd H.pull2).mono ?_; rintro e w' ⟨rfl, rfl⟩) | (go_at_call 20; refine (meter_left H.tail).mono ?_; rintro e w' ⟨rfl, nq, rfl⟩))
    go_returns
    exact ⟨rfl, (H.drewN nq).tail⟩

set_option maxRecDepth 100000 in
set_option maxHeartbeats 1000000 in
theorem meter_next_ok (hd : Hid (D.down = false)) (hg : Hid (D.goes = false)) (hk : Hid (D.keeps = 0)) (H : St c (MeterAt m dv M :: DiskV dv D :: F) w) (ep : Int) (r : List UInt8) (hr : r.length = 32) (he : M.epoch ≤ ep) (he1 : ep ≤ 9223372036854775807) (hs : M.count < M.most) :
    Calls Try.prog 19 #[.pointer (some ⟨m, 0, none⟩), .int .i64 ep, .agg (bvs r).toArray] w fun e w' =>
      e = .returned (.int .i64 0) ∧ St c (MeterAt m dv { M with count := M.count + 1, epoch := ep, root := r } :: DiskV dv D.act :: F) w' := by
  obtain ⟨hw, _⟩ := meter_cells H
  have q0 := hw.count0
  have q1 := hw.count1
  have q2 := hw.most
  go_enter Try.func19, Try.ntmps19
  go_upto_region 1 with (fail)
  refine wp_gen (H.allocPt (.cells (bvs r).toArray 28)) ?_
  generalize w.heap.size = q
  clear H
  intro w1 H
  obtain ⟨_, hm⟩ := meter_cells H.tail
  have hc0 : w1.cell? ⟨m, 0, none⟩ = some (.int .i64 M.count) := cell_of_row w1 m 0 _ _ _ hm
  have hc1 : w1.cell? ⟨m, 1, none⟩ = some (.int .i64 M.epoch) := cell_of_row w1 m 1 _ _ _ hm
  have hc35 : w1.cell? ⟨m, 35, none⟩ = some dv := (cell_of_row w1 m 35 _ _ _ hm).trans (meterCells_disk dv hw.root)
  have hdv := dv_form H.tail.tail
  clear hm
  have hs' : (M.most - M.count == 0) = false := by rw [beq_eq_false_iff_ne]; omega
  rcases hdv with rfl | ⟨p, rfl⟩
  · go_upto_region 11 with (first | (go_at_call 40; refine (disko_down_is hd H.pull2).mono ?_; rintro e w' ⟨rfl, rfl⟩) | (go_at_call 20; refine (meter_left H.tail).mono ?_; rintro e w' ⟨rfl, nq, rfl⟩) | (go_at_call 57; refine (disko_act_is hg hk (H.drewN nq).pull2).mono ?_; rintro e w2 ⟨rfl, H2⟩))
    refine ex_gen' H2.pull2 ?_
    intro W HW
    obtain ⟨_, hm⟩ := meter_cells HW
    have hc0' : W.cell? ⟨m, 0, none⟩ = some (.int .i64 M.count) := cell_of_row W m 0 _ _ _ hm
    have Hm := Lib.hid hm
    have Hq := Lib.hid HW.pull2.pt
    have Hri := Lib.hid root_info
    have Hvi := Lib.hid value_info
    have Hrs := Lib.hid (show (bvs r).toArray.size = 32 from by rw [List.size_toArray, bvs, List.length_map, hr])
    have Hrx := Lib.hid (show (bvs r).toArray.extract 0 (0 + 32) = (bvs r).toArray from by rw [Nat.zero_add, ← Hrs.out]; exact Array.extract_size)
    have Hsz := Lib.hid (meterCells_size (.pointer none) hw.root)
    have Hvs := Lib.hid (valueCells_size (M.count + 1) ep hr)
    have Hst := Lib.hid (meterCells_store (.pointer none) hw.root (M.count + 1) ep hr)
    have hwn : ({ M with count := M.count + 1, epoch := ep, root := r } : MeterM).WF := ⟨hr, by show 0 ≤ M.count + 1; omega, by show M.count + 1 ≤ M.most; omega, hw.most, by show 0 ≤ ep; have := hw.epoch0; omega, he1⟩
    clear hm
    have hsum : IntKind.i64.wrap (M.count + 1) = M.count + 1 := IntWalk.i64_in _ (by omega)
    have hsum' : wrap64 (M.count + 1) = M.count + 1 := by unfold wrap64; omega
    refine region_tail 12 (by kernel_rfl) (by kernel_rfl) ?_
    simp only [List.take_succ_cons, List.take_zero, List.drop_succ_cons, List.drop_zero]
    iterate 8 still_step
    refine still_load_row (P := Try.prog) (op := ⟨some 53, .load 28 (.tmp 5), _, _, _, _⟩) (by rfl) _ _ (by rfl) q 0 32 (by rfl) _ _ 28 (0, 0) _ (by exact Hq.out) (by rw [Hrs.out]; omega) Hrx.out Try.underlying28 (by rfl) Hri.out ?_
    refine still_value (P := Try.prog) (op := ⟨some 54, .build 31 #[(0, .tmp 51), (1, .tmp 52), (2, .tmp 53)], _, _, _, _⟩) (by rfl) (run_build3 _ _ _ _ _ _ _ (by rfl) (.int .i64 (M.count + 1)) (.int .i64 ep) (.agg (bvs r).toArray) _ (by rfl) (by rfl) (by rfl) (build_value _ _ r hr _)) ?_
    iterate 2 still_step
    refine wpStill_nil ?_
    clear hsum hsum'
    refine go_store_row (P := Try.prog) (op := ⟨none, .store 31 (.tmp 56) (.tmp 54), _, _, _, _⟩) (by rfl) _ _ _ (by rfl) m 0 (valueCells (M.count + 1) ep r) (meterCells (.pointer none) M) (by rfl) (by rfl) 34 (by exact Hm.out) (by rw [Hsz.out, Hvs.out]; omega) (by rw [Hvs.out]; exact Hvi.out) (valueCells_all _ _ _) ?_
    refine wpList_nil ?_
    obtain ⟨_, HW1⟩ := St.pure HW.drew
    have H3 := HW1.setRowPt (splice (meterCells (.pointer none) M).toList 0 (valueCells (M.count + 1) ep r).toList).toArray
    rw [Hst.out] at H3 ⊢
    have H4 : St c (MeterAt m (.pointer none) { M with count := M.count + 1, epoch := ep, root := r } :: DiskV (.pointer none) D.act :: F) (W.drew.setRow m (meterCells (.pointer none) { M with count := M.count + 1, epoch := ep, root := r })) := (St.toPure hwn H3).pull2.tail
    refine ex_gen (R := Exit.then _ _) H4 ?_
    clear H4 H3 HW1 HW H2 Hst hc0'
    intro W5 H5
    go_wp2
    go_returns
    exact ⟨rfl, H5⟩
  · go_upto_region 11 with (first | (go_at_call 40; refine (disko_down_is hd H.pull2).mono ?_; rintro e w' ⟨rfl, rfl⟩) | (go_at_call 20; refine (meter_left H.tail).mono ?_; rintro e w' ⟨rfl, nq, rfl⟩) | (go_at_call 57; refine (disko_act_is hg hk (H.drewN nq).pull2).mono ?_; rintro e w2 ⟨rfl, H2⟩))
    refine ex_gen' H2.pull2 ?_
    intro W HW
    obtain ⟨_, hm⟩ := meter_cells HW
    have hc0' : W.cell? ⟨m, 0, none⟩ = some (.int .i64 M.count) := cell_of_row W m 0 _ _ _ hm
    have Hm := Lib.hid hm
    have Hq := Lib.hid HW.pull2.pt
    have Hri := Lib.hid root_info
    have Hvi := Lib.hid value_info
    have Hrs := Lib.hid (show (bvs r).toArray.size = 32 from by rw [List.size_toArray, bvs, List.length_map, hr])
    have Hrx := Lib.hid (show (bvs r).toArray.extract 0 (0 + 32) = (bvs r).toArray from by rw [Nat.zero_add, ← Hrs.out]; exact Array.extract_size)
    have Hsz := Lib.hid (meterCells_size (.pointer (some ⟨p, 0, none⟩)) hw.root)
    have Hvs := Lib.hid (valueCells_size (M.count + 1) ep hr)
    have Hst := Lib.hid (meterCells_store (.pointer (some ⟨p, 0, none⟩)) hw.root (M.count + 1) ep hr)
    have hwn : ({ M with count := M.count + 1, epoch := ep, root := r } : MeterM).WF := ⟨hr, by show 0 ≤ M.count + 1; omega, by show M.count + 1 ≤ M.most; omega, hw.most, by show 0 ≤ ep; have := hw.epoch0; omega, he1⟩
    clear hm
    have hsum : IntKind.i64.wrap (M.count + 1) = M.count + 1 := IntWalk.i64_in _ (by omega)
    have hsum' : wrap64 (M.count + 1) = M.count + 1 := by unfold wrap64; omega
    refine region_tail 12 (by kernel_rfl) (by kernel_rfl) ?_
    simp only [List.take_succ_cons, List.take_zero, List.drop_succ_cons, List.drop_zero]
    iterate 8 still_step
    refine still_load_row (P := Try.prog) (op := ⟨some 53, .load 28 (.tmp 5), _, _, _, _⟩) (by rfl) _ _ (by rfl) q 0 32 (by rfl) _ _ 28 (0, 0) _ (by exact Hq.out) (by rw [Hrs.out]; omega) Hrx.out Try.underlying28 (by rfl) Hri.out ?_
    refine still_value (P := Try.prog) (op := ⟨some 54, .build 31 #[(0, .tmp 51), (1, .tmp 52), (2, .tmp 53)], _, _, _, _⟩) (by rfl) (run_build3 _ _ _ _ _ _ _ (by rfl) (.int .i64 (M.count + 1)) (.int .i64 ep) (.agg (bvs r).toArray) _ (by rfl) (by rfl) (by rfl) (build_value _ _ r hr _)) ?_
    iterate 2 still_step
    refine wpStill_nil ?_
    clear hsum hsum'
    refine go_store_row (P := Try.prog) (op := ⟨none, .store 31 (.tmp 56) (.tmp 54), _, _, _, _⟩) (by rfl) _ _ _ (by rfl) m 0 (valueCells (M.count + 1) ep r) (meterCells (.pointer (some ⟨p, 0, none⟩)) M) (by rfl) (by rfl) 34 (by exact Hm.out) (by rw [Hsz.out, Hvs.out]; omega) (by rw [Hvs.out]; exact Hvi.out) (valueCells_all _ _ _) ?_
    refine wpList_nil ?_
    obtain ⟨_, HW1⟩ := St.pure HW.drew
    have H3 := HW1.setRowPt (splice (meterCells (.pointer (some ⟨p, 0, none⟩)) M).toList 0 (valueCells (M.count + 1) ep r).toList).toArray
    rw [Hst.out] at H3 ⊢
    have H4 : St c (MeterAt m (.pointer (some ⟨p, 0, none⟩)) { M with count := M.count + 1, epoch := ep, root := r } :: DiskV (.pointer (some ⟨p, 0, none⟩)) D.act :: F) (W.drew.setRow m (meterCells (.pointer (some ⟨p, 0, none⟩)) { M with count := M.count + 1, epoch := ep, root := r })) := (St.toPure hwn H3).pull2.tail
    refine ex_gen (R := Exit.then _ _) H4 ?_
    clear H4 H3 HW1 HW H2 Hst hc0'
    intro W5 H5
    go_wp2
    go_returns
    exact ⟨rfl, H5⟩
set_option maxRecDepth 100000 in
set_option maxHeartbeats 1000000 in
theorem meter_next_high (hd : Hid (D.down = false)) (hg : Hid (D.goes = true)) (k : Int) (hk : Hid (D.keeps = k)) (hkb : Hid ((k / 9223372036854775808 == 1) = true)) (H : St c (MeterAt m dv M :: DiskV dv D :: F) w) (ep : Int) (r : List UInt8) (hr : r.length = 32) (he : M.epoch ≤ ep) (he1 : ep ≤ 9223372036854775807) (hs : M.count < M.most) :
    Calls Try.prog 19 #[.pointer (some ⟨m, 0, none⟩), .int .i64 ep, .agg (bvs r).toArray] w fun e w' =>
      e = .returned (.int .i64 8) ∧ St c (MeterAt m dv { M with count := M.count + 1, epoch := ep, root := r } :: DiskV dv (D.act.off k) :: F) w' := by
  obtain ⟨hw, _⟩ := meter_cells H
  have q0 := hw.count0
  have q1 := hw.count1
  have q2 := hw.most
  go_enter Try.func19, Try.ntmps19
  go_upto_region 1 with (fail)
  refine wp_gen (H.allocPt (.cells (bvs r).toArray 28)) ?_
  generalize w.heap.size = q
  clear H
  intro w1 H
  obtain ⟨_, hm⟩ := meter_cells H.tail
  have hc0 : w1.cell? ⟨m, 0, none⟩ = some (.int .i64 M.count) := cell_of_row w1 m 0 _ _ _ hm
  have hc1 : w1.cell? ⟨m, 1, none⟩ = some (.int .i64 M.epoch) := cell_of_row w1 m 1 _ _ _ hm
  have hc35 : w1.cell? ⟨m, 35, none⟩ = some dv := (cell_of_row w1 m 35 _ _ _ hm).trans (meterCells_disk dv hw.root)
  have hdv := dv_form H.tail.tail
  clear hm
  obtain ⟨k0, k1⟩ := H.tail.tail.keeps
  rw [hk.out] at k0 k1
  have hs' : (M.most - M.count == 0) = false := by rw [beq_eq_false_iff_ne]; omega
  have hp : ∃ p, dv = .pointer (some ⟨p, 0, none⟩) := by
    rcases hdv with rfl | h
    · cases D with
      | none => exact absurd hg.out (by simp [DiskO.goes])
      | some D => obtain ⟨h, ⟨p, e, _⟩, _⟩ := H.tail.tail.get; cases e
    · exact h
  clear hdv
  obtain ⟨p, rfl⟩ := hp
  have hkb' := hkb.out
  go_upto_region 11 with (first | (go_at_call 40; refine (disko_down_is hd H.pull2).mono ?_; rintro e w' ⟨rfl, rfl⟩) | (go_at_call 20; refine (meter_left H.tail).mono ?_; rintro e w' ⟨rfl, nq, rfl⟩) | (go_at_call 57; refine (disko_act_is hg hk (H.drewN nq).pull2).mono ?_; rintro e w2 ⟨rfl, H2⟩))
  refine ex_gen' H2.pull2 ?_
  intro W HW
  obtain ⟨_, hm⟩ := meter_cells HW
  have hc0' : W.cell? ⟨m, 0, none⟩ = some (.int .i64 M.count) := cell_of_row W m 0 _ _ _ hm
  have Hm := Lib.hid hm
  have Hq := Lib.hid HW.pull2.pt
  have Hri := Lib.hid root_info
  have Hvi := Lib.hid value_info
  have Hrs := Lib.hid (show (bvs r).toArray.size = 32 from by rw [List.size_toArray, bvs, List.length_map, hr])
  have Hrx := Lib.hid (show (bvs r).toArray.extract 0 (0 + 32) = (bvs r).toArray from by rw [Nat.zero_add, ← Hrs.out]; exact Array.extract_size)
  have Hsz := Lib.hid (meterCells_size (.pointer (some ⟨p, 0, none⟩)) hw.root)
  have Hvs := Lib.hid (valueCells_size (M.count + 1) ep hr)
  have Hst := Lib.hid (meterCells_store (.pointer (some ⟨p, 0, none⟩)) hw.root (M.count + 1) ep hr)
  have hwn : ({ M with count := M.count + 1, epoch := ep, root := r } : MeterM).WF := ⟨hr, by show 0 ≤ M.count + 1; omega, by show M.count + 1 ≤ M.most; omega, hw.most, by show 0 ≤ ep; have := hw.epoch0; omega, he1⟩
  clear hm
  have hsum : IntKind.i64.wrap (M.count + 1) = M.count + 1 := IntWalk.i64_in _ (by omega)
  have hsum' : wrap64 (M.count + 1) = M.count + 1 := by unfold wrap64; omega
  refine region_tail 12 (by kernel_rfl) (by kernel_rfl) ?_
  simp only [List.take_succ_cons, List.take_zero, List.drop_succ_cons, List.drop_zero]
  iterate 8 still_step
  refine still_load_row (P := Try.prog) (op := ⟨some 53, .load 28 (.tmp 5), _, _, _, _⟩) (by rfl) _ _ (by rfl) q 0 32 (by rfl) _ _ 28 (0, 0) _ (by exact Hq.out) (by rw [Hrs.out]; omega) Hrx.out Try.underlying28 (by rfl) Hri.out ?_
  refine still_value (P := Try.prog) (op := ⟨some 54, .build 31 #[(0, .tmp 51), (1, .tmp 52), (2, .tmp 53)], _, _, _, _⟩) (by rfl) (run_build3 _ _ _ _ _ _ _ (by rfl) (.int .i64 (M.count + 1)) (.int .i64 ep) (.agg (bvs r).toArray) _ (by rfl) (by rfl) (by rfl) (build_value _ _ r hr _)) ?_
  iterate 2 still_step
  refine wpStill_nil ?_
  clear hsum hsum'
  refine go_store_row (P := Try.prog) (op := ⟨none, .store 31 (.tmp 56) (.tmp 54), _, _, _, _⟩) (by rfl) _ _ _ (by rfl) m 0 (valueCells (M.count + 1) ep r) (meterCells (.pointer (some ⟨p, 0, none⟩)) M) (by rfl) (by rfl) 34 (by exact Hm.out) (by rw [Hsz.out, Hvs.out]; omega) (by rw [Hvs.out]; exact Hvi.out) (valueCells_all _ _ _) ?_
  refine wpList_nil ?_
  obtain ⟨_, HW1⟩ := St.pure HW.drew
  have H3 := HW1.setRowPt (splice (meterCells (.pointer (some ⟨p, 0, none⟩)) M).toList 0 (valueCells (M.count + 1) ep r).toList).toArray
  rw [Hst.out] at H3 ⊢
  have H4 : St c (MeterAt m (.pointer (some ⟨p, 0, none⟩)) { M with count := M.count + 1, epoch := ep, root := r } :: DiskV (.pointer (some ⟨p, 0, none⟩)) D.act :: F) (W.drew.setRow m (meterCells (.pointer (some ⟨p, 0, none⟩)) { M with count := M.count + 1, epoch := ep, root := r })) := (St.toPure hwn H3).pull2.tail
  refine ex_gen (R := Exit.then _ _) H4 ?_
  clear H4 H3 HW1 HW H2 Hst hc0'
  intro W5 H5
  have hcx := meter_dv H5
  go_wp2_with (go_at_call 22; refine (disko_off_is H5.swap hg.out k k0 k1).mono ?_; rintro e w6 ⟨rfl, H6⟩)
  go_returns
  exact ⟨rfl, H6.swap⟩

set_option maxRecDepth 100000 in
set_option maxHeartbeats 1000000 in
theorem meter_next_low (hd : Hid (D.down = false)) (hg : Hid (D.goes = true)) (k : Int) (hk : Hid (D.keeps = k)) (hkb : Hid ((k / 9223372036854775808 == 1) = false)) (H : St c (MeterAt m dv M :: DiskV dv D :: F) w) (ep : Int) (r : List UInt8) (_hr : r.length = 32) (he : M.epoch ≤ ep) (_he1 : ep ≤ 9223372036854775807) (hs : M.count < M.most) :
    Calls Try.prog 19 #[.pointer (some ⟨m, 0, none⟩), .int .i64 ep, .agg (bvs r).toArray] w fun e w' =>
      e = .returned (.int .i64 8) ∧ St c (MeterAt m dv M :: DiskV dv (D.act.off k) :: F) w' := by
  obtain ⟨hw, _⟩ := meter_cells H
  have q0 := hw.count0
  have q1 := hw.count1
  have q2 := hw.most
  go_enter Try.func19, Try.ntmps19
  go_upto_region 1 with (fail)
  refine wp_gen (H.allocPt (.cells (bvs r).toArray 28)) ?_
  generalize w.heap.size = q
  clear H
  intro w1 H
  obtain ⟨_, hm⟩ := meter_cells H.tail
  have hc0 : w1.cell? ⟨m, 0, none⟩ = some (.int .i64 M.count) := cell_of_row w1 m 0 _ _ _ hm
  have hc1 : w1.cell? ⟨m, 1, none⟩ = some (.int .i64 M.epoch) := cell_of_row w1 m 1 _ _ _ hm
  have hc35 : w1.cell? ⟨m, 35, none⟩ = some dv := (cell_of_row w1 m 35 _ _ _ hm).trans (meterCells_disk dv hw.root)
  have hdv := dv_form H.tail.tail
  clear hm
  obtain ⟨k0, k1⟩ := H.tail.tail.keeps
  rw [hk.out] at k0 k1
  have hs' : (M.most - M.count == 0) = false := by rw [beq_eq_false_iff_ne]; omega
  have hp : ∃ p, dv = .pointer (some ⟨p, 0, none⟩) := by
    rcases hdv with rfl | h
    · cases D with
      | none => exact absurd hg.out (by simp [DiskO.goes])
      | some D => obtain ⟨h, ⟨p, e, _⟩, _⟩ := H.tail.tail.get; cases e
    · exact h
  clear hdv
  obtain ⟨p, rfl⟩ := hp
  have hkb' := hkb.out
  go_wp2_with (first | (go_at_call 40; refine (disko_down_is hd H.pull2).mono ?_; rintro e w' ⟨rfl, rfl⟩) | (go_at_call 20; refine (meter_left H.tail).mono ?_; rintro e w' ⟨rfl, nq, rfl⟩) | (go_at_call 57; refine (disko_act_is hg hk (H.drewN nq).pull2).mono ?_; rintro e w2 ⟨rfl, H2⟩; have hcx := meter_dv H2.pull2) | (go_at_call 22; refine (disko_off_is H2 hg.out k k0 k1).mono ?_; rintro e w6 ⟨rfl, H6⟩))
  go_returns
  exact ⟨rfl, H6.pull2.pull2.tail⟩

theorem nextD_down (hd : D.down = true) (ep : Int) : M.nextD D ep = D := by simp [MeterM.nextD, MeterM.steps, hd]
/-- Next, whatever happens. -/
theorem meter_next (H : St c (MeterAt m dv M :: DiskV dv D :: F) w) (ep : Int) (r : List UInt8) (hr : r.length = 32) (he1 : ep ≤ 9223372036854775807) :
    Calls Try.prog 19 #[.pointer (some ⟨m, 0, none⟩), .int .i64 ep, .agg (bvs r).toArray] w fun e w' =>
      e = .returned (.int .i64 (M.nextE D ep)) ∧ St c (MeterAt m dv (M.next D ep r) :: DiskV dv (M.nextD D ep) :: F) w' := by
  obtain ⟨hw, _⟩ := meter_cells H
  have q1 := hw.count1
  obtain ⟨k0, k1⟩ := H.swap.keeps
  cases hd : D.down
  case true =>
    have h := meter_next_down (Lib.hid hd) H ep r hr
    simpa [MeterM.nextE, MeterM.next, MeterM.nextD, MeterM.steps, hd] using h
  case false =>
    by_cases he : ep < M.epoch
    · have h := meter_next_arg (Lib.hid hd) H ep r hr he
      simpa [MeterM.nextE, MeterM.next, MeterM.nextD, MeterM.steps, hd, he] using h
    · by_cases hs : M.most - M.count = 0
      · have h := meter_next_spent (Lib.hid hd) H ep r hr (by omega) (Lib.hid hs)
        simpa [MeterM.nextE, MeterM.next, MeterM.nextD, MeterM.steps, hd, he, hs] using h
      · cases hg : D.goes
        case false =>
          have hk : D.keeps = 0 := by
            cases D with
            | none => rfl
            | some D => simpa [DiskO.keeps, DiskM.keeps, DiskO.goes] using fun h => absurd h (by simpa [DiskO.goes] using hg)
          have h := meter_next_ok (Lib.hid hd) (Lib.hid hg) (Lib.hid hk) H ep r hr (by omega) he1 (by omega)
          simpa [MeterM.nextE, MeterM.next, MeterM.nextD, MeterM.steps, hd, he, hs, hg] using h
        case true =>
          by_cases hk : 9223372036854775808 ≤ D.keeps
          · have hb : (D.keeps / 9223372036854775808 == 1) = true := by rw [beq_iff_eq]; omega
            have h := meter_next_high (Lib.hid hd) (Lib.hid hg) D.keeps (Lib.hid rfl) (Lib.hid hb) H ep r hr (by omega) he1 (by omega)
            simpa [MeterM.nextE, MeterM.next, MeterM.nextD, MeterM.steps, hd, he, hs, hg, hk] using h
          · have hb : (D.keeps / 9223372036854775808 == 1) = false := by rw [beq_eq_false_iff_ne]; omega
            have h := meter_next_low (Lib.hid hd) (Lib.hid hg) D.keeps (Lib.hid rfl) (Lib.hid hb) H ep r hr (by omega) he1 (by omega)
            simpa [MeterM.nextE, MeterM.next, MeterM.nextD, MeterM.steps, hd, he, hs, hg, hk] using h
end
end Go.Proofs.Ytakeilefbcpabaa

/- The laws on the register: what they ask first. -/
namespace Go.Proofs.Ytakeilefbcpabaa
open Go.RowKit

section
variable {c : Con} {F : List HP} {w : World} {m : Nat} {M : MeterM} {dv : Value} {D : DiskO}

theorem meter_next_at (H : St c (MeterAt m dv M :: DiskV dv D :: F) w) (ep : Int) (cs : Array Value) (r : List UInt8) (hcs : cs = (bvs r).toArray) (hr : r.length = 32) (he1 : ep ≤ 9223372036854775807) {E : Int} {M' : MeterM} {D' : DiskO}
    (h1 : M.nextE D ep = E) (h2 : M.next D ep r = M') (h3 : M.nextD D ep = D') :
    Calls Try.prog 19 #[.pointer (some ⟨m, 0, none⟩), .int .i64 ep, .agg cs] w fun e w' =>
      e = .returned (.int .i64 E) ∧ St c (MeterAt m dv M' :: DiskV dv D' :: F) w' := by
  subst hcs h1 h2 h3
  exact meter_next H ep r hr he1
theorem meter_left_is (H : St c (MeterAt m dv M :: F) w) {n : Int} (hn : M.most - M.count = n) :
    Calls Try.prog 20 #[.pointer (some ⟨m, 0, none⟩)] w fun e w' => e = .returned (.int .i64 n) ∧ ∃ n, w' = w.drewN n := by
  subst hn; exact meter_left H

set_option maxRecDepth 100000 in
set_option maxHeartbeats 1000000 in
theorem alive12 (H : St c F w) : Calls Try.prog 17 #[] w fun e w' => e = .returned (.bool true) ∧ St c F w' := by
  go_enter Try.func17, Try.ntmps17
  go_wp2_with fail
  refine (meter_new H 1 (.pointer none) (.inl rfl)).mono ?_
  rintro e w1 ⟨m, rfl, H1⟩
  replace H1 := H1.noDisk.swap
  go_wp2_with fail
  refine (meter_left_is H1 (n := 1) (by rfl)).mono ?_
  rintro e w2 ⟨rfl, n2, rfl⟩
  have H2 := H1.drewN n2
  go_wp2_with fail
  refine (meter_next_at H2 0 _ (7 :: zeros 31) (by kernel_rfl) (by rfl) (by omega) (E := 0) (M' := ⟨1, 0, 7 :: zeros 31, 1⟩) (D' := none) (by rfl) (by rfl) (by rfl)).mono ?_
  rintro e w3 ⟨rfl, H3⟩
  clear H1 H2 H
  go_wp2_with fail
  refine (meter_next_at H3 0 _ (zeros 32) (by kernel_rfl) (by rfl) (by omega) (E := 10) (M' := ⟨1, 0, 7 :: zeros 31, 1⟩) (D' := none) (by rfl) (by rfl) (by rfl)).mono ?_
  rintro e w4 ⟨rfl, H4⟩
  clear H3
  obtain ⟨_, hm⟩ := meter_cells H4
  have hc0 : w4.cell? ⟨m, 0, none⟩ = some (.int .i64 1) := cell_of_row w4 m 0 _ _ _ hm
  have hc2 : w4.cell? ⟨m, 2, none⟩ = some (.int .u8 7) := cell_of_row w4 m 2 _ _ _ hm
  clear hm
  go_wp2
  go_returns
  exact ⟨rfl, H4.tail.tail⟩
end
end Go.Proofs.Ytakeilefbcpabaa

/- MeterSpends: the walk. -/
namespace Go.Proofs.Ytakeilefbcpabaa
open Go.RowKit

def byteOf (x : Int) : UInt8 := UInt8.ofNat (x % 256).toNat
theorem bv_byteOf (x : Int) : bv (byteOf x) = .int .u8 (IntKind.u8.wrap x) := by
  have h : 0 ≤ x % 256 := Int.emod_nonneg x (by omega)
  have h2 : x % 256 < 256 := Int.emod_lt_of_pos x (by omega)
  have e : (byteOf x).toNat = (x % 256).toNat := by
    rw [byteOf, UInt8.toNat_ofNat']; omega
  rw [bv, e, Int.toNat_of_nonneg h, IntKind.wrap_u8]

theorem byteRoot0 (v : Int) : (#[.int .u8 v, .int .u8 0, .int .u8 0, .int .u8 0, .int .u8 0, .int .u8 0, .int .u8 0, .int .u8 0, .int .u8 0, .int .u8 0, .int .u8 0, .int .u8 0, .int .u8 0, .int .u8 0, .int .u8 0, .int .u8 0, .int .u8 0, .int .u8 0, .int .u8 0, .int .u8 0, .int .u8 0, .int .u8 0, .int .u8 0, .int .u8 0, .int .u8 0, .int .u8 0, .int .u8 0, .int .u8 0, .int .u8 0, .int .u8 0, .int .u8 0, .int .u8 0] : Array Value) = (Value.int .u8 v :: bvs (zeros 31)).toArray := by kernel_rfl
theorem byteRoot (x : Int) : (#[.int .u8 (IntKind.u8.wrap x), .int .u8 0, .int .u8 0, .int .u8 0, .int .u8 0, .int .u8 0, .int .u8 0, .int .u8 0, .int .u8 0, .int .u8 0, .int .u8 0, .int .u8 0, .int .u8 0, .int .u8 0, .int .u8 0, .int .u8 0, .int .u8 0, .int .u8 0, .int .u8 0, .int .u8 0, .int .u8 0, .int .u8 0, .int .u8 0, .int .u8 0, .int .u8 0, .int .u8 0, .int .u8 0, .int .u8 0, .int .u8 0, .int .u8 0, .int .u8 0, .int .u8 0] : Array Value) = (bvs (byteOf x :: zeros 31)).toArray := by
  have e : bvs (byteOf x :: zeros 31) = bv (byteOf x) :: bvs (zeros 31) := rfl
  rw [e, bv_byteOf]; exact byteRoot0 _
theorem nextD_none (M : MeterM) (ep : Int) : M.nextD none ep = none := by unfold MeterM.nextD; split <;> (try split) <;> rfl

/-- A slice of numbers that came in. -/
def RowOf (k : IntKind) (w : World) (A : Option Addr) (len _cap : Nat) (zs : List Int) : Prop :=
  zs.length = len ∧ len ≤ 9223372036854775807 ∧ (∀ j, j < len → ∃ a, A = some a ∧ w.cell? (a.add j) = some (.int k (zs.getD j 0))) ∧ ∀ z ∈ zs, (Lit.int k z).wf = true

section
set_option maxRecDepth 100000 in
set_option maxHeartbeats 1000000 in
theorem meterSpends_out (most : Int) (A : Option Addr) (len cap : Nat) (w : World) (hlen : len ≤ 9223372036854775807) (h : most < 0 ∨ 60 < most ∨ 60 < len) :
    Calls Try.prog 3 #[.int .i64 most, .slice A len cap] w fun e w' => e = .returned (.bool true) ∧ Below w.heap.size w w' := by
  have H := St.start w
  rcases h with h | h
  · go_enter Try.func3, Try.ntmps3
    go_wp2_with (go_at_call 17; refine (alive12 H).mono ?_; rintro e w1 ⟨rfl, H1⟩)
    go_returns
    exact ⟨rfl, H1.toBelow'⟩
  · by_cases h0 : most < 0
    · go_enter Try.func3, Try.ntmps3
      go_wp2_with (go_at_call 17; refine (alive12 H).mono ?_; rintro e w1 ⟨rfl, H1⟩)
      go_returns
      exact ⟨rfl, H1.toBelow'⟩
    · have h0' : 0 ≤ most := by omega
      have hd0 : decide (most < 0) = false := by simpa using h0
      by_cases h1 : 60 < most
      · go_enter Try.func3, Try.ntmps3
        go_wp2_with (go_at_call 17; refine (alive12 H).mono ?_; rintro e w1 ⟨rfl, H1⟩)
        go_returns
        exact ⟨rfl, H1.toBelow'⟩
      · have hd1 : decide (60 < most) = false := by simpa using h1
        have h1' : most ≤ 60 := by omega
        have h2 : 60 < len := by omega
        clear h h0 h1
        go_enter Try.func3, Try.ntmps3
        go_wp2_with (go_at_call 17; refine (alive12 H).mono ?_; rintro e w1 ⟨rfl, H1⟩)
        go_returns
        exact ⟨rfl, H1.toBelow'⟩

set_option maxRecDepth 100000 in
set_option maxHeartbeats 2000000 in
theorem meterSpends_in (most : Int) (A : Option Addr) (len cap : Nat) (zs : List Int) (w : World) (hrow : RowOf .i64 w A len cap zs) (h0 : 0 ≤ most) (h1 : most ≤ 60) (h2 : len ≤ 60) :
    Calls Try.prog 3 #[.int .i64 most, .slice A len cap] w fun e w' => e = .returned (.bool true) ∧ Below w.heap.size w w' := by
  have H := St.start w
  have hd0 : decide (most < 0) = false := by simpa using h0
  have hd1 : decide (60 < most) = false := by simpa using h1
  go_enter Try.func3, Try.ntmps3
  go_wp2_with (first
    | (go_at_call 17; refine (alive12 H).mono ?_; rintro e w1 ⟨rfl, H1⟩)
    | (go_at_call 18; refine (meter_new H1 most (.pointer none) (.inl rfl)).mono ?_; rintro e w2 ⟨m, rfl, H2⟩))
  replace H2 := H2.noDisk.swap
  clear H1 H
  go_loopw [28, 6, 7] (fun i n t wr => ∃ (j : Nat) (k x : Int) (r : List UInt8), j ≤ len ∧ i = .int .i64 j ∧ n = .int .i64 k ∧ t = .int .i64 x ∧ 0 ≤ k ∧ k ≤ most ∧ 0 ≤ x ∧ x ≤ 9223372036854775807 ∧
      St (conOf w) [MeterAt m (.pointer none) ⟨k, x, r, most⟩, DiskV (.pointer none) none, Old w] wr)
    (fun i _ _ _ => len - (intOf i).toNat)
  case atStart =>
    refine ⟨0, 0, 0, zeroRoot, Nat.zero_le _, rfl, rfl, rfl, by omega, h0, by omega, by omega, ?_⟩
    have e : meterOf most = ⟨0, 0, zeroRoot, most⟩ := by simp only [meterOf]; congr 1; omega
    rw [e] at H2; exact H2
  case round =>
    obtain ⟨j, k, x, r, hj, rfl, rfl, rfl, hk0, hk1, hx0, hx1, H3⟩ := hrel
    by_cases hlt : j < len
    · obtain ⟨hzl, hl63, hcell, hwf⟩ := hrow
      obtain ⟨a, rfl, hca⟩ := hcell j hlt
      have hzm : zs.getD j 0 ∈ zs := by
        rw [List.getD_eq_getElem?_getD, List.getElem?_eq_getElem (by omega)]
        exact List.getElem_mem _
      have hzw := hwf _ hzm
      generalize zs.getD j 0 = z at hca hzw
      obtain ⟨hz0, hz1⟩ : -9223372036854775808 ≤ z ∧ z ≤ 9223372036854775807 := by
        simp [Lit.wf, IntKind.min, IntKind.max, IntKind.signed, IntKind.bits] at hzw; omega
      have hca' : wr.cell? (a.add j) = some (.int .i64 z) := by
        rw [← hca]
        exact World.cell?_of_block (H3.pull2.old _ (World.block_lt_of_cell? w _ hca))
      clear hwf hzm hcell hzl
      by_cases hzx : z < x
      · go_wp2_with fail
        refine (meter_next_at H3 z _ (byteOf z :: zeros 31) (byteRoot z) (by rfl) hz1 (E := 1) (M' := ⟨k, x, r, most⟩) (D' := none) (by simp [MeterM.nextE, DiskO.down, hzx]) (by simp [MeterM.next, MeterM.steps, DiskO.down, hzx]) (nextD_none _ _)).mono ?_
        rintro e w4 ⟨rfl, H4⟩
        clear H3
        obtain ⟨_, hm⟩ := meter_cells H4
        have hc0 : w4.cell? ⟨m, 0, none⟩ = some (.int .i64 k) := cell_of_row w4 m 0 _ _ _ hm
        have hc1 : w4.cell? ⟨m, 1, none⟩ = some (.int .i64 x) := cell_of_row w4 m 1 _ _ _ hm
        clear hm hca'
        go_wp2_with (go_at_call 20; refine (meter_left_is H4 (n := most - k) rfl).mono ?_; rintro e w5 ⟨rfl, n5, rfl⟩)
        go_roundw
        case rel => exact ⟨j + 1, k, x, r, by omega, by go_num, rfl, rfl, by omega, by omega, by omega, by omega, H4.drewN _⟩
        case measure => simp [intOf]; omega
      · have hzx' : x ≤ z := by omega
        have hdz : decide (z < x) = false := by simpa using hzx
        by_cases hkm : k = most
        · subst hkm
          go_wp2_with fail
          refine (meter_next_at H3 z _ (byteOf z :: zeros 31) (byteRoot z) (by rfl) hz1 (E := 10) (M' := ⟨k, x, r, k⟩) (D' := none) (by simp [MeterM.nextE, DiskO.down, hzx]) (by simp [MeterM.next, MeterM.steps, DiskO.down]) (nextD_none _ _)).mono ?_
          rintro e w4 ⟨rfl, H4⟩
          clear H3
          obtain ⟨_, hm⟩ := meter_cells H4
          have hc0 : w4.cell? ⟨m, 0, none⟩ = some (.int .i64 k) := cell_of_row w4 m 0 _ _ _ hm
          have hc1 : w4.cell? ⟨m, 1, none⟩ = some (.int .i64 x) := cell_of_row w4 m 1 _ _ _ hm
          clear hm hca'
          go_wp2_with (go_at_call 20; refine (meter_left_is H4 (n := k - k) rfl).mono ?_; rintro e w5 ⟨rfl, n5, rfl⟩)
          go_roundw
          case rel => exact ⟨j + 1, k, x, r, by omega, by go_num, rfl, rfl, by omega, by omega, by omega, by omega, H4.drewN _⟩
          case measure => simp [intOf]; omega
        · have hkm' : (k == most) = false := by simpa using hkm
          have hks : ¬ most - k = 0 := by omega
          have Hks := Lib.hid hks
          clear hks
          go_wp2_with fail
          refine (meter_next_at H3 z _ (byteOf z :: zeros 31) (byteRoot z) (by rfl) hz1 (E := 0) (M' := ⟨k + 1, z, byteOf z :: zeros 31, most⟩) (D' := none) (by simp [MeterM.nextE, DiskO.down, DiskO.goes, hzx, Hks.out]) (by simp [MeterM.next, MeterM.steps, DiskO.down, DiskO.goes, hzx, Hks.out]) (nextD_none _ _)).mono ?_
          rintro e w4 ⟨rfl, H4⟩
          clear H3
          obtain ⟨_, hm⟩ := meter_cells H4
          have hc0 : w4.cell? ⟨m, 0, none⟩ = some (.int .i64 (k + 1)) := cell_of_row w4 m 0 _ _ _ hm
          have hc1 : w4.cell? ⟨m, 1, none⟩ = some (.int .i64 z) := cell_of_row w4 m 1 _ _ _ hm
          clear hm hca'
          go_wp2_with (go_at_call 20; refine (meter_left_is H4 (n := most - (k + 1)) rfl).mono ?_; rintro e w5 ⟨rfl, n5, rfl⟩)
          go_roundw
          case rel => exact ⟨j + 1, k + 1, z, byteOf z :: zeros 31, by omega, by go_num, rfl, rfl, by omega, by omega, by omega, by omega, H4.drewN _⟩
          case measure => simp [intOf]; omega
    · go_wp2
      go_returns
      exact ⟨rfl, H3.pull2.toBelow'⟩
end
end Go.Proofs.Ytakeilefbcpabaa

/- The document's Full; what was handed in and what was answered, written over. -/
namespace Go.Proofs.Ytakeilefbcpabaa
open Go.RowKit
attribute [local irreducible] Y OW YK OWK W WL WP X CV Ev Evs HasCell HasCells Has Met Again Kept

section
variable {c : Con} {F : List HP} {w : World} {p : Nat} {D D' : DiskM}
set_option maxRecDepth 100000 in
theorem ref_full (l : List UInt8) (hl : l.length ≤ 256) (H : St c F w) : Calls Try.prog 31 #[str l] w fun e w' => e = .returned (str (pad l)) ∧ St c F w' := by
  refine calls_w (vs := [str l]) Try.func31 rfl rfl rfl ?_ w H
  have hz : (bvs (zeros (256 - l.length))).length = 256 - l.length := by rw [bvs_length, zeros_length]
  (repeat' (first
      | ((with_reducible refine at_makeSliceO ?_); with_reducible refine owk (ow_makeSliceI (n := 256 - l.length) (ev_tmp rfl) (ev_tmp rfl) (by omega) (by omega) (by omega)) (fun b => ?_))
      | (with_reducible refine at_conv ?_; first | refine yk (y_str (l := zeros (256 - l.length)) (n := 256 - l.length) (ev_tmp rfl) (by rw [← replicate_bvs]; exact hasR_blAll (by simp) (by omega) (by omega))) ?_)
      | (with_reducible refine at_bin ?_; first | refine yk (y_add_s (ev_tmp rfl) (ev_tmp rfl) (by rw [zeros_length]; omega)) ?_)
      | (with_reducible refine is_yk ?_; refine yk_auto (k := ?_))
      | (with_reducible refine is_owk0 ?_; refine owk0_auto (k := ?_))
      | (with_reducible refine is_owkc ?_; refine owk_auto (k := fun _ => ?_))
      | refine go1 (k := ?_)
      | (refine go2 (ka := ?_) (kb := ?_) <;> intro _)
      | fail))
  exact x_ret1 rfl rfl (fun w H => ⟨rfl, Sel.st sel_auto H⟩)
end
end Go.Proofs.Ytakeilefbcpabaa

/- The scripts of ChainDoes: opened, and weighed. -/
namespace Go.Proofs.Ytakeilefbcpabaa
open Go.ChangeShapes Go.WideShapes Go.ChangeAt Go.RowKit Go.Deep
structure CCall where
  k : Int
  s : List UInt8
  i : Int
  K : Int
def ccells (y : CCall) : List Value := [.int .i64 y.k, str y.s, .int .i64 y.i, .int .u64 y.K]
def IsCCall (_ : World) (y : CCall) (cs : List Value) : Prop :=
  (-9223372036854775808 ≤ y.i ∧ y.i ≤ 9223372036854775807 ∧ 0 ≤ y.K ∧ y.K < 18446744073709551616 ∧ y.s.length ≤ 140737488351232) ∧ cs = ccells y
section
variable {H : Type} {enc : TypeId × Value → H} {W : World}
set_option maxRecDepth 10000 in
theorem elem_ccall (n : Nat) (cs : List Value) (x : DataW H × List MemPlace) (hc : cs.length = 4) (hz : Sized Try.prog 93 x.1) (h : DataW.trod enc Try.prog W 0 (fun _ => true) true n 93 cs = some x) : ∃ y : CCall, IsCCall W y cs := by
  obtain ⟨y0, y1, y2, y3, n, rfl, _, h0, h1, h2, h3⟩ := Go.Joins.trod_struct4 Try.underlying93 h
  obtain ⟨k, e0, _, _⟩ := elem_int Try.underlying3 h0
  obtain ⟨s, e1, e1x, _⟩ := DataW.trod_string Try.underlying9 h1
  obtain ⟨i, e2, i0, i1⟩ := elem_int Try.underlying3 h2
  obtain ⟨p, e3, p0, p1⟩ := elem_u64 Try.underlying38 h3
  have hz1 := sized_part (j := 1) (d := y1.1) (u := 9) Try.underlying93 hz rfl rfl
  rw [e1x] at hz1
  have hs := sized_text hz1
  refine ⟨⟨k, s.data.toList, i, p⟩, ⟨i0, i1, p0, p1, hs⟩, ?_⟩
  have q0 : (cs.drop 0).take 1 = [.int .i64 k] := (congrArg (fun n => (cs.drop 0).take n) (show 1 = Try.prog.cellsOf 3 by kernel_rfl)).trans e0
  have q1 : (cs.drop 1).take 1 = [.string s] := (congrArg (fun n => (cs.drop 1).take n) (show 1 = Try.prog.cellsOf 9 by kernel_rfl)).trans e1
  have q2 : (cs.drop 2).take 1 = [.int .i64 i] := (congrArg (fun n => (cs.drop 2).take n) (show 1 = Try.prog.cellsOf 3 by kernel_rfl)).trans e2
  have q3 : (cs.drop 3).take 1 = [.int .u64 p] := (congrArg (fun n => (cs.drop 3).take n) (show 1 = Try.prog.cellsOf 38 by kernel_rfl)).trans e3
  match cs, hc with
  | [c0, c1, c2, c3], _ =>
    simp at q0 q1 q2 q3
    rw [q0, q1, q2, q3]; simp [ccells, str]
theorem open_ccalls {a : Option Addr} {len cap : Nat} {d : DataW H} {ps : List MemPlace}
    (h : DataW.Trod enc Try.prog W 0 (fun _ => true) true 88 (.slice a len cap) d ps) (hz : Sized Try.prog 88 d) : ∃ zs, ElemsOf IsCCall 4 W a len zs :=
  open_sized Try.underlying88 (by kernel_rfl) elem_ccall h hz
end
theorem ccells_one (y : CCall) : ∀ v ∈ ccells y, v.oneCell' = true := by
  intro v hv
  simp [ccells] at hv
  rcases hv with rfl | rfl | rfl | rfl <;> rfl
theorem ccells_length (y : CCall) : (ccells y).length = 4 := rfl
attribute [local irreducible] Y OW YK OWK W WL WP X CV Ev Evs HasCell HasCells Has Met Again Kept
section
variable {c : Con} {F : List HP} {w w0 : World}
set_option maxRecDepth 100000 in
theorem great16 {A : Option Addr} {len cap : Nat} {zs : List CCall} (hrow : ElemsOf IsCCall 4 w0 A len zs) (H : St c (Old w0 :: F) w) :
    Calls Try.prog 50 #[.slice A len cap] w fun e w' => ∃ r : { r : Bool // r = false → len ≤ 40 ∧ ∀ j, j < len → (zs[j]?.map (·.s.length)).getD 0 ≤ 16384 }, e = .returned (.bool r.1) ∧ St c (Old w0 :: F) w' := by
  obtain ⟨hzl, hl63, hcell⟩ := hrow
  refine calls_w (vs := [.slice A len cap]) Try.func50 rfl rfl rfl ?_ w H
  (repeat' (first
      | (with_reducible refine is_yk ?_; refine yk_auto (k := ?_))
      | (with_reducible refine is_owk0 ?_; refine owk0_auto (k := ?_))
      | (with_reducible refine is_owkc ?_; refine owk_auto (k := fun _ => ?_))
      | refine go1 (k := ?_)
      | (refine go2 (ka := ?_) (kb := ?_) <;> intro _)
      | fail))
  refine w_loop (α := Nat × Nat) (fun x => x.1 ≤ len ∧ x.2 ≤ 16384 ∧ ∀ j, j < x.1 → (zs[j]?.map (·.s.length)).getD 0 ≤ 16384) (fun x => [(0, .slice A len cap), (3, .int .i64 (x.2 : Int)), (6, .slice A len cap), (7, .int .i64 (len : Int)), (8, .int .i64 (x.1 : Int))]) (fun _ => Old w0 :: F) (fun x => len - x.1) (0, 0) ⟨Nat.zero_le _, Nat.zero_le _, fun j h => absurd h (Nat.not_lt_zero _)⟩ sub_auto sel_all (fun x hx => ?_)
  obtain ⟨j, n⟩ := x
  dsimp only at hx ⊢
  obtain ⟨hx, hn, hal⟩ := hx
  by_cases hlt : j < len
  · obtain ⟨a, cs, rfl, ⟨⟨-, -, -, -, hsl⟩, rfl⟩, -, hca⟩ := hcell j zs[j] (List.getElem?_eq_getElem (by omega))
    have hzj : (zs[j]?.map (·.s.length)).getD 0 = zs[j].s.length := by rw [List.getElem?_eq_getElem (by omega)]; rfl
    generalize zs[j] = y at hca hsl hzj
    have hca' : ∀ i u, (ccells y)[i]? = some u → w0.cell? ((a.add (j * 4)).add i) = some u := hca
    have hy4 := ccells_length y
    have hsum : (n : Int) + (y.s.length : Int) = ((n + y.s.length : Nat) : Int) := by omega
    (repeat' (first
      | ((with_reducible refine at_storeO ?_); with_reducible refine owk0 (ow_storeAll (ev_tmp rfl) (ev_tmp rfl) (ccells_one y) hy4 upd_auto rfl) ?_)
      | (with_reducible refine at_load ?_; first | refine yk (y_loadN (ev_tmp rfl) (by (repeat (first | exact hasCells_old hca' | refine hasCells_tl ?_)); (first | done | fail)) hy4) ?_ | refine yk (y_load (ev_tmp rfl) (hasCell_bl (cs := ccells y) has_auto rfl)) ?_)
      | (with_reducible refine at_bin ?_; first | refine yk_eq (y_add64 (ev_tmp rfl) (ev_tmp rfl) (by omega)) (congrArg _ hsum) ?_)
      | (with_reducible refine is_yk ?_; refine yk_auto (k := ?_))
      | (with_reducible refine is_owk0 ?_; refine owk0_auto (k := ?_))
      | (with_reducible refine is_owkc ?_; refine owk_auto (k := fun _ => ?_))
      | refine go1 (k := ?_)
      | (refine go2 (ka := ?_) (kb := ?_) <;> intro _)
      | fail))
    · exact x_ret1 rfl rfl (fun w H => ⟨⟨true, fun h => by cases h⟩, rfl, Sel.st sel_auto H⟩)
    · exact x_again (j + 1, n + y.s.length) ⟨hlt, by show n + y.s.length ≤ 16384; omega, fun i hi => by
        rcases Nat.lt_or_eq_of_le (Nat.lt_succ_iff.1 hi) with h1 | rfl
        · exact hal i h1
        · rw [hzj]; omega⟩ (show len - (j + 1) < len - j by omega) sub_auto sel_auto
  · (repeat' (first
      | (with_reducible refine is_yk ?_; refine yk_auto (k := ?_))
      | (with_reducible refine is_owk0 ?_; refine owk0_auto (k := ?_))
      | (with_reducible refine is_owkc ?_; refine owk_auto (k := fun _ => ?_))
      | refine go1 (k := ?_)
      | (refine go2 (ka := ?_) (kb := ?_) <;> intro _)
      | fail))
    exact x_ret1 rfl rfl (fun w H => ⟨⟨decide (40 < (len : Int)), fun h => ⟨by simp at h; omega, fun i hi => hal i (by omega)⟩⟩, rfl, H⟩)
end
end Go.Proofs.Ytakeilefbcpabaa

/- Slices of one's own, opened and shut; rows cut. No program in sight. -/
namespace Go.Proofs.Ytakeilefbcpabaa
open Go.RowKit
theorem St.ownOpen {c : Con} {F : List HP} {w : World} {e : TypeId} {size n : Nat} {v : Value} {xs : List Value} (H : St c (OwnP e size v n xs :: F) w) :
    (v = .slice none 0 0 ∧ n = 0 ∧ xs = [] ∧ St c F w) ∨ ∃ g cap cur, v = .slice (some ⟨g, 0, none⟩) n cap ∧ n ≤ cap ∧ cap ≤ 9223372036854775807 ∧ cur.length = cap * size ∧ cur.take (n * size) = xs ∧ xs.length = n * size ∧ St c (Pt g (.cells (cur : List Value).toArray e (0, 0)) :: F) w := by
  obtain ⟨h, ⟨hx, ho⟩, l, r⟩ := H.stars
  rcases ho with ⟨h1, h2⟩ | ⟨g, cap, cur, h1, h2, h3, h4, h5, h6⟩
  · subst h2
    exact .inl ⟨h1, rfl, List.eq_nil_of_length_eq_zero (by simpa using hx), H.tail⟩
  · refine .inr ⟨g, cap, cur.toList, h1, h3, by simpa [maxLen] using h4, by simpa using h5, h6, hx, H.con, h, ?_, l, r⟩
    simpa [Pt] using h2
theorem shutOwn {e : TypeId} {size n g cap : Nat} {cur xs : List Value} (h3 : n ≤ cap) (h4 : cap ≤ 9223372036854775807) (h5 : cur.length = cap * size) (h6 : cur.take (n * size) = xs) : ∀ h, Pt g (.cells cur.toArray e (0, 0)) h → OwnP e size (.slice (some ⟨g, 0, none⟩) n cap) n xs h := fun h hb => by
  have hle : n * size ≤ cur.length := by rw [h5]; exact Nat.mul_le_mul_right _ h3
  refine ⟨by rw [← h6, List.length_take]; omega, .inr ⟨g, cap, cur.toArray, rfl, hb, h3, by simpa [maxLen] using h4, by simpa using h5, by simpa using h6⟩⟩
theorem dropPast {α : Type} (a b : List α) (n : Nat) : (a ++ b).drop (a.length + n) = b.drop n := by
  rw [← List.drop_drop, List.drop_left]
theorem takePast {α : Type} (a b : List α) (n : Nat) : (a ++ b).take (a.length + n) = a ++ b.take n := by
  rw [List.take_append, List.take_of_length_le (by omega), show a.length + n - a.length = n by omega]
end Go.Proofs.Ytakeilefbcpabaa

/- Slices with three bounds; shifts to the left; bytes as a number. No program in sight. -/
namespace Go.Proofs.Ytakeilefbcpabaa
open Go.RowKit
section
variable {P : Program} {N : Nat} {c : Con} {E : Env} {H : World → Prop} {L F : List HP} {d : Option Nat} {ty : TypeId} {pos : String} {aft : Array Edge} {g : Option (Nat × Bool)}
theorem y_slice3 {x lo hi mx : Operand} {t e s by' : Nat} {z : Value} {A : Option Addr} {n cap : Nat} {k1 k2 k3 : IntKind} {l h m : Nat} [ht : TSlice P t e s by' z] (hx : Ev E x (.slice A n cap)) (hl : Ev E lo (.int k1 l)) (hh : Ev E hi (.int k2 h)) (hm : Ev E mx (.int k3 m)) (hb : l ≤ h ∧ h ≤ m ∧ m ≤ cap) :
    Y P H E (Oper.mk d (.slice t x (some lo) (some hi) (some mx)) ty pos aft g) (.slice (if m = l then A else A.map (·.add (l * s))) (h - l) (m - l)) := fun N a w hf _ => by
  unfold execOp
  have hz := ht.i
  cases hq : P.info? e with
  | none => simp [hq] at hz
  | some ie =>
    have hs : ie.size = s := by simp [hq] at hz; exact hz.2.1
    simp [hx N a hf, hl N a hf, hh N a hf, hm N a hf, Instr.sliceAt, Instr.slice, run_underlying ht.u, Instr.sliceBounds, Instr.sliceBound, asIntOf, sizeOf, typeInfo, hq, hs, hb.1, hb.2.1, hb.2.2]
theorem y_sliceLoHi {x lo hi : Operand} {t e s by' : Nat} {z : Value} {A : Option Addr} {n cap : Nat} {k1 k2 : IntKind} {l h : Nat} [ht : TSlice P t e s by' z] (hx : Ev E x (.slice A n cap)) (hl : Ev E lo (.int k1 l)) (hh : Ev E hi (.int k2 h)) (hb : l ≤ h ∧ h ≤ cap) :
    Y P H E (Oper.mk d (.slice t x (some lo) (some hi) none) ty pos aft g) (.slice (if cap = l then A else A.map (·.add (l * s))) (h - l) (cap - l)) := fun N a w hf _ => by
  unfold execOp
  have hz := ht.i
  cases hq : P.info? e with
  | none => simp [hq] at hz
  | some ie =>
    have hs : ie.size = s := by simp [hq] at hz; exact hz.2.1
    simp [hx N a hf, hl N a hf, hh N a hf, Instr.sliceAt, Instr.slice, run_underlying ht.u, Instr.sliceBounds, Instr.sliceBound, asIntOf, sizeOf, typeInfo, hq, hs, hb.1, hb.2]
theorem y_slice3h {x hi mx : Operand} {t e s by' : Nat} {z : Value} {A : Option Addr} {n cap : Nat} {k2 k3 : IntKind} {h m : Nat} [ht : TSlice P t e s by' z] (hx : Ev E x (.slice A n cap)) (hh : Ev E hi (.int k2 h)) (hm : Ev E mx (.int k3 m)) (hb : h ≤ m ∧ m ≤ cap) :
    Y P H E (Oper.mk d (.slice t x none (some hi) (some mx)) ty pos aft g) (.slice A h m) := fun N a w hf _ => by
  unfold execOp
  have hz := ht.i
  cases hq : P.info? e with
  | none => simp [hq] at hz
  | some ie =>
    have hs : ie.size = s := by simp [hq] at hz; exact hz.2.1
    simp [hx N a hf, hh N a hf, hm N a hf, Instr.sliceAt, Instr.slice, run_underlying ht.u, Instr.sliceBounds, Instr.sliceBound, asIntOf, sizeOf, typeInfo, hq, hs, hb.1, hb.2]
    intro _
    cases A <;> simp [Addr.add]
theorem y_strHi {x hi : Operand} {t : Nat} {l l' : List UInt8} {k : IntKind} {m : Int} {n : Nat} [ht : TStr P t] (hx : Ev E x (str l)) (hh : Ev E hi (.int k m)) (hm : m = n) (h : n ≤ l.length) (he : l.take n = l') :
    Y P H E (Oper.mk d (.slice t x none (some hi) none) ty pos aft g) (str l') := by subst hm he; exact y_sliceStrHi hx hh h
theorem y_strLo {x lo : Operand} {t : Nat} {l l' : List UInt8} {k : IntKind} {m : Int} {n : Nat} [ht : TStr P t] (hx : Ev E x (str l)) (hl : Ev E lo (.int k m)) (hm : m = n) (h : n ≤ l.length) (he : l.drop n = l') :
    Y P H E (Oper.mk d (.slice t x (some lo) none none) ty pos aft g) (str l') := by subst hm he; exact y_sliceStrLo hx hl h
theorem y_indexStr {x i : Operand} {t : Nat} {l : List UInt8} {k : IntKind} {m : Int} {j : Nat} {b : UInt8} [ht : TStr P t] (hx : Ev E x (str l)) (hi : Ev E i (.int k m)) (hm : m = j) (hb : l[j]? = some b) :
    Y P H E (Oper.mk d (.index t x i) ty pos aft g) (.int .u8 (b.toNat : Int)) := fun N a w hf _ => by
  subst hm
  have hj : j < l.length := (List.getElem?_eq_some_iff.1 hb).1
  have e : (ByteArray.mk l.toArray)[j]? = some b := by
    have h0 : j < (ByteArray.mk l.toArray).size := hj
    rw [getElem?_pos (ByteArray.mk l.toArray) j h0]
    rw [List.getElem?_eq_getElem hj] at hb
    exact hb
  unfold execOp
  simp [hx N a hf, hi N a hf, str, Instr.index, run_underlying ht.u, asIntOf, e]
theorem y_shl {k k' : IntKind} {x y : Operand} {t t' : TypeId} {m n : Int} (hx : Ev E x (.int k m)) (hy : Ev E y (.int k' n)) (h : 0 ≤ n) (hn : n.toNat ≤ k.bits) :
    Y P H E (Oper.mk d (.binOp .shl t x y t') ty pos aft g) (.int k (k.wrap (m * 2 ^ n.toNat))) := fun N a w hf _ => by
  have h0 : ¬ n < 0 := by omega
  unfold execOp; simp [hx N a hf, hy N a hf, eqGuard, binOp, Op.shift, h0, Nat.min_eq_left hn]
theorem y_build0z {t : Nat} {ps : List (Nat × Nat)} {z : List Value} [ht : TPlaces P t ps z] : Y P H E (Oper.mk d (.build t #[]) ty pos aft g) (.agg z.toArray) := y_build .nil
end
theorem hasR_cell {H : World → Prop} {ad : Addr} {n cap j o : Nat} {cs : List Value} {u : Value} (h : HasR H (.slice (some ad) n cap) n cs) (hu : cs[j]? = some u) (ho : o = j * 1) : HasCell H (ad.add o) u := fun w hw => by
  subst ho
  rw [Nat.mul_one]
  rcases (h w hw).2 with ⟨e, _⟩ | ⟨a, cap', e, _, _, h3⟩
  · cases e
  · cases e; exact h3 j u hu
theorem bvs_get {l : List UInt8} {j : Nat} (hj : j < l.length) : (bvs l)[j]? = some (.int .u8 (l[j].toNat : Int)) := by
  simp [bvs, bv, hj]
theorem hasR_blZ {c : Con} {L : List HP} {b T : Nat} (n : Nat) (h2 : n ≤ 9223372036854775807 := by omega) : HasR (St c (Bl b T (List.replicate n (.int .u8 0)) :: L)) (.slice (some ⟨b, 0, none⟩) n n) n (bvs (zeros n)) := by
  rw [replicate_bvs]; exact hasR_blAll (by simp [bvs_length, zeros_length]) (Nat.le_refl _) h2
theorem hasR_bytesN {c : Con} {L : List HP} {b cap e n : Nat} {l : List UInt8} (hn : l.length = n) (h : n ≤ cap ∧ cap ≤ 9223372036854775807) : HasR (St c (BytesP b cap e l :: L)) (.slice (some ⟨b, 0, none⟩) n cap) n (bvs l) := by
  subst hn; exact hasR_bytes h
theorem add_add (a : Addr) (l j : Nat) : (a.add l).add j = a.add (l + j) := by
  unfold Addr.add
  by_cases h1 : l = 0 <;> by_cases h2 : j = 0 <;> simp [h1, h2, Nat.add_assoc]
/-- A part of what reads. -/
theorem hasR_sub {H : World → Prop} {A : Option Addr} {n cap l h k s : Nat} {cs ds : List Value} (hr : HasR H (.slice A n cap) n cs) (hlh : l < h ∧ h ≤ n ∧ n ≤ 9223372036854775807) (hs : s = 1) (hk : k = h - l) (hd : (cs.take h).drop l = ds) :
    HasR H (.slice (A.map (·.add (l * s))) k k) k ds := fun w hw => by
  subst hs hk hd
  obtain ⟨hlen, h0⟩ := hr w hw
  rw [Nat.mul_one] at hlen
  refine ⟨by simp [hlen, Nat.min_eq_left hlh.2.1], ?_⟩
  rcases h0 with ⟨_, h2⟩ | ⟨a, cap', e, h1, h2, h3⟩
  · omega
  · obtain ⟨rfl, -, -⟩ := Value.slice.inj e
    refine .inr ⟨_, _, rfl, Nat.le_refl _, by omega, fun j u hu => ?_⟩
    rw [List.getElem?_drop, List.getElem?_take] at hu
    split at hu
    · have := h3 _ u hu
      rw [Nat.mul_one, add_add]
      exact this
    · cases hu
theorem ow_sel {P : Program} {N : Nat} {c : Con} {E : Env} {L L1 : List HP} {o : Oper} {β : Type} {r : β → Value} {L' : β → List HP} (s : Sel L L1) (h : OW P N c E L1 o r L') : OW P N c E L o r L' := fun Q K a w hf H hk => h Q K a w hf (s.st H) hk
/-- A slice of one's own that isn't empty, opened: its block, its capacity, its cells. -/
structure OB (k size : Nat) (ys : List Value) where
  g : Nat
  cap : Nat
  cur : List Value
  h1 : k ≤ cap
  h2 : cap ≤ 9223372036854775807
  h3 : cur.length = cap * size
  h4 : cur.take (k * size) = ys
theorem ow_opened {P : Program} {N : Nat} {c : Con} {E : Env} {L F : List HP} {o : Oper} {k size : Nat} {e : TypeId} {ys : List Value} (hk : 0 < k) (h : OW P N c E L o (fun q : Option Addr × Nat => .slice q.1 k q.2) fun q => OwnP e size (.slice q.1 k q.2) k ys :: F) :
    OW P N c E L o (fun x : OB k size ys => .slice (some ⟨x.g, 0, none⟩) k x.cap) fun x => Bl x.g e x.cur :: F := fun Q K a w hf H hh => h Q K a w hf H fun q w1 H1 => by
  rcases H1.ownOpen with ⟨_, h0, _⟩ | ⟨g, cap, cur, e1, h1, h2, h3, h4, h5, H2⟩
  · omega
  · show K (a.put o.dst (.slice q.1 k q.2)) w1
    rw [e1]
    exact hh ⟨g, cap, cur, h1, h2, h3, h4⟩ w1 H2
theorem OB.le {k size : Nat} {ys : List Value} (x : OB k size ys) {n : Nat} (h : n ≤ k) : n ≤ n ∧ n ≤ x.cap := ⟨Nat.le_refl _, Nat.le_trans h x.h1⟩
theorem OB.shut {k size : Nat} {ys : List Value} {e : TypeId} (x : OB k size ys) : ∀ h, Bl x.g e x.cur h → OwnP e size (.slice (some ⟨x.g, 0, none⟩) k x.cap) k ys h := shutOwn x.h1 x.h2 x.h3 x.h4
theorem OB.take1 {k : Nat} {ys : List Value} (x : OB k 1 ys) : x.cur.take k = ys := by have := x.h4; rwa [Nat.mul_one] at this
theorem OB.hasR {k : Nat} {ys : List Value} {e : TypeId} {c : Con} {L : List HP} (x : OB k 1 ys) : HasR (St c (Bl x.g e x.cur :: L)) (.slice (some ⟨x.g, 0, none⟩) k x.cap) k ys := hasR_bl x.take1 (by have h1 := x.h1; have h2 := x.h3; omega) x.h1 x.h2
/-- What lay there ahead. -/
theorem old_auto {H : World → Prop} {ad : Addr} {v : Value} (h : HasCell H ad v := by ((repeat (first | exact hasCell_old (by assumption) | apply hasCell_tl)); (first | done | fail))) : HasCell H ad v := h
/-- The walk stops here. -/
def Stop (p : Prop) : Prop := p
section
variable {P : Program} {N : Nat} {c : Con} {Q : Exit → Act → World → Prop} {E : Env} {L : List HP}
theorem w_meetS {id : Nat} {ops : Array Oper} {b : Bool} {x y : Code} {α : Type} (F : α → Prop) (Ev : α → Env) (Ls : α → List HP) (h : Stop (W P N c (Exit.then (Met N c F Ev Ls) Q) ((Code.region id ops b).seq x) E L)) (k : ∀ s, F s → W P N c Q y (Ev s) (Ls s)) : W P N c Q (((Code.region id ops b).seq x).seq y) E L := w_meet F Ev Ls h k
theorem w_stopR {id : Nat} {ops : Array Oper} {b : Bool} {x : Code} (h : Stop (W P N c Q ((Code.region id ops b).seq x) E L)) : W P N c Q ((Code.region id ops b).seq x) E L := h
end
/-- append onto nil. -/
theorem ow_appendR0 {P : Program} {N : Nat} {c : Con} {E : Env} {L : List HP} {d : Option Nat} {ty : TypeId} {pos : String} {aft : Array Edge} {g : Option (Nat × Bool)} {s x : Operand} {t tx e bytes e' s' b' m : Nat} {z z' v : Value} {news : List Value} [ht : TSlice P t e 1 bytes z] [htx : TSlice P tx e' s' b' z'] (hs : Ev E s (.slice none 0 0)) (hx : Ev E x v)
    (hr : HasR (St c L) v m news) (h1 : ∀ u ∈ news, u.oneCell' = true) (hb : m ≤ 9223372036854775807 ∧ m * bytes ≤ 140737488355328) :
    OW P N c E L (Oper.mk d (.call { callee := .builtin .append, args := #[s, x], argTypes := #[t, tx] }) ty pos aft g) (fun q : Option Addr × Nat => .slice q.1 m q.2) fun q => OwnP e 1 (.slice q.1 m q.2) m news :: L :=
  ow_sel (.own0 sel_all) (ow_appendR (k := m) (ys := news) hs hx (hasR_tl hr) h1 (Nat.zero_add m) (List.nil_append _) hb .hd)
/-- Bytes as a number, the lowest first. -/
def leN : List UInt8 → Nat
  | [] => 0
  | b :: r => b.toNat + 256 * leN r
theorem leN_lt : ∀ l : List UInt8, leN l < 256 ^ l.length
  | [] => by simp [leN]
  | b :: r => by
    have h1 := leN_lt r
    have h2 := b.toNat_lt
    rw [leN, List.length_cons, Nat.pow_succ]
    omega
theorem leN_snoc : ∀ (l : List UInt8) (b : UInt8), leN (l ++ [b]) = leN l + b.toNat * 256 ^ l.length
  | [], b => by simp [leN]
  | c :: r, b => by
    rw [List.cons_append, leN, leN, leN_snoc r b, List.length_cons, Nat.pow_succ, Nat.mul_add, ← Nat.mul_assoc, Nat.mul_comm 256 b.toNat, Nat.mul_comm (256 ^ r.length) 256, Nat.mul_assoc b.toNat, Nat.add_assoc]
/-- Two numbers without a common bit. -/
theorem bits_or_u64 {x y i : Nat} (hx : x < 2 ^ i) (hy : y * 2 ^ i + x < 2 ^ 64) : bits .or .u64 (x : Int) ((y * 2 ^ i : Nat) : Int) = ((x + y * 2 ^ i : Nat) : Int) := by
  have h2 : y * 2 ^ i < 2 ^ 64 := by omega
  have h1 : x < 2 ^ 64 := by omega
  have e := Nat.shiftLeft_add_eq_or_of_lt hx y
  rw [Nat.shiftLeft_eq] at e
  have e1 : (BitVec.ofInt 64 (x : Int)) = BitVec.ofNat 64 x := by simp
  have e2 : (BitVec.ofInt 64 ((y * 2 ^ i : Nat) : Int)) = BitVec.ofNat 64 (y * 2 ^ i) := by rw [BitVec.ofInt_natCast]
  show IntKind.u64.wrap (((BitVec.ofInt 64 (x : Int)) ||| (BitVec.ofInt 64 ((y * 2 ^ i : Nat) : Int))).toNat : Int) = _
  rw [e1, e2, BitVec.toNat_or, BitVec.toNat_ofNat, BitVec.toNat_ofNat, Nat.mod_eq_of_lt h1, Nat.mod_eq_of_lt h2, Nat.or_comm, ← e]
  have e3 : ∀ z : Int, IntKind.u64.wrap z = z % 18446744073709551616 := fun _ => rfl
  rw [e3]
  have : (2 : Nat) ^ 64 = 18446744073709551616 := rfl
  omega
/-- The number of eight bytes. -/
def leInt (l : List UInt8) : Int := wrap64 (leN l : Int)
end Go.Proofs.Ytakeilefbcpabaa

/- The reader of bytes (package code): Read, Take, Num, In, Good. -/
namespace Go.Proofs.Ytakeilefbcpabaa
open Go.RowKit

/-- The block g holds these bytes, from its start on; none: there is no such block. -/
def BkP (g : Nat) (D : List UInt8) : HP := fun h => D = [] ∨ ∃ cs T fr, h g = some (.cells cs T fr) ∧ cs.toList.take D.length = bvs D
/-- The slice v lies in that block: it reads as l. -/
def SubOf (g : Nat) (D : List UInt8) (v : Value) (l : List UInt8) : Prop :=
  ∃ A cap, v = .slice A l.length cap ∧ l.length ≤ cap ∧ cap ≤ 9223372036854775807 ∧ (A = none → cap = 0) ∧ (l = [] ∨ ∃ o, A = some ⟨g, o, none⟩ ∧ (D.drop o).take l.length = l)
theorem SubOf.hasR {g : Nat} {D l : List UInt8} {v : Value} {n : Nat} {c : Con} {L : List HP} (h : SubOf g D v l) (hn : l.length = n) : HasR (St c (BkP g D :: L)) v n (bvs l) := fun w H => by
  subst hn
  obtain ⟨A, cap, rfl, h1, h2, h3, h4⟩ := h
  refine ⟨by simp [bvs_length], ?_⟩
  rcases h4 with rfl | ⟨o, rfl, h5⟩
  · cases A with
    | none => have := h3 rfl; subst this; exact .inl ⟨rfl, rfl⟩
    | some ad => exact .inr ⟨ad, cap, rfl, h1, h2, fun j u hu => by simp [bvs] at hu⟩
  · refine .inr ⟨_, cap, rfl, h1, h2, fun j u hu => ?_⟩
    obtain ⟨h, hb, l'⟩ := H.get
    have hl : l ≠ [] := by rintro rfl; simp [bvs] at hu
    rcases hb with rfl | ⟨cs, T, fr, hg, hcs⟩
    · rw [List.drop_nil, List.take_nil] at h5; exact absurd h5.symm hl
    · rw [add_mid, l'.cell hg]
      have hj : j < l.length := by have := (List.getElem?_eq_some_iff.1 hu).1; rwa [bvs_length] at this
      have e : (bvs D)[o + j]? = some u := by
        rw [← hu, bvs, bvs, List.getElem?_map, List.getElem?_map]
        congr 1
        rw [← h5, List.getElem?_take, if_pos hj, List.getElem?_drop]
      rw [← hcs, List.getElem?_take] at e
      split at e
      · simpa using e
      · cases e
theorem sub_take {g : Nat} {D l a b : List UInt8} {A : Option Addr} {n cap : Nat} (h : SubOf g D (.slice A n cap) l) (hl : l = a ++ b) {m : Nat} (hm : a.length = m) : SubOf g D (.slice A m m) a := by
  subst hm
  obtain ⟨A', cap', e, h1, h2, h3, h4⟩ := h
  cases e
  subst hl
  have hle : a.length ≤ (a ++ b).length := by simp
  refine ⟨A, a.length, rfl, Nat.le_refl _, by omega, fun e => ?_, ?_⟩
  · have := h3 e; omega
  · rcases h4 with h4 | ⟨o, e, h5⟩
    · exact .inl (List.append_eq_nil_iff.1 h4).1
    · refine .inr ⟨o, e, ?_⟩
      have := congrArg (List.take a.length) h5
      rwa [List.take_take, Nat.min_eq_left hle, List.take_left] at this
theorem sub_drop {g : Nat} {D l a b : List UInt8} {A : Option Addr} {n cap s : Nat} (h : SubOf g D (.slice A n cap) l) (hs : s = 1) (hl : l = a ++ b) {m : Nat} (hm : a.length = m) : SubOf g D (.slice (if cap = m then A else A.map (·.add (m * s))) (n - m) (cap - m)) b := by
  subst hm hs
  obtain ⟨A', cap', e, h1, h2, h3, h4⟩ := h
  cases e
  subst hl
  have hn : (a ++ b).length - a.length = b.length := by simp
  rw [List.length_append] at h1
  refine ⟨_, cap - a.length, by rw [hn], by omega, by omega, fun e => ?_, ?_⟩
  · split at e
    · omega
    · cases A with
      | none => have := h3 rfl; omega
      | some ad => cases e
  · rcases h4 with h4 | ⟨o, e, h5⟩
    · exact .inl (List.append_eq_nil_iff.1 h4).2
    · by_cases hb : b = []
      · exact .inl hb
      · refine .inr ⟨o + a.length, ?_, ?_⟩
        · have : 0 < b.length := List.length_pos_iff.2 hb
          rw [if_neg (by omega), e, Option.map_some, add_mid, Nat.mul_one]
        · have := congrArg (List.drop a.length) h5
          rw [List.drop_take, List.drop_drop, List.drop_left, List.length_append, Nat.add_sub_cancel_left] at this
          exact this
/-- The reader r: what is left, of the block's bytes; none: there was a fault. -/
def RdAt (r g : Nat) (D : List UInt8) : Option (List UInt8) → HP
  | some l => Ex fun v => Pure (SubOf g D v l) (Bl r 135 [v, .bool false])
  | none => Bl r 135 [.slice none 0 0, .bool true]
attribute [local irreducible] Y OW YK OWK W WL WP X CV Ev Evs HasCell HasCells Has Met Again Kept
section
variable {c : Con} {F : List HP} {w : World} {r g : Nat} {D : List UInt8}
theorem St.openRd {l : List UInt8} (H : St c (RdAt r g D (some l) :: F) w) : ∃ A cap, SubOf g D (.slice A l.length cap) l ∧ St c (Bl r 135 [.slice A l.length cap, .bool false] :: F) w := by
  obtain ⟨v, H⟩ := St.ex H
  obtain ⟨h, H⟩ := St.pure H
  obtain ⟨A, cap, rfl, k⟩ := id h
  exact ⟨A, cap, h, H⟩
theorem St.shutRd {l : List UInt8} {v : Value} (h : SubOf g D v l) (H : St c (Bl r 135 [v, .bool false] :: F) w) : St c (RdAt r g D (some l) :: F) w := St.toEx v (St.toPure h H)
theorem rd_take_ok {l a b : List UInt8} {n : Nat} {k : Int} (hl : l = a ++ b) (hn : a.length = n) (hk : (n : Int) = k) (H : St c (RdAt r g D (some l) :: F) w) : Calls Try.prog 75 #[.pointer (some ⟨r, 0, none⟩), .int .i64 k] w fun e w' =>
    ∃ q : { q : Option Addr × Nat // SubOf g D (.slice q.1 n q.2) a }, e = .returned (.tuple #[.slice q.1.1 n q.1.2, .bool true]) ∧ St c (RdAt r g D (some b) :: F) w' := by
  subst hk
  obtain ⟨A, cap, hs, H⟩ := H.openRd
  obtain ⟨m, hm⟩ : ∃ m, l.length = m := ⟨_, rfl⟩
  rw [hm] at hs H
  have hcap : m ≤ cap ∧ cap ≤ 9223372036854775807 := by obtain ⟨A', cap', e, h1, h2, _⟩ := id hs; cases e; omega
  have hnm : n ≤ m := by rw [← hm, hl, List.length_append]; omega
  have hsd := sub_drop hs rfl hl hn
  refine calls_w (vs := [.pointer (some ⟨r, 0, none⟩), .int .i64 n]) Try.func75 rfl rfl rfl ?_ w H
  (repeat' (first
      | (with_reducible refine at_slice ?_; first | refine yk (y_slice3h (ev_tmp rfl) (ev_tmp rfl) (ev_tmp rfl) (by omega)) ?_)
      | (with_reducible refine is_yk ?_; refine yk_auto (k := ?_))
      | (with_reducible refine is_owk0 ?_; refine owk0_auto (k := ?_))
      | (with_reducible refine is_owkc ?_; refine owk_auto (k := fun _ => ?_))
      | refine go1 (k := ?_)
      | (refine go2 (ka := ?_) (kb := ?_) <;> intro _)
      | fail))
  exact x_ret2 rfl rfl rfl (fun w H => ⟨⟨(A, n), sub_take hs hl hn⟩, rfl, St.shutRd hsd H⟩)
theorem rd_take_bad {R : Option (List UInt8)} {n : Int} (hn : ∀ l, R = some l → n < 0 ∨ (l.length : Int) < n) (H : St c (RdAt r g D R :: F) w) : Calls Try.prog 75 #[.pointer (some ⟨r, 0, none⟩), .int .i64 n] w fun e w' =>
    e = .returned (.tuple #[.slice none 0 0, .bool false]) ∧ St c (RdAt r g D none :: F) w' := by
  cases R with
  | none =>
    replace H : St c (Bl r 135 [.slice none 0 0, .bool true] :: F) w := H
    refine calls_w (vs := [.pointer (some ⟨r, 0, none⟩), .int .i64 n]) Try.func75 rfl rfl rfl ?_ w H
    (repeat' (first
      | (with_reducible refine is_yk ?_; refine yk_auto (k := ?_))
      | (with_reducible refine is_owk0 ?_; refine owk0_auto (k := ?_))
      | (with_reducible refine is_owkc ?_; refine owk_auto (k := fun _ => ?_))
      | refine go1 (k := ?_)
      | (refine go2 (ka := ?_) (kb := ?_) <;> intro _)
      | fail))
    exact x_ret2 rfl rfl rfl (fun w H => ⟨rfl, H⟩)
  | some l =>
    obtain ⟨A, cap, hs, H⟩ := H.openRd
    have hn := hn l rfl
    obtain ⟨m, hm⟩ : ∃ m, l.length = m := ⟨_, rfl⟩
    rw [hm] at hs H hn
    refine calls_w (vs := [.pointer (some ⟨r, 0, none⟩), .int .i64 n]) Try.func75 rfl rfl rfl ?_ w H
    by_cases h0 : n < 0
    · (repeat' (first
      | (with_reducible refine is_yk ?_; refine yk_auto (k := ?_))
      | (with_reducible refine is_owk0 ?_; refine owk0_auto (k := ?_))
      | (with_reducible refine is_owkc ?_; refine owk_auto (k := fun _ => ?_))
      | refine go1 (k := ?_)
      | (refine go2 (ka := ?_) (kb := ?_) <;> intro _)
      | fail))
      exact x_ret2 rfl rfl rfl (fun w H => ⟨rfl, H⟩)
    · have h1 : (m : Int) < n := by omega
      (repeat' (first
      | (with_reducible refine is_yk ?_; refine yk_auto (k := ?_))
      | (with_reducible refine is_owk0 ?_; refine owk0_auto (k := ?_))
      | (with_reducible refine is_owkc ?_; refine owk_auto (k := fun _ => ?_))
      | refine go1 (k := ?_)
      | (refine go2 (ka := ?_) (kb := ?_) <;> intro _)
      | fail))
      exact x_ret2 rfl rfl rfl (fun w H => ⟨rfl, H⟩)
theorem rd_good {R : Option (List UInt8)} {b : Bool} (hb : R.isSome = b) (H : St c (RdAt r g D R :: F) w) : Calls Try.prog 76 #[.pointer (some ⟨r, 0, none⟩)] w fun e w' =>
    e = .returned (.bool b) ∧ St c (RdAt r g D R :: F) w' := by
  subst hb
  cases R with
  | none =>
    replace H : St c (Bl r 135 [.slice none 0 0, .bool true] :: F) w := H
    refine calls_w (vs := [.pointer (some ⟨r, 0, none⟩)]) Try.func76 rfl rfl rfl ?_ w H
    (repeat' (first
      | (with_reducible refine is_yk ?_; refine yk_auto (k := ?_))
      | (with_reducible refine is_owk0 ?_; refine owk0_auto (k := ?_))
      | (with_reducible refine is_owkc ?_; refine owk_auto (k := fun _ => ?_))
      | refine go1 (k := ?_)
      | (refine go2 (ka := ?_) (kb := ?_) <;> intro _)
      | fail))
    exact x_ret1 rfl rfl (fun w H => ⟨rfl, H⟩)
  | some l =>
    obtain ⟨A, cap, hs, H⟩ := H.openRd
    refine calls_w (vs := [.pointer (some ⟨r, 0, none⟩)]) Try.func76 rfl rfl rfl ?_ w H
    (repeat' (first
      | (with_reducible refine is_yk ?_; refine yk_auto (k := ?_))
      | (with_reducible refine is_owk0 ?_; refine owk0_auto (k := ?_))
      | (with_reducible refine is_owkc ?_; refine owk_auto (k := fun _ => ?_))
      | refine go1 (k := ?_)
      | (refine go2 (ka := ?_) (kb := ?_) <;> intro _)
      | fail))
    exact x_ret1 rfl rfl (fun w H => ⟨rfl, St.shutRd hs H⟩)
/-- The number that stands next. -/
def numV : Option (List UInt8) → Int
  | some l => if 8 ≤ l.length then leInt (l.take 8) else 0
  | none => 0
def numR : Option (List UInt8) → Option (List UInt8)
  | some l => if 8 ≤ l.length then some (l.drop 8) else none
  | none => none
theorem rd_num_bad {R : Option (List UInt8)} (hn : ∀ l, R = some l → l.length < 8) (H : St c (RdAt r g D R :: F) w) : Calls Try.prog 74 #[.pointer (some ⟨r, 0, none⟩)] w fun e w' =>
    e = .returned (.int .i64 0) ∧ St c (RdAt r g D none :: F) w' := by
  refine calls_w (vs := [.pointer (some ⟨r, 0, none⟩)]) Try.func74 rfl rfl rfl ?_ w H
  (repeat' (first
      | ((with_reducible refine at_fn 75 ?_); with_reducible refine owk_c1 evs_auto (by kernel_rfl) pick_auto (fun w H => rd_take_bad (n := 8) (fun l e => by have := hn l e; omega) H) ?_)
      | (with_reducible refine is_yk ?_; refine yk_auto (k := ?_))
      | (with_reducible refine is_owk0 ?_; refine owk0_auto (k := ?_))
      | (with_reducible refine is_owkc ?_; refine owk_auto (k := fun _ => ?_))
      | refine go1 (k := ?_)
      | (refine go2 (ka := ?_) (kb := ?_) <;> intro _)
      | fail))
  exact x_ret1 rfl rfl (fun w H => ⟨rfl, H⟩)
set_option maxRecDepth 100000 in
theorem rd_num_ok {l a b : List UInt8} (hl : l = a ++ b) (ha : a.length = 8) (H : St c (RdAt r g D (some l) :: BkP g D :: F) w) : Calls Try.prog 74 #[.pointer (some ⟨r, 0, none⟩)] w fun e w' =>
    e = .returned (.int .i64 (leInt a)) ∧ St c (RdAt r g D (some b) :: BkP g D :: F) w' := by
  have h8 : (8 : Int) = ((8 : Nat) : Int) := rfl
  refine calls_w (vs := [.pointer (some ⟨r, 0, none⟩)]) Try.func74 rfl rfl rfl ?_ w H
  (repeat' (first
      | ((with_reducible refine at_fn 75 ?_); with_reducible refine owk_c1x evs_auto (by kernel_rfl) pick_auto (fun w H => rd_take_ok (n := 8) hl ha (by omega) H) (fun q => ?_))
      | (with_reducible refine is_yk ?_; refine yk_auto (k := ?_))
      | (with_reducible refine is_owk0 ?_; refine owk0_auto (k := ?_))
      | (with_reducible refine is_owkc ?_; refine owk_auto (k := fun _ => ?_))
      | refine go1 (k := ?_)
      | (refine go2 (ka := ?_) (kb := ?_) <;> intro _)
      | fail))
  obtain ⟨⟨A, cap⟩, hq⟩ := q
  have hA : A ≠ none := by
    rintro rfl
    obtain ⟨A', cap', e, h1, _, h3, _⟩ := hq
    obtain ⟨e1, e2, e3⟩ := Value.slice.inj e
    have := h3 e1.symm; omega
  obtain ⟨ad, rfl⟩ : ∃ ad, A = some ad := by cases A with | none => exact absurd rfl hA | some x => exact ⟨x, rfl⟩
  dsimp only at hq ⊢
  have hR : ∀ {L : List HP}, HasR (St c (BkP g D :: L)) (.slice (some ad) 8 cap) 8 (bvs a) := hq.hasR ha
  refine w_loop (α := Nat) (fun i => i ≤ 8)
    (fun i => [(17, .int .i64 (i : Int)), (16, .int .i64 8), (15, .slice (some ad) 8 cap), (5, .int .u64 ((leN (a.take i) : Nat) : Int))]) (fun _ => RdAt r g D (some b) :: BkP g D :: F) (fun i => 8 - i) 0 (by omega) sub_auto sel_auto (fun i hi => ?_)
  by_cases hlt : i < 8
  · have hil : i < a.length := by omega
    have hc := bvs_get hil
    have hb := a[i].toNat_lt
    have hx := leN_lt (a.take i)
    have hs : leN (a.take (i + 1)) = leN (a.take i) + a[i].toNat * 256 ^ i := by
      rw [List.take_succ_eq_append_getElem hil, leN_snoc, List.length_take, Nat.min_eq_left (by omega)]
    rw [List.length_take, Nat.min_eq_left (by omega)] at hx
    have hy := leN_lt (a.take (i + 1))
    rw [List.length_take, Nat.min_eq_left (by omega), hs] at hy
    have hp : 256 ^ i = 2 ^ (8 * i) := by rw [Nat.pow_mul]
    have hp64 : (256 : Nat) ^ (i + 1) ≤ 2 ^ 64 := by
      rw [show (2 : Nat) ^ 64 = 256 ^ 8 from rfl]; exact Nat.pow_le_pow_right (by omega) (by omega)
    rw [hp] at hx hs hy
    generalize a[i].toNat = y at hc hb hs hy
    generalize leN (a.take i) = x at hx hs hy ⊢
    have k1 : IntKind.u64.wrap (y : Int) = y := by show (y : Int) % 18446744073709551616 = y; omega
    have k2 : IntKind.u64.wrap ((y : Int) * 2 ^ (8 * (i : Int)).toNat) = ((y * 2 ^ (8 * i) : Nat) : Int) := by
      have e : (8 * (i : Int)).toNat = 8 * i := by omega
      rw [e]
      have e2 : (y : Int) * 2 ^ (8 * i) = ((y * 2 ^ (8 * i) : Nat) : Int) := by rw [Int.natCast_mul, Int.natCast_pow]; rfl
      rw [e2]
      generalize y * 2 ^ (8 * i) = q at hy
      show (q : Int) % 18446744073709551616 = q
      omega
    have k3 : bits .or .u64 (x : Int) ((y * 2 ^ (8 * i) : Nat) : Int) = ((leN (a.take (i + 1)) : Nat) : Int) := by rw [bits_or_u64 hx (by omega), hs]
    (repeat' (first
      | (with_reducible refine at_conv ?_; first | refine yk_eq (y_conv_int (ev_tmp rfl)) (congrArg _ k1) ?_)
      | (with_reducible refine at_load ?_; first | refine yk (y_load (ev_tmp rfl) (hasCell_tl (hasR_cell hR hc rfl))) ?_)
      | (with_reducible refine at_bin ?_; first | refine yk_eq (y_shl (ev_tmp rfl) (ev_tmp rfl) (by omega) (by simp [IntKind.bits]; omega)) (congrArg _ k2) ?_ | refine yk_eq (y_bits (.inr (.inl rfl)) (ev_tmp rfl) (ev_tmp rfl)) (congrArg _ k3) ?_)
      | (with_reducible refine is_yk ?_; refine yk_auto (k := ?_))
      | (with_reducible refine is_owk0 ?_; refine owk0_auto (k := ?_))
      | (with_reducible refine is_owkc ?_; refine owk_auto (k := fun _ => ?_))
      | refine go1 (k := ?_)
      | (refine go2 (ka := ?_) (kb := ?_) <;> intro _)
      | fail))
    exact x_again (i + 1) (by omega) (by omega) sub_auto sel_auto
  · have : i = 8 := by omega
    subst this
    rw [List.take_of_length_le (by omega)]
    have k4 : IntKind.i64.wrap (leN a : Int) = leInt a := by rw [leInt, IntWalk.i64_left]
    (repeat' (first
      | (with_reducible refine at_conv ?_; first | refine yk_eq (y_conv_int (ev_tmp rfl)) (congrArg _ k4) ?_)
      | (with_reducible refine is_yk ?_; refine yk_auto (k := ?_))
      | (with_reducible refine is_owk0 ?_; refine owk0_auto (k := ?_))
      | (with_reducible refine is_owkc ?_; refine owk_auto (k := fun _ => ?_))
      | refine go1 (k := ?_)
      | (refine go2 (ka := ?_) (kb := ?_) <;> intro _)
      | fail))
    exact x_ret1 rfl rfl (fun w H => ⟨rfl, H⟩)
end
end Go.Proofs.Ytakeilefbcpabaa

/- The reader of bytes (package code): In, Read. -/
namespace Go.Proofs.Ytakeilefbcpabaa
open Go.RowKit
attribute [local irreducible] Y OW YK OWK W WL WP X CV Ev Evs HasCell HasCells Has Met Again Kept
section
variable {c : Con} {F : List HP} {w : World} {r g : Nat} {D : List UInt8}
/-- A number from lo to hi. -/
def inOk (lo hi : Int) : Option (List UInt8) → Bool
  | some l => decide (8 ≤ l.length) && decide (lo ≤ leInt (l.take 8)) && decide (leInt (l.take 8) ≤ hi)
  | none => false
theorem rd_in_ok {l a b : List UInt8} {lo hi n : Int} (hl : l = a ++ b) (ha : a.length = 8) (hv : leInt a = n) (h1 : lo ≤ n ∧ n ≤ hi) (H : St c (RdAt r g D (some l) :: BkP g D :: F) w) : Calls Try.prog 70 #[.pointer (some ⟨r, 0, none⟩), .int .i64 lo, .int .i64 hi] w fun e w' =>
    e = .returned (.int .i64 n) ∧ St c (RdAt r g D (some b) :: BkP g D :: F) w' := by
  subst hv
  refine calls_w (vs := [.pointer (some ⟨r, 0, none⟩), .int .i64 lo, .int .i64 hi]) Try.func70 rfl rfl rfl ?_ w H
  (repeat' (first
      | ((with_reducible refine at_fn 74 ?_); with_reducible refine owk_c2 evs_auto (by kernel_rfl) pick_auto pick_auto (fun w H => rd_num_ok hl ha H) ?_)
      | ((with_reducible refine at_fn 76 ?_); with_reducible refine owk_c1 evs_auto (by kernel_rfl) pick_auto (fun w H => rd_good (R := some b) rfl H) ?_)
      | (with_reducible refine is_yk ?_; refine yk_auto (k := ?_))
      | (with_reducible refine is_owk0 ?_; refine owk0_auto (k := ?_))
      | (with_reducible refine is_owkc ?_; refine owk_auto (k := fun _ => ?_))
      | refine go1 (k := ?_)
      | (refine go2 (ka := ?_) (kb := ?_) <;> intro _)
      | fail))
  exact x_ret1 rfl rfl (fun w H => ⟨rfl, H⟩)
theorem rd_in_bad {R : Option (List UInt8)} {lo hi : Int} (hb : inOk lo hi R = false) (hlo : 0 < lo ∨ hi < 0 ∨ ∃ l, R = some l ∧ 8 ≤ l.length) (H : St c (RdAt r g D R :: BkP g D :: F) w) : Calls Try.prog 70 #[.pointer (some ⟨r, 0, none⟩), .int .i64 lo, .int .i64 hi] w fun e w' =>
    e = .returned (.int .i64 0) ∧ St c (RdAt r g D none :: BkP g D :: F) w' := by
  refine calls_w (vs := [.pointer (some ⟨r, 0, none⟩), .int .i64 lo, .int .i64 hi]) Try.func70 rfl rfl rfl ?_ w H
  by_cases h8 : ∃ l, R = some l ∧ 8 ≤ l.length
  · obtain ⟨l, rfl, h8⟩ := h8
    have hl : l = l.take 8 ++ l.drop 8 := (List.take_append_drop 8 l).symm
    have ha : (l.take 8).length = 8 := by simp; omega
    obtain ⟨n, hn⟩ : ∃ n, leInt (l.take 8) = n := ⟨_, rfl⟩
    have hbad : ¬ (lo ≤ n ∧ n ≤ hi) := by
      rintro ⟨h1, h2⟩
      simp [inOk, h8, hn, h1, h2] at hb
    by_cases h1 : n < lo
    · (repeat' (first
      | ((with_reducible refine at_fn 74 ?_); with_reducible refine owk_c2 evs_auto (by kernel_rfl) pick_auto pick_auto (fun w H => by have := rd_num_ok hl ha H; rw [hn] at this; exact this) ?_)
      | ((with_reducible refine at_fn 75 ?_); with_reducible refine owk_c1 evs_auto (by kernel_rfl) pick_auto (fun w H => rd_take_bad (R := some (l.drop 8)) (fun l e => by omega) H) ?_)
      | ((with_reducible refine at_fn 76 ?_); with_reducible refine owk_c1 evs_auto (by kernel_rfl) pick_auto (fun w H => rd_good (R := none) (b := false) rfl H) ?_)
      | (with_reducible refine is_yk ?_; refine yk_auto (k := ?_))
      | (with_reducible refine is_owk0 ?_; refine owk0_auto (k := ?_))
      | (with_reducible refine is_owkc ?_; refine owk_auto (k := fun _ => ?_))
      | refine go1 (k := ?_)
      | (refine go2 (ka := ?_) (kb := ?_) <;> intro _)
      | fail))
      exact x_ret1 rfl rfl (fun w H => ⟨rfl, H⟩)
    · have h2 : hi < n := by omega
      (repeat' (first
      | ((with_reducible refine at_fn 74 ?_); with_reducible refine owk_c2 evs_auto (by kernel_rfl) pick_auto pick_auto (fun w H => by have := rd_num_ok hl ha H; rw [hn] at this; exact this) ?_)
      | ((with_reducible refine at_fn 75 ?_); with_reducible refine owk_c1 evs_auto (by kernel_rfl) pick_auto (fun w H => rd_take_bad (R := some (l.drop 8)) (fun l e => by omega) H) ?_)
      | ((with_reducible refine at_fn 76 ?_); with_reducible refine owk_c1 evs_auto (by kernel_rfl) pick_auto (fun w H => rd_good (R := none) (b := false) rfl H) ?_)
      | (with_reducible refine is_yk ?_; refine yk_auto (k := ?_))
      | (with_reducible refine is_owk0 ?_; refine owk0_auto (k := ?_))
      | (with_reducible refine is_owkc ?_; refine owk_auto (k := fun _ => ?_))
      | refine go1 (k := ?_)
      | (refine go2 (ka := ?_) (kb := ?_) <;> intro _)
      | fail))
      exact x_ret1 rfl rfl (fun w H => ⟨rfl, H⟩)
  · have hn : ∀ l, R = some l → l.length < 8 := fun l e => Nat.lt_of_not_le fun k => h8 ⟨l, e, k⟩
    have hlo : 0 < lo ∨ hi < 0 := by rcases hlo with h | h | h; exact .inl h; exact .inr h; exact absurd h h8
    (repeat' (first
      | ((with_reducible refine at_fn 74 ?_); with_reducible refine owk_c1 evs_auto (by kernel_rfl) pick_auto (fun w H => rd_num_bad hn H) ?_)
      | ((with_reducible refine at_fn 75 ?_); with_reducible refine owk_c1 evs_auto (by kernel_rfl) pick_auto (fun w H => rd_take_bad (R := none) (fun l e => by cases e) H) ?_)
      | ((with_reducible refine at_fn 76 ?_); with_reducible refine owk_c1 evs_auto (by kernel_rfl) pick_auto (fun w H => rd_good (R := none) (b := false) rfl H) ?_)
      | (with_reducible refine is_yk ?_; refine yk_auto (k := ?_))
      | (with_reducible refine is_owk0 ?_; refine owk0_auto (k := ?_))
      | (with_reducible refine is_owkc ?_; refine owk_auto (k := fun _ => ?_))
      | refine go1 (k := ?_)
      | (refine go2 (ka := ?_) (kb := ?_) <;> intro _)
      | fail))
    all_goals exact x_ret1 rfl rfl (fun w H => ⟨rfl, H⟩)
theorem St.toRd {A : Option Addr} {n cap e : Nat} (H : St c (Bl r 135 [.slice A n cap, .bool false] :: OwnP e 1 (.slice A n cap) n (bvs D) :: F) w) (hD : D.length = n) : ∃ g, St c (RdAt r g D (some D) :: BkP g D :: F) w := by
  subst hD
  rcases St.ownOpen H.swap with ⟨e1, e2, e3, H'⟩ | ⟨g, cap', cur, e1, h1, h2, h3, h4, h5, H'⟩
  · obtain ⟨rfl, -, rfl⟩ := Value.slice.inj e1
    have hn : D = [] := List.eq_nil_of_length_eq_zero e2
    subst hn
    refine ⟨0, St.shutRd (v := .slice none 0 0) ⟨none, 0, rfl, Nat.le_refl _, by omega, fun _ => rfl, .inl rfl⟩ ?_⟩
    obtain ⟨h, a, l, r'⟩ := H'.stars
    exact ⟨H'.con, h, a, l, fun _ => none, .inl rfl, fun _ _ e => (by cases e), r'.mono (fun _ k => ⟨k, rfl⟩) fun _ _ _ e => e⟩
  · obtain ⟨rfl, -, rfl⟩ := Value.slice.inj e1
    rw [Nat.mul_one] at h4
    refine ⟨g, St.shutRd (v := .slice (some ⟨g, 0, none⟩) D.length cap) ⟨_, cap, rfl, h1, h2, fun e => (by cases e), .inr ⟨0, rfl, by simp⟩⟩ ?_⟩
    exact Sel.st (.cons (.tl .hd) (.imp .hd (fun h hb => .inr ⟨_, _, _, hb, by simpa using h4⟩) sel_all)) H'
/-- A reader of bytes, which are copied. -/
theorem rd_read {v : Value} {A : Option Addr} {n cap : Nat} (hv : v = .slice A n cap) (hr : HasR (St c F) v n (bvs D)) (hn : n ≤ 1073741824) (H : St c F w) : Calls Try.prog 69 #[v] w fun e w' =>
    ∃ q : Nat × Nat, e = .returned (.pointer (some ⟨q.1, 0, none⟩)) ∧ St c (RdAt q.1 q.2 D (some D) :: BkP q.2 D :: F) w' := by
  subst hv
  have hD : D.length = n := by
    obtain ⟨h1, -⟩ := hr w H
    rw [bvs_length] at h1; omega
  have h1 := bvs_oneCell D
  refine calls_w (vs := [.slice A n cap]) Try.func69 rfl rfl rfl ?_ w H
  (repeat' (first
      | ((with_reducible refine at_builtinO (b := .append) ?_); with_reducible refine owk (ow_appendR0 ev_const (ev_tmp rfl) hr h1 (by omega)) (fun q => ?_))
      | (with_reducible refine is_yk ?_; refine yk_auto (k := ?_))
      | (with_reducible refine is_owk0 ?_; refine owk0_auto (k := ?_))
      | (with_reducible refine is_owkc ?_; refine owk_auto (k := fun _ => ?_))
      | refine go1 (k := ?_)
      | (refine go2 (ka := ?_) (kb := ?_) <;> intro _)
      | fail))
  exact x_ret1 rfl rfl (fun w H => by
    obtain ⟨g, H'⟩ := St.toRd (H : St c (Bl _ 135 [.slice q.1 n q.2, .bool false] :: _) w) hD
    exact ⟨(_, g), rfl, H'⟩)
end
end Go.Proofs.Ytakeilefbcpabaa

/- Ranges over a function, walked by what is known: what asks nothing of a fence goes in a round as anywhere; the statement; a call of yield; a function that leaves with a mark. No program in sight. -/
namespace Go.Proofs.Ytakeilefbcpabaa
open Go.RowKit

def isDefer : Op → Bool
  | .defer _ => true
  | _ => false
def noDefer (ops : List Oper) : Bool := ops.all fun o => !isDefer o.op
/-- A fence that asks nothing. -/
structure Wide (F : Fence) : Prop where
  fn : ∀ f, F.fn f
  depth : F.depth = none
  calls : ∀ (n : Nat) (P : Program) (f : FuncId) (args : Array Value) (w : World) (R : Ending → World → Prop), Calls P f args w R → CallsIn F n P f args w R
  rows : ∀ (n : Nat) (P : Program) (row : String) (args : Array Value) (w : World) (R : Value → World → Prop), Rows P row args w R → RowsIn F n P row args w R
theorem wide_dep {n : Nat} : Fence.wide.depth.isSome = true → 1 ≤ n := fun k => by cases k
theorem wide0 : Wide Fence.wide :=
  ⟨fun _ => trivial, rfl, fun _ _ _ _ _ _ h => callsIn_wide.2 h, fun _ _ _ _ _ _ h c cs _ => let ⟨v, w', r, s⟩ := h c cs; ⟨v, w', r, stepsIn_wide.2 s⟩⟩
theorem wideR (l : Nat) : Wide (Fence.wide.inRound l) :=
  ⟨fun _ => trivial, rfl, fun n P f args w R h => wide0.calls n P f args w R h, fun n P row args w R h => wide0.rows n P row args w R h⟩

/-- The frame, with calls deferred behind its own. -/
def wd (ds : List Deferred) (a : Act) : Act := { a with defers := a.defers ++ ds }
theorem wd_eval (ds : List Deferred) (a : Act) : (wd ds a).eval = a.eval := funext fun x => by cases x <;> rfl
theorem wd_put (ds : List Deferred) (a : Act) (d : Option Tmp) (v : Value) : (wd ds a).put d v = wd ds (a.put d v) := by cases d <;> rfl
theorem wd_nil (a : Act) : wd [] a = a := by simp [wd]

def Calm (Q : Exit → Act → World → Prop) : Prop := ∀ e a w, Q e a w → e = .normal
def NQ (Z : Act → World → Prop) : Exit → Act → World → Prop := fun e a w => e = .normal ∧ Z a w
theorem calm_nq {Z : Act → World → Prop} : Calm (NQ Z) := fun _ _ _ h => h.1
theorem calm_np {Q : Exit → Act → World → Prop} (h : Calm Q) : Calm (NoPanic Q) := fun e a w k => h e a w (NoPanic.imp e a w k)

section
variable {P : Program} {F : Fence} {n : Nat} {ops : Array Oper} {Q Q0 : Exit → Act → World → Prop} {ds : List Deferred} {a : Act} {w : World}

theorem wpIn_op (hF : Wide F) (hc : Calm Q0) {o : Oper} {K K' : Act → World → Prop} (hd : isDefer o.op = false) (hk : ∀ a w, K a w → K' (wd ds a) w)
    (h : o.wp P a w K Q0 ∨ (o.asks P a w ∧ LetsOut Q0)) : o.wpIn F n P (wd ds a) w K' Q := by
  have out : ¬ LetsOut Q0 := fun ⟨a, w, q⟩ => by cases hc _ a w q
  replace h := h.resolve_right fun k => out k.2
  refine ⟨fun f _ => hF.fn f, ?_⟩
  have e : o.semAt F.round (wd ds a).eval = execOp a.eval o := by
    rw [wd_eval]; exact Oper.semAt_eq _ _ _ fun c e => by rw [e] at hd; cases hd
  rw [e]
  unfold Oper.wp at h
  have dep : F.depth.isSome = true → 1 ≤ n := fun k => by rw [hF.depth] at k; cases k
  generalize (execOp a.eval o).run P w = r at h
  cases r with
  | ok x w' =>
    cases x <;> simp only [Oper.upon, Oper.uponIn] at h ⊢
    case value v => rw [wd_put]; exact hk _ _ h
    case skip => rw [wd_put]; exact hk _ _ h
    case «defer» d =>
      have := hk _ _ h
      rw [← wd_put] at this
      exact this
    case enter f args =>
      refine ⟨dep, hF.calls _ _ _ _ _ _ (Calls.mono h fun e w'' he => ?_)⟩
      cases e with
      | returned v =>
        show K' ((wd ds a).put o.dst v) w''
        rw [wd_put]; exact hk _ _ he
      | panicked ch => cases hc _ _ _ he
      | outgrown => exact absurd he out
    case row row args =>
      exact ⟨dep, hF.rows _ _ _ _ _ _ fun c cs => let ⟨v, w', r, s⟩ := h c cs; ⟨v, w', by rw [wd_put]; exact hk _ _ r, s⟩⟩
  | halt x w' =>
    cases x <;> simp only [Oper.upon, Oper.uponIn] at h ⊢
    case panic v => cases hc _ _ _ h

theorem wpListIn_split (hF : Wide F) {post : List Oper} {Z : Act → World → Prop} (hz : ∀ a w, Z a w → wpListIn F n P ops Q post (wd ds a) w) : ∀ (pre : List Oper) (a : Act) (w : World), noDefer pre = true →
    wpList P ops (NQ Z) pre a w → wpListIn F n P ops Q (pre ++ post) (wd ds a) w
  | [], _, _, _, h => hz _ _ h.2
  | o :: r, a, w, hn, h => by
    simp only [noDefer, List.all_cons, Bool.and_eq_true] at hn
    unfold wpList at h
    show wpListIn F n P ops Q (o :: (r ++ post)) (wd ds a) w
    unfold wpListIn
    show if Region.wanted o (yielded ops a.tmps) = true then _ else _
    split at h
    · rename_i hw
      rw [if_pos hw]
      exact wpIn_op hF calm_nq (by simpa using hn.1) (fun a w k => wpListIn_split hF hz r a w hn.2 k) h
    · rename_i hw
      rw [if_neg hw]
      exact ⟨fun f _ => hF.fn f, by have := wpListIn_split hF hz r _ w hn.2 h; rwa [← wd_put] at this⟩

theorem wpAnyIn_of (hF : Wide F) (hc : Calm Q0) (hnd : noDefer ops.toList = true) (hz : ∀ a w, Q0 .normal a w → Q .normal (wd ds a) w) : ∀ (fuel : Nat) (listed : Array Bool) (a : Act) (w : World),
    wpAny P .any ops Q0 fuel listed a w → wpAnyIn F n P .any ops Q fuel listed (wd ds a) w
  | 0, _, _, _, h => ⟨h.1, hz _ _ h.2⟩
  | fuel + 1, listed, a, w, h => by
    refine ⟨fun k => hz _ _ (h.1 k), fun i hi => ?_⟩
    have h2 := h.2 i hi
    unfold wpOp at h2
    unfold wpOpIn
    split at h2
    · rename_i ho; simp only [ho]; exact wpAnyIn_of hF hc hnd hz fuel _ a w h2
    · rename_i o ho
      simp only [ho]
      have hd : isDefer o.op = false := by
        have := List.all_eq_true.1 hnd o (by
          have := Array.mem_of_getElem? ho
          exact Array.mem_toList_iff.2 this)
        simpa using this
      show if Region.wanted o (yielded ops a.tmps) = true then _ else _
      split at h2
      · rename_i hw
        rw [if_pos hw]
        exact wpIn_op hF hc hd (fun a w k => wpAnyIn_of hF hc hnd hz fuel _ a w k) h2
      · rename_i hw
        rw [if_neg hw]
        exact ⟨fun f _ => hF.fn f, by have := wpAnyIn_of hF hc hnd hz fuel _ _ w h2; rwa [← wd_put] at this⟩

theorem region_planIn (hF : Wide F) (hc : Calm Q0) {id : Nat} (p : Plan) (S : World → Prop) (hm : P.follows .mixedOrders = true) (hB : planB .any ops p = true) (hnd : noDefer ops.toList = true)
    (hz : ∀ a w, Q0 .normal a w → Q .normal (wd ds a) w) (hS : p.any (·.2) = true → S w.drew) (h : wpPlan P ops (NoPanic Q0) (earlyB .any ops p.looks) p S a w.drew) : (Code.region id ops true).wpIn F n P Q (wd ds a) w := by
  have hQ : ∀ c (d : Option Tmp) (v : Value) a w, NoPanic Q0 (.panic c) (a.put d v) w → NoPanic Q0 (.panic c) a w := fun _ _ _ _ _ h => h
  simp only [planB, Bool.and_eq_true, decide_eq_true_eq] at hB
  obtain ⟨⟨hsel, hn⟩, hp⟩ := hB
  refine wpIn_region_any hm ?_
  have H := wpAnyR_plan (md := .any) hsel hQ p S _ a w.drew (fun i hi j hji he => by
    have h0 := List.any_eq_false.1 he i (List.mem_map.2 ⟨(i, true), List.mem_filter.2 ⟨hi, rfl⟩, rfl⟩)
    cases hw : Region.waitsFor .any ops j i with
    | true => rfl
    | false => rw [hw] at h0; simp at h0; exact absurd h0.symm hji) hp hS h
  rw [hn] at H
  exact wpAnyIn_of hF (calm_np hc) hnd hz _ _ _ _ (wpAny_of_R _ _ _ _ H)
end

/-! ### Code in a fence, with calls deferred -/
def WG (P : Program) (N : Nat) (c : Con) (F : Fence) (ds : List Deferred) (Q : Exit → Act → World → Prop) (code : Code) (E : Env) (L : List HP) : Prop := ∀ a w, Fr N E a → St c L w → code.wpIn F 0 P Q (wd ds a) w
def XG (N : Nat) (c : Con) (ds : List Deferred) (Q : Exit → Act → World → Prop) (e : Exit) (E : Env) (L : List HP) : Prop := ∀ a w, Fr N E a → St c L w → Q e (wd ds a) w
def NG (ds : List Deferred) (Q : Exit → Act → World → Prop) : Exit → Act → World → Prop := NQ fun a w => Q .normal (wd ds a) w
section
variable {P : Program} {N : Nat} {c : Con} {F : Fence} {ds : List Deferred} {Q : Exit → Act → World → Prop} {E : Env} {L : List HP}
theorem w_of_g {code : Code} (h : WG P N c Fence.wide [] Q code E L) : W P N c Q code E L := fun a w hf H => wpIn_wide.1 (by have := h a w hf H; rwa [wd_nil] at this)
theorem wg_region (hF : Wide F) {id : Nat} {l : List Oper} (hd : noDefer l = true) (h : WL P N c l.toArray (NG ds Q) l E L) : WG P N c F ds Q (.region id l.toArray false) E L := fun a w hf H => by
  have := wpListIn_split (n := 0) (Q := Q) (ds := ds) hF (ops := l.toArray) (post := []) (fun a w k => k) l a w hd (h a w hf H)
  rw [List.append_nil] at this
  exact wpIn_region_lit this
theorem wg_plan (hF : Wide F) {id : Nat} {ops : Array Oper} (p : Plan) (R : List HP) (hm : P.follows .mixedOrders = true) (hB : planB .any ops p = true) (hd : noDefer ops.toList = true) (hR : Sel L R)
    (h : WP P N c ops (NoPanic (NG ds Q)) R (earlyB .any ops p.looks) p E L) : WG P N c F ds Q (.region id ops true) E L := fun a _ hf H =>
  region_planIn hF calm_nq p (St c R) hm hB hd (fun _ _ k => k.2) (fun _ => (hR.st H).drew) (h a _ hf H.drew)
theorem wg_seq {x y : Code} (h : WG P N c F ds (Exit.then (fun a w => y.wpIn F 0 P Q a w) Q) x E L) : WG P N c F ds Q (x.seq y) E L := fun a w hf H => wpIn_seq (h a w hf H)
theorem wg_skip (h : XG N c ds Q .normal E L) : WG P N c F ds Q .skip E L := fun a w hf H => wpIn_skip (h a w hf H)
theorem wg_ret (h : XG N c ds Q .ret E L) : WG P N c F ds Q .ret E L := fun a w hf H => wpIn_ret (h a w hf H)
theorem wg_block {id : Nat} {x : Code} (h : WG P N c F ds (Exit.inBlock id Q) x E L) : WG P N c F ds Q (.block id x) E L := fun a w hf H => wpIn_block (h a w hf H)
theorem wg_true {t : Nat} {x y : Code} (hl : look E t = some (.bool true)) (h : WG P N c F ds Q x E L) : WG P N c F ds Q (.cond (.tmp t) x y) E L := fun a w hf H =>
  wpIn_cond_true (by rw [wd_eval]; exact ev_tmp hl N a hf) (h a w hf H)
theorem wg_false {t : Nat} {x y : Code} (hl : look E t = some (.bool false)) (h : WG P N c F ds Q y E L) : WG P N c F ds Q (.cond (.tmp t) x y) E L := fun a w hf H =>
  wpIn_cond_false (by rw [wd_eval]; exact ev_tmp hl N a hf) (h a w hf H)
theorem wg_cond {t : Nat} {x y : Code} {p : Prop} [Decidable p] (hl : look E t = some (.bool (decide p))) (h1 : p → WG P N c F ds Q x E L) (h2 : ¬ p → WG P N c F ds Q y E L) : WG P N c F ds Q (.cond (.tmp t) x y) E L := fun a w hf H => by
  by_cases hp : p
  · exact wpIn_cond_true (by rw [wd_eval, ev_tmp hl N a hf]; simp [hp]) (h1 hp a w hf H)
  · exact wpIn_cond_false (by rw [wd_eval, ev_tmp hl N a hf]; simp [hp]) (h2 hp a w hf H)
def CVG (P : Program) (N : Nat) (c : Con) (F : Fence) (ds : List Deferred) (Q : Exit → Act → World → Prop) (x y : Code) (E : Env) (L : List HP) (v : Value) : Prop := ∀ t, look E t = some v → WG P N c F ds Q (.cond (.tmp t) x y) E L
theorem wg_cv {t : Nat} {x y : Code} {v : Value} (hl : look E t = some v) (h : CVG P N c F ds Q x y E L v) : WG P N c F ds Q (.cond (.tmp t) x y) E L := h t hl
theorem cvg_true {x y : Code} (h : WG P N c F ds Q x E L) : CVG P N c F ds Q x y E L (.bool true) := fun _ hl => wg_true hl h
theorem cvg_false {x y : Code} (h : WG P N c F ds Q y E L) : CVG P N c F ds Q x y E L (.bool false) := fun _ hl => wg_false hl h
theorem cvg_dec {x y : Code} {p : Prop} [Decidable p] (h1 : p → WG P N c F ds Q x E L) (h2 : ¬ p → WG P N c F ds Q y E L) : CVG P N c F ds Q x y E L (.bool (decide p)) := fun _ hl => wg_cond hl h1 h2
theorem cvg_dec_t {x y : Code} {p : Prop} [Decidable p] (h : p) (h1 : WG P N c F ds Q x E L) : CVG P N c F ds Q x y E L (.bool (decide p)) := cvg_dec (fun _ => h1) fun k => absurd h k
theorem cvg_dec_f {x y : Code} {p : Prop} [Decidable p] (h : ¬ p) (h1 : WG P N c F ds Q y E L) : CVG P N c F ds Q x y E L (.bool (decide p)) := cvg_dec (fun k => absurd k h) fun _ => h1
theorem cvg_bool_t {x y : Code} {b : Bool} (h : b = true) (h1 : WG P N c F ds Q x E L) : CVG P N c F ds Q x y E L (.bool b) := by subst h; exact cvg_true h1
theorem cvg_bool_f {x y : Code} {b : Bool} (h : b = false) (h1 : WG P N c F ds Q y E L) : CVG P N c F ds Q x y E L (.bool b) := by subst h; exact cvg_false h1
theorem cvg_bool {x y : Code} {b : Bool} (h1 : b = true → WG P N c F ds Q x E L) (h2 : b = false → WG P N c F ds Q y E L) : CVG P N c F ds Q x y E L (.bool b) := by
  cases b
  · exact cvg_false (h2 rfl)
  · exact cvg_true (h1 rfl)
theorem wg_pure {code : Code} {p : Prop} {A : HP} {G : List HP} (hp : Pick L (Pure p A) G) (h : p → WG P N c F ds Q code E (A :: G)) : WG P N c F ds Q code E L := fun a w hf H => by
  obtain ⟨k, H⟩ := St.pure (hp.st H)
  exact h k a w hf H
theorem xg_pure {e : Exit} {p : Prop} {A : HP} {G : List HP} (hp : Pick L (Pure p A) G) (h : p → XG N c ds Q e E (A :: G)) : XG N c ds Q e E L := fun a w hf H => by
  obtain ⟨k, H⟩ := St.pure (hp.st H)
  exact h k a w hf H
theorem xg_sel {e : Exit} {L' : List HP} (s : Sel L L') (h : XG N c ds Q e E L') : XG N c ds Q e E L := fun a w hf H => h a w hf (s.st H)
theorem is_wg {x : Code} (h : WG P N c F ds Q x E L) : WG P N c F ds Q x E L := h
theorem is_xg {e : Exit} (h : XG N c ds Q e E L) : XG N c ds Q e E L := h
theorem is_cvg {x y : Code} {v : Value} (h : CVG P N c F ds Q x y E L v) : CVG P N c F ds Q x y E L v := h
theorem x_ng (h : XG N c ds Q .normal E L) : X N c (NG ds Q) .normal E L := fun a w hf H => ⟨rfl, h a w hf H⟩
theorem xg_then {y : Code} (h : WG P N c F ds Q y E L) : XG N c ds (Exit.then (fun a w => y.wpIn F 0 P Q a w) Q) .normal E L := h
theorem xg_thenW {y : Code} (h : WG P N c Fence.wide ds Q y E L) : XG N c ds (Exit.then (fun a w => y.wp P Q a w) Q) .normal E L := fun a w hf H => wpIn_wide.1 (h a w hf H)
theorem xg_thenR {K : Act → World → Prop} (h : XG N c ds Q .ret E L) : XG N c ds (Exit.then K Q) .ret E L := h
theorem xg_block {id : Nat} (h : XG N c ds Q .normal E L) : XG N c ds (Exit.inBlock id Q) .normal E L := h
theorem xg_blockR {id : Nat} (h : XG N c ds Q .ret E L) : XG N c ds (Exit.inBlock id Q) .ret E L := h

/-! ### Parties -/
theorem Stars.comm {A B : List HP} {S : Nat → Prop} {w : World} (h : Stars (A ++ B) S w) : Stars (B ++ A) S w := by
  have h1 : Stars (Join A :: (B ++ [])) S w := by rw [List.append_nil]; exact Stars.join.2 h
  have h2 : Stars (Join A :: Join B :: []) S w := h1.under fun _ k => Stars.join.2 k
  have h3 : Stars (Join B :: (A ++ [])) S w := h2.swap.under fun _ k => Stars.join.1 k
  rw [List.append_nil] at h3
  exact Stars.join.1 h3
theorem Stars.append {A B : List HP} {w : World} (k : ∀ S, Stars A S w → Stars B S w) : ∀ (X : List HP) {S : Nat → Prop}, Stars (X ++ A) S w → Stars (X ++ B) S w
  | [], _, h => k _ h
  | _ :: X, _, h => Stars.under (L := X ++ A) (fun _ h => Stars.append k X h) h
theorem St.regroup {A B G : List HP} {w : World} (H : St c (Join (A ++ B) :: G) w) : St c (Join (A ++ G) :: B) w := by
  refine St.join.2 ⟨H.con, ?_⟩
  have h := (St.join.1 H).stars
  rw [List.append_assoc] at h ⊢
  exact Stars.append (fun _ k => k.comm) A h
theorem St.toJoin {w : World} (Ls : List HP) (H : St c (Ls ++ L) w) : St c (Join Ls :: L) w := St.join.2 H
theorem St.putPt {b : Nat} {o o' : Obj} {w : World} (H : St c (Pt b o :: L) w) : St c (Pt b o' :: L) (w.putObj b o') := by
  obtain ⟨h, a, l, u⟩ := H.upd
  have hb := l b _ a
  have hlt : b < w.heap.size := (Array.getElem?_eq_some_iff.1 hb).1
  refine u _ _ rfl (fun k _ hn => World.putObj_heap_other ?_) ?_
  · rintro rfl; rw [a] at hn; cases hn
  · simp only [Pt]
    rw [if_pos (.inl (by rw [a]; rfl))]
    exact World.putObj_heap_same hlt

/-! ### A call of yield -/
theorem w_yield {id : Nat} {l : List Oper} (k : Nat) (hd : noDefer (l.take k) = true) (h : WL P N c l.toArray (NQ fun a w => wpListIn Fence.wide 0 P l.toArray Q (l.drop k) a w) (l.take k) E L) : W P N c Q (.region id l.toArray false) E L := fun a w hf H => by
  have := wpListIn_split (n := 0) (Q := Q) (ds := []) wide0 (ops := l.toArray) (post := l.drop k) (fun a w k => by rw [wd_nil]; exact k) (l.take k) a w hd (h a w hf H)
  rw [List.take_append_drop, wd_nil] at this
  exact wpIn_wide.1 (wpIn_region_lit this)
theorem x_rest {ops : Array Oper} {l : List Oper} (hd : noDefer l = true) (h : WL P N c ops (NQ fun a w => Q .normal a w) l E L) : X N c (NQ fun a w => wpListIn Fence.wide 0 P ops Q l a w) .normal E L := fun a w hf H => by
  have := wpListIn_split (n := 0) (Q := Q) (ds := []) wide0 (ops := ops) (post := []) (fun a w k => by rw [wd_nil]; exact k) l a w hd (h a w hf H)
  rw [List.append_nil, wd_nil] at this
  exact ⟨rfl, this⟩
theorem x_nq (h : X N c Q .normal E L) : X N c (NQ fun a w => Q .normal a w) .normal E L := fun a w hf H => ⟨rfl, h a w hf H⟩
theorem x_yield {ops : Array Oper} {d l : Nat} {fo x : Operand} {v : Value} {ts : Array TypeId} {ty : TypeId} {pos : String} {aft : Array Edge} {rest : List Oper} {L1 L2 : List HP} (hdN : Nat.blt d N = true)
    (ho : Ev E fo (.func (.yield l) #[] #[])) (hx : Ev E x v)
    (hy : ∀ w, St c L w → YieldAt Fence.wide 0 P l #[v] w fun e w' => (e = .returned (.bool true) ∧ St c L1 w') ∨ (e = .returned (.bool false) ∧ St c L2 w'))
    (h1 : X N c (NQ fun a w => wpListIn Fence.wide 0 P ops Q rest a w) .normal ((d, .bool true) :: E) L1)
    (h2 : X N c (NQ fun a w => wpListIn Fence.wide 0 P ops Q rest a w) .normal ((d, .bool false) :: E) L2) :
    X N c (NQ fun a w => wpListIn Fence.wide 0 P ops Q (Oper.mk (some d) (.call { callee := .value fo, args := #[x], argTypes := ts }) ty pos aft none :: rest) a w) .normal E L := fun a w hf H => by
  refine ⟨rfl, ?_⟩
  show wpListIn _ _ _ _ _ _ _ _
  unfold wpListIn
  rw [if_pos (by simp [Region.wanted])]
  refine ⟨fun _ _ => trivial, ?_⟩
  obtain ⟨fn, tmps, assign, body, hr, hR⟩ := hy w H
  have e : (Oper.semAt Fence.wide.round a.eval (Oper.mk (some d) (.call { callee := .value fo, args := #[x], argTypes := ts }) ty pos aft none)).run P w = .ok (.round l fn tmps assign body) w := by
    rw [Fence.wide_round, Oper.semAt_none]
    unfold execOp
    simp only [resolve, ho N a hf, Deferred.ofValue, Sem.run_bind, Sem.run_pure, Result.andThen_ok, invoke, Array.empty_append, List.map_toArray, List.map_cons, List.map_nil, hx N a hf]
    exact hr
  rw [e, Oper.uponIn_round]
  refine ⟨wide_dep, hR.mono ?_⟩
  rintro e w' (⟨rfl, H'⟩ | ⟨rfl, H'⟩)
  · exact (h1 _ w' (hf.put hdN) H').2
  · exact (h2 _ w' (hf.put hdN) H').2

/-! ### The statement -/
def PA (N : Nat) (c : Con) (E1 : Env) (L1 : List HP) : Exit → Act → World → Prop := fun e a w => e = .normal ∧ Fr N E1 a ∧ St c L1 w
def PB (c : Con) (L1 L2 : List HP) : Exit → Act → World → Prop := fun e _ w => (e = .normal ∧ St c L1 w) ∨ (e = .ret ∧ St c L2 w)
theorem xg_pa {E1 : Env} {L1 : List HP} (hE : Sub E1 E) (hL : Sel L L1) : XG N c [] (PA N c E1 L1) .normal E L := fun a w hf H => by rw [wd_nil]; exact ⟨rfl, hf.sub hE, hL.st H⟩
theorem xg_pb {L1 L2 : List HP} (hL : Sel L L1) : XG N c ds (PB c L1 L2) .normal E L := fun _ _ _ H => .inl ⟨rfl, hL.st H⟩
theorem xg_pbR {L1 L2 : List HP} (hL : Sel L L2) : XG N c ds (PB c L1 L2) .ret E L := fun _ _ _ H => .inr ⟨rfl, hL.st H⟩
abbrev markOf (D : Nat) : List Deferred := [{ target := .collected D, args := #[] }]
theorem w_range {g : Operand} {t : Nat} {assign body : Code} {gf : FuncId} {lb : List Value} {m : Nat} {K : List HP} (B : Nat → List HP) (Jr : List HP) (xs : Nat → Value) (E1 : Nat → Env)
    (ht : Nat.blt t N = true) (hg : Ev E g (.func (.func gf) #[] lb.toArray)) (he : entersB P gf = true)
    (hit : ∀ (l : Nat) (B' : Nat → HP) (J' : HP), (∀ i, i < m → ∀ (G : List HP) (w : World), St c (B' i :: G) w → YieldAt Fence.wide 0 P l #[xs i] w fun e w' => (e = .returned (.bool true) ∧ St c (B' (i + 1) :: G) w') ∨ (e = .returned (.bool false) ∧ St c (J' :: G) w')) →
      ∀ w, St c (B' 0 :: K) w → Calls P gf (.func (.yield l) #[] #[] :: lb).toArray w fun e w' => (∃ v, e = .returned v) ∧ (St c (B' m :: K) w' ∨ St c (J' :: K) w'))
    (h0 : Sel L (B 0 ++ K))
    (hassign : ∀ l i Rr, i < m → WG P N c (Fence.wide.inRound l) [] (PA N c (E1 i) (Rr :: B i)) assign ((t, xs i) :: E) (Rr :: B i))
    (hbody : ∀ l i Rr, i < m → WG P N c (Fence.wide.inRound l) [] (PB c (Rr :: B (i + 1)) (Rr :: Jr)) body (E1 i) (Rr :: B i))
    (hdone : ∀ D, XG N c (markOf D) Q .normal E (Pt D (.deferred (some [])) :: (B m ++ K)))
    (hret : ∀ D, XG N c (markOf D) Q .ret E (Pt D (.deferred (some [])) :: (Jr ++ K))) :
    W P N c Q (.rangeFunc g #[t] assign body) E L := fun a w hf H => by
  refine (wpIn_wide (n := 0)).1 (wpIn_rangeFunc fun fn _ => ?_)
  obtain ⟨rec, hrec⟩ : ∃ rec : LoopState → Option Code → Loop, rec = fun st pe => { state := st, pending := pe, fn, tmps := a.tmps, params := #[t], assign, body, defers := w.heap.size } := ⟨_, rfl⟩
  obtain ⟨l, hl⟩ : ∃ l, l = w.heap.size + 1 := ⟨_, rfl⟩
  obtain ⟨D, hD⟩ : ∃ D, D = w.heap.size := ⟨_, rfl⟩
  have H1 : St c (Pt l (.loop (rec .ready none)) :: Pt D (.deferred (some [])) :: (B 0 ++ K)) ((w.alloc (.deferred (some []))).alloc (.loop (rec .ready none))) := by
    have := ((h0.st H).allocPt (.deferred (some []))).allocPt (.loop (rec .ready none))
    rw [World.size_alloc] at this
    rw [hl, hD]; exact this
  obtain ⟨B', hB'⟩ : ∃ B' : Nat → HP, B' = fun i => Join ([Pt l (.loop (rec .ready none)), Pt D (.deferred (some []))] ++ B i) := ⟨_, rfl⟩
  obtain ⟨J', hJ'⟩ : ∃ J' : HP, J' = Join ([Pt l (.loop (rec .done (some .ret))), Pt D (.deferred (some []))] ++ Jr) := ⟨_, rfl⟩
  have H2 : St c (B' 0 :: K) ((w.alloc (.deferred (some []))).alloc (.loop (rec .ready none))) := by
    rw [hB']; refine St.join.2 ?_; rw [List.append_assoc]; exact H1
  have hrun := run_enterLoop_outer (P := P) (w := w) fn a.tmps #[t] assign body
  rw [← hl] at hrun
  have hw2 : (.loop { state := .ready, pending := none, fn, tmps := a.tmps, params := #[t], assign, body, defers := w.heap.size } : Obj) = .loop (rec .ready none) := by rw [hrec]
  rw [hw2, ← hD] at hrun
  have hds : markOf D ++ a.defers = (wd (markOf D) a).defers := by simp [wd, hf.defers]
  have hact : ({ a with defers := markOf D ++ a.defers } : Act) = wd (markOf D) a := by rw [hds]; rfl
  refine ⟨l, markOf D, ((w.alloc (.deferred (some []))).alloc (.loop (rec .ready none))), ⟨.fn (.func gf) lb.toArray, #[.func (.yield l) #[] #[]]⟩, ((w.alloc (.deferred (some []))).alloc (.loop (rec .ready none))), gf, (.func (.yield l) #[] #[] :: lb).toArray, ((w.alloc (.deferred (some []))).alloc (.loop (rec .ready none))), hrun, ?_, fun f' _ => wide0.fn f', ?_, wide_dep, ?_⟩
  · simp only [resolve, hg N a hf, Deferred.ofValue, Sem.run_pure, List.map_toArray, List.map_cons]
    simp [go_sem]
  · simp only [invoke]
    rw [show (#[Value.func (.yield l) #[] #[]] ++ lb.toArray) = (.func (.yield l) #[] #[] :: lb).toArray by simp]
    exact run_enters he _ _
  · rw [hact]
    refine callsIn_wide.2 ((hit l B' J' ?_ _ H2).mono ?_)
    · -- one round
      intro i hi G w1 K1
      rw [hB'] at K1
      have KR := St.regroup K1
      have hl1 := St.pt (St.join.1 K1)
      have hy := run_yield (P := P) (args := #[xs i]) hl1 (by rw [hrec]; rfl)
      refine ⟨_, _, _, _, hy, roundIn_of_wpIn trivial ?_⟩
      have ea : ({ tmps := ((rec .ready none).params.zip #[xs i]).foldl (fun tmps (t, a) => tmps.setIfInBounds t a) (rec .ready none).tmps, defers := [] } : Act) = wd [] (a.put (some t) (xs i)) := by
        rw [wd_nil, hrec]
        simp [Act.put, hf.defers]
      rw [ea]
      have eas : (rec .ready none).assign = assign := by rw [hrec]
      have ebo : (rec .ready none).body = body := by rw [hrec]
      rw [eas, ebo]
      refine wpIn_mono (hassign l i _ hi _ w1 (hf.put ht) KR) ?_
      rintro e a2 w2 ⟨rfl, hf2, K2⟩
      have K2' := St.join.1 K2
      have hl2 := St.pt K2'
      refine ⟨_, run_beginRound hl2 (by rw [hrec]), ?_⟩
      have K3 := St.toJoin ([Pt l (.loop { rec .ready none with state := .busy }), Pt D (.deferred (some []))] ++ G) (St.putPt (o' := .loop { rec .ready none with state := .busy }) K2')
      have hb := hbody l i _ hi a2 _ hf2 K3
      rw [wd_nil] at hb
      refine wpIn_mono hb ?_
      rintro e a4 w4 (⟨rfl, K4⟩ | ⟨rfl, K4⟩)
      · have K4' := St.join.1 K4
        have hl4 := St.pt K4'
        refine ⟨_, _, run_endRound none hl4, .inl ⟨rfl, ?_⟩⟩
        have K5 := St.putPt (o' := .loop (rec .ready none)) K4'
        rw [hB']
        have e5 : (.loop { { rec .ready none with state := .busy } with state := if (none : Option Code).isNone then .ready else .done, pending := none } : Obj) = .loop (rec .ready none) := by rw [hrec]; rfl
        rw [e5]
        exact St.regroup (St.toJoin ([Pt l (.loop (rec .ready none)), Pt D (.deferred (some []))] ++ G) K5)
      · have K4' := St.join.1 K4
        have hl4 := St.pt K4'
        refine ⟨_, _, run_endRound (some .ret) hl4, .inr ⟨rfl, ?_⟩⟩
        have K5 := St.putPt (o' := .loop (rec .done (some .ret))) K4'
        rw [hJ']
        have e5 : (.loop { { rec .ready none with state := .busy } with state := if (some Code.ret : Option Code).isNone then .ready else .done, pending := some .ret } : Obj) = .loop (rec .done (some .ret)) := by rw [hrec]; rfl
        rw [e5]
        exact St.regroup (St.toJoin ([Pt l (.loop (rec .done (some .ret))), Pt D (.deferred (some []))] ++ G) K5)
    · rintro e w3 ⟨⟨v, rfl⟩, H3 | H3⟩
      · rw [hB'] at H3
        have H3' := St.join.1 H3
        rw [List.append_assoc] at H3'
        have hl3 := St.pt H3'
        have hr := run_endLoop (P := P) hl3 (by rw [hrec]; simp)
        rw [show (rec .ready none).pending = none by rw [hrec]] at hr
        exact ⟨none, _, hr, hdone D a _ hf (St.putPt H3').tail⟩
      · rw [hJ'] at H3
        have H3' := St.join.1 H3
        rw [List.append_assoc] at H3'
        have hl3 := St.pt H3'
        have hr := run_endLoop (P := P) hl3 (by rw [hrec]; simp)
        rw [show (rec .done (some .ret)).pending = some .ret by rw [hrec]] at hr
        exact ⟨some .ret, _, hr, wpIn_ret (hret D a _ hf (St.putPt H3').tail)⟩

/-! ### A function that leaves with a mark -/
theorem calls_wM {f : FuncId} {fn : Func} {code : Code} {vs : List Value} {R : Ending → World → Prop} (hf : P.funcs[f]? = some fn) (hb : fn.body = some code) (hN : fn.ntmps = N) (hv : Nat.ble vs.length N = true)
    (h : W P N c (bodyPostM Fence.wide 0 P fn R) code (args0 0 vs) L) : ∀ w, St c L w → Calls P f vs.toArray w R := fun w H => by
  have hv' : vs.length ≤ N := by simpa using hv
  refine (callsIn_wide (n := 0)).1 (callsIn_of_wp_marks hf hb trivial (wpIn_wide.2 (h _ w ⟨rfl, by simp [hN]; omega, fun t v hl => ?_⟩ H)))
  obtain ⟨k, h1, h2⟩ := look_args vs 0 t v hl
  have hk : k < vs.length := (List.getElem?_eq_some_iff.1 h2).1
  have : t = k := by omega
  subst this
  have h3 : (vs.toArray ++ Array.replicate (fn.ntmps - vs.toArray.size) undef)[t]? = some v := by
    rw [Array.getElem?_append_left (by simpa using hk)]; simpa using h2
  rw [Array.getD_eq_getD_getElem?, h3]; rfl
theorem x_retM {fn : Func} {R : Ending → World → Prop} (h : X N c (bodyPost P fn R) .ret E L) : X N c (bodyPostM F 0 P fn R) .ret E L := fun a w hf H => by
  show LeavesInM F 0 P fn a.tmps R a.defers .returning w
  rw [hf.defers]
  exact (h a w hf H).2
theorem results_c1 {fn : Func} {p : Tmp} {ty : TypeId} {z v : Value} [ht : TOne P ty z] (h : fn.results = #[.cell p ty]) (tmps : Array Value) (w : World) (ad : Addr)
    (hp : tmps.getD p undef = .pointer (some ad)) (hc : w.cell? ad = some v) : (results fn tmps).run P w = .ok v w := by
  have hu := ht.u
  cases hd : P.underlying ty with
  | none => simp [hd] at hu
  | some ds =>
    have ha : (isAgg ty).run P w = .ok false w := by
      unfold isAgg
      rw [Sem.run_bind, run_underlying hd w]
      rw [hd] at hu
      cases ds <;> simp_all [TypeDesc.isRow]
    have hp' : tmps[p]?.getD undef = .pointer (some ad) := by simpa using hp
    simp [results, h, hp', asAddr, loadVar, ha, load, Sem.run, hc]
theorem x_retC1 {fn : Func} {R : Ending → World → Prop} {p : Tmp} {ty : TypeId} {z v : Value} {ad : Addr} [ht : TOne P ty z] (hr : fn.results = #[.cell p ty]) (hl : look E p = some (.pointer (some ad))) (hc : HasCell (St c L) ad v)
    (h : ∀ w, St c L w → R (.returned v) w) : X N c (bodyPost P fn R) .ret E L := fun a w hf H =>
  bodyPost_ret (v := v) (results_c1 hr a.tmps w ad (hf.get p _ hl) (hc w H)) hf.defers (h w H)
theorem xg_retC1 {fn : Func} {R : Ending → World → Prop} {p : Tmp} {ty : TypeId} {z v : Value} {ad : Addr} {D : Nat} [ht : TOne P ty z] (hr : fn.results = #[.cell p ty]) (hl : look E p = some (.pointer (some ad))) (hc : HasCell (St c L) ad v)
    (h : ∀ w, St c L w → R (.returned v) w) : XG N c (markOf D) (bodyPostM F 0 P fn R) .ret E (Pt D (.deferred (some [])) :: L) := fun a w hf H => by
  show LeavesInM F 0 P fn a.tmps R (a.defers ++ markOf D) .returning w
  rw [hf.defers]
  have H' := (St.putPt (o' := .deferred none) H).tail
  exact ⟨by simp, .inl ⟨D, _, rfl, run_takeDeferred H.pt, v, results_c1 hr a.tmps _ ad (hf.get p _ hl) (hc _ H'), h _ H'⟩⟩
end
section
variable {P : Program} {N : Nat} {c : Con} {F : Fence} {ds : List Deferred} {Q : Exit → Act → World → Prop} {E : Env} {L : List HP} {G : Prop}
theorem im_wg {x : Code} (h : G → WG P N c F ds Q x E L) : G → WG P N c F ds Q x E L := h
theorem im_xg {e : Exit} (h : G → XG N c ds Q e E L) : G → XG N c ds Q e E L := h
theorem im_cvg {x y : Code} {v : Value} (h : G → CVG P N c F ds Q x y E L v) : G → CVG P N c F ds Q x y E L v := h
end
theorem gg1 {G G' : Prop} (h : G' → G := by (first | (with_reducible apply im_wg; first | exact fun h => wg_seq h | exact fun h => wg_region (by first | exact wide0 | exact wideR _) rfl h | exact fun h => wg_cv rfl h | exact fun h => wg_skip h | exact fun h => wg_ret h | exact fun h => wg_block h) | (with_reducible apply im_xg; first | exact fun h => xg_then h | exact fun h => xg_thenW h | exact fun h => xg_thenR h | exact fun h => xg_block h | exact fun h => xg_blockR h) | (with_reducible apply im_cvg; first | exact fun h => cvg_true h | exact fun h => cvg_false h | exact fun h => cvg_dec_t (by first | exact rfl | exact ne_self | decide | omega | assumption) h | exact fun h => cvg_dec_f (by first | exact rfl | exact ne_self | decide | omega | assumption) h | exact fun h => cvg_bool_t (by assumption) h | exact fun h => cvg_bool_f (by assumption) h) | (with_reducible apply im_x; first | exact fun h => x_nq h | exact fun h => x_ng h))) (k : G') : G := h k
theorem gg2 {G A B : Prop} (h : A → B → G := by (first | exact fun h k => cvg_dec h k | exact fun h k => cvg_bool h k)) (ka : A) (kb : B) : G := h ka kb
end Go.Proofs.Ytakeilefbcpabaa

/- A region that draws its order, where two acts may come in either order: first what only looks, then a choice. No program in sight. -/
namespace Go.Proofs.Ytakeilefbcpabaa
open Go.RowKit

/-- The operations that are done, the last one first. -/
def listedOf (n : Nat) : List Nat → Array Bool
  | [] => Array.replicate n false
  | i :: r => (listedOf n r).setIfInBounds i true
def planPre (ops : Array Oper) : Plan → List Nat → Bool
  | [], _ => true
  | (i, b) :: r, l => b && (Region.ready .any ops (listedOf ops.size l)).contains i && Region.free .any ops (listedOf ops.size l) i && planPre ops r (i :: l)
def doneOf : Plan → List Nat → List Nat
  | [], l => l
  | (i, _) :: r, l => doneOf r (i :: l)

section
variable {P : Program} {ops : Array Oper} {Q : Exit → Act → World → Prop} {S : World → Prop} {q : List Nat}
theorem looks_late {i : Nat} (hi : i ∈ q) : ∀ j, j ≠ i → earlyB .any ops q j = false → Region.waitsFor .any ops j i = true := fun j hji he => by
  have h0 := List.any_eq_false.1 he i hi
  cases hw : Region.waitsFor .any ops j i with
  | true => rfl
  | false => rw [hw] at h0; simp at h0; exact absurd h0.symm hji
theorem looks_any (hsel : Region.noSelect ops = true) (hQ : ∀ c (d : Option Tmp) (v : Value) a w, Q (.panic c) (a.put d v) w → Q (.panic c) a w) {n : Nat} :
    ∀ (p : Plan) (l : List Nat) (a : Act) (w : World), (∀ i ∈ p.map (·.1), i ∈ q) → planPre ops p l = true → S w →
      wpPlan P ops (NQ fun a w => wpAnyR P .any ops Q S (earlyB .any ops q) n (listedOf ops.size (doneOf p l)) a w) (earlyB .any ops q) p S a w → wpAnyR P .any ops Q S (earlyB .any ops q) (p.length + n) (listedOf ops.size l) a w
  | [], l, a, w, _, _, _, h => by rw [List.length_nil, Nat.zero_add]; exact h.2
  | (i, false) :: r, l, a, w, _, hB, _, _ => by simp [planPre] at hB
  | (i, true) :: r, l, a, w, hq, hB, hS, h => by
    obtain ⟨o, v, ho, hy, h⟩ := h
    simp only [planPre, Bool.and_eq_true, true_and] at hB
    obtain ⟨⟨hr, hf⟩, hB⟩ := hB
    have H := looks_any hsel hQ r (i :: l) (a.put o.dst v) w (fun k hk => hq k (List.mem_cons_of_mem _ hk)) hB hS h
    have H2 := wpAnyR_first (md := .any) ho (Region.noSelect_spec hsel) (fun c a w => hQ c _ _ a w) (fun j oj hj hji he => by
      obtain ⟨o', ho', e, he', hb, hon⟩ := Region.waitsFor_spec (looks_late (hq i List.mem_cons_self) j hji he)
      obtain rfl : o' = oj := Option.some.inj (ho'.symm.trans hj)
      exact ⟨e, he', hb, hon⟩) _ (listedOf ops.size l) a w (Region.free_spec ho hf) (by simpa using hr) hy hS H
    rw [show ((i, true) :: r).length + n = (r.length + n) + 1 by simp; omega]
    exact H2
end

/-- What is left of a region, from a state on. -/
abbrev Rest (P : Program) (c : Con) (ops : Array Oper) (Q : Exit → Act → World → Prop) (R : List HP) (q : List Nat) (n : Nat) (l : List Nat) : Exit → Act → World → Prop :=
  NQ fun a w => wpAnyR P .any ops (NoPanic Q) (St c R) (earlyB .any ops q) n (listedOf ops.size l) a w
section
variable {P : Program} {N : Nat} {c : Con} {Q : Exit → Act → World → Prop} {E : Env} {L R : List HP} {ops : Array Oper} {q : List Nat}
theorem np_panic : ∀ c (d : Option Tmp) (v : Value) a w, NoPanic Q (.panic c) (a.put d v) w → NoPanic Q (.panic c) a w := fun _ _ _ _ _ h => h
/-- First the looks of p; q: all that looks. -/
theorem w_looks {id : Nat} (p : Plan) (q : List Nat) (R : List HP) (hm : P.follows .mixedOrders = true) (hsel : Region.noSelect ops = true) (hq : (p.map (·.1)).all (q.contains ·) = true) (hB : planPre ops p [] = true) (hl : Nat.ble p.length ops.size = true) (hR : Sel L R)
    (h : WP P N c ops (Rest P c ops Q R q (ops.size - p.length) (doneOf p [])) R (earlyB .any ops q) p E L) : W P N c Q (.region id ops true) E L := fun a w hf H => by
  refine wp_region_noPanic (wp_region_any hm ?_)
  have h1 := looks_any (S := St c R) hsel np_panic p [] a w.drew (fun i hi => by have := List.all_eq_true.1 hq i hi; simpa using this) hB (hR.st H).drew (h a _ hf H.drew)
  rw [show p.length + (ops.size - p.length) = ops.size by have := Nat.le_of_ble_eq_true hl; omega] at h1
  exact wpAny_of_R _ _ _ _ h1
theorem x_tail {n : Nat} {l : List Nat} (R' : List HP) (p : Plan) (hRR : Sel R' R) (hsel : Region.noSelect ops = true) (hq : p.looks.all (q.contains ·) = true) (hn : p.length = n) (hB : planOk .any ops (earlyB .any ops q) p (listedOf ops.size l) = true) (hR : Sel L R')
    (h : WP P N c ops (NoPanic Q) R' (earlyB .any ops q) p E L) : X N c (Rest P c ops Q R q n l) .normal E L := fun a w hf H => by
  refine ⟨rfl, ?_⟩
  subst hn
  exact wpAnyR_mono (fun w k => hRR.st k) _ _ _ _ (wpAnyR_plan hsel np_panic p (St c R') _ a w (fun i hi => looks_late (by
    have := List.all_eq_true.1 hq i (List.mem_map.2 ⟨(i, true), List.mem_filter.2 ⟨hi, rfl⟩, rfl⟩)
    simpa using this)) hB (fun _ => hR.st H) (h a w hf H))
/-- Two acts may come. -/
theorem x_two {m n i j d1 d2 : Nat} {l : List Nat} {op1 op2 : Op} {ty1 ty2 : TypeId} {pos1 pos2 : String} {aft1 aft2 : Array Edge} (hr : Region.ready .any ops (listedOf ops.size l) = [i, j])
    (h1 : ops[i]? = some ⟨some d1, op1, ty1, pos1, aft1, none⟩) (h2 : ops[j]? = some ⟨some d2, op2, ty2, pos2, aft2, none⟩) (b1 : Nat.blt d1 N = true) (b2 : Nat.blt d2 N = true) (hm : m = n + 1)
    (k1 : OWK P N c E L ⟨some d1, op1, ty1, pos1, aft1, none⟩ fun v L' => (Sel L' R ∧ X N c (Rest P c ops Q R q n (i :: l)) .normal ((d1, v) :: E) L'))
    (k2 : OWK P N c E L ⟨some d2, op2, ty2, pos2, aft2, none⟩ fun v L' => (Sel L' R ∧ X N c (Rest P c ops Q R q n (j :: l)) .normal ((d2, v) :: E) L')) : X N c (Rest P c ops Q R q m l) .normal E L := fun a w hf H => by
  subst hm
  refine ⟨rfl, ⟨fun e => (by rw [hr] at e; cases e), fun k hk => ?_⟩⟩
  rw [hr] at hk
  rcases List.mem_cons.1 hk with rfl | hk
  · obtain ⟨β, s, L', g1, g2⟩ := k1
    unfold wpOp
    simp only [h1]
    rw [if_pos (by simp [Region.wanted])]
    exact .inl (g1 _ _ a w hf H fun x w' H' => ⟨fun _ => (g2 x).1.st H', ((g2 x).2 _ w' (hf.put b1) H').2⟩)
  · obtain rfl := List.mem_singleton.1 hk
    obtain ⟨β, s, L', g1, g2⟩ := k2
    unfold wpOp
    simp only [h2]
    rw [if_pos (by simp [Region.wanted])]
    exact .inl (g1 _ _ a w hf H fun x w' H' => ⟨fun _ => (g2 x).1.st H', ((g2 x).2 _ w' (hf.put b2) H').2⟩)
end
end Go.Proofs.Ytakeilefbcpabaa

/- coffretref01.Num: a number's bytes, the lowest first; framed: some bytes as long as a frame of them. -/
namespace Go.Proofs.Ytakeilefbcpabaa
open Go.RowKit

def leB : Nat → Nat → List UInt8
  | 0, _ => []
  | k + 1, x => UInt8.ofNat (x % 256) :: leB k (x / 256)
theorem leB_length : ∀ k x, (leB k x).length = k
  | 0, _ => rfl
  | k + 1, x => by rw [leB, List.length_cons, leB_length k]
theorem leB_snoc : ∀ k x, leB (k + 1) x = leB k x ++ [UInt8.ofNat (x / 256 ^ k % 256)]
  | 0, x => by simp [leB]
  | k + 1, x => by
    rw [leB, leB_snoc k (x / 256), leB, List.cons_append]
    rw [Nat.div_div_eq_div_mul, Nat.pow_succ, Nat.mul_comm 256]
section
variable {P : Program} {H : World → Prop} {E : Env} {d : Option Nat} {ty : TypeId} {pos : String} {aft : Array Edge} {g : Option (Nat × Bool)}
theorem y_quoK {k : IntKind} {x y : Operand} {t t' : TypeId} {m n q : Int} (hx : Ev E x (.int k m)) (hy : Ev E y (.int k n)) (h : 0 ≤ m ∧ 0 < n) (hq : m / n = q) (hw : k.wrap q = q) :
    Y P H E (Oper.mk d (.binOp .quo t x y t') ty pos aft g) (.int k q) := fun N a w hf _ => by
  have h1 : m.tdiv n = m / n := Int.tdiv_eq_ediv_of_nonneg h.1
  have h0 : n ≠ 0 := by omega
  unfold execOp; simp [hx N a hf, hy N a hf, eqGuard, binOp, Op.intDiv, h0, h1, hq, hw]
end
theorem wrap64_nat {x : Nat} (h : x < 18446744073709551616) : IntKind.u64.wrap (x : Int) = x := by
  have e : IntKind.u64.wrap (x : Int) = (x : Int) % 18446744073709551616 := rfl
  rw [e]; omega
theorem wrap8_byte (y : Nat) : IntKind.u8.wrap ((y : Int) % 256) = ((UInt8.ofNat (y % 256)).toNat : Int) := by
  have e : IntKind.u8.wrap ((y : Int) % 256) = (y : Int) % 256 % 256 := rfl
  rw [e, UInt8.toNat_ofNat']; omega
attribute [local irreducible] Y OW YK OWK W WL WP X CV Ev Evs HasCell HasCells Has Met Again Kept
section
variable {c : Con} {F : List HP} {w : World}
set_option maxRecDepth 100000 in
theorem num_ref (x : Nat) (hx : x < 9223372036854775808) (H : St c F w) : Calls Try.prog 64 #[.int .i64 x] w fun e w' => e = .returned (str (leB 8 x)) ∧ St c F w' := by
  have hw0 : IntKind.u64.wrap (x : Int) = ((x / 256 ^ 0 : Nat) : Int) := by rw [wrap64_nat (by omega)]; simp
  refine calls_w (vs := [.int .i64 x]) Try.func64 rfl rfl rfl ?_ w H
  (repeat' (first
      | (with_reducible refine at_conv ?_; first | refine yk_eq (y_conv_int (ev_tmp rfl)) (congrArg _ hw0) ?_)
      | (with_reducible refine is_yk ?_; refine yk_auto (k := ?_))
      | (with_reducible refine is_owk0 ?_; refine owk0_auto (k := ?_))
      | (with_reducible refine is_owkc ?_; refine owk_auto (k := fun _ => ?_))
      | refine go1 (k := ?_)
      | (refine go2 (ka := ?_) (kb := ?_) <;> intro _)
      | fail))
  refine w_loop (α := Nat) (fun k => k ≤ 8)
    (fun k => [(5, .int .i64 (k : Int)), (4, str (leB k x)), (3, .int .u64 ((x / 256 ^ k : Nat) : Int))]) (fun _ => F) (fun k => 8 - k) 0 (by omega) sub_auto sel_auto (fun k hk => ?_)
  have hle : x / 256 ^ k ≤ x := Nat.div_le_self _ _
  have hq : (x / 256 ^ k) / 256 = x / 256 ^ (k + 1) := by rw [Nat.div_div_eq_div_mul, Nat.pow_succ]
  have hs := leB_snoc k x
  have hlen := leB_length k x
  generalize x / 256 ^ k = y at hle hq hs ⊢
  generalize hd : x / 256 ^ (k + 1) = y' at hq ⊢
  have hq' : (y : Int) / 256 = (y' : Int) := by omega
  have hy' : IntKind.u64.wrap (y' : Int) = y' := wrap64_nat (by omega)
  have h8 := wrap8_byte y
  have hb1 : (([UInt8.ofNat (y % 256)] : List UInt8)).length = 1 := rfl
  generalize hB : UInt8.ofNat (y % 256) = b at hs h8 hb1
  have hsz : (leB k x).length + [b].length ≤ 9223372036854775807 := by rw [hlen]; show k + 1 ≤ _; omega
  generalize hl0 : leB k x = l0 at hs hsz ⊢
  generalize hl1 : leB (k + 1) x = l1 at hs
  have hR : ∀ (q T : Nat) (G : List HP), HasR (St c (Bl q T (List.flatMap vcells [Value.int .u8 b.toNat]) :: G)) (.slice (some ⟨q, 0, none⟩) 1 1) 1 (bvs [b]) := fun q T G => reads_has (hasCells_bl has_hd rfl) rfl (by decide) (by decide)
  by_cases h8k : k < 8
  · (repeat' (first
      | (with_reducible refine at_conv ?_; first | refine yk_eq (y_conv_int (ev_tmp rfl)) (congrArg _ h8) ?_ | refine yk (y_str (n := 1) (l := [b]) (ev_tmp rfl) (hR _ _ _)) ?_)
      | (with_reducible refine at_bin ?_; first | refine yk (y_rem (ev_tmp rfl) ev_const (by omega)) ?_ | refine yk (y_quoK (ev_tmp rfl) ev_const (by omega) hq' hy') ?_ | refine yk_eq (y_add_s (ev_tmp rfl) (ev_tmp rfl) hsz) rfl ?_)
      | (with_reducible refine is_yk ?_; refine yk_auto (k := ?_))
      | (with_reducible refine is_owk0 ?_; refine owk0_auto (k := ?_))
      | (with_reducible refine is_owkc ?_; refine owk_auto (k := fun _ => ?_))
      | refine go1 (k := ?_)
      | (refine go2 (ka := ?_) (kb := ?_) <;> intro _)
      | fail))
    exact x_again (k + 1) (by omega) (by omega) (by rw [hl1, hs, hd]; exact sub_auto) sel_auto
  · have : k = 8 := by omega
    subst this
    (repeat' (first
      | (with_reducible refine is_yk ?_; refine yk_auto (k := ?_))
      | (with_reducible refine is_owk0 ?_; refine owk0_auto (k := ?_))
      | (with_reducible refine is_owkc ?_; refine owk_auto (k := fun _ => ?_))
      | refine go1 (k := ?_)
      | (refine go2 (ka := ?_) (kb := ?_) <;> intro _)
      | fail))
    exact x_ret1 rfl rfl (fun w H => ⟨by rw [hl0], H⟩)

/-- Some bytes as long as a frame of them. -/
def frameB (s : List UInt8) : List UInt8 := leB 8 (max s.length 40 + 8) ++ s ++ List.replicate (max s.length 40 - s.length) 0
theorem frameB_length (s : List UInt8) : (frameB s).length = max s.length 40 + 8 := by
  simp [frameB, leB_length]; omega
set_option maxRecDepth 100000 in
theorem framed_ref (s : List UInt8) (hs : s.length ≤ 16777216) {sv : Value} (hsv : sv = str s) (H : St c F w) : Calls Try.prog 45 #[sv] w fun e w' =>
    ∃ q : { q : Nat × Nat // (frameB s).length ≤ q.2 ∧ q.2 ≤ 9223372036854775807 }, e = .returned (.slice (some ⟨q.1.1, 0, none⟩) (frameB s).length q.1.2) ∧ St c (BytesP q.1.1 q.1.2 5 (frameB s) :: F) w' := by
  subst hsv
  have hfl := frameB_length s
  have hmx : max (s.length : Int) 40 + 8 = ((max s.length 40 + 8 : Nat) : Int) := by omega
  have hpad : ((max s.length 40 + 8 : Nat) : Int) - 8 - (s.length : Int) = ((max s.length 40 - s.length : Nat) : Int) := by omega
  have hfb : str (leB 8 (max s.length 40 + 8) ++ s ++ List.replicate (max s.length 40 - s.length) 0) = str (frameB s) := rfl
  have hRR : ∀ (b T : Nat) (G : List HP), HasR (St c (Bl b T (List.replicate (max s.length 40 - s.length) (.int .u8 0)) :: G)) (.slice (some ⟨b, 0, none⟩) (max s.length 40 - s.length) (max s.length 40 - s.length)) (max s.length 40 - s.length) (bvs (List.replicate (max s.length 40 - s.length) 0)) := fun b T G => by
    rw [replicate_bvs]; exact hasR_blAll (by simp [bvs_length, zeros_length]) (by omega) (by omega)
  have hsz2 : (leB 8 (max s.length 40 + 8) ++ s).length + (List.replicate (max s.length 40 - s.length) (0 : UInt8)).length ≤ 9223372036854775807 := by simp [leB_length]; omega
  have hl8 := leB_length 8 (max s.length 40 + 8)
  have hsz1 : (leB 8 (max s.length 40 + 8)).length + s.length ≤ 9223372036854775807 := by omega
  refine calls_w (vs := [str s]) Try.func45 rfl rfl rfl ?_ w H
  (repeat' (first
      | (with_reducible refine at_bin ?_; first | refine yk_eq (y_add64 (ev_tmp rfl) ev_const (by omega)) (congrArg _ hmx) ?_)
      | (with_reducible refine is_w ?_; first | refine w_looks [(0, true), (2, true), (4, true), (5, true), (6, true), (7, true), (8, true)] [0, 2, 3, 4, 5, 6, 7, 8, 10, 11, 13] [] (by kernel_rfl) (by kernel_rfl) (by kernel_rfl) (by kernel_rfl) (by kernel_rfl) Sel.nil ?_)
      | (with_reducible refine is_yk ?_; refine yk_auto (k := ?_))
      | (with_reducible refine is_owk0 ?_; refine owk0_auto (k := ?_))
      | (with_reducible refine is_owkc ?_; refine owk_auto (k := fun _ => ?_))
      | refine go1 (k := ?_)
      | (refine go2 (ka := ?_) (kb := ?_) <;> intro _)
      | fail))
  refine x_two (i := 1) (j := 9) (n := 6) (by kernel_rfl) rfl rfl rfl rfl rfl ?_ ?_
  · refine owk_c0s evs_auto (by kernel_rfl) (fun w H => num_ref _ (by omega) H) ⟨Sel.nil, ?_⟩
    refine x_tail [] [(3, true), (9, false), (10, true), (11, true), (12, false), (13, true)] Sel.nil (by kernel_rfl) (by kernel_rfl) rfl (by kernel_rfl) Sel.nil ?_
    (repeat' (first
      | ((with_reducible refine at_makeSliceO ?_); with_reducible refine owk (ow_makeSliceI (ev_tmp rfl) (ev_tmp rfl) hpad (by omega) (by omega)) (fun b => ?_))
      | (with_reducible refine at_bin ?_; first | refine yk (y_add_s (ev_tmp rfl) (ev_tmp rfl) hsz1) ?_ | refine yk_eq (y_add_s (ev_tmp rfl) (ev_tmp rfl) hsz2) hfb ?_)
      | (with_reducible refine at_conv ?_; first | refine yk (y_str (l := List.replicate (max s.length 40 - s.length) 0) (n := max s.length 40 - s.length) (ev_tmp rfl) (hRR _ _ _)) ?_)
      | (with_reducible refine is_kept ?_; first | refine kept_more [Bl _ _ _] sel_auto sel_auto ?_)
      | (with_reducible refine is_yk ?_; refine yk_auto (k := ?_))
      | (with_reducible refine is_owk0 ?_; refine owk0_auto (k := ?_))
      | (with_reducible refine is_owkc ?_; refine owk_auto (k := fun _ => ?_))
      | refine go1 (k := ?_)
      | (refine go2 (ka := ?_) (kb := ?_) <;> intro _)
      | fail))
    exact x_ret1 rfl rfl (fun w H => ⟨_, rfl, Sel.st (.cons .hd (.tl sel_all)) H⟩)
  · refine owk (ow_makeSliceI (ev_tmp rfl) (ev_tmp rfl) hpad (by omega) (by omega)) (fun b => ⟨Sel.nil, ?_⟩)
    refine x_tail [Bl _ _ _] [(10, true), (1, false), (3, true), (11, true), (12, false), (13, true)] Sel.nil (by kernel_rfl) (by kernel_rfl) rfl (by kernel_rfl) sel_auto ?_
    (repeat' (first
      | ((with_reducible refine at_fn 64 ?_); with_reducible refine owk_c0s evs_auto (by kernel_rfl) (fun w H => num_ref _ (by omega) H) ?_)
      | (with_reducible refine at_bin ?_; first | refine yk (y_add_s (ev_tmp rfl) (ev_tmp rfl) hsz1) ?_ | refine yk_eq (y_add_s (ev_tmp rfl) (ev_tmp rfl) hsz2) hfb ?_)
      | (with_reducible refine at_conv ?_; first | refine yk (y_str (l := List.replicate (max s.length 40 - s.length) 0) (n := max s.length 40 - s.length) (ev_tmp rfl) (hRR _ _ _)) ?_)
      | (with_reducible refine is_yk ?_; refine yk_auto (k := ?_))
      | (with_reducible refine is_owk0 ?_; refine owk0_auto (k := ?_))
      | (with_reducible refine is_owkc ?_; refine owk_auto (k := fun _ => ?_))
      | refine go1 (k := ?_)
      | (refine go2 (ka := ?_) (kb := ?_) <;> intro _)
      | fail))
    exact x_ret1 rfl rfl (fun w H => ⟨_, rfl, Sel.st (.cons .hd (.tl sel_all)) H⟩)
end
end Go.Proofs.Ytakeilefbcpabaa

/- Package chain: the length of a frame; areas. -/
namespace Go.Proofs.Ytakeilefbcpabaa
open Go.RowKit
/-- How many bytes the frame has that bytes begin with. -/
def lengthM (b : List UInt8) : Int := if inOk 48 16384 (some b) = true ∧ leInt (b.take 8) ≤ b.length then leInt (b.take 8) else 0
attribute [local irreducible] Y OW YK OWK W WL WP X CV Ev Evs HasCell HasCells Has Met Again Kept
section
variable {c : Con} {F : List HP} {w : World}
theorem seg_length {v : Value} {A : Option Addr} {n cap : Nat} {D : List UInt8} {E : Int} (hv : v = .slice A n cap) (hE : lengthM D = E) (hr : HasR (St c F) v n (bvs D)) (hn : n ≤ 1073741824) (H : St c F w) : Calls Try.prog 65 #[v] w fun e w' =>
    e = .returned (.int .i64 E) ∧ St c F w' := by
  subst hv hE
  have hD : D.length = n := by
    obtain ⟨h1, -⟩ := hr w H
    rw [bvs_length] at h1; omega
  refine calls_w (vs := [.slice A n cap]) Try.func65 rfl rfl rfl ?_ w H
  cases hb : inOk 48 16384 (some D)
  · have hl : lengthM D = 0 := by simp [lengthM, hb]
    rw [hl]
    (repeat' (first
      | ((with_reducible refine at_fn 69 ?_); with_reducible refine owk (ow_callx evs_auto (by kernel_rfl) (fun w H => rd_read rfl hr hn H)) (fun q => ?_))
      | ((with_reducible refine at_fn 70 ?_); with_reducible refine owk_c2 evs_auto (by kernel_rfl) pick_auto pick_auto (fun w H => rd_in_bad hb (.inl (by omega)) H) ?_)
      | (with_reducible refine is_yk ?_; refine yk_auto (k := ?_))
      | (with_reducible refine is_owk0 ?_; refine owk0_auto (k := ?_))
      | (with_reducible refine is_owkc ?_; refine owk_auto (k := fun _ => ?_))
      | refine go1 (k := ?_)
      | (refine go2 (ka := ?_) (kb := ?_) <;> intro _)
      | fail))
    exact x_ret1 rfl rfl (fun w H => ⟨rfl, H.tail.tail⟩)
  · have h8 : 8 ≤ D.length ∧ 48 ≤ leInt (D.take 8) ∧ leInt (D.take 8) ≤ 16384 := by simp [inOk] at hb; omega
    have hl : D = D.take 8 ++ D.drop 8 := (List.take_append_drop 8 D).symm
    have ha : (D.take 8).length = 8 := by simp; omega
    obtain ⟨m, hm⟩ : ∃ m, leInt (D.take 8) = m := ⟨_, rfl⟩
    have hlm : lengthM D = if m ≤ (n : Int) then m else 0 := by simp [lengthM, hb, hm, hD]
    rw [hlm]
    rw [hm] at h8
    (repeat' (first
      | ((with_reducible refine at_fn 69 ?_); with_reducible refine owk (ow_callx evs_auto (by kernel_rfl) (fun w H => rd_read rfl hr hn H)) (fun q => ?_))
      | ((with_reducible refine at_fn 70 ?_); with_reducible refine owk_c2 evs_auto (by kernel_rfl) pick_auto pick_auto (fun w H => rd_in_ok hl ha hm h8.2 H) ?_)
      | (with_reducible refine is_yk ?_; refine yk_auto (k := ?_))
      | (with_reducible refine is_owk0 ?_; refine owk0_auto (k := ?_))
      | (with_reducible refine is_owkc ?_; refine owk_auto (k := fun _ => ?_))
      | refine go1 (k := ?_)
      | (refine go2 (ka := ?_) (kb := ?_) <;> intro _)
      | fail))

    · rename_i k
      exact x_ret1 rfl rfl (fun w H => ⟨by rw [if_neg (by omega)], H.tail.tail⟩)
    · rename_i k
      exact x_ret1 rfl rfl (fun w H => ⟨by rw [if_pos (by omega)], H.tail.tail⟩)
end
end Go.Proofs.Ytakeilefbcpabaa

/- slices.Chunk of bytes, ranged over. -/
namespace Go.Proofs.Ytakeilefbcpabaa
open Go.RowKit
/-- The j-th chunk's bounds. -/
def chunkV (A : Option Addr) (n j : Nat) : Value := .slice (A.map (·.add (256 * j * 1))) (min 256 (n - 256 * j)) (min 256 (n - 256 * j))
attribute [local irreducible] Y OW YK OWK W WL WP X CV WG XG CVG Ev Evs HasCell HasCells Has Met Again Kept
section
variable {c : Con} {F : List HP} {w : World}
theorem chunk_make {A : Option Addr} {n cap : Nat} (H : St c F w) : Calls Try.prog 66 #[.slice A n cap, .int .i64 256] w fun e w' =>
    ∃ q : Nat × Nat, e = .returned (.func (.func 71) #[] #[.pointer (some ⟨q.1, 0, none⟩), .pointer (some ⟨q.2, 0, none⟩)]) ∧ St c (Bl q.2 3 [.int .i64 256] :: Bl q.1 46 [.slice A n cap] :: F) w' := by
  refine calls_w (vs := [.slice A n cap, .int .i64 256]) Try.func66 rfl rfl rfl ?_ w H
  (repeat' (first
      | (with_reducible refine is_yk ?_; refine yk_auto (k := ?_))
      | (with_reducible refine is_owk0 ?_; refine owk0_auto (k := ?_))
      | (with_reducible refine is_owkc ?_; refine owk_auto (k := fun _ => ?_))
      | refine go1 (k := ?_)
      | (refine go2 (ka := ?_) (kb := ?_) <;> intro _)
      | refine gg1 (k := ?_)
      | (refine gg2 (ka := ?_) (kb := ?_) <;> intro _)
      | fail))
  exact x_ret1 rfl rfl (fun w H => ⟨(_, _), rfl, H⟩)
set_option maxRecDepth 100000 in
theorem chunk_iter {A : Option Addr} {n cap m p q : Nat} {K : List HP} (hm : m = (n + 255) / 256) (hn : n ≤ cap ∧ cap ≤ 9223372036854775807) (hn2 : n ≤ 1073741824) (l : Nat) (B' : Nat → HP) (J' : HP)
    (hr : ∀ i, i < m → ∀ (G : List HP) (w : World), St c (B' i :: G) w → YieldAt Fence.wide 0 Try.prog l #[chunkV A n i] w fun e w' => (e = .returned (.bool true) ∧ St c (B' (i + 1) :: G) w') ∨ (e = .returned (.bool false) ∧ St c (J' :: G) w')) :
    ∀ w, St c (B' 0 :: Bl q 3 [.int .i64 256] :: Bl p 46 [.slice A n cap] :: K) w → Calls Try.prog 71 #[.func (.yield l) #[] #[], .pointer (some ⟨p, 0, none⟩), .pointer (some ⟨q, 0, none⟩)] w fun e w' => (∃ v, e = .returned v) ∧
      (St c (B' m :: Bl q 3 [.int .i64 256] :: Bl p 46 [.slice A n cap] :: K) w' ∨ St c (J' :: Bl q 3 [.int .i64 256] :: Bl p 46 [.slice A n cap] :: K) w') := fun w H => by
  subst hm
  refine calls_w (vs := [.func (.yield l) #[] #[], .pointer (some ⟨p, 0, none⟩), .pointer (some ⟨q, 0, none⟩)]) Try.func71 rfl rfl rfl ?_ w H
  (repeat' (first
      | (with_reducible refine is_yk ?_; refine yk_auto (k := ?_))
      | (with_reducible refine is_owk0 ?_; refine owk0_auto (k := ?_))
      | (with_reducible refine is_owkc ?_; refine owk_auto (k := fun _ => ?_))
      | refine go1 (k := ?_)
      | (refine go2 (ka := ?_) (kb := ?_) <;> intro _)
      | refine gg1 (k := ?_)
      | (refine gg2 (ka := ?_) (kb := ?_) <;> intro _)
      | fail))
  refine w_loop (α := Nat) (fun j => j ≤ (n + 255) / 256)
    (fun j => [(4, .int .i64 ((256 * j : Nat) : Int)), (0, .func (.yield l) #[] #[]), (1, .pointer (some ⟨p, 0, none⟩)), (2, .pointer (some ⟨q, 0, none⟩))])
    (fun j => B' j :: Bl q 3 [.int .i64 256] :: Bl p 46 [.slice A n cap] :: K) (fun j => (n + 255) / 256 - j) 0 (Nat.zero_le _) sub_auto sel_auto (fun j hj => ?_)
  by_cases hlt : 256 * j < n
  · have hjm : j < (n + 255) / 256 := by omega
    have hle : 256 * j ≤ n := by omega
    have hY := hr j hjm
    have hmn : min (256 : Int) ((n - 256 * j : Nat) : Int) = ((min 256 (n - 256 * j) : Nat) : Int) := by omega
    have hV : chunkV A n j = .slice (A.map (·.add (256 * j * 1))) (min 256 (n - 256 * j)) (min 256 (n - 256 * j)) := rfl
    have hk : 0 < min 256 (n - 256 * j) ∧ 256 * j + min 256 (n - 256 * j) ≤ n := by omega
    have hnx : (256 * j : Nat) + 256 = 256 * (j + 1) := by omega
    generalize min 256 (n - 256 * j) = k at hmn hV hk
    have hsum : ((256 * j : Nat) : Int) + (k : Int) = ((256 * j + k : Nat) : Int) := by omega
    have hsum2 : ((256 * j : Nat) : Int) + 256 = ((256 * (j + 1) : Nat) : Int) := by omega
    have hsl : Value.slice (if 256 * j + k = 256 * j then A else A.map (·.add (256 * j * 1))) (256 * j + k - 256 * j) (256 * j + k - 256 * j) = chunkV A n j := by
      rw [hV, if_neg (by omega), Nat.add_sub_cancel_left]
    generalize chunkV A n j = cv at hY hsl
    (repeat' (first
      | (with_reducible refine at_call ?_; first | refine yk_eq (y_min (ev_tmp rfl) (ev_tmp rfl)) (congrArg _ hmn) ?_)
      | (with_reducible refine at_bin ?_; first | refine yk_eq (y_add64 (ev_tmp rfl) (ev_tmp rfl) (by omega)) (congrArg _ hsum) ?_)
      | (with_reducible refine at_slice ?_; first | refine yk_eq (y_slice3 (ev_tmp rfl) (ev_tmp rfl) (ev_tmp rfl) (ev_tmp rfl) (by omega)) hsl ?_)
      | (with_reducible refine is_w ?_; first | refine w_plan (id := 3) [(0, true), (1, true), (2, true), (3, true), (4, true), (5, true), (6, true)] _ (by kernel_rfl) (by kernel_rfl) sel_all ?_ | ((refine w_yield (id := 4) 10 rfl ?_); simp only [List.take_succ_cons, List.take_zero, List.drop_succ_cons, List.drop_zero]))
      | (with_reducible refine is_yk ?_; refine yk_auto (k := ?_))
      | (with_reducible refine is_owk0 ?_; refine owk0_auto (k := ?_))
      | (with_reducible refine is_owkc ?_; refine owk_auto (k := fun _ => ?_))
      | refine go1 (k := ?_)
      | (refine go2 (ka := ?_) (kb := ?_) <;> intro _)
      | refine gg1 (k := ?_)
      | (refine gg2 (ka := ?_) (kb := ?_) <;> intro _)
      | fail))
    refine x_yield rfl (ev_tmp rfl) (ev_tmp rfl) (fun w H => hY _ w H) ?_ ?_
    · refine x_rest rfl ?_
      (repeat' (first
      | (with_reducible refine at_bin ?_; first | refine yk_eq (y_add64 (ev_tmp rfl) (ev_tmp rfl) (by omega)) (congrArg _ hsum2) ?_)
      | (with_reducible refine is_yk ?_; refine yk_auto (k := ?_))
      | (with_reducible refine is_owk0 ?_; refine owk0_auto (k := ?_))
      | (with_reducible refine is_owkc ?_; refine owk_auto (k := fun _ => ?_))
      | refine go1 (k := ?_)
      | (refine go2 (ka := ?_) (kb := ?_) <;> intro _)
      | refine gg1 (k := ?_)
      | (refine gg2 (ka := ?_) (kb := ?_) <;> intro _)
      | fail))
      exact x_again (j + 1) (by show j + 1 ≤ _; omega) (by show (n + 255) / 256 - (j + 1) < (n + 255) / 256 - j; omega) sub_auto sel_auto
    · refine x_rest rfl ?_
      (repeat' (first
      | (with_reducible refine is_yk ?_; refine yk_auto (k := ?_))
      | (with_reducible refine is_owk0 ?_; refine owk0_auto (k := ?_))
      | (with_reducible refine is_owkc ?_; refine owk_auto (k := fun _ => ?_))
      | refine go1 (k := ?_)
      | (refine go2 (ka := ?_) (kb := ?_) <;> intro _)
      | refine gg1 (k := ?_)
      | (refine gg2 (ka := ?_) (kb := ?_) <;> intro _)
      | fail))
      exact x_ret0 rfl (fun w H => ⟨⟨_, rfl⟩, .inr H⟩)
  · obtain rfl : j = (n + 255) / 256 := by omega
    (repeat' (first
      | (with_reducible refine is_yk ?_; refine yk_auto (k := ?_))
      | (with_reducible refine is_owk0 ?_; refine owk0_auto (k := ?_))
      | (with_reducible refine is_owkc ?_; refine owk_auto (k := fun _ => ?_))
      | refine go1 (k := ?_)
      | (refine go2 (ka := ?_) (kb := ?_) <;> intro _)
      | refine gg1 (k := ?_)
      | (refine gg2 (ka := ?_) (kb := ?_) <;> intro _)
      | fail))
    exact x_end0 rfl (fun w H => ⟨⟨_, rfl⟩, .inl H⟩)
end
end Go.Proofs.Ytakeilefbcpabaa

/- Package chain: areas, Half, Left, Add. -/
namespace Go.Proofs.Ytakeilefbcpabaa
open Go.RowKit
/-- An area of the disk at d. -/
structure AreaM where
  lo : Nat
  hi : Nat
  pos : Nat
abbrev areaCells (d : Nat) (A : AreaM) : List Value := [.pointer (some ⟨d, 0, none⟩), .int .i64 A.lo, .int .i64 A.hi, .int .i64 A.pos]
abbrev AreaAt (b d : Nat) (A : AreaM) : HP := Bl b 119 (areaCells d A)
/-- The half of n sectors that an epoch has. -/
def halfA (n : Nat) (epoch : Int) : AreaM := ⟨(epoch % 2).toNat * (n / 2), (epoch % 2).toNat * (n / 2) + n / 2, (epoch % 2).toNat * (n / 2)⟩
theorem bits_and1 (x : Int) (h : -9223372036854775808 ≤ x ∧ x ≤ 9223372036854775807) : bits .and .i64 x 1 = x % 2 := by
  show IntKind.i64.wrap (((BitVec.ofInt 64 x) &&& (BitVec.ofInt 64 1)).toNat : Int) = x % 2
  have e1 : (BitVec.ofInt 64 1) = 1#64 := rfl
  rw [e1, BitVec.toNat_and]
  have e2 : (1#64).toNat = 1 := rfl
  rw [e2, Nat.and_one_is_mod, BitVec.toNat_ofInt]
  rw [IntWalk.i64_left]
  have : ((2 : Nat) ^ 64 : Nat) = 18446744073709551616 := rfl
  unfold wrap64
  omega
attribute [local irreducible] Y OW YK OWK W WL WP X CV WG XG CVG Ev Evs HasCell HasCells Has Met Again Kept
section
variable {c : Con} {F : List HP} {w : World} {p b : Nat} {D : DiskM} {A : AreaM}
theorem disk_downE {b : Bool} (hd : D.down = b) (H : St c (DiskAt p D :: F) w) : Calls Try.prog 40 #[.pointer (some ⟨p, 0, none⟩)] w fun e w' => e = .returned (.bool b) ∧ w = w' := by subst hd; exact disk_down H
theorem disk_actsE {b : Int} (hd : D.acts = b) (H : St c (DiskAt p D :: F) w) : Calls Try.prog 39 #[.pointer (some ⟨p, 0, none⟩)] w fun e w' => e = .returned (.int .i64 b) ∧ w = w' := by subst hd; exact disk_acts H
theorem c_half {n : Nat} {R : AreaM} (epoch : Int) (he : -9223372036854775808 ≤ epoch ∧ epoch ≤ 9223372036854775807) (hn : D.now.length = n) (hmax : n ≤ 4096) (hR : halfA n epoch = R) (H : St c (DiskAt p D :: F) w) : Calls Try.prog 44 #[.pointer (some ⟨p, 0, none⟩), .int .i64 epoch] w fun e w' =>
    ∃ b, e = .returned (.pointer (some ⟨b, 0, none⟩)) ∧ St c (AreaAt b p R :: DiskAt p D :: F) w' := by
  subst hR
  have hq : (n : Int) / 2 = ((n / 2 : Nat) : Int) := by omega
  have ha := bits_and1 epoch he
  obtain ⟨k, hk⟩ : ∃ k : Nat, epoch % 2 = (k : Int) := ⟨(epoch % 2).toNat, by omega⟩
  have hk2 : k = 0 ∨ k = 1 := by omega
  obtain ⟨m, hm⟩ : ∃ m, n / 2 = m := ⟨_, rfl⟩
  have hR : halfA n epoch = ⟨k * m, k * m + m, k * m⟩ := by unfold halfA; rw [hk, hm]; rfl
  rw [hR]
  rw [hm] at hq
  rw [hk] at ha
  have hmul : (k : Int) * (m : Int) = ((k * m : Nat) : Int) := by rw [Int.natCast_mul]
  have hb : k * m ≤ 4096 := by rcases hk2 with rfl | rfl <;> omega
  generalize k * m = f at hmul hb ⊢
  have hadd : (f : Int) + (m : Int) = ((f + m : Nat) : Int) := by omega
  refine calls_w (vs := [.pointer (some ⟨p, 0, none⟩), .int .i64 epoch]) Try.func44 rfl rfl rfl ?_ w H
  (repeat' (first
      | ((with_reducible refine at_fn 28 ?_); with_reducible refine owk_c1q evs_auto (by kernel_rfl) pick_auto (fun w H => disk_size_is hn H) ?_)
      | (with_reducible refine at_bin ?_; first | refine yk_eq (y_quo64 (ev_tmp rfl) ev_const (by omega)) (congrArg _ hq) ?_ | refine yk_eq (y_bits (.inl rfl) (ev_tmp rfl) ev_const) (congrArg _ ha) ?_ | refine yk_eq (y_mul64 (ev_tmp rfl) (ev_tmp rfl) (by rw [hmul]; omega)) (congrArg _ hmul) ?_ | refine yk_eq (y_add64 (ev_tmp rfl) (ev_tmp rfl) (by omega)) (congrArg _ hadd) ?_)
      | (with_reducible refine is_yk ?_; refine yk_auto (k := ?_))
      | (with_reducible refine is_owk0 ?_; refine owk0_auto (k := ?_))
      | (with_reducible refine is_owkc ?_; refine owk_auto (k := fun _ => ?_))
      | refine go1 (k := ?_)
      | (refine go2 (ka := ?_) (kb := ?_) <;> intro _)
      | refine gg1 (k := ?_)
      | (refine gg2 (ka := ?_) (kb := ?_) <;> intro _)
      | fail))
  exact x_ret1 rfl rfl (fun w H => ⟨_, rfl, H⟩)
theorem c_left {n : Int} (hn : (A.hi : Int) - A.pos = n) (hb : A.hi ≤ 1073741824 ∧ A.pos ≤ 1073741824) (H : St c (AreaAt b p A :: F) w) : Calls Try.prog 46 #[.pointer (some ⟨b, 0, none⟩)] w fun e w' => e = .returned (.int .i64 n) ∧ St c (AreaAt b p A :: F) w' := by
  subst hn
  replace H : St c (Bl b 119 [.pointer (some ⟨p, 0, none⟩), .int .i64 A.lo, .int .i64 A.hi, .int .i64 A.pos] :: F) w := H
  refine calls_w (vs := [.pointer (some ⟨b, 0, none⟩)]) Try.func46 rfl rfl rfl ?_ w H
  (repeat' (first
      | (with_reducible refine is_w ?_; first | refine w_plan (id := 3) [(0, true), (1, true), (2, true), (3, true), (4, true), (5, true), (6, true), (7, true), (8, true), (9, true)] _ (by kernel_rfl) (by kernel_rfl) sel_all ?_)
      | (with_reducible refine is_yk ?_; refine yk_auto (k := ?_))
      | (with_reducible refine is_owk0 ?_; refine owk0_auto (k := ?_))
      | (with_reducible refine is_owkc ?_; refine owk_auto (k := fun _ => ?_))
      | refine go1 (k := ?_)
      | (refine go2 (ka := ?_) (kb := ?_) <;> intro _)
      | refine gg1 (k := ?_)
      | (refine gg2 (ka := ?_) (kb := ?_) <;> intro _)
      | fail))
  exact x_ret1 rfl rfl (fun w H => ⟨rfl, H⟩)
end
end Go.Proofs.Ytakeilefbcpabaa

/- Package chain: Add. -/
namespace Go.Proofs.Ytakeilefbcpabaa
open Go.RowKit
/-- The disk behind the first writes of several, one behind the other. -/
def wrTo (D : DiskM) (pos : Nat) (cs : List (List UInt8)) : Nat → DiskM
  | 0 => D
  | i + 1 => (wrTo D pos cs i).write ((pos + i : Nat) : Int) (cs.getD i [])
def wrE (D : DiskM) (pos : Nat) (cs : List (List UInt8)) (i : Nat) : Int := (wrTo D pos cs i).writeE ((pos + i : Nat) : Int) (cs.getD i []).length
/-- Several writes, up to the first that fails. -/
def writes (D : DiskM) (pos : Nat) : List (List UInt8) → Int × DiskM
  | [] => (0, D)
  | b :: r => if D.writeE (pos : Int) b.length ≠ 0 then (D.writeE (pos : Int) b.length, D.write (pos : Int) b) else writes (D.write (pos : Int) b) (pos + 1) r
theorem wrTo_cons (D : DiskM) (pos : Nat) (b : List UInt8) (r : List (List UInt8)) : ∀ i, wrTo D pos (b :: r) (i + 1) = wrTo (D.write (pos : Int) b) (pos + 1) r i
  | 0 => rfl
  | i + 1 => by
    rw [wrTo, wrTo_cons D pos b r i, wrTo, List.getD_cons_succ, show pos + (i + 1) = pos + 1 + i by omega]
theorem wrE_cons (D : DiskM) (pos : Nat) (b : List UInt8) (r : List (List UInt8)) (i : Nat) : wrE D pos (b :: r) (i + 1) = wrE (D.write (pos : Int) b) (pos + 1) r i := by
  rw [wrE, wrTo_cons, wrE, List.getD_cons_succ, show pos + (i + 1) = pos + 1 + i by omega]
theorem writes_ok : ∀ (cs : List (List UInt8)) (D : DiskM) (pos : Nat), (∀ i, i < cs.length → wrE D pos cs i = 0) → writes D pos cs = (0, wrTo D pos cs cs.length)
  | [], _, _, _ => rfl
  | b :: r, D, pos, h => by
    have h0 : D.writeE (pos : Int) b.length = 0 := h 0 (by simp)
    rw [writes, if_neg (by rw [h0]; simp), writes_ok r _ _ (fun i hi => by rw [← wrE_cons]; exact h (i + 1) (by simpa using hi)), List.length_cons, wrTo_cons]
theorem writes_bad : ∀ (cs : List (List UInt8)) (D : DiskM) (pos j : Nat), j < cs.length → (∀ i, i < j → wrE D pos cs i = 0) → wrE D pos cs j ≠ 0 → writes D pos cs = (wrE D pos cs j, wrTo D pos cs (j + 1))
  | b :: r, D, pos, 0, _, _, hj => by
    have h0 : D.writeE (pos : Int) b.length ≠ 0 := hj
    rw [writes, if_pos h0]; rfl
  | b :: r, D, pos, j + 1, hl, h, hj => by
    have h0 : D.writeE (pos : Int) b.length = 0 := h 0 (by omega)
    rw [wrE_cons] at hj ⊢
    rw [writes, if_neg (by rw [h0]; simp), writes_bad r _ _ j (by simpa using hl) (fun i hi => by rw [← wrE_cons]; exact h (i + 1) (by omega)) hj, wrTo_cons]
theorem write_waits (D : DiskM) (i : Int) (b : List UInt8) : (D.write i b).waits.length ≤ D.waits.length + 1 := by
  unfold DiskM.write
  split
  · omega
  · split
    · omega
    · have e : ∀ s, (D.act.put i.toNat s).waits.length = D.waits.length + 1 := fun s => by
        simp only [DiskM.put, List.length_append, List.length_singleton]
        unfold DiskM.act; split <;> rfl
      split
      · unfold DiskM.off
        split
        · rw [e]; omega
        · simp
      · rw [e]; omega
theorem wrTo_waits (D : DiskM) (pos : Nat) (cs : List (List UInt8)) : ∀ i, (wrTo D pos cs i).waits.length ≤ D.waits.length + i
  | 0 => Nat.le_refl _
  | i + 1 => by
    have h1 := wrTo_waits D pos cs i
    have h2 := write_waits (wrTo D pos cs i) ((pos + i : Nat) : Int) (cs.getD i [])
    rw [wrTo]; omega
/-- A frame's sectors. -/
def chunkB (f : List UInt8) (j : Nat) : List UInt8 := (f.take (256 * j + min 256 (f.length - 256 * j))).drop (256 * j)
def chunks (f : List UInt8) : List (List UInt8) := (List.range ((f.length + 255) / 256)).map (chunkB f)
theorem chunks_length (f : List UInt8) : (chunks f).length = (f.length + 255) / 256 := by simp [chunks]
theorem chunks_get (f : List UInt8) {j : Nat} (hj : j < (f.length + 255) / 256) : (chunks f).getD j [] = chunkB f j := by
  simp [chunks, List.getD_eq_getElem?_getD, hj]
theorem chunkB_length (f : List UInt8) (j : Nat) : (chunkB f j).length = min 256 (f.length - 256 * j) := by
  simp [chunkB]; omega
/-- A frame is added. -/
def addM (D : DiskM) (A : AreaM) (f : List UInt8) : Int × AreaM × DiskM :=
  if f = [] ∨ lengthM f ≠ f.length then (1, A, D) else if D.down = true then (8, A, D) else if (A.hi : Int) - A.pos < ((f.length + 255) / 256 : Nat) then (7, A, D) else
  ((writes D A.pos (chunks f)).1, if (writes D A.pos (chunks f)).1 = 0 then { A with pos := A.pos + (f.length + 255) / 256 } else A, (writes D A.pos (chunks f)).2)
theorem chunk_reads {H : World → Prop} {S : Option Addr} {n cap j : Nat} {f : List UInt8} (hr : HasR H (.slice S n cap) n (bvs f)) (hf : f.length = n) (hj : 256 * j < n) (h63 : n ≤ 9223372036854775807) : HasR H (chunkV S n j) (min 256 (n - 256 * j)) (bvs (chunkB f j)) := by
  subst hf
  refine hasR_sub (h := 256 * j + min 256 (f.length - 256 * j)) hr ⟨by omega, by omega, h63⟩ rfl (by omega) ?_
  simp [chunkB, bvs, List.map_drop, List.map_take]
attribute [local irreducible] Y OW YK OWK W WL WP X CV WG XG CVG Ev Evs HasCell HasCells Has Met Again Kept
section
variable {c : Con} {F : List HP} {w : World} {p b : Nat} {D D' : DiskM} {A A' : AreaM}
set_option maxRecDepth 100000 in
set_option maxHeartbeats 2000000 in
theorem c_add1 {J : HP} {v : Value} {f : List UInt8} {n : Nat} {E : Int} (hA : addM D A f = (E, A', D')) (hr : HasR (St c [J]) v n (bvs f)) (hn : n ≤ 1073741824) (hb : A.hi ≤ 1073741824 ∧ A.pos ≤ 1073741824) (hwl : D.waits.length ≤ 536870912) (H : St c [AreaAt b p A, DiskAt p D, J] w) : Calls Try.prog 47 #[.pointer (some ⟨b, 0, none⟩), v] w fun e w' =>
    e = .returned (.int .i64 E) ∧ St c [AreaAt b p A', DiskAt p D', J] w' := by
  have hr0 := hr w H.tail.tail
  obtain ⟨S, cap, rfl, hnc, hcap⟩ := hr0.form
  have hfl : f.length = n := by have := hr0.1; rw [bvs_length] at this; omega
  have hr' : HasR (St c [AreaAt b p A, DiskAt p D, J]) (.slice S n cap) n (bvs f) := hasR_tl (hasR_tl hr)
  obtain ⟨m, hm⟩ : ∃ m, (n + 255) / 256 = m := ⟨_, rfl⟩
  have hbad : (f = [] ∨ lengthM f ≠ f.length) → E = 1 ∧ A' = A ∧ D' = D := fun h => by
    rw [addM, if_pos h] at hA; obtain ⟨rfl, h2⟩ := Prod.mk.inj hA; obtain ⟨rfl, rfl⟩ := Prod.mk.inj h2; exact ⟨rfl, rfl, rfl⟩
  have hdown : f ≠ [] → lengthM f = f.length → D.down = true → E = 8 ∧ A' = A ∧ D' = D := fun h1 h2 h3 => by
    rw [addM, if_neg (by simp [h1, h2]), if_pos h3] at hA; obtain ⟨rfl, h2⟩ := Prod.mk.inj hA; obtain ⟨rfl, rfl⟩ := Prod.mk.inj h2; exact ⟨rfl, rfl, rfl⟩
  have hfull : f ≠ [] → lengthM f = f.length → D.down = false → (A.hi : Int) - A.pos < m → E = 7 ∧ A' = A ∧ D' = D := fun h1 h2 h3 h4 => by
    rw [addM, if_neg (by simp [h1, h2]), if_neg (by simp [h3]), hfl, hm, if_pos h4] at hA; obtain ⟨rfl, h2⟩ := Prod.mk.inj hA; obtain ⟨rfl, rfl⟩ := Prod.mk.inj h2; exact ⟨rfl, rfl, rfl⟩
  have hgo : f ≠ [] → lengthM f = f.length → D.down = false → ¬ (A.hi : Int) - A.pos < m → E = (writes D A.pos (chunks f)).1 ∧ A' = (if (writes D A.pos (chunks f)).1 = 0 then { A with pos := A.pos + m } else A) ∧ D' = (writes D A.pos (chunks f)).2 := fun h1 h2 h3 h4 => by
    rw [addM, if_neg (by simp [h1, h2]), if_neg (by simp [h3]), hfl, hm, if_neg h4] at hA; obtain ⟨rfl, h2⟩ := Prod.mk.inj hA; obtain ⟨rfl, rfl⟩ := Prod.mk.inj h2; exact ⟨rfl, rfl, rfl⟩
  clear hA
  obtain ⟨L0, hL0⟩ : ∃ L0, lengthM f = L0 := ⟨_, rfl⟩
  have hf0 : f = [] ↔ n = 0 := by rw [← hfl]; exact List.length_eq_zero_iff.symm
  obtain ⟨dn, hdn⟩ : ∃ dn, D.down = dn := ⟨_, rfl⟩
  have hq : ((n : Int) + 256 - 1) / 256 = (m : Int) := by omega
  rw [hfl, hL0, hdn] at hdown hfull hgo
  rw [hfl, hL0] at hbad
  obtain ⟨lf, hlf⟩ : ∃ lf : Int, (A.hi : Int) - A.pos = lf := ⟨_, rfl⟩
  rw [hlf] at hfull hgo
  refine calls_wM (vs := [.pointer (some ⟨b, 0, none⟩), .slice S n cap]) Try.func47 rfl rfl rfl ?_ w H
  (repeat' (first
      | ((with_reducible refine at_fn 65 ?_); with_reducible refine owk_c0s evs_auto (by kernel_rfl) (fun w H => seg_length rfl hL0 (hasR_tl (hasR_tl hr')) hn H) ?_)
      | ((with_reducible refine at_fn 40 ?_); with_reducible refine owk_c1q evs_auto (by kernel_rfl) pick_auto (fun w H => disk_downE hdn H) ?_)
      | ((with_reducible refine at_fn 46 ?_); with_reducible refine owk_c1 evs_auto (by kernel_rfl) pick_auto (fun w H => c_left hlf hb H) ?_)
      | ((with_reducible refine at_fn 66 ?_); with_reducible refine owk (ow_callx evs_auto (by kernel_rfl) (fun w H => chunk_make H)) (fun q => ?_))
      | (with_reducible refine at_bin ?_; first | refine yk_eq (y_quo64 (ev_tmp rfl) ev_const (by omega)) (congrArg _ hq) ?_)
      | (with_reducible refine is_yk ?_; refine yk_auto (k := ?_))
      | (with_reducible refine is_owk0 ?_; refine owk0_auto (k := ?_))
      | (with_reducible refine is_owkc ?_; refine owk_auto (k := fun _ => ?_))
      | refine go1 (k := ?_)
      | (refine go2 (ka := ?_) (kb := ?_) <;> intro _)
      | refine gg1 (k := ?_)
      | (refine gg2 (ka := ?_) (kb := ?_) <;> intro _)
      | fail))
  · rename_i k
    obtain ⟨rfl, rfl, rfl⟩ := hbad (.inl (hf0.2 (by omega)))
    exact x_retM (x_retC1 rfl rfl (hasCell_bl has_auto rfl) (fun w H => ⟨rfl, H.tail.tail⟩))
  · rename_i k0 k
    obtain ⟨rfl, rfl, rfl⟩ := hbad (.inr k)
    exact x_retM (x_retC1 rfl rfl (hasCell_bl has_auto rfl) (fun w H => ⟨rfl, H.tail.tail⟩))
  · rename_i k0 k1 k
    obtain ⟨rfl, rfl, rfl⟩ := hdown (fun e => k0 (by have := hf0.1 e; omega)) (by omega) k
    exact x_retM (x_retC1 rfl rfl (hasCell_bl has_auto rfl) (fun w H => ⟨rfl, H.tail.tail⟩))
  · rename_i k0 k1 k2 k
    obtain ⟨rfl, rfl, rfl⟩ := hfull (fun e => k0 (by have := hf0.1 e; omega)) (by omega) k2 k
    exact x_retM (x_retC1 rfl rfl (hasCell_bl has_auto rfl) (fun w H => ⟨rfl, Sel.st (.cons .hd (.cons (.tl (.tl .hd)) (.cons (.tl (.tl .hd)) .nil))) H⟩))
  · rename_i t2 t4 k0 k1 k2 k3 t6
    have hgo := hgo (fun e => k0 (by have := hf0.1 e; omega)) (by omega) k2 k3
    obtain ⟨q2, q1⟩ := q
    dsimp only
    have hcl : (chunks f).length = m := by rw [chunks_length, hfl, hm]
    have hcg : ∀ j, j < m → (chunks f).getD j [] = chunkB f j := fun j hj => chunks_get f (by rw [hfl, hm]; exact hj)
    generalize chunks f = cs at hgo hcl hcg
    have hm63 : m ≤ 4194304 := by omega
    refine w_range (m := m) (K := [Bl q1 3 [.int .i64 256], Bl q2 46 [.slice S n cap]])
      (fun i => [Bl t6 3 [.int .i64 ((A.pos + i : Nat) : Int)], AreaAt b p A, Bl t4 26 [.int .i64 0], Bl t2 78 [.pointer (some ⟨b, 0, none⟩)], Pure (∀ j, j < i → wrE D A.pos cs j = 0) (DiskAt p (wrTo D A.pos cs i)), J])
      [AreaAt b p A, Bl t4 26 [.int .i64 (writes D A.pos cs).1], Pure ((writes D A.pos cs).1 ≠ 0) (DiskAt p (writes D A.pos cs).2), J]
      (fun i => chunkV S n i) (fun i => [(7, chunkV S n i), (2, .pointer (some ⟨t2, 0, none⟩)), (4, .pointer (some ⟨t4, 0, none⟩)), (6, .pointer (some ⟨t6, 0, none⟩))])
      rfl (ev_tmp rfl) (by kernel_rfl) (fun l B' J' hr => chunk_iter hm.symm ⟨hnc, hcap⟩ hn l B' J' hr)
      (.cons (.tl (.tl .hd)) (.cons (.tl (.tl .hd)) (.cons (.tl (.tl .hd)) (.cons (.tl (.tl .hd)) (.imp (.tl (.tl .hd)) (fun h a => ⟨fun j hj => by omega, a⟩) (.cons (.tl (.tl .hd)) sel_all)))))) ?_ ?_ ?_ ?_
    · intro l i Rr hi
      (repeat' (first
      | (with_reducible refine is_yk ?_; refine yk_auto (k := ?_))
      | (with_reducible refine is_owk0 ?_; refine owk0_auto (k := ?_))
      | (with_reducible refine is_owkc ?_; refine owk_auto (k := fun _ => ?_))
      | refine go1 (k := ?_)
      | (refine go2 (ka := ?_) (kb := ?_) <;> intro _)
      | refine gg1 (k := ?_)
      | (refine gg2 (ka := ?_) (kb := ?_) <;> intro _)
      | fail))
      exact xg_pa sub_auto sel_auto
    · intro l i Rr hi
      refine wg_pure (.tl (.tl (.tl (.tl (.tl .hd))))) (fun hok => ?_)
      have hcr := chunk_reads hr hfl (j := i) (by omega) (by omega)
      have hcgi := hcg i hi
      have hcl' := chunkB_length f i
      rw [hfl] at hcl'
      rw [← hcgi] at hcr hcl'
      have hcV : chunkV S n i = .slice (S.map (·.add (256 * i * 1))) (min 256 (n - 256 * i)) (min 256 (n - 256 * i)) := rfl
      generalize chunkV S n i = cv at hcr
      have hEi : (wrTo D A.pos cs i).writeE ((A.pos + i : Nat) : Int) (cs.getD i []).length = wrE D A.pos cs i := rfl
      have hDi : (wrTo D A.pos cs i).write ((A.pos + i : Nat) : Int) (cs.getD i []) = wrTo D A.pos cs (i + 1) := rfl
      have hwi := wrTo_waits D A.pos cs i
      generalize cs.getD i [] = ch at hEi hDi hcr hcl'
      obtain ⟨Ei, hEi'⟩ : ∃ Ei, wrE D A.pos cs i = Ei := ⟨_, rfl⟩
      rw [hEi'] at hEi
      have hsum : ((A.pos + i : Nat) : Int) + 1 = ((A.pos + (i + 1) : Nat) : Int) := by omega
      (repeat' (first
      | ((with_reducible refine at_fn 30 ?_); with_reducible refine owk_c1 evs_auto (by kernel_rfl) pick_auto (fun w H => disk_write_is _ (by omega) (by omega) _ ch hEi hDi (HasR.bytes (hasR_tl (hasR_tl (hasR_tl (hasR_tl (hasR_tl hcr)))))) (by omega) H) ?_)
      | (with_reducible refine at_bin ?_; first | refine yk_eq (y_add64 (ev_tmp rfl) ev_const (by omega)) (congrArg _ hsum) ?_)
      | (with_reducible refine is_wg ?_; first | refine wg_plan (id := 13) (by first | exact wide0 | exact wideR _) [(0, true), (1, true), (2, true), (3, true), (4, true), (5, true), (6, false), (7, false)] [Bl t6 3 [.int .i64 ((A.pos + i : Nat) : Int)], AreaAt b p A, Bl t2 78 [.pointer (some ⟨b, 0, none⟩)]] (by kernel_rfl) (by kernel_rfl) (by kernel_rfl) sel_auto ?_)
      | (with_reducible refine is_yk ?_; refine yk_auto (k := ?_))
      | (with_reducible refine is_owk0 ?_; refine owk0_auto (k := ?_))
      | (with_reducible refine is_owkc ?_; refine owk_auto (k := fun _ => ?_))
      | refine go1 (k := ?_)
      | (refine go2 (ka := ?_) (kb := ?_) <;> intro _)
      | refine gg1 (k := ?_)
      | (refine gg2 (ka := ?_) (kb := ?_) <;> intro _)
      | fail))
      · rename_i k
        have hw := writes_bad cs D A.pos i (by omega) hok (by rw [hEi']; exact k)
        rw [hEi'] at hw
        rw [hw]
        refine xg_pbR (.cons (.tl .hd) (.cons (.tl (.tl .hd)) (.cons (.tl (.tl .hd)) (.imp .hd (fun h a => ⟨k, a⟩) (.cons (.tl (.tl .hd)) .nil)))))
      · rename_i k
        exact xg_pb (.cons (.tl .hd) (.cons (.tl .hd) (.cons (.tl .hd) (.cons (.tl .hd) (.cons (.tl .hd) (.imp .hd (fun h a => ⟨fun j hj => by
          rcases Nat.lt_or_eq_of_le (Nat.lt_succ_iff.1 hj) with h1 | rfl
          · exact hok j h1
          · rw [hEi']; omega, a⟩) sel_all))))))
    · intro D2
      refine xg_pure (.tl (.tl (.tl (.tl (.tl .hd))))) (fun hok => ?_)
      have hw := writes_ok cs D A.pos (by rw [hcl]; exact hok)
      rw [hcl] at hw
      rw [hw] at hgo
      obtain ⟨rfl, rfl, rfl⟩ := hgo
      (repeat' (first
      | (with_reducible refine is_yk ?_; refine yk_auto (k := ?_))
      | (with_reducible refine is_owk0 ?_; refine owk0_auto (k := ?_))
      | (with_reducible refine is_owkc ?_; refine owk_auto (k := fun _ => ?_))
      | refine go1 (k := ?_)
      | (refine go2 (ka := ?_) (kb := ?_) <;> intro _)
      | refine gg1 (k := ?_)
      | (refine gg2 (ka := ?_) (kb := ?_) <;> intro _)
      | fail))
      refine xg_sel (.cons (.tl .hd) sel_all) (xg_retC1 rfl rfl (hasCell_bl has_auto rfl) (fun w H => ⟨rfl, ?_⟩))
      exact Sel.st (.cons (.tl (.tl .hd)) (.cons .hd (.cons (.tl (.tl (.tl .hd))) .nil))) H
    · intro D2
      refine xg_pure (.tl (.tl (.tl .hd))) (fun hne => ?_)
      rw [if_neg hne] at hgo
      obtain ⟨rfl, rfl, rfl⟩ := hgo
      (repeat' (first
      | (with_reducible refine is_yk ?_; refine yk_auto (k := ?_))
      | (with_reducible refine is_owk0 ?_; refine owk0_auto (k := ?_))
      | (with_reducible refine is_owkc ?_; refine owk_auto (k := fun _ => ?_))
      | refine go1 (k := ?_)
      | (refine go2 (ka := ?_) (kb := ?_) <;> intro _)
      | refine gg1 (k := ?_)
      | (refine gg2 (ka := ?_) (kb := ?_) <;> intro _)
      | fail))
      refine xg_sel (.cons (.tl .hd) sel_all) (xg_retC1 rfl rfl (hasCell_bl has_auto rfl) (fun w H => ⟨rfl, ?_⟩))
      exact Sel.st (.cons (.tl .hd) (.cons .hd (.cons (.tl .hd) .nil))) H
end
end Go.Proofs.Ytakeilefbcpabaa

/- DiskSizes: the walk. -/
namespace Go.Proofs.Ytakeilefbcpabaa
open Go.RowKit
attribute [local irreducible] Y OW YK OWK W WL WP X CV Ev Evs HasCell HasCells Has Met Again Kept

theorem wf64 {n : Int} (h : (Lit.int .i64 n).wf = true) : -9223372036854775808 ≤ n ∧ n ≤ 9223372036854775807 := by
  simp [Lit.wf, IntKind.min, IntKind.max, IntKind.bits, IntKind.signed] at h
  omega
theorem new_length (n : Nat) : (DiskM.new n).now.length = n := by simp [DiskM.new]
theorem image_length {D : DiskM} (h : D.WF) : D.image.length = 256 * D.now.length := by
  have := secs_length h.now
  rw [secs, bvs_length] at this
  unfold DiskM.image; omega
set_option maxRecDepth 100000 in
set_option maxHeartbeats 2000000 in
theorem diskSizes_walk (n i : Int) (w : World) (hn : (Lit.int .i64 n).wf = true) (hi : (Lit.int .i64 i).wf = true) :
    Calls Try.prog 5 #[.int .i64 n, .int .i64 i] w fun e w' => e = .returned (.bool true) ∧ Below w.heap.size w w' := by
  obtain ⟨n0, n1⟩ := wf64 hn
  obtain ⟨i0, i1⟩ := wf64 hi
  clear hn hi
  have hl := new_length (clip n)
  obtain ⟨k, hk⟩ : ∃ k, k = clip n := ⟨_, rfl⟩
  have hk' : (k : Int) = if n < 0 then 0 else if 4096 < n then 4096 else n := by rw [hk]; unfold clip; split <;> (try split) <;> omega
  rw [← hk] at hl
  have hd : (DiskM.new k).down = false := rfl
  by_cases hr : (DiskM.new k).ready i = 0
  · obtain ⟨-, q1, q2⟩ := DiskM.ready_zero hr
    rw [hl] at q2
    refine calls_w (vs := [.int .i64 n, .int .i64 i]) Try.func5 rfl rfl rfl ?_ w (St.start w)
    (repeat' (first
      | ((with_reducible refine at_fn 26 ?_); with_reducible refine owk_c0s (f := 26) evs_auto (by kernel_rfl) (fun w H => alive11 H) ?_)
      | ((with_reducible refine at_fn 21 ?_); with_reducible refine owk_c0x (f := 21) evs_auto (by kernel_rfl) (fun w H => disk_new_is n n0 n1 hk H) (fun p => ?_))
      | ((with_reducible refine at_fn 27 ?_); with_reducible refine owk_c1x (f := 27) evs_auto (by kernel_rfl) pick_auto (fun w H => disk_read_is (D := DiskM.new k) i i1 hr rfl H) (fun p => ?_))
      | ((with_reducible refine at_fn 28 ?_); with_reducible refine owk_c1q (f := 28) evs_auto (by kernel_rfl) pick_auto (fun w H => disk_size_is hl H) ?_)
      | ((with_reducible refine at_fn 29 ?_); with_reducible refine owk_c1x (f := 29) evs_auto (by kernel_rfl) pick_auto (fun w H => disk_image_is (n := 256 * k) (by rw [hl]) H) (fun q => ?_))
      | (with_reducible refine is_yk ?_; refine yk_auto (k := ?_))
      | (with_reducible refine is_owk0 ?_; refine owk0_auto (k := ?_))
      | (with_reducible refine is_owkc ?_; refine owk_auto (k := fun _ => ?_))
      | refine go1 (k := ?_)
      | (refine go2 (ka := ?_) (kb := ?_) <;> intro _)
      | fail))
    all_goals exact x_ret1 rfl rfl (fun w H => ⟨rfl, (Sel.st (T := [Old _]) sel_auto H).toBelow'⟩)
  · have hE : (DiskM.new k).ready i = 1 := by
      unfold DiskM.ready at hr ⊢
      rw [hd] at hr ⊢
      simp only [Bool.false_eq_true, if_false] at hr ⊢
      by_cases h : i < 0 ∨ ((DiskM.new k).now.length : Int) ≤ i
      · rw [if_pos h]
      · rw [if_neg h] at hr; omega
    have q : i < 0 ∨ (k : Int) ≤ i := by
      unfold DiskM.ready at hE
      rw [hd, hl] at hE
      simp only [Bool.false_eq_true, if_false] at hE
      by_cases h : i < 0 ∨ (k : Int) ≤ i
      · exact h
      · rw [if_neg h] at hE; omega
    clear hr
    refine calls_w (vs := [.int .i64 n, .int .i64 i]) Try.func5 rfl rfl rfl ?_ w (St.start w)
    (repeat' (first
      | ((with_reducible refine at_fn 26 ?_); with_reducible refine owk_c0s (f := 26) evs_auto (by kernel_rfl) (fun w H => alive11 H) ?_)
      | ((with_reducible refine at_fn 21 ?_); with_reducible refine owk_c0x (f := 21) evs_auto (by kernel_rfl) (fun w H => disk_new_is n n0 n1 hk H) (fun p => ?_))
      | ((with_reducible refine at_fn 27 ?_); with_reducible refine owk_c1q (f := 27) evs_auto (by kernel_rfl) pick_auto (fun w H => disk_read_bad_is (D := DiskM.new k) i i0 i1 hE (by omega) H) ?_)
      | ((with_reducible refine at_fn 28 ?_); with_reducible refine owk_c1q (f := 28) evs_auto (by kernel_rfl) pick_auto (fun w H => disk_size_is hl H) ?_)
      | ((with_reducible refine at_fn 29 ?_); with_reducible refine owk_c1x (f := 29) evs_auto (by kernel_rfl) pick_auto (fun w H => disk_image_is (n := 256 * k) (by rw [hl]) H) (fun q => ?_))
      | (with_reducible refine is_yk ?_; refine yk_auto (k := ?_))
      | (with_reducible refine is_owk0 ?_; refine owk0_auto (k := ?_))
      | (with_reducible refine is_owkc ?_; refine owk_auto (k := fun _ => ?_))
      | refine go1 (k := ?_)
      | (refine go2 (ka := ?_) (kb := ?_) <;> intro _)
      | fail))
    all_goals exact x_ret1 rfl rfl (fun w H => ⟨rfl, (Sel.st (T := [Old _]) sel_auto H).toBelow'⟩)
end Go.Proofs.Ytakeilefbcpabaa

/- Package chain: Add on a disk whose power stays; the laws' alive. -/
namespace Go.Proofs.Ytakeilefbcpabaa
open Go.RowKit
theorem Stars.fold {F : List HP} {w : World} (X : List HP) {S : Nat → Prop} : Stars (X ++ F) S w ↔ Stars (X ++ [Join F]) S w :=
  ⟨Stars.append (fun _ h => Stars.join.2 (by rw [List.append_nil]; exact h)) X, Stars.append (fun _ h => by have := Stars.join.1 h; rwa [List.append_nil] at this) X⟩
theorem St.fold {c : Con} {F : List HP} {w : World} (X : List HP) : St c (X ++ F) w ↔ St c (X ++ [Join F]) w :=
  ⟨fun H => ⟨H.con, (Stars.fold X).1 H.stars⟩, fun H => ⟨H.con, (Stars.fold X).2 H.stars⟩⟩
theorem hasR_fold {c : Con} {F : List HP} {v : Value} {n : Nat} {cs : List Value} (h : HasR (St c F) v n cs) : HasR (St c [Join F]) v n cs := fun w H => h w ((St.fold (X := [])).2 H)
/-- A disk whose power is on, and stays. -/
structure Steady (D : DiskM) (n : Nat) (acts : Int) : Prop where
  down : D.down = false
  fuse : D.fuse = 0
  len : D.now.length = n
  acts : D.acts = acts
theorem Steady.goes {D : DiskM} {n : Nat} {a : Int} (h : Steady D n a) : D.goes = false := by simp [DiskM.goes, h.fuse]
theorem Steady.ready {D : DiskM} {n : Nat} {a : Int} (h : Steady D n a) {i : Int} (hi : 0 ≤ i ∧ i < n) : D.ready i = 0 := by
  unfold DiskM.ready
  rw [h.down, if_neg (by simp), if_neg (by rw [h.len]; omega)]
theorem Steady.writeE {D : DiskM} {n : Nat} {a : Int} (h : Steady D n a) {i : Int} (hi : 0 ≤ i ∧ i < n) {k : Nat} (hk : k ≤ 256) : D.writeE i k = 0 := by
  unfold DiskM.writeE
  rw [h.ready hi, if_neg (by simp), if_neg (by omega), h.goes]; rfl
theorem Steady.write_eq {D : DiskM} {n : Nat} {a : Int} (h : Steady D n a) {i : Int} (hi : 0 ≤ i ∧ i < n) {b : List UInt8} (hk : b.length ≤ 256) (ha : 0 ≤ a ∧ a < 4611686018427387904) :
    D.write i b = { D with now := D.now.set i.toNat (pad b), waits := D.waits ++ [(i.toNat, pad b)], acts := a + 1 } := by
  unfold DiskM.write
  rw [h.ready hi, if_neg (by simp), if_neg (by omega), h.goes, if_neg (by simp)]
  unfold DiskM.act
  rw [if_neg (by rw [h.down]; simp), h.fuse, if_pos rfl, h.acts]
  have : wrap64 (a + 1) = a + 1 := by unfold wrap64; omega
  rw [this]
  simp [DiskM.put, h.fuse]
theorem Steady.write {D : DiskM} {n : Nat} {a : Int} (h : Steady D n a) {i : Int} (hi : 0 ≤ i ∧ i < n) {b : List UInt8} (hk : b.length ≤ 256) (ha : 0 ≤ a ∧ a < 4611686018427387904) : Steady (D.write i b) n (a + 1) := by
  rw [h.write_eq hi hk ha]
  exact ⟨h.down, h.fuse, by simp [h.len], rfl⟩
theorem Steady.wrTo {D : DiskM} {n pos : Nat} {a : Int} (h : Steady D n a) {cs : List (List UInt8)} (hc : ∀ i, i < cs.length → (cs.getD i []).length ≤ 256) (hp : pos + cs.length ≤ n) (ha : 0 ≤ a ∧ a + cs.length < 4611686018427387904) :
    ∀ i, i ≤ cs.length → Steady (wrTo D pos cs i) n (a + i)
  | 0, _ => by
    have e : a + ((0 : Nat) : Int) = a := by omega
    rw [e]; exact h
  | i + 1, hi => by
    have h1 := Steady.wrTo h hc hp ha i (by omega)
    have h2 := h1.write (i := ((pos + i : Nat) : Int)) ⟨by omega, by omega⟩ (hc i (by omega)) (by omega)
    have e : a + ((i + 1 : Nat) : Int) = a + i + 1 := by omega
    rw [e]; exact h2
theorem Steady.wrE {D : DiskM} {n pos : Nat} {a : Int} (h : Steady D n a) {cs : List (List UInt8)} (hc : ∀ i, i < cs.length → (cs.getD i []).length ≤ 256) (hp : pos + cs.length ≤ n) (ha : 0 ≤ a ∧ a + cs.length < 4611686018427387904)
    {i : Nat} (hi : i < cs.length) : wrE D pos cs i = 0 := (h.wrTo hc hp ha i (by omega)).writeE ⟨by omega, by omega⟩ (hc i hi)
theorem chunks_le (f : List UInt8) (i : Nat) (hi : i < (chunks f).length) : ((chunks f).getD i []).length ≤ 256 := by
  rw [chunks_length] at hi
  rw [chunks_get f hi, chunkB_length]; omega
theorem leN_leB : ∀ k x, x < 256 ^ k → leN (leB k x) = x
  | 0, x, h => by simp [leB, leN]; omega
  | k + 1, x, h => by
    rw [leB, leN, leN_leB k (x / 256) (by rw [Nat.pow_succ] at h; omega), UInt8.toNat_ofNat']
    omega
theorem frame_take (s : List UInt8) : (frameB s).take 8 = leB 8 (max s.length 40 + 8) := by
  rw [frameB, List.append_assoc, List.take_left' (leB_length 8 _)]
theorem leInt_leB {x : Nat} (h : x < 9223372036854775808) : leInt (leB 8 x) = x := by
  rw [leInt, leN_leB 8 x (by have : (256 : Nat) ^ 8 = 18446744073709551616 := rfl; omega)]
  unfold wrap64; omega
theorem lengthM_frame (s : List UInt8) (hs : s.length ≤ 16376) : lengthM (frameB s) = ((frameB s).length : Int) := by
  have h1 := frameB_length s
  have h2 : leInt ((frameB s).take 8) = ((max s.length 40 + 8 : Nat) : Int) := by rw [frame_take, leInt_leB (by omega)]
  unfold lengthM inOk
  rw [h2, h1, if_pos]
  refine ⟨?_, Int.le_refl _⟩
  simp; omega
theorem frame_ne (s : List UInt8) : frameB s ≠ [] := fun h => by have := frameB_length s; rw [h] at this; simp at this
/-- There is room. -/
theorem addM_ok {D : DiskM} {A : AreaM} {f : List UInt8} {n m : Nat} {a : Int} (h : Steady D n a) (hf : f ≠ []) (hl : lengthM f = f.length) (hm : (f.length + 255) / 256 = m) (hr : A.pos + m ≤ A.hi) (hn : A.hi ≤ n) (ha : 0 ≤ a ∧ a + m < 4611686018427387904) :
    addM D A f = (0, { A with pos := A.pos + m }, wrTo D A.pos (chunks f) m) ∧ Steady (wrTo D A.pos (chunks f) m) n (a + m) := by
  have hcl : (chunks f).length = m := by rw [chunks_length, hm]
  have hw := writes_ok (chunks f) D A.pos (fun i hi => h.wrE (chunks_le f) (by omega) (by omega) hi)
  rw [hcl] at hw
  constructor
  · unfold addM
    rw [if_neg (by simp [hf, hl]), if_neg (by simp [h.down]), hm, if_neg (by omega), hw, if_pos rfl]
  · have := h.wrTo (pos := A.pos) (chunks_le f) (by omega) (by omega) m (by omega)
    exact this
theorem addM_full {D : DiskM} {A : AreaM} {f : List UInt8} {n : Nat} {a : Int} (h : Steady D n a) (hf : f ≠ []) (hl : lengthM f = f.length) (hr : (A.hi : Int) - A.pos < ((f.length + 255) / 256 : Nat)) : addM D A f = (7, A, D) := by
  unfold addM
  rw [if_neg (by simp [hf, hl]), if_neg (by simp [h.down]), if_pos hr]
theorem new_calm (n : Nat) : Steady (DiskM.new n) n 0 := ⟨rfl, rfl, by simp [DiskM.new], rfl⟩
attribute [local irreducible] Y OW YK OWK W WL WP X CV Ev Evs HasCell HasCells Has Met Again Kept
section
variable {c : Con} {F : List HP} {w : World} {p b : Nat} {D D' : DiskM} {A A' : AreaM}
theorem c_add {v : Value} {f : List UInt8} {n : Nat} {E : Int} (hA : addM D A f = (E, A', D')) (hr : HasR (St c F) v n (bvs f)) (hn : n ≤ 1073741824) (hb : A.hi ≤ 1073741824 ∧ A.pos ≤ 1073741824) (hwl : D.waits.length ≤ 536870912) (H : St c (AreaAt b p A :: DiskAt p D :: F) w) : Calls Try.prog 47 #[.pointer (some ⟨b, 0, none⟩), v] w fun e w' =>
    e = .returned (.int .i64 E) ∧ St c (AreaAt b p A' :: DiskAt p D' :: F) w' :=
  (c_add1 hA (hasR_fold hr) hn hb hwl ((St.fold [AreaAt b p A, DiskAt p D]).1 H)).mono fun _ _ h => ⟨h.1, (St.fold [AreaAt b p A', DiskAt p D']).2 h.2⟩

def xB : List UInt8 := [120]
abbrev kD0 : DiskM := DiskM.new 9
def kD1 : DiskM := wrTo kD0 0 (chunks (frameB xB)) 1
theorem kadd : addM kD0 ⟨0, 4, 0⟩ (frameB xB) = (0, ⟨0, 4, 1⟩, kD1) ∧ Steady kD1 9 1 := by
  have h := addM_ok (D := kD0) (A := halfA 9 0) (f := frameB xB) (n := 9) (m := 1) (a := 0) (new_calm 9) (frame_ne _) (lengthM_frame _ (by decide)) (by rw [frameB_length]; rfl) (by decide) (by decide) (by decide)
  exact h
set_option maxRecDepth 100000 in
theorem alive16 (H : St c F w) : Calls Try.prog 43 #[] w fun e w' => e = .returned (.bool true) ∧ St c F w' := by
  have h9 := new_length 9
  have hl : (frameB xB).length = 48 := by rw [frameB_length]; rfl
  have h9' := kadd.2.len
  have hxs : Value.string ⟨#[120]⟩ = str xB := rfl
  refine calls_w (vs := []) Try.func43 rfl rfl rfl ?_ w H
  (repeat' (first
      | ((with_reducible refine at_fn 21 ?_); with_reducible refine owk_c0x evs_auto (by kernel_rfl) (fun w H => disk_new_is 9 (by omega) (by omega) (k := 9) (by decide) H) (fun p => ?_))
      | ((with_reducible refine at_fn 44 ?_); with_reducible refine owk_c1x evs_auto (by kernel_rfl) pick_auto (fun w H => c_half (D := kD0) 0 (by omega) h9 (by omega) (R := ⟨0, 4, 0⟩) rfl H) (fun a => ?_))
      | ((with_reducible refine at_fn 44 ?_); with_reducible refine owk_c1x evs_auto (by kernel_rfl) pick_auto (fun w H => c_half (D := kD0) 3 (by omega) h9 (by omega) (R := ⟨4, 8, 4⟩) rfl H) (fun a => ?_))
      | ((with_reducible refine at_fn 45 ?_); with_reducible refine owk_c0x evs_auto (by kernel_rfl) (fun w H => framed_ref xB (by decide) hxs H) (fun q => ?_))
      | ((with_reducible refine at_fn 46 ?_); with_reducible refine owk_c1 evs_auto (by kernel_rfl) pick_auto (fun w H => c_left (A := ⟨0, 4, 0⟩) (n := 4) (by decide) (by decide) H) ?_)
      | ((with_reducible refine at_fn 46 ?_); with_reducible refine owk_c1 evs_auto (by kernel_rfl) pick_auto (fun w H => c_left (A := ⟨4, 8, 4⟩) (n := 4) (by decide) (by decide) H) ?_)
      | ((with_reducible refine at_fn 46 ?_); with_reducible refine owk_c1 evs_auto (by kernel_rfl) pick_auto (fun w H => c_left (A := ⟨0, 4, 1⟩) (n := 3) (by decide) (by decide) H) ?_)
      | ((with_reducible refine at_fn 47 ?_); with_reducible refine owk_c2 evs_auto (by kernel_rfl) pick_auto pick_auto (fun w H => c_add (f := frameB xB) (n := (frameB xB).length) kadd.1 rds_auto (by omega) (by decide) (by decide) H) ?_)
      | ((with_reducible refine at_fn 28 ?_); with_reducible refine owk_c1q evs_auto (by kernel_rfl) pick_auto (fun w H => disk_size_is h9' H) ?_)
      | (with_reducible refine is_yk ?_; refine yk_auto (k := ?_))
      | (with_reducible refine is_owk0 ?_; refine owk0_auto (k := ?_))
      | (with_reducible refine is_owkc ?_; refine owk_auto (k := fun _ => ?_))
      | refine go1 (k := ?_)
      | (refine go2 (ka := ?_) (kb := ?_) <;> intro _)
      | fail))
  exact x_ret1 rfl rfl (fun w H => ⟨rfl, Sel.st sel_auto H⟩)
end
end Go.Proofs.Ytakeilefbcpabaa

/- Package chain: Next. -/
namespace Go.Proofs.Ytakeilefbcpabaa
open Go.RowKit
/-- The first k sectors from pos on. -/
def accB (now : List Sec) (pos k : Nat) : List UInt8 := ((now.drop pos).take k).flatten
theorem accB_zero (now : List Sec) (pos : Nat) : accB now pos 0 = [] := by simp [accB]
theorem accB_succ {now : List Sec} {pos k : Nat} (h : pos + k < now.length) : accB now pos (k + 1) = accB now pos k ++ now[pos + k] := by
  unfold accB
  rw [List.take_succ_eq_append_getElem (by simp; omega), List.flatten_append]
  simp
theorem accB_length {now : List Sec} (hw : ∀ s ∈ now, s.length = 256) {pos : Nat} : ∀ {k : Nat}, pos + k ≤ now.length → (accB now pos k).length = 256 * k
  | 0, _ => by simp [accB]
  | k + 1, h => by rw [accB_succ (by omega), List.length_append, accB_length hw (by omega), hw _ (List.getElem_mem _)]; omega
theorem lengthM_nonneg (b : List UInt8) : 0 ≤ lengthM b ∧ lengthM b ≤ b.length := by
  unfold lengthM
  split
  · rename_i h
    refine ⟨?_, h.2⟩
    have := h.1
    simp [inOk] at this; omega
  · omega
attribute [local irreducible] Y OW YK OWK W WL WP X CV Ev Evs HasCell HasCells Has Met Again Kept
section
variable {c : Con} {F : List HP} {w : World} {p b : Nat} {D D' : DiskM} {A A' : AreaM}
theorem c_next_down (hd : D.down = true) (H : St c (AreaAt b p A :: DiskAt p D :: F) w) : Calls Try.prog 48 #[.pointer (some ⟨b, 0, none⟩)] w fun e w' =>
    e = .returned (.tuple #[.slice none 0 0, .int .i64 8]) ∧ St c (AreaAt b p A :: DiskAt p D :: F) w' := by
  refine calls_w (vs := [.pointer (some ⟨b, 0, none⟩)]) Try.func48 rfl rfl rfl ?_ w H
  (repeat' (first
      | ((with_reducible refine at_fn 40 ?_); with_reducible refine owk_c1q evs_auto (by kernel_rfl) pick_auto (fun w H => disk_downE hd H) ?_)
      | (with_reducible refine is_yk ?_; refine yk_auto (k := ?_))
      | (with_reducible refine is_owk0 ?_; refine owk0_auto (k := ?_))
      | (with_reducible refine is_owkc ?_; refine owk_auto (k := fun _ => ?_))
      | refine go1 (k := ?_)
      | (refine go2 (ka := ?_) (kb := ?_) <;> intro _)
      | fail))
  exact x_ret2 rfl rfl rfl (fun w H => ⟨rfl, H⟩)
set_option maxRecDepth 100000 in
set_option maxHeartbeats 2000000 in
theorem c_next {k lim : Nat} (hd : D.down = false) (hlim : min (A.hi - A.pos) 64 = lim) (hb : A.hi ≤ D.now.length) (hk : k ≤ lim) (hno : ∀ j, j < k → lengthM (accB D.now A.pos (j + 1)) = 0) (hend : k < lim → 0 < lengthM (accB D.now A.pos (k + 1)))
    (H : St c (AreaAt b p A :: DiskAt p D :: F) w) : Calls Try.prog 48 #[.pointer (some ⟨b, 0, none⟩)] w fun e w' =>
    (k < lim ∧ ∃ g : Nat, e = .returned (.tuple #[.slice (some ⟨g, 0, none⟩) (lengthM (accB D.now A.pos (k + 1))).toNat (lengthM (accB D.now A.pos (k + 1))).toNat, .int .i64 0]) ∧
      St c (BkP g ((accB D.now A.pos (k + 1)).take (lengthM (accB D.now A.pos (k + 1))).toNat) :: AreaAt b p { A with pos := A.pos + k + 1 } :: DiskAt p D :: F) w') ∨
    (k = lim ∧ e = .returned (.tuple #[.slice none 0 0, .int .i64 0]) ∧ St c (AreaAt b p A :: DiskAt p D :: F) w') := by
  have hwf := (St.openDisk (Sel.st (.cons (.tl .hd) (.cons .hd sel_all)) H)).1
  have hmost := hwf.most
  obtain ⟨n, hn⟩ : ∃ n, D.now.length = n := ⟨_, rfl⟩
  rw [hn] at hb hmost
  refine calls_w (vs := [.pointer (some ⟨b, 0, none⟩)]) Try.func48 rfl rfl rfl ?_ w H
  (repeat' (first
      | ((with_reducible refine at_fn 40 ?_); with_reducible refine owk_c1q evs_auto (by kernel_rfl) pick_auto (fun w H => disk_downE hd H) ?_)
      | (with_reducible refine is_yk ?_; refine yk_auto (k := ?_))
      | (with_reducible refine is_owk0 ?_; refine owk0_auto (k := ?_))
      | (with_reducible refine is_owkc ?_; refine owk_auto (k := fun _ => ?_))
      | refine go1 (k := ?_)
      | (refine go2 (ka := ?_) (kb := ?_) <;> intro _)
      | fail))
  refine w_loop (α := Nat × Option Addr × Nat) (fun x => x.1 ≤ k)
    (fun x => [(5, .int .i64 ((A.pos + x.1 : Nat) : Int)), (4, .slice x.2.1 (256 * x.1) x.2.2), (0, .pointer (some ⟨b, 0, none⟩))])
    (fun x => OwnP 5 1 (.slice x.2.1 (256 * x.1) x.2.2) (256 * x.1) (bvs (accB D.now A.pos x.1)) :: AreaAt b p A :: DiskAt p D :: F) (fun x => k - x.1) (0, none, 0) (Nat.zero_le _) sub_auto (.own0 sel_all) (fun x hx => ?_)
  obtain ⟨i, S, cap⟩ := x
  dsimp only at hx ⊢
  by_cases hil : i < lim
  · have hin : A.pos + i < n := by omega
    have hacc := accB_succ (now := D.now) (pos := A.pos) (k := i) (by omega)
    have hlen := accB_length hwf.now (pos := A.pos) (k := i) (by omega)
    have hlen' := accB_length hwf.now (pos := A.pos) (k := i + 1) (by omega)
    have hsl : (D.now[A.pos + i]'(by omega)).length = 256 := hwf.now _ (List.getElem_mem _)
    have hgd : D.now.getD (((A.pos + i : Nat) : Int)).toNat [] = D.now[A.pos + i]'(by omega) := by
      rw [Int.toNat_natCast, List.getD_eq_getElem?_getD, List.getElem?_eq_getElem (by omega)]; rfl
    have hready : D.ready ((A.pos + i : Nat) : Int) = 0 := by
      unfold DiskM.ready
      rw [hd, if_neg (by simp), if_neg (by omega)]
    generalize D.now[A.pos + i]'(by omega) = s at hacc hsl hgd
    have hbl : (bvs s).length = 256 := by rw [bvs_length, hsl]
    have hone := bvs_oneCell s
    have hcat : bvs (accB D.now A.pos i) ++ bvs s = bvs (accB D.now A.pos (i + 1)) := by rw [hacc, bvs_append]
    obtain ⟨m, hm⟩ : ∃ m, 256 * (i + 1) = m := ⟨_, rfl⟩
    have hmm : 256 * i + 256 = m := by omega
    have hm0 : 0 < m ∧ m ≤ 16384 := by omega
    obtain ⟨f, hf⟩ : ∃ f, accB D.now A.pos (i + 1) = f := ⟨_, rfl⟩
    rw [hf] at hcat hlen'
    rw [hm] at hlen'
    have hsucc : ((A.pos + i : Nat) : Int) + 1 = ((A.pos + (i + 1) : Nat) : Int) := by omega
    by_cases hik : i < k
    · have hL := hno i hik
      rw [hf] at hL
      (repeat' (first
      | ((with_reducible refine at_fn 27 ?_); with_reducible refine owk_c1x evs_auto (by kernel_rfl) pick_auto (fun w H => disk_read_is _ (by omega) hready hgd H) (fun v => ?_))
      | ((with_reducible refine at_fn 65 ?_); with_reducible refine owk_c0s evs_auto (by kernel_rfl) (fun w H => seg_length rfl hL q.hasR (by omega) H) ?_)
      | ((with_reducible refine at_builtinO (b := .append) ?_); with_reducible refine owk (ow_opened hm0.1 (ow_appendR (ev_tmp rfl) (ev_tmp rfl) rds_auto hone hmm hcat (by omega) pick_auto)) (fun q => ?_))
      | (with_reducible refine at_bin ?_; first | refine yk_eq (y_add64 (ev_tmp rfl) ev_const (by omega)) (congrArg _ hsucc) ?_)
      | (with_reducible refine is_yk ?_; refine yk_auto (k := ?_))
      | (with_reducible refine is_owk0 ?_; refine owk0_auto (k := ?_))
      | (with_reducible refine is_owkc ?_; refine owk_auto (k := fun _ => ?_))
      | refine go1 (k := ?_)
      | (refine go2 (ka := ?_) (kb := ?_) <;> intro _)
      | fail))
      exact x_again (i + 1, some ⟨q.g, 0, none⟩, q.cap) (by show i + 1 ≤ k; omega) (by show k - (i + 1) < k - i; omega) (by dsimp only; rw [hm]; exact sub_auto)
        (by dsimp only; rw [hm, hf]; exact .imp .hd q.shut (.cons (.tl (.tl .hd)) (.cons (.tl .hd) (.tl sel_all))))
    · obtain rfl : i = k := by omega
      obtain ⟨L0, hL0⟩ : ∃ L0, lengthM f = L0 := ⟨_, rfl⟩
      have hL1 := hend hil
      have hL2 := (lengthM_nonneg f).2
      rw [hf, hL0] at hL1
      rw [hL0, hlen'] at hL2
      obtain ⟨n0, rfl⟩ : ∃ n0 : Nat, L0 = n0 := ⟨L0.toNat, by omega⟩
      have hpos : ((A.pos + i : Nat) : Int) + 1 = ((A.pos + i + 1 : Nat) : Int) := by omega
      have hn0m : n0 ≤ m := by omega
      (repeat' (first
      | ((with_reducible refine at_fn 27 ?_); with_reducible refine owk_c1x evs_auto (by kernel_rfl) pick_auto (fun w H => disk_read_is _ (by omega) hready hgd H) (fun v => ?_))
      | ((with_reducible refine at_fn 65 ?_); with_reducible refine owk_c0s evs_auto (by kernel_rfl) (fun w H => seg_length rfl hL0 q.hasR (by omega) H) ?_)
      | ((with_reducible refine at_builtinO (b := .append) ?_); with_reducible refine owk (ow_opened hm0.1 (ow_appendR (ev_tmp rfl) (ev_tmp rfl) rds_auto hone hmm hcat (by omega) pick_auto)) (fun q => ?_))
      | (with_reducible refine at_bin ?_; first | refine yk_eq (y_add64 (ev_tmp rfl) ev_const (by omega)) (congrArg _ hpos) ?_)
      | (with_reducible refine at_slice ?_; first | refine yk (y_slice3h (ev_tmp rfl) (ev_tmp rfl) (ev_tmp rfl) (OB.le q hn0m)) ?_)
      | (with_reducible refine is_yk ?_; refine yk_auto (k := ?_))
      | (with_reducible refine is_owk0 ?_; refine owk0_auto (k := ?_))
      | (with_reducible refine is_owkc ?_; refine owk_auto (k := fun _ => ?_))
      | refine go1 (k := ?_)
      | (refine go2 (ka := ?_) (kb := ?_) <;> intro _)
      | fail))

      refine x_ret2 rfl rfl rfl (fun w H => .inl ⟨hil, q.g, ?_, ?_⟩)
      · rw [hf, hL0]; rfl
      · refine Sel.st (.imp .hd (fun h hb => .inr ⟨_, _, _, hb, ?_⟩) (.cons (.tl (.tl .hd)) (.cons (.tl .hd) (.tl sel_all)))) H
        rw [hf, hL0, Int.toNat_natCast, List.length_take, hlen', Nat.min_eq_left hn0m]
        have h1 := congrArg (List.take n0) q.take1
        rw [List.take_take, Nat.min_eq_left hn0m] at h1
        have h2 : List.take n0 (bvs f) = bvs (f.take n0) := by simp [bvs, List.map_take]
        rw [h2] at h1
        exact h1
  · obtain rfl : i = k := by omega
    obtain rfl : i = lim := by omega
    by_cases h64 : A.pos + i < A.hi
    · have h65 : ¬ (((A.pos + i : Nat) : Int) - A.pos < 64) := by omega
      (repeat' (first
      | (with_reducible refine is_yk ?_; refine yk_auto (k := ?_))
      | (with_reducible refine is_owk0 ?_; refine owk0_auto (k := ?_))
      | (with_reducible refine is_owkc ?_; refine owk_auto (k := fun _ => ?_))
      | refine go1 (k := ?_)
      | (refine go2 (ka := ?_) (kb := ?_) <;> intro _)
      | fail))
      exact x_ret2 rfl rfl rfl (fun w H => .inr ⟨rfl, rfl, Sel.st (.tl sel_all) H⟩)
    · (repeat' (first
      | (with_reducible refine is_yk ?_; refine yk_auto (k := ?_))
      | (with_reducible refine is_owk0 ?_; refine owk0_auto (k := ?_))
      | (with_reducible refine is_owkc ?_; refine owk_auto (k := fun _ => ?_))
      | refine go1 (k := ?_)
      | (refine go2 (ka := ?_) (kb := ?_) <;> intro _)
      | fail))
      exact x_ret2 rfl rfl rfl (fun w H => .inr ⟨rfl, rfl, Sel.st (.tl sel_all) H⟩)
end
end Go.Proofs.Ytakeilefbcpabaa
