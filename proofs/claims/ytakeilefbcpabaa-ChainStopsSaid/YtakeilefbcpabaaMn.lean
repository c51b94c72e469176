/- The register goes on. -/
import Derived.Test.YtakeilefbcpabaaMa
namespace Go.Proofs.Ytakeilefbcpabaa
open Go.RowKit

section
variable {c : Con} {F : List HP} {w : World} {m : Nat} {M : MeterM} {dv : Value} {D : DiskO}

theorem meter_dv (H : St c (MeterAt m dv M :: F) w) : w.cell? ⟨m, 35, none⟩ = some dv := by
  obtain ⟨hw, hm⟩ := meter_cells H
  exact (cell_of_row w m 35 _ _ _ hm).trans (meterCells_disk dv hw.root)
theorem disko_act_is {b : Bool} {k : Int} (hg : Hid (D.goes = b)) (hk : Hid (D.keeps = k)) (H : St c (DiskV dv D :: F) w) :
    Calls Try.prog 57 #[dv] w fun e w' => e = .returned (.tuple #[.bool b, .int .u64 k]) ∧ St c (DiskV dv D.act :: F) w' := by
  have h := disko_act H
  rw [hg.out, hk.out] at h
  exact h
theorem disko_off_is (H1 : St c (DiskV dv D.act :: F) w) (hg : D.goes = true) (k : Int) (hk0 : 0 ≤ k) (hk1 : k < 18446744073709551616) :
    Calls Try.prog 22 #[dv, .int .u64 k] w fun e w' => e = .returned (.tuple #[]) ∧ St c (DiskV dv (D.act.off k) :: F) w' := by
  cases D with
  | none => simp [DiskO.goes] at hg
  | some D =>
    obtain ⟨p, rfl, H2⟩ := H1.someDisk
    exact (disk_off H2 k hk0 hk1).mono fun e w' ⟨h1, h2⟩ => ⟨h1, h2.toDisk⟩
theorem St.keeps (H : St c (DiskV dv D :: F) w) : 0 ≤ D.keeps ∧ D.keeps < 18446744073709551616 := by
  cases D with
  | none => exact ⟨Int.le_refl _, by show (0 : Int) < _; omega⟩
  | some D =>
    obtain ⟨p, rfl, H2⟩ := H.someDisk
    obtain ⟨hw, _⟩ := H2.openDisk
    show 0 ≤ D.keeps ∧ D.keeps < _
    unfold DiskM.keeps
    split
    · exact ⟨hw.keep0, hw.keep1⟩
    · exact ⟨Int.le_refl _, by omega⟩
theorem root_info : (Try.prog.info? 28).map (·.size) = some 32 := by kernel_rfl

set_option maxRecDepth 100000 in
set_option maxHeartbeats 1000000 in
theorem meter_next_down (hd : Hid (D.down = true)) (H : St c (MeterAt m dv M :: DiskV dv D :: F) w) (ep : Int) (r : List UInt8) (_hr : r.length = 32) :
    Calls Try.prog 19 #[.pointer (some ⟨m, 0, none⟩), .int .i64 ep, .agg (bvs r).toArray] w fun e w' =>
      e = .returned (.int .i64 8) ∧ St c (MeterAt m dv M :: DiskV dv D :: F) w' := by
  obtain ⟨hw, _⟩ := meter_cells H
  have q0 := hw.count0
  have q1 := hw.count1
  have q2 := hw.most
  go_enter Try.func19, Try.ntmps19
  go_upto_region 1 with (fail)
  refine wp_gen (H.allocPt (.cells (bvs r).toArray 28)) ?_
  generalize w.heap.size = q
  clear H
  intro w1 H
  obtain ⟨_, hm⟩ := meter_cells H.tail
  have hc0 : w1.cell? ⟨m, 0, none⟩ = some (.int .i64 M.count) := cell_of_row w1 m 0 _ _ _ hm
  have hc1 : w1.cell? ⟨m, 1, none⟩ = some (.int .i64 M.epoch) := cell_of_row w1 m 1 _ _ _ hm
  have hc35 : w1.cell? ⟨m, 35, none⟩ = some dv := (cell_of_row w1 m 35 _ _ _ hm).trans (meterCells_disk dv hw.root)
  have hdv := dv_form H.tail.tail
  clear hm
  rcases hdv with rfl | ⟨p, rfl⟩
  all_goals
    go_wp2_with (go_at_call 40; refine (disko_down_is hd H.pull2).mono ?_; rintro e w' ⟨rfl, rfl⟩)
    go_returns
    exact ⟨rfl, H.tail⟩

set_option maxRecDepth 100000 in
set_option maxHeartbeats 1000000 in
theorem meter_next_arg (hd : Hid (D.down = false)) (H : St c (MeterAt m dv M :: DiskV dv D :: F) w) (ep : Int) (r : List UInt8) (_hr : r.length = 32) (he : ep < M.epoch) :
    Calls Try.prog 19 #[.pointer (some ⟨m, 0, none⟩), .int .i64 ep, .agg (bvs r).toArray] w fun e w' =>
      e = .returned (.int .i64 1) ∧ St c (MeterAt m dv M :: DiskV dv D :: F) w' := by
  obtain ⟨hw, _⟩ := meter_cells H
  have q0 := hw.count0
  have q1 := hw.count1
  have q2 := hw.most
  go_enter Try.func19, Try.ntmps19
  go_upto_region 1 with (fail)
  refine wp_gen (H.allocPt (.cells (bvs r).toArray 28)) ?_
  generalize w.heap.size = q
  clear H
  intro w1 H
  obtain ⟨_, hm⟩ := meter_cells H.tail
  have hc0 : w1.cell? ⟨m, 0, none⟩ = some (.int .i64 M.count) := cell_of_row w1 m 0 _ _ _ hm
  have hc1 : w1.cell? ⟨m, 1, none⟩ = some (.int .i64 M.epoch) := cell_of_row w1 m 1 _ _ _ hm
  have hc35 : w1.cell? ⟨m, 35, none⟩ = some dv := (cell_of_row w1 m 35 _ _ _ hm).trans (meterCells_disk dv hw.root)
  have hdv := dv_form H.tail.tail
  clear hm
  rcases hdv with rfl | ⟨p, rfl⟩
  all_goals
    go_wp2_with (go_at_call 40; refine (disko_down_is hd H.pull2).mono ?_; rintro e w' ⟨rfl, rfl⟩)
    go_returns
    exact ⟨rfl, H.tail⟩

set_option maxRecDepth 100000 in
set_option maxHeartbeats 1000000 in
theorem meter_next_spent (hd : Hid (D.down = false)) (H : St c (MeterAt m dv M :: DiskV dv D :: F) w) (ep : Int) (r : List UInt8) (_hr : r.length = 32) (he : M.epoch ≤ ep) (hs : Hid (M.most - M.count = 0)) :
    Calls Try.prog 19 #[.pointer (some ⟨m, 0, none⟩), .int .i64 ep, .agg (bvs r).toArray] w fun e w' =>
      e = .returned (.int .i64 10) ∧ St c (MeterAt m dv M :: DiskV dv D :: F) w' := by
  obtain ⟨hw, _⟩ := meter_cells H
  have q0 := hw.count0
  have q1 := hw.count1
  have q2 := hw.most
  go_enter Try.func19, Try.ntmps19
  go_upto_region 1 with (fail)
  refine wp_gen (H.allocPt (.cells (bvs r).toArray 28)) ?_
  generalize w.heap.size = q
  clear H
  intro w1 H
  obtain ⟨_, hm⟩ := meter_cells H.tail
  have hc0 : w1.cell? ⟨m, 0, none⟩ = some (.int .i64 M.count) := cell_of_row w1 m 0 _ _ _ hm
  have hc1 : w1.cell? ⟨m, 1, none⟩ = some (.int .i64 M.epoch) := cell_of_row w1 m 1 _ _ _ hm
  have hc35 : w1.cell? ⟨m, 35, none⟩ = some dv := (cell_of_row w1 m 35 _ _ _ hm).trans (meterCells_disk dv hw.root)
  have hdv := dv_form H.tail.tail
  clear hm
  have hs' : (M.most - M.count == 0) = true := by simpa using hs.out
  rcases hdv with rfl | ⟨p, rfl⟩
  all_goals
    go_wp2_with (first | (go_at_call 40; refine (disko_down_is hd H.pull2).mono ?_; rintro e w' ⟨rfl, rfl⟩) | (go_at_call 20; refine (meter_left H.tail).mono ?_; rintro e w' ⟨rfl, nq, rfl⟩))
    go_returns
    exact ⟨rfl, (H.drewN nq).tail⟩

set_option maxRecDepth 100000 in
set_option maxHeartbeats 1000000 in
theorem meter_next_ok (hd : Hid (D.down = false)) (hg : Hid (D.goes = false)) (hk : Hid (D.keeps = 0)) (H : St c (MeterAt m dv M :: DiskV dv D :: F) w) (ep : Int) (r : List UInt8) (hr : r.length = 32) (he : M.epoch ≤ ep) (he1 : ep ≤ 9223372036854775807) (hs : M.count < M.most) :
    Calls Try.prog 19 #[.pointer (some ⟨m, 0, none⟩), .int .i64 ep, .agg (bvs r).toArray] w fun e w' =>
      e = .returned (.int .i64 0) ∧ St c (MeterAt m dv { M with count := M.count + 1, epoch := ep, root := r } :: DiskV dv D.act :: F) w' := by
  obtain ⟨hw, _⟩ := meter_cells H
  have q0 := hw.count0
  have q1 := hw.count1
  have q2 := hw.most
  go_enter Try.func19, Try.ntmps19
  go_upto_region 1 with (fail)
  refine wp_gen (H.allocPt (.cells (bvs r).toArray 28)) ?_
  generalize w.heap.size = q
  clear H
  intro w1 H
  obtain ⟨_, hm⟩ := meter_cells H.tail
  have hc0 : w1.cell? ⟨m, 0, none⟩ = some (.int .i64 M.count) := cell_of_row w1 m 0 _ _ _ hm
  have hc1 : w1.cell? ⟨m, 1, none⟩ = some (.int .i64 M.epoch) := cell_of_row w1 m 1 _ _ _ hm
  have hc35 : w1.cell? ⟨m, 35, none⟩ = some dv := (cell_of_row w1 m 35 _ _ _ hm).trans (meterCells_disk dv hw.root)
  have hdv := dv_form H.tail.tail
  clear hm
  have hs' : (M.most - M.count == 0) = false := by rw [beq_eq_false_iff_ne]; omega
  rcases hdv with rfl | ⟨p, rfl⟩
  · go_upto_region 11 with (first | (go_at_call 40; refine (disko_down_is hd H.pull2).mono ?_; rintro e w' ⟨rfl, rfl⟩) | (go_at_call 20; refine (meter_left H.tail).mono ?_; rintro e w' ⟨rfl, nq, rfl⟩) | (go_at_call 57; refine (disko_act_is hg hk (H.drewN nq).pull2).mono ?_; rintro e w2 ⟨rfl, H2⟩))
    refine ex_gen' H2.pull2 ?_
    intro W HW
    obtain ⟨_, hm⟩ := meter_cells HW
    have hc0' : W.cell? ⟨m, 0, none⟩ = some (.int .i64 M.count) := cell_of_row W m 0 _ _ _ hm
    have Hm := Lib.hid hm
    have Hq := Lib.hid HW.pull2.pt
    have Hri := Lib.hid root_info
    have Hvi := Lib.hid value_info
    have Hrs := Lib.hid (show (bvs r).toArray.size = 32 from by rw [List.size_toArray, bvs, List.length_map, hr])
    have Hrx := Lib.hid (show (bvs r).toArray.extract 0 (0 + 32) = (bvs r).toArray from by rw [Nat.zero_add, ← Hrs.out]; exact Array.extract_size)
    have Hsz := Lib.hid (meterCells_size (.pointer none) hw.root)
    have Hvs := Lib.hid (valueCells_size (M.count + 1) ep hr)
    have Hst := Lib.hid (meterCells_store (.pointer none) hw.root (M.count + 1) ep hr)
    have hwn : ({ M with count := M.count + 1, epoch := ep, root := r } : MeterM).WF := ⟨hr, by show 0 ≤ M.count + 1; omega, by show M.count + 1 ≤ M.most; omega, hw.most, by show 0 ≤ ep; have := hw.epoch0; omega, he1⟩
    clear hm
    have hsum : IntKind.i64.wrap (M.count + 1) = M.count + 1 := IntWalk.i64_in _ (by omega)
    have hsum' : wrap64 (M.count + 1) = M.count + 1 := by unfold wrap64; omega
    refine region_tail 12 (by kernel_rfl) (by kernel_rfl) ?_
    simp only [List.take_succ_cons, List.take_zero, List.drop_succ_cons, List.drop_zero]
    iterate 8 still_step
    refine still_load_row (P := Try.prog) (op := ⟨some 53, .load 28 (.tmp 5), _, _, _, _⟩) (by rfl) _ _ (by rfl) q 0 32 (by rfl) _ _ 28 (0, 0) _ (by exact Hq.out) (by rw [Hrs.out]; omega) Hrx.out Try.underlying28 (by rfl) Hri.out ?_
    refine still_value (P := Try.prog) (op := ⟨some 54, .build 31 #[(0, .tmp 51), (1, .tmp 52), (2, .tmp 53)], _, _, _, _⟩) (by rfl) (run_build3 _ _ _ _ _ _ _ (by rfl) (.int .i64 (M.count + 1)) (.int .i64 ep) (.agg (bvs r).toArray) _ (by rfl) (by rfl) (by rfl) (build_value _ _ r hr _)) ?_
    iterate 2 still_step
    refine wpStill_nil ?_
    clear hsum hsum'
    refine go_store_row (P := Try.prog) (op := ⟨none, .store 31 (.tmp 56) (.tmp 54), _, _, _, _⟩) (by rfl) _ _ _ (by rfl) m 0 (valueCells (M.count + 1) ep r) (meterCells (.pointer none) M) (by rfl) (by rfl) 34 (by exact Hm.out) (by rw [Hsz.out, Hvs.out]; omega) (by rw [Hvs.out]; exact Hvi.out) (valueCells_all _ _ _) ?_
    refine wpList_nil ?_
    obtain ⟨_, HW1⟩ := St.pure HW.drew
    have H3 := HW1.setRowPt (splice (meterCells (.pointer none) M).toList 0 (valueCells (M.count + 1) ep r).toList).toArray
    rw [Hst.out] at H3 ⊢
    have H4 : St c (MeterAt m (.pointer none) { M with count := M.count + 1, epoch := ep, root := r } :: DiskV (.pointer none) D.act :: F) (W.drew.setRow m (meterCells (.pointer none) { M with count := M.count + 1, epoch := ep, root := r })) := (St.toPure hwn H3).pull2.tail
    refine ex_gen (R := Exit.then _ _) H4 ?_
    clear H4 H3 HW1 HW H2 Hst hc0'
    intro W5 H5
    go_wp2
    go_returns
    exact ⟨rfl, H5⟩
  · go_upto_region 11 with (first | (go_at_call 40; refine (disko_down_is hd H.pull2).mono ?_; rintro e w' ⟨rfl, rfl⟩) | (go_at_call 20; refine (meter_left H.tail).mono ?_; rintro e w' ⟨rfl, nq, rfl⟩) | (go_at_call 57; refine (disko_act_is hg hk (H.drewN nq).pull2).mono ?_; rintro e w2 ⟨rfl, H2⟩))
    refine ex_gen' H2.pull2 ?_
    intro W HW
    obtain ⟨_, hm⟩ := meter_cells HW
    have hc0' : W.cell? ⟨m, 0, none⟩ = some (.int .i64 M.count) := cell_of_row W m 0 _ _ _ hm
    have Hm := Lib.hid hm
    have Hq := Lib.hid HW.pull2.pt
    have Hri := Lib.hid root_info
    have Hvi := Lib.hid value_info
    have Hrs := Lib.hid (show (bvs r).toArray.size = 32 from by rw [List.size_toArray, bvs, List.length_map, hr])
    have Hrx := Lib.hid (show (bvs r).toArray.extract 0 (0 + 32) = (bvs r).toArray from by rw [Nat.zero_add, ← Hrs.out]; exact Array.extract_size)
    have Hsz := Lib.hid (meterCells_size (.pointer (some ⟨p, 0, none⟩)) hw.root)
    have Hvs := Lib.hid (valueCells_size (M.count + 1) ep hr)
    have Hst := Lib.hid (meterCells_store (.pointer (some ⟨p, 0, none⟩)) hw.root (M.count + 1) ep hr)
    have hwn : ({ M with count := M.count + 1, epoch := ep, root := r } : MeterM).WF := ⟨hr, by show 0 ≤ M.count + 1; omega, by show M.count + 1 ≤ M.most; omega, hw.most, by show 0 ≤ ep; have := hw.epoch0; omega, he1⟩
    clear hm
    have hsum : IntKind.i64.wrap (M.count + 1) = M.count + 1 := IntWalk.i64_in _ (by omega)
    have hsum' : wrap64 (M.count + 1) = M.count + 1 := by unfold wrap64; omega
    refine region_tail 12 (by kernel_rfl) (by kernel_rfl) ?_
    simp only [List.take_succ_cons, List.take_zero, List.drop_succ_cons, List.drop_zero]
    iterate 8 still_step
    refine still_load_row (P := Try.prog) (op := ⟨some 53, .load 28 (.tmp 5), _, _, _, _⟩) (by rfl) _ _ (by rfl) q 0 32 (by rfl) _ _ 28 (0, 0) _ (by exact Hq.out) (by rw [Hrs.out]; omega) Hrx.out Try.underlying28 (by rfl) Hri.out ?_
    refine still_value (P := Try.prog) (op := ⟨some 54, .build 31 #[(0, .tmp 51), (1, .tmp 52), (2, .tmp 53)], _, _, _, _⟩) (by rfl) (run_build3 _ _ _ _ _ _ _ (by rfl) (.int .i64 (M.count + 1)) (.int .i64 ep) (.agg (bvs r).toArray) _ (by rfl) (by rfl) (by rfl) (build_value _ _ r hr _)) ?_
    iterate 2 still_step
    refine wpStill_nil ?_
    clear hsum hsum'
    refine go_store_row (P := Try.prog) (op := ⟨none, .store 31 (.tmp 56) (.tmp 54), _, _, _, _⟩) (by rfl) _ _ _ (by rfl) m 0 (valueCells (M.count + 1) ep r) (meterCells (.pointer (some ⟨p, 0, none⟩)) M) (by rfl) (by rfl) 34 (by exact Hm.out) (by rw [Hsz.out, Hvs.out]; omega) (by rw [Hvs.out]; exact Hvi.out) (valueCells_all _ _ _) ?_
    refine wpList_nil ?_
    obtain ⟨_, HW1⟩ := St.pure HW.drew
    have H3 := HW1.setRowPt (splice (meterCells (.pointer (some ⟨p, 0, none⟩)) M).toList 0 (valueCells (M.count + 1) ep r).toList).toArray
    rw [Hst.out] at H3 ⊢
    have H4 : St c (MeterAt m (.pointer (some ⟨p, 0, none⟩)) { M with count := M.count + 1, epoch := ep, root := r } :: DiskV (.pointer (some ⟨p, 0, none⟩)) D.act :: F) (W.drew.setRow m (meterCells (.pointer (some ⟨p, 0, none⟩)) { M with count := M.count + 1, epoch := ep, root := r })) := (St.toPure hwn H3).pull2.tail
    refine ex_gen (R := Exit.then _ _) H4 ?_
    clear H4 H3 HW1 HW H2 Hst hc0'
    intro W5 H5
    go_wp2
    go_returns
    exact ⟨rfl, H5⟩
set_option maxRecDepth 100000 in
set_option maxHeartbeats 1000000 in
theorem meter_next_high (hd : Hid (D.down = false)) (hg : Hid (D.goes = true)) (k : Int) (hk : Hid (D.keeps = k)) (hkb : Hid ((k / 9223372036854775808 == 1) = true)) (H : St c (MeterAt m dv M :: DiskV dv D :: F) w) (ep : Int) (r : List UInt8) (hr : r.length = 32) (he : M.epoch ≤ ep) (he1 : ep ≤ 9223372036854775807) (hs : M.count < M.most) :
    Calls Try.prog 19 #[.pointer (some ⟨m, 0, none⟩), .int .i64 ep, .agg (bvs r).toArray] w fun e w' =>
      e = .returned (.int .i64 8) ∧ St c (MeterAt m dv { M with count := M.count + 1, epoch := ep, root := r } :: DiskV dv (D.act.off k) :: F) w' := by
  obtain ⟨hw, _⟩ := meter_cells H
  have q0 := hw.count0
  have q1 := hw.count1
  have q2 := hw.most
  go_enter Try.func19, Try.ntmps19
  go_upto_region 1 with (fail)
  refine wp_gen (H.allocPt (.cells (bvs r).toArray 28)) ?_
  generalize w.heap.size = q
  clear H
  intro w1 H
  obtain ⟨_, hm⟩ := meter_cells H.tail
  have hc0 : w1.cell? ⟨m, 0, none⟩ = some (.int .i64 M.count) := cell_of_row w1 m 0 _ _ _ hm
  have hc1 : w1.cell? ⟨m, 1, none⟩ = some (.int .i64 M.epoch) := cell_of_row w1 m 1 _ _ _ hm
  have hc35 : w1.cell? ⟨m, 35, none⟩ = some dv := (cell_of_row w1 m 35 _ _ _ hm).trans (meterCells_disk dv hw.root)
  have hdv := dv_form H.tail.tail
  clear hm
  obtain ⟨k0, k1⟩ := H.tail.tail.keeps
  rw [hk.out] at k0 k1
  have hs' : (M.most - M.count == 0) = false := by rw [beq_eq_false_iff_ne]; omega
  have hp : ∃ p, dv = .pointer (some ⟨p, 0, none⟩) := by
    rcases hdv with rfl | h
    · cases D with
      | none => exact absurd hg.out (by simp [DiskO.goes])
      | some D => obtain ⟨h, ⟨p, e, _⟩, _⟩ := H.tail.tail.get; cases e
    · exact h
  clear hdv
  obtain ⟨p, rfl⟩ := hp
  have hkb' := hkb.out
  go_upto_region 11 with (first | (go_at_call 40; refine (disko_down_is hd H.pull2).mono ?_; rintro e w' ⟨rfl, rfl⟩) | (go_at_call 20; refine (meter_left H.tail).mono ?_; rintro e w' ⟨rfl, nq, rfl⟩) | (go_at_call 57; refine (disko_act_is hg hk (H.drewN nq).pull2).mono ?_; rintro e w2 ⟨rfl, H2⟩))
  refine ex_gen' H2.pull2 ?_
  intro W HW
  obtain ⟨_, hm⟩ := meter_cells HW
  have hc0' : W.cell? ⟨m, 0, none⟩ = some (.int .i64 M.count) := cell_of_row W m 0 _ _ _ hm
  have Hm := Lib.hid hm
  have Hq := Lib.hid HW.pull2.pt
  have Hri := Lib.hid root_info
  have Hvi := Lib.hid value_info
  have Hrs := Lib.hid (show (bvs r).toArray.size = 32 from by rw [List.size_toArray, bvs, List.length_map, hr])
  have Hrx := Lib.hid (show (bvs r).toArray.extract 0 (0 + 32) = (bvs r).toArray from by rw [Nat.zero_add, ← Hrs.out]; exact Array.extract_size)
  have Hsz := Lib.hid (meterCells_size (.pointer (some ⟨p, 0, none⟩)) hw.root)
  have Hvs := Lib.hid (valueCells_size (M.count + 1) ep hr)
  have Hst := Lib.hid (meterCells_store (.pointer (some ⟨p, 0, none⟩)) hw.root (M.count + 1) ep hr)
  have hwn : ({ M with count := M.count + 1, epoch := ep, root := r } : MeterM).WF := ⟨hr, by show 0 ≤ M.count + 1; omega, by show M.count + 1 ≤ M.most; omega, hw.most, by show 0 ≤ ep; have := hw.epoch0; omega, he1⟩
  clear hm
  have hsum : IntKind.i64.wrap (M.count + 1) = M.count + 1 := IntWalk.i64_in _ (by omega)
  have hsum' : wrap64 (M.count + 1) = M.count + 1 := by unfold wrap64; omega
  refine region_tail 12 (by kernel_rfl) (by kernel_rfl) ?_
  simp only [List.take_succ_cons, List.take_zero, List.drop_succ_cons, List.drop_zero]
  iterate 8 still_step
  refine still_load_row (P := Try.prog) (op := ⟨some 53, .load 28 (.tmp 5), _, _, _, _⟩) (by rfl) _ _ (by rfl) q 0 32 (by rfl) _ _ 28 (0, 0) _ (by exact Hq.out) (by rw [Hrs.out]; omega) Hrx.out Try.underlying28 (by rfl) Hri.out ?_
  refine still_value (P := Try.prog) (op := ⟨some 54, .build 31 #[(0, .tmp 51), (1, .tmp 52), (2, .tmp 53)], _, _, _, _⟩) (by rfl) (run_build3 _ _ _ _ _ _ _ (by rfl) (.int .i64 (M.count + 1)) (.int .i64 ep) (.agg (bvs r).toArray) _ (by rfl) (by rfl) (by rfl) (build_value _ _ r hr _)) ?_
  iterate 2 still_step
  refine wpStill_nil ?_
  clear hsum hsum'
  refine go_store_row (P := Try.prog) (op := ⟨none, .store 31 (.tmp 56) (.tmp 54), _, _, _, _⟩) (by rfl) _ _ _ (by rfl) m 0 (valueCells (M.count + 1) ep r) (meterCells (.pointer (some ⟨p, 0, none⟩)) M) (by rfl) (by rfl) 34 (by exact Hm.out) (by rw [Hsz.out, Hvs.out]; omega) (by rw [Hvs.out]; exact Hvi.out) (valueCells_all _ _ _) ?_
  refine wpList_nil ?_
  obtain ⟨_, HW1⟩ := St.pure HW.drew
  have H3 := HW1.setRowPt (splice (meterCells (.pointer (some ⟨p, 0, none⟩)) M).toList 0 (valueCells (M.count + 1) ep r).toList).toArray
  rw [Hst.out] at H3 ⊢
  have H4 : St c (MeterAt m (.pointer (some ⟨p, 0, none⟩)) { M with count := M.count + 1, epoch := ep, root := r } :: DiskV (.pointer (some ⟨p, 0, none⟩)) D.act :: F) (W.drew.setRow m (meterCells (.pointer (some ⟨p, 0, none⟩)) { M with count := M.count + 1, epoch := ep, root := r })) := (St.toPure hwn H3).pull2.tail
  refine ex_gen (R := Exit.then _ _) H4 ?_
  clear H4 H3 HW1 HW H2 Hst hc0'
  intro W5 H5
  have hcx := meter_dv H5
  go_wp2_with (go_at_call 22; refine (disko_off_is H5.swap hg.out k k0 k1).mono ?_; rintro e w6 ⟨rfl, H6⟩)
  go_returns
  exact ⟨rfl, H6.swap⟩

set_option maxRecDepth 100000 in
set_option maxHeartbeats 1000000 in
theorem meter_next_low (hd : Hid (D.down = false)) (hg : Hid (D.goes = true)) (k : Int) (hk : Hid (D.keeps = k)) (hkb : Hid ((k / 9223372036854775808 == 1) = false)) (H : St c (MeterAt m dv M :: DiskV dv D :: F) w) (ep : Int) (r : List UInt8) (_hr : r.length = 32) (he : M.epoch ≤ ep) (_he1 : ep ≤ 9223372036854775807) (hs : M.count < M.most) :
    Calls Try.prog 19 #[.pointer (some ⟨m, 0, none⟩), .int .i64 ep, .agg (bvs r).toArray] w fun e w' =>
      e = .returned (.int .i64 8) ∧ St c (MeterAt m dv M :: DiskV dv (D.act.off k) :: F) w' := by
  obtain ⟨hw, _⟩ := meter_cells H
  have q0 := hw.count0
  have q1 := hw.count1
  have q2 := hw.most
  go_enter Try.func19, Try.ntmps19
  go_upto_region 1 with (fail)
  refine wp_gen (H.allocPt (.cells (bvs r).toArray 28)) ?_
  generalize w.heap.size = q
  clear H
  intro w1 H
  obtain ⟨_, hm⟩ := meter_cells H.tail
  have hc0 : w1.cell? ⟨m, 0, none⟩ = some (.int .i64 M.count) := cell_of_row w1 m 0 _ _ _ hm
  have hc1 : w1.cell? ⟨m, 1, none⟩ = some (.int .i64 M.epoch) := cell_of_row w1 m 1 _ _ _ hm
  have hc35 : w1.cell? ⟨m, 35, none⟩ = some dv := (cell_of_row w1 m 35 _ _ _ hm).trans (meterCells_disk dv hw.root)
  have hdv := dv_form H.tail.tail
  clear hm
  obtain ⟨k0, k1⟩ := H.tail.tail.keeps
  rw [hk.out] at k0 k1
  have hs' : (M.most - M.count == 0) = false := by rw [beq_eq_false_iff_ne]; omega
  have hp : ∃ p, dv = .pointer (some ⟨p, 0, none⟩) := by
    rcases hdv with rfl | h
    · cases D with
      | none => exact absurd hg.out (by simp [DiskO.goes])
      | some D => obtain ⟨h, ⟨p, e, _⟩, _⟩ := H.tail.tail.get; cases e
    · exact h
  clear hdv
  obtain ⟨p, rfl⟩ := hp
  have hkb' := hkb.out
  go_wp2_with (first | (go_at_call 40; refine (disko_down_is hd H.pull2).mono ?_; rintro e w' ⟨rfl, rfl⟩) | (go_at_call 20; refine (meter_left H.tail).mono ?_; rintro e w' ⟨rfl, nq, rfl⟩) | (go_at_call 57; refine (disko_act_is hg hk (H.drewN nq).pull2).mono ?_; rintro e w2 ⟨rfl, H2⟩; have hcx := meter_dv H2.pull2) | (go_at_call 22; refine (disko_off_is H2 hg.out k k0 k1).mono ?_; rintro e w6 ⟨rfl, H6⟩))
  go_returns
  exact ⟨rfl, H6.pull2.pull2.tail⟩

theorem nextD_down (hd : D.down = true) (ep : Int) : M.nextD D ep = D := by simp [MeterM.nextD, MeterM.steps, hd]
/-- Next, whatever happens. -/
theorem meter_next (H : St c (MeterAt m dv M :: DiskV dv D :: F) w) (ep : Int) (r : List UInt8) (hr : r.length = 32) (he1 : ep ≤ 9223372036854775807) :
    Calls Try.prog 19 #[.pointer (some ⟨m, 0, none⟩), .int .i64 ep, .agg (bvs r).toArray] w fun e w' =>
      e = .returned (.int .i64 (M.nextE D ep)) ∧ St c (MeterAt m dv (M.next D ep r) :: DiskV dv (M.nextD D ep) :: F) w' := by
  obtain ⟨hw, _⟩ := meter_cells H
  have q1 := hw.count1
  obtain ⟨k0, k1⟩ := H.swap.keeps
  cases hd : D.down
  case true =>
    have h := meter_next_down (Lib.hid hd) H ep r hr
    simpa [MeterM.nextE, MeterM.next, MeterM.nextD, MeterM.steps, hd] using h
  case false =>
    by_cases he : ep < M.epoch
    · have h := meter_next_arg (Lib.hid hd) H ep r hr he
      simpa [MeterM.nextE, MeterM.next, MeterM.nextD, MeterM.steps, hd, he] using h
    · by_cases hs : M.most - M.count = 0
      · have h := meter_next_spent (Lib.hid hd) H ep r hr (by omega) (Lib.hid hs)
        simpa [MeterM.nextE, MeterM.next, MeterM.nextD, MeterM.steps, hd, he, hs] using h
      · cases hg : D.goes
        case false =>
          have hk : D.keeps = 0 := by
            cases D with
            | none => rfl
            | some D => simpa [DiskO.keeps, DiskM.keeps, DiskO.goes] using fun h => absurd h (by simpa [DiskO.goes] using hg)
          have h := meter_next_ok (Lib.hid hd) (Lib.hid hg) (Lib.hid hk) H ep r hr (by omega) he1 (by omega)
          simpa [MeterM.nextE, MeterM.next, MeterM.nextD, MeterM.steps, hd, he, hs, hg] using h
        case true =>
          by_cases hk : 9223372036854775808 ≤ D.keeps
          · have hb : (D.keeps / 9223372036854775808 == 1) = true := by rw [beq_iff_eq]; omega
            have h := meter_next_high (Lib.hid hd) (Lib.hid hg) D.keeps (Lib.hid rfl) (Lib.hid hb) H ep r hr (by omega) he1 (by omega)
            simpa [MeterM.nextE, MeterM.next, MeterM.nextD, MeterM.steps, hd, he, hs, hg, hk] using h
          · have hb : (D.keeps / 9223372036854775808 == 1) = false := by rw [beq_eq_false_iff_ne]; omega
            have h := meter_next_low (Lib.hid hd) (Lib.hid hg) D.keeps (Lib.hid rfl) (Lib.hid hb) H ep r hr (by omega) he1 (by omega)
            simpa [MeterM.nextE, MeterM.next, MeterM.nextD, MeterM.steps, hd, he, hs, hg, hk] using h
end
end Go.Proofs.Ytakeilefbcpabaa
