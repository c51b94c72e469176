/- The register: what each call does. -/
import Derived.Test.YtakeilefbcpabaaMm
namespace Go.Proofs.Ytakeilefbcpabaa
open Go.RowKit

section
variable {c : Con} {F : List HP} {w : World} {m : Nat} {M : MeterM} {dv : Value} {D : DiskO}

theorem dv_form (H : St c (DiskV dv D :: F) w) : dv = .pointer none ∨ ∃ p, dv = .pointer (some ⟨p, 0, none⟩) := by
  obtain ⟨h, a, _⟩ := H.get
  cases D with
  | none => exact .inl a
  | some D => obtain ⟨p, e, _⟩ := a; exact .inr ⟨p, e⟩
theorem St.someDisk {D : DiskM} (H : St c (DiskV dv (some D) :: F) w) : ∃ p, dv = .pointer (some ⟨p, 0, none⟩) ∧ St c (DiskAt p D :: F) w := by
  obtain ⟨h, ⟨p, e, a⟩, l, r⟩ := H.stars
  exact ⟨p, e, H.con, h, a, l, r⟩
theorem St.toDisk {D : DiskM} {p : Nat} (H : St c (DiskAt p D :: F) w) : St c (DiskV (.pointer (some ⟨p, 0, none⟩)) (some D) :: F) w := H.imp fun _ a => ⟨p, rfl, a⟩
theorem St.noDisk (H : St c F w) : St c (DiskV (.pointer none) none :: F) w := H.new w _ rfl (fun _ _ => rfl) rfl

/-- Down, Act, Off of a disk or none. -/
theorem disko_down (H : St c (DiskV dv D :: F) w) :
    Calls Try.prog 40 #[dv] w fun e w' => e = .returned (.bool D.down) ∧ w = w' := by
  cases D with
  | none => obtain ⟨h, rfl, _⟩ := H.get; exact disk_down_nil w
  | some D => obtain ⟨p, rfl, H2⟩ := H.someDisk; exact disk_down H2
theorem disko_down_is {b : Bool} (hd : Hid (D.down = b)) (H : St c (DiskV dv D :: F) w) :
    Calls Try.prog 40 #[dv] w fun e w' => e = .returned (.bool b) ∧ w = w' := by
  have h := disko_down H
  rw [hd.out] at h
  exact h
theorem disko_act (H : St c (DiskV dv D :: F) w) :
    Calls Try.prog 57 #[dv] w fun e w' => e = .returned (.tuple #[.bool D.goes, .int .u64 D.keeps]) ∧ St c (DiskV dv D.act :: F) w' := by
  cases D with
  | none =>
    obtain ⟨h, rfl, _⟩ := H.get
    exact (disk_act_nil w).mono fun e w' ⟨h1, h2⟩ => ⟨h1, by rw [← h2]; exact H⟩
  | some D =>
    obtain ⟨p, rfl, H2⟩ := H.someDisk
    exact (disk_act H2).mono fun e w' ⟨h1, h2⟩ => ⟨h1, h2.toDisk⟩
theorem disko_off (H : St c (DiskV dv D :: F) w) (hg : D.goes = true) (k : Int) (hk0 : 0 ≤ k) (hk1 : k < 18446744073709551616) (D1 : DiskO) (H1 : St c (DiskV dv D1 :: F) w) (hd : D1 = D.act) :
    Calls Try.prog 22 #[dv, .int .u64 k] w fun e w' => e = .returned (.tuple #[]) ∧ St c (DiskV dv (D.act.off k) :: F) w' := by
  subst hd
  cases D with
  | none => simp [DiskO.goes] at hg
  | some D =>
    obtain ⟨p, rfl, H2⟩ := H1.someDisk
    exact (disk_off H2 k hk0 hk1).mono fun e w' ⟨h1, h2⟩ => ⟨h1, h2.toDisk⟩

theorem meter_cells (H : St c (MeterAt m dv M :: F) w) : M.WF ∧ w.heap[m]? = some (.cells (meterCells dv M) 34 (0, 0)) := by
  obtain ⟨h, H⟩ := St.pure H
  exact ⟨h, H.pt⟩

/-- Left. -/
theorem meter_left (H : St c (MeterAt m dv M :: F) w) :
    Calls Try.prog 20 #[.pointer (some ⟨m, 0, none⟩)] w fun e w' => e = .returned (.int .i64 (M.most - M.count)) ∧ ∃ n, w' = w.drewN n := by
  obtain ⟨hw, hm⟩ := meter_cells H
  have hc0 : w.cell? ⟨m, 0, none⟩ = some (.int .i64 M.count) := cell_of_row w m 0 _ _ _ hm
  have hc34 : w.cell? ⟨m, 34, none⟩ = some (.int .i64 M.most) := (cell_of_row w m 34 _ _ _ hm).trans (meterCells_most dv hw.root)
  have h1 := hw.count0
  have h2 := hw.count1
  have h3 := hw.most
  clear hm
  go_enter Try.func20, Try.ntmps20
  go_wp2
  go_quiet (fail)
  go_wp2
  go_returns
  exact ⟨by go_num, _, rfl⟩
theorem meter_left_nil (w : World) :
    Calls Try.prog 20 #[.pointer none] w fun e w' => e = .returned (.int .i64 0) ∧ w = w' := by
  go_enter Try.func20, Try.ntmps20
  go_wp2
  go_returns
  exact ⟨rfl, rfl⟩

/-- New. -/
def meterOf (most : Int) : MeterM := ⟨0, 0, zeroRoot, min (max most 0) 1099511627776⟩
theorem meterOf_wf (most : Int) : (meterOf most).WF := ⟨zeroRoot_length, by simp [meterOf], by simp only [meterOf]; omega, by simp only [meterOf]; omega, by simp [meterOf], by simp [meterOf]⟩
theorem meterCells_new (dv : Value) (x : Int) : (#[.int .i64 0, .int .i64 0, .int .u8 0, .int .u8 0, .int .u8 0, .int .u8 0, .int .u8 0, .int .u8 0, .int .u8 0, .int .u8 0, .int .u8 0, .int .u8 0, .int .u8 0, .int .u8 0, .int .u8 0, .int .u8 0, .int .u8 0, .int .u8 0, .int .u8 0, .int .u8 0, .int .u8 0, .int .u8 0, .int .u8 0, .int .u8 0, .int .u8 0, .int .u8 0, .int .u8 0, .int .u8 0, .int .u8 0, .int .u8 0, .int .u8 0, .int .u8 0, .int .u8 0, .int .u8 0, .int .i64 x, dv] : Array Value) = meterCells dv ⟨0, 0, zeroRoot, x⟩ := by kernel_rfl
set_option maxRecDepth 100000 in
theorem meter_new (H : St c F w) (most : Int) (dv : Value) (hdv : dv = .pointer none ∨ ∃ p, dv = .pointer (some ⟨p, 0, none⟩)) :
    Calls Try.prog 18 #[.int .i64 most, dv] w fun e w' => ∃ m, e = .returned (.pointer (some ⟨m, 0, none⟩)) ∧ St c (MeterAt m dv (meterOf most) :: F) w' := by
  have HF : ∀ (x : Int) (cs : Array Value), x = min (max most 0) 1099511627776 → cs = meterCells dv ⟨0, 0, zeroRoot, x⟩ → St c (MeterAt w.heap.size dv (meterOf most) :: F) (w.alloc (.cells cs 34)) := by
    rintro x cs rfl rfl
    exact St.toPure (meterOf_wf most) (H.allocPt _)
  have HF := Lib.hid HF
  rcases hdv with rfl | ⟨p, rfl⟩
  · go_enter Try.func18, Try.ntmps18
    go_wp2
    all_goals go_returns
    all_goals exact ⟨_, rfl, HF.out _ _ (by omega) (meterCells_new _ _)⟩
  · go_enter Try.func18, Try.ntmps18
    go_wp2
    all_goals go_returns
    all_goals exact ⟨_, rfl, HF.out _ _ (by omega) (meterCells_new _ _)⟩

theorem value_info : (Try.prog.info? 31).map (·.size) = some 34 := by kernel_rfl
theorem value_zero : (Try.prog.info? 31).map (fun i => (i.zero, i.size)) = some (some (.agg (valueCells 0 0 zeroRoot)), 34) := by kernel_rfl
theorem value_build (w : World) : (Instr.build 31 #[]).run Try.prog w = .ok (.agg (valueCells 0 0 zeroRoot)) w := by kernel_rfl
set_option maxRecDepth 100000 in
set_option maxHeartbeats 1000000 in
/-- Get. -/
theorem meter_get_down (hd : Hid (D.down = true)) (H : St c (MeterAt m dv M :: DiskV dv D :: F) w) :
    Calls Try.prog 25 #[.pointer (some ⟨m, 0, none⟩)] w fun e w' =>
      e = .returned (.tuple #[.agg (valueCells 0 0 zeroRoot), .int .i64 8]) ∧
      St c (MeterAt m dv M :: DiskV dv D :: F) w' := by
  obtain ⟨hw, hm⟩ := meter_cells H
  clear hm
  have hv := meterCells_value dv hw.root
  have hsz := meterCells_size dv hw.root
  have Hvs := Lib.hid (valueCells_size M.count M.epoch hw.root)
  have Hvz := Lib.hid (valueCells_size 0 0 zeroRoot_length)
  have Hv := Lib.hid hv
  have Hsz := Lib.hid hsz
  clear hv hsz
  go_enter Try.func25, Try.ntmps25
  go_upto_region 1 with (refine go_alloc_big (P := Try.prog) (op := ⟨some 2, .alloc 31, _, _, _, _⟩) (by rfl) _ (by rfl) value_zero ?_)
  refine wp_gen (H.allocPt (.cells (valueCells 0 0 zeroRoot) 31)) ?_
  generalize w.heap.size = q
  clear H
  intro w1 H
  obtain ⟨_, hm⟩ := meter_cells H.tail
  have hc35 : w1.cell? ⟨m, 35, none⟩ = some dv := (cell_of_row w1 m 35 _ _ _ hm).trans (meterCells_disk dv hw.root)
  have Hm := Lib.hid hm
  have Hq := Lib.hid H.pt
  have Hi := Lib.hid value_info
  have hdv := dv_form H.tail.tail
  clear hm
  rcases hdv with rfl | ⟨p, rfl⟩
  all_goals
    go_wp2_with (first
      | (go_at_call 40; refine (disko_down_is hd H.pull2).mono ?_; rintro e w' ⟨rfl, rfl⟩)
      | (refine wpList_plain (o := ⟨some 14, .build 31 #[], _, _, _, _⟩) (by rfl) (fun K hK => op_build (P := Try.prog) _ _ (by rfl) #[] (by rfl) _ (value_build _) (hK _ _ ?_)))
      | (refine go_store_row (P := Try.prog) (op := ⟨none, .store 31 (.tmp 2) (.tmp 14), _, _, _, _⟩) (by rfl) _ _ _ (by rfl) q 0 (valueCells 0 0 zeroRoot) (valueCells 0 0 zeroRoot) (by rfl) (by rfl) 31 (by exact Hq.out) (by rw [Hvz.out]; omega) (by rw [Hvz.out]; exact Hi.out) (valueCells_all _ _ _) ?_))
    have H2 := H.setRowPt (splice (valueCells 0 0 zeroRoot).toList 0 (valueCells 0 0 zeroRoot).toList).toArray
    rw [splice_whole _ _ rfl, Array.toArray_toList] at H2 ⊢
    exact bodyPost_ret (results_ct rfl _ _ q _ _ (0, 0) _ (by rfl) H2.pt Try.underlying31 rfl (by rw [Hvz.out]; exact Hi.out)) rfl ⟨rfl, H2.tail⟩

set_option maxRecDepth 100000 in
set_option maxHeartbeats 1000000 in
/-- Get. -/
theorem meter_get (hd : Hid (D.down = false)) (H : St c (MeterAt m dv M :: DiskV dv D :: F) w) :
    Calls Try.prog 25 #[.pointer (some ⟨m, 0, none⟩)] w fun e w' =>
      e = .returned (.tuple #[.agg (valueCells M.count M.epoch M.root), .int .i64 0]) ∧
      St c (MeterAt m dv M :: DiskV dv D :: F) w' := by
  obtain ⟨hw, hm⟩ := meter_cells H
  clear hm
  have hv := meterCells_value dv hw.root
  have hsz := meterCells_size dv hw.root
  have Hvs := Lib.hid (valueCells_size M.count M.epoch hw.root)
  have Hvz := Lib.hid (valueCells_size 0 0 zeroRoot_length)
  have Hv := Lib.hid hv
  have Hsz := Lib.hid hsz
  clear hv hsz
  go_enter Try.func25, Try.ntmps25
  go_upto_region 1 with (refine go_alloc_big (P := Try.prog) (op := ⟨some 2, .alloc 31, _, _, _, _⟩) (by rfl) _ (by rfl) value_zero ?_)
  refine wp_gen (H.allocPt (.cells (valueCells 0 0 zeroRoot) 31)) ?_
  generalize w.heap.size = q
  clear H
  intro w1 H
  obtain ⟨_, hm⟩ := meter_cells H.tail
  have hc35 : w1.cell? ⟨m, 35, none⟩ = some dv := (cell_of_row w1 m 35 _ _ _ hm).trans (meterCells_disk dv hw.root)
  have Hm := Lib.hid hm
  have Hq := Lib.hid H.pt
  have Hi := Lib.hid value_info
  have hdv := dv_form H.tail.tail
  clear hm
  rcases hdv with rfl | ⟨p, rfl⟩
  all_goals
    go_wp2_with (first
      | (go_at_call 40; refine (disko_down_is hd H.pull2).mono ?_; rintro e w' ⟨rfl, rfl⟩)
      | (refine go_load_row (P := Try.prog) (op := ⟨some 18, .load 31 (.tmp 17), _, _, _, _⟩) (by rfl) _ _ (by rfl) m 0 34 (by rfl) _ _ 34 (0, 0) _ (by exact Hm.out) (by rw [Hsz.out]; omega) Hv.out Try.underlying31 (by rfl) Hi.out ?_)
      | (refine go_store_row (P := Try.prog) (op := ⟨none, .store 31 (.tmp 2) (.tmp 18), _, _, _, _⟩) (by rfl) _ _ _ (by rfl) q 0 (valueCells M.count M.epoch M.root) (valueCells 0 0 zeroRoot) (by rfl) (by rfl) 31 (by exact Hq.out) (by rw [Hvz.out, Hvs.out]; omega) (by rw [Hvs.out]; exact Hi.out) (valueCells_all _ _ _) ?_))
    have H2 := H.setRowPt (splice (valueCells 0 0 zeroRoot).toList 0 (valueCells M.count M.epoch M.root).toList).toArray
    rw [splice_whole _ _ (by rw [Array.length_toList, Array.length_toList, Hvz.out, Hvs.out]), Array.toArray_toList] at H2 ⊢
    exact bodyPost_ret (results_ct rfl _ _ q _ _ (0, 0) _ (by rfl) H2.pt Try.underlying31 rfl (by rw [Hvs.out]; exact Hi.out)) rfl ⟨rfl, H2.tail⟩
end
end Go.Proofs.Ytakeilefbcpabaa
