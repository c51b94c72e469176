/- A sector is read; all is made safe; all sectors at once. -/
import Derived.Test.YtakeilefbcpabaaDw
namespace Go.Proofs.Ytakeilefbcpabaa
open Go.RowKit

theorem zeroSector_size : Try.zeroCells109.size = 256 := by kernel_rfl

section
variable {c : Con} {F : List HP} {w : World} {p : Nat} {D : DiskM}

theorem disk_read_bad (H : St c (DiskAt p D :: F) w) (i : Int) (hi0 : -9223372036854775808 ≤ i) (hi1 : i ≤ 9223372036854775807) (hr : D.ready i ≠ 0) :
    Calls Try.prog 27 #[.pointer (some ⟨p, 0, none⟩), .int .i64 i] w fun e w' => e = .returned (.tuple #[.slice none 0 0, .int .i64 (D.ready i)]) ∧ w = w' := by
  have hd : (D.ready i != 0) = true := by simpa using hr
  clear hr
  go_enter Try.func27, Try.ntmps27
  go_wp2_with (go_at_call 58; refine (disk_ready H i hi0 hi1).mono ?_; rintro e w' ⟨rfl, rfl⟩)
  go_returns
  exact ⟨rfl, rfl⟩

set_option maxRecDepth 100000 in
set_option maxHeartbeats 1000000 in
theorem disk_read (H : St c (DiskAt p D :: F) w) (i : Int) (hi1 : i ≤ 9223372036854775807) (hr : D.ready i = 0) :
    Calls Try.prog 27 #[.pointer (some ⟨p, 0, none⟩), .int .i64 i] w fun e w' => ∃ v, e = .returned (.tuple #[.slice (some ⟨v, 0, none⟩) 256 256, .int .i64 0]) ∧
      St c (Pt v (.cells (bvs (D.now.getD i.toNat [])).toArray 109 (0, 0)) :: DiskAt p D :: F) w' := by
  obtain ⟨hdn, h0, hlt⟩ := DiskM.ready_zero hr
  obtain ⟨m, rfl⟩ := Int.eq_ofNat_of_zero_le h0
  have hm : m < D.now.length := by omega
  obtain ⟨hw, n, s, wv, H1⟩ := H.openDisk
  have hp := H1.pt
  have hn := H1.tail.pt
  have hc0 : w.cell? ⟨p, 0, none⟩ = some (.slice (some ⟨n, 0, none⟩) D.now.length D.now.length) := by rw [cell_of_row w p 0 _ _ _ hp]; rfl
  have hsl : D.now[m].length = 256 := hw.now _ (List.getElem_mem hm)
  have hext : (secs D.now).toArray.extract (m * 256) (m * 256 + 256) = (bvs D.now[m]).toArray := by
    rw [← secs_at hw.now m hm]
    apply Array.ext'
    rw [Array.toList_extract, List.extract_eq_take_drop, List.toList_toArray]
    congr 1
    omega
  have hsz : (secs D.now).toArray.size = D.now.length * 256 := by rw [List.size_toArray, secs_length hw.now]
  have hbs : (bvs D.now[m]).toArray.size = 256 := by rw [List.size_toArray, bvs, List.length_map, hsl]
  have hg : D.now.getD (m : Int).toNat [] = D.now[m] := by rw [Int.toNat_natCast, List.getD_eq_getElem?_getD, List.getElem?_eq_getElem hm]; rfl
  rw [hg]
  have Hext := Lib.hid hext
  have Hsz := Lib.hid hsz
  have Hbs := Lib.hid hbs
  have Hn := Lib.hid hn
  have is := Lib.hid (show (Try.prog.info? 109).map (·.size) = some 256 from by kernel_rfl)
  have hd : (D.ready m != 0) = false := by simpa using hr
  clear hp hn hext hsz hbs hsl hg h0 hr hdn
  go_enter Try.func27, Try.ntmps27
  go_wp2_with (first
    | (go_at_call 58; refine (disk_ready H _ (by omega) hi1).mono ?_; rintro e w' ⟨rfl, rfl⟩)
    | (refine go_load_row (P := Try.prog) (op := ⟨some 20, .load 109 (.tmp 19), _, _, _, _⟩) (by rfl) _ _ (by rfl) n (m * 256) 256 (by rfl) _ _ 109 (0, 0) _ (by exact Hn.out) (by rw [Hsz.out]; omega) Hext.out Try.underlying109 (by rfl) is.out ?_)
    | (refine go_store_new (P := Try.prog) (op := ⟨none, .store 109 (.tmp 7) (.tmp 20), _, _, _, _⟩) (by rfl) _ _ _ (by rfl) w Try.zeroCells109 (bvs D.now[m]).toArray (by rfl) (by rfl) (by rfl) (by rw [Hbs.out]; exact is.out) (by rw [Hbs.out]; exact zeroSector_size) (all_oneCell_toArray (bvs_oneCell _)) ?_))
  go_returns
  exact ⟨_, rfl, H.allocPt _⟩

set_option maxRecDepth 100000 in
set_option maxHeartbeats 1000000 in
theorem disk_sync (H : St c (DiskAt p D :: F) w) :
    Calls Try.prog 32 #[.pointer (some ⟨p, 0, none⟩)] w fun e w' => e = .returned (.int .i64 D.syncE) ∧ St c (DiskAt p D.sync :: F) w' := by
  obtain ⟨hw, n, s, wv, H1⟩ := H.openDisk
  have hp := H1.pt
  have hc0 : w.cell? ⟨p, 3, none⟩ = some (.bool D.down) := by rw [cell_of_row w p 3 _ _ _ hp]; rfl
  clear hp H1 wv n s
  cases hd : D.down
  case true =>
    rw [hd] at hc0
    have e1 : D.syncE = 8 := by simp [DiskM.syncE, hd]
    have e2 : D.sync = D := by simp [DiskM.sync, hd]
    rw [e1, e2]
    clear e1 e2 hd
    go_enter Try.func32, Try.ntmps32
    go_wp2
    go_returns
    exact ⟨rfl, H⟩
  case false =>
    rw [hd] at hc0
    cases hg : D.goes
    case true =>
      have e1 : D.syncE = 8 := by simp [DiskM.syncE, hd, hg]
      have e2 : D.sync = D.act.off D.keep := by simp [DiskM.sync, hd, hg]
      have hk : D.keeps = D.keep := by simp [DiskM.keeps, hg]
      have k0 := hw.keep0
      have k1 := hw.keep1
      rw [e1, e2]
      clear e1 e2 hd
      go_enter Try.func32, Try.ntmps32
      go_wp2_with (first
        | (go_at_call 57; refine (disk_act H).mono ?_; rintro e w' ⟨rfl, H1⟩)
        | (go_at_call 22; refine (disk_off H1 D.keep k0 k1).mono ?_; rintro e w' ⟨rfl, H2⟩))
      go_returns
      exact ⟨rfl, by assumption⟩
    case false =>
      have e1 : D.syncE = 0 := by simp [DiskM.syncE, hd, hg]
      have e2 : D.sync = { D.act with safe := D.act.now, waits := [] } := by simp [DiskM.sync, hd, hg]
      have hk : D.keeps = 0 := by simp [DiskM.keeps, hg]
      rw [e1, e2]
      clear e1 e2 hd
      go_enter Try.func32, Try.ntmps32
      go_upto_region 9 with (
        (go_at_call 57; refine (disk_act H).mono ?_; rintro e w' ⟨rfl, H1⟩))
      obtain ⟨hw1, n, s, wv, H2⟩ := H1.openDisk
      clear H1 H hc0
      have hp := H2.pt
      have hn := H2.tail.pt
      have hs := H2.tail.tail.pt
      have hc0 : w'.cell? ⟨p, 0, none⟩ = some (.slice (some ⟨n, 0, none⟩) D.act.now.length D.act.now.length) := cell_of_row w' p 0 _ _ _ hp
      have hc1 : w'.cell? ⟨p, 1, none⟩ = some (.slice (some ⟨s, 0, none⟩) D.act.now.length D.act.now.length) := cell_of_row w' p 1 _ _ _ hp
      have hKb : (secs D.act.safe).length = D.act.now.length * 256 := by rw [secs_length hw1.safe, hw1.same]
      have hKn : (secs D.act.now).length = D.act.now.length * 256 := secs_length hw1.now
      have Hn := Lib.hid hn
      have Hs := Lib.hid hs
      have HKb := Lib.hid hKb
      have HKn := Lib.hid hKn
      have hcp : splice (secs D.act.safe).toArray.toList 0 (secs D.act.now) = secs D.act.now := splice_whole _ _ (by rw [List.toList_toArray, hKb, hKn])
      have Hcp := Lib.hid hcp
      have hu9 := Lib.hid (show (Try.prog.info? 109).map (·.size) = some 256 from by kernel_rfl)
      clear hn hs hp hKb hKn hcp
      refine region_tail 8 (by kernel_rfl) (by kernel_rfl) ?_
      simp only [List.take_succ_cons, List.take_zero, List.drop_succ_cons, List.drop_zero]
      iterate 8 still_step
      refine wpStill_nil ?_
      refine go_copy_rows (P := Try.prog) (op := ⟨some 30, .call { callee := .builtin .copy, args := #[.tmp 25, .tmp 29], argTypes := #[104, 104] }, _, _, _, _⟩) (by rfl) _ _ _ _ (by rfl)
        109 s 0 D.act.now.length D.act.now.length ⟨n, 0, none⟩ D.act.now.length D.act.now.length (by rfl) (by rfl) (secs D.act.safe).toArray 109 256 D.act.now.length (secs D.act.now)
        Try.underlying104 hu9.out (by exact Hs.out) (by simp) HKn.out (fun j v hv => ?_) (by rw [HKn.out, List.size_toArray, HKb.out]; omega) (bvs_oneCell _) ?_
      · rw [add_mid, Nat.zero_add]
        show w'.cell? ⟨n, j, none⟩ = some v
        rw [cell_of_row w' n j _ _ _ Hn.out]
        simpa using hv
      refine wpList_nil ?_
      have H3 := (H2.drew.pull2.setRowPt (splice (secs D.act.safe).toArray.toList 0 (secs D.act.now)).toArray).push2
      rw [Hcp.out] at H3 ⊢
      refine ex_gen (R := Exit.then _ _) H3 ?_
      clear H3 Hs Hn Hcp HKn HKb hc0 hc1
      intro W HW
      have hc : W.cell? ⟨p, 2, none⟩ = some wv := cell_of_row W p 2 _ _ _ HW.pt
      have hf : W.frozen? ⟨p, 2, none⟩ = false := frozen_of_row W p 2 _ _ HW.pt
      have H4 : St c (DiskAt p { D.act with safe := D.act.now, waits := [] } :: F) (W.setCell ⟨p, 2, none⟩ (.slice none 0 0)) := by
        have h4 := ((HW.setPt 2 (.slice none 0 0)).pull3.tail.addNil 111 257).push3
        exact St.shutDisk (n := n) (s := s) (wv := .slice none 0 0) ⟨hw1.most, rfl, hw1.now, hw1.now, (by intro x hx; cases hx), hw1.fuse0, hw1.fuse1, hw1.keep0, hw1.keep1⟩ h4
      have H4 := Lib.hid H4
      clear HW H2
      go_wp2
      go_returns
      exact ⟨rfl, H4.out⟩
end
end Go.Proofs.Ytakeilefbcpabaa
