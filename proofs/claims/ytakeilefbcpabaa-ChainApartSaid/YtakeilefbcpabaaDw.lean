/- A sector is written: what Write does. -/
import Derived.Test.YtakeilefbcpabaaDc
namespace Go.Proofs.Ytakeilefbcpabaa
open Go.RowKit

def headWrite (i : Int) : Array Value := #[.int .i64 i] ++ Array.replicate 256 (.int .u8 0)
theorem headWrite_of (i : Int) : Try.zeroCells111.setIfInBounds 0 (.int .i64 i) = headWrite i := by kernel_rfl
theorem zeroCells_size : Try.zeroCells111.size = 257 := by kernel_rfl
theorem write_info : (Try.prog.info? 111).map (fun i => (i.zero, i.size, i.bytes)) = some (some (.agg zeroWrite), 257, 264) := by kernel_rfl
theorem u8_info : (Try.prog.info? 5).map (·.size) = some 1 := by kernel_rfl
theorem zeroWrite_cells : (Value.agg zeroWrite).cells.size = 257 := by kernel_rfl
theorem headWrite_size (i : Int) : (headWrite i).size = 257 := by kernel_rfl
theorem headWrite_all (i : Int) : (headWrite i).all (·.oneCell') = true := by kernel_rfl
theorem zeroWrite_size : zeroWrite.size = 257 := by kernel_rfl
theorem headWrite_list (i : Int) : (headWrite i).toList = .int .i64 i :: bvs zeroSec := by
  have e : bvs zeroSec = List.replicate 256 (.int .u8 0) := by
    rw [zeroSec, zeros, bvs, List.map_replicate]; rfl
  rw [e]; simp only [headWrite, Array.toList_append, Array.toList_replicate]; rfl
theorem headWrite_copy (i : Int) (b : List UInt8) (_hb : b.length ≤ 256) : splice (headWrite i).toList 1 (bvs b) = .int .i64 i :: bvs (pad b) := by
  rw [headWrite_list, splice, List.take_succ_cons, List.take_zero, Nat.add_comm 1, List.drop_succ_cons]
  rw [pad, bvs, bvs, bvs, List.map_append, List.length_map, List.singleton_append, List.cons_append]
  congr 1
  congr 1
  rw [← List.map_drop, zeroSec, zeros, zeros, List.drop_replicate]

section
variable {c : Con} {F : List HP} {w : World} {p : Nat} {D : DiskM}

set_option maxRecDepth 100000 in
set_option maxHeartbeats 1000000 in
theorem disk_write (H : St c (DiskAt p D :: F) w) (i : Int) (hi0 : -9223372036854775808 ≤ i) (hi1 : i ≤ 9223372036854775807) (v : Value) (b : List UInt8)
    (hb : ∀ W, St c F W → Reads W v b.length 1 (bvs b)) (hwl : D.waits.length ≤ 1073741824) :
    Calls Try.prog 30 #[.pointer (some ⟨p, 0, none⟩), .int .i64 i, v] w fun e w' => e = .returned (.int .i64 (D.writeE i b.length)) ∧ St c (DiskAt p (D.write i b) :: F) w' := by
  obtain ⟨A, cap, rfl, hcap, hmax⟩ := (hb w H.tail).form
  by_cases hr : D.ready i = 0
  case neg =>
    have e1 : D.writeE i b.length = D.ready i := by simp [DiskM.writeE, hr]
    have e2 : D.write i b = D := by simp [DiskM.write, hr]
    rw [e1, e2]
    have hd : (D.ready i != 0) = true := by simpa using hr
    clear e1 e2 hr
    go_enter Try.func30, Try.ntmps30
    go_wp2_with (go_at_call 58; refine (disk_ready H _ hi0 hi1).mono ?_; rintro e w' ⟨rfl, rfl⟩)
    go_returns
    exact ⟨rfl, H⟩
  case pos =>
    have hd : (D.ready i != 0) = false := by simpa using hr
    by_cases hl : 256 < b.length
    · have e1 : D.writeE i b.length = 3 := by simp [DiskM.writeE, hr, hl]
      have e2 : D.write i b = D := by simp [DiskM.write, hl]
      rw [e1, e2]
      clear e1 e2 hr
      go_enter Try.func30, Try.ntmps30
      go_wp2_with (go_at_call 58; refine (disk_ready H _ hi0 hi1).mono ?_; rintro e w' ⟨rfl, rfl⟩)
      go_returns
      exact ⟨rfl, H⟩
    · have hl' : b.length ≤ 256 := by omega
      obtain ⟨hdn, h0, hlt⟩ := DiskM.ready_zero hr
      obtain ⟨m, rfl⟩ := Int.eq_ofNat_of_zero_le h0
      have hm : m < D.now.length := by omega
      have e1 : D.writeE m b.length = if D.goes then 8 else 0 := by simp [DiskM.writeE, hr, hl]
      have e2 : D.write m b = if D.goes then (D.act.put m (pad b)).off D.keep else D.act.put m (pad b) := by simp [DiskM.write, hr, hl]
      rw [e1, e2]
      clear e1 e2 hl h0 hlt
      go_enter Try.func30, Try.ntmps30
      go_upto_region 7 with (first
        | (go_at_call 58; refine (disk_ready H _ hi0 hi1).mono ?_; rintro e w' ⟨rfl, rfl⟩)
        | (go_at_call 57; refine (disk_act H).mono ?_; rintro e w' ⟨rfl, H1⟩))
      have hbF := hb
      clear hb
      have Hr := Lib.hid hr
      have Hd := Lib.hid hd
      clear hr hd
      have iw := Lib.hid (show (Try.prog.info? 111).map (·.size) = some 257 from by kernel_rfl)
      have is := Lib.hid (show (Try.prog.info? 109).map (·.size) = some 256 from by kernel_rfl)
      have Hw1 := Lib.hid (headWrite_of m)
      go_upto_region 8 with (
        (refine go_store_new (P := Try.prog) (op := ⟨none, .store 111 (.tmp 10) (.tmp 26), _, _, _, _⟩) (by rfl) _ _ _ (by rfl) w' Try.zeroCells111 (Try.zeroCells111.setIfInBounds 0 (.int .i64 m)) (by rfl) (by rfl) (by rfl) (by rw [Hw1.out, headWrite_size]; exact iw.out) (by rw [Hw1.out]; exact zeroCells_size.trans (headWrite_size m).symm) (by rw [Hw1.out]; exact headWrite_all m) ?_))
      rw [Hw1.out]
      refine wp_gen (H1.allocPt (.cells (headWrite m) 111)) ?_
      generalize w'.heap.size = v
      intro W HW
      clear H1 H
      have Hcp := Lib.hid (headWrite_copy m b hl')
      have hrd := hbF W HW.tail.tail
      go_upto_region 9 with (
        (refine wpList_plain (o := ⟨some 30, .call { callee := .builtin .copy, args := #[.tmp 28, .tmp 29], argTypes := #[46, 46] }, _, _, _, _⟩) (by rfl) (fun K hK =>
          op_copy (P := Try.prog) HW _ _ _ _ (by rfl) 5 256 256 b.length (.slice A b.length cap) (bvs b) (by rfl) (by rfl) hrd Try.underlying46 u8_info hl' (by rw [headWrite_size]; omega) (bvs_oneCell b) (fun W2 H2 => hK _ _ ?_))))
      rw [Hcp.out] at H2
      clear HW hrd Hcp Hw1
      obtain ⟨hw1, n, s, wv, H3⟩ := H2.swap.openDisk
      have H3 : St c (DiskParts p n s wv D.act ++ (Pt v (.cells (.int .i64 (m : Int) :: bvs (pad b)).toArray 111 (0, 0)) :: F)) W2 := H3
      have hn' : D.act.now = D.now := by unfold DiskM.act; split <;> rfl
      have hwt' : D.act.waits = D.waits := by unfold DiskM.act; split <;> rfl
      clear H2
      have hp := H3.pt
      have hnb := H3.tail.pt
      have hvb := H3.tail.tail.tail.tail.pt
      have hc0 : W2.cell? ⟨p, 0, none⟩ = some (.slice (some ⟨n, 0, none⟩) D.now.length D.now.length) := by rw [cell_of_row W2 p 0 _ _ _ hp, ← hn']; rfl
      have hext : (Value.int .i64 (m : Int) :: bvs (pad b)).toArray.extract 1 (1 + 256) = (bvs (pad b)).toArray := by
        apply Array.ext'
        rw [Array.toList_extract, List.extract_eq_take_drop, List.toList_toArray, List.drop_one, List.tail_cons]
        exact List.take_of_length_le (by rw [bvs, List.length_map, pad_length b hl']; omega)
      have Hext := Lib.hid hext
      have Hv := Lib.hid hvb
      have Hn := Lib.hid hnb
      have hnl := secs_length hw1.now
      have hps : (bvs (pad b)).toArray.size = 256 := by rw [List.size_toArray, bvs, List.length_map, pad_length b hl']
      have Hps := Lib.hid hps
      have hns : (secs D.act.now).toArray.size = D.now.length * 256 := by rw [List.size_toArray, hnl, hn']
      have Hns := Lib.hid hns
      have hset : (splice (secs D.act.now).toArray.toList (m * 256) (bvs (pad b)).toArray.toList).toArray = (secs (D.act.now.set m (pad b))).toArray := by
        rw [secs_set hw1.now m (by rw [hn']; exact hm) (pad_length b hl')]
      have Hset := Lib.hid hset
      have hvz : (Value.int .i64 (m : Int) :: bvs (pad b)).toArray.size = 257 := by rw [List.size_toArray, List.length_cons, bvs, List.length_map, pad_length b hl']
      have Hvz := Lib.hid hvz
      have Hn' := Lib.hid hn'
      have Hwt' := Lib.hid hwt'
      clear hp hnb hvb hext hnl hps hns hset hvz hn' hwt'
      refine region_tail 8 (by kernel_rfl) (by kernel_rfl) ?_
      simp only [List.take_succ_cons, List.take_zero, List.drop_succ_cons, List.drop_zero]
      iterate 6 still_step
      refine still_load_row (P := Try.prog) (op := ⟨some 37, .load 109 (.tmp 36), _, _, _, _⟩) (by rfl) _ _ (by rfl) v 1 256 (by rfl) _ (bvs (pad b)).toArray 111 (0, 0) _ (by exact Hv.out) (by rw [Hvz.out]; omega) Hext.out Try.underlying109 (by rfl) is.out ?_
      still_step
      refine wpStill_nil ?_
      refine go_store_row (P := Try.prog) (op := ⟨none, .store 109 (.tmp 38) (.tmp 37), _, _, _, _⟩) (by rfl) _ _ _ (by rfl) n (m * 256) (bvs (pad b)).toArray (secs D.act.now).toArray (by rfl) (by rfl) 109 (by exact Hn.out) (by rw [Hns.out, Hps.out]; omega) (by rw [Hps.out]; exact is.out) (all_oneCell_toArray (bvs_oneCell _)) ?_
      refine wpList_nil ?_
      have H4 := (H3.drew.swap.setRowPt (splice (secs D.act.now).toArray.toList (m * 256) (bvs (pad b)).toArray.toList).toArray).swap
      rw [Hset.out] at H4 ⊢
      refine ex_gen (R := Exit.then _ _) H4 ?_
      clear H4 H3 hc0
      intro W3 H5
      go_upto_region 10 with (fail)
      have hp5 := H5.pt
      have hv5 := H5.tail.tail.tail.tail.pt
      obtain ⟨S, hS⟩ : ∃ S : World → Prop, S = fun W => W.heap[p]? = some (.cells (diskCells n s wv D.act) 107 (0, 0)) ∧ W.heap[v]? = some (.cells (.int .i64 (m : Int) :: bvs (pad b)).toArray 111 (0, 0)) := ⟨_, rfl⟩
      have hS1 : ∀ W, S W → W.cell? ⟨p, 2, none⟩ = some wv := by
        intro W h; rw [hS] at h; rw [cell_of_row W p 2 _ _ _ h.1]; rfl
      have hS2 : ∀ W, S W → W.heap[v]? = some (.cells (.int .i64 (m : Int) :: bvs (pad b)).toArray 111 (0, 0)) := by
        intro W h; rw [hS] at h; exact h.2
      have hS0 : S W3.drew := by rw [hS]; exact ⟨hp5, hv5⟩
      have hSa : ∀ W o, S W → S (W.alloc o) := by
        intro W o h; rw [hS] at h ⊢
        exact ⟨(Below.heap_alloc W o p (Array.getElem?_eq_some_iff.1 h.1).1).trans h.1, (Below.heap_alloc W o v (Array.getElem?_eq_some_iff.1 h.2).1).trans h.2⟩
      have HS2 := Lib.hid hS2
      have HSa := Lib.hid hSa
      have HSd := Lib.hid hS
      have hex : (Value.int .i64 (m : Int) :: bvs (pad b)).toArray.extract 0 (0 + 257) = (Value.int .i64 (m : Int) :: bvs (pad b)).toArray := by
        rw [Nat.zero_add, ← Hvz.out]; exact Array.extract_size
      have Hex := Lib.hid hex
      clear hp5 hv5 hS hS2 hSa hex
      refine region_take 6 8 S (by kernel_rfl) (by kernel_rfl) hS0 ?_
      simp only [List.take_succ_cons, List.take_zero, List.drop_succ_cons, List.drop_zero]
      refine heads_step (by rfl) (by intro W hW; have hcW := hS1 W hW; go_simp; try rfl) ?_
      refine heads_step (by rfl) (by intro W hW; have hcW := hS1 W hW; go_simp; try rfl) ?_
      refine heads_step (by rfl) (by intro W hW; have hcW := hS1 W hW; go_simp; try rfl) ?_
      refine heads_step (by rfl) (by intro W hW; have hcW := hS1 W hW; go_simp; try rfl) ?_
      refine heads_step (by rfl) (by intro W hW; have hcW := hS1 W hW; go_simp; try rfl) ?_
      refine heads_step (by rfl) (fun W hW => run_load_row (P := Try.prog) (op := ⟨some 44, .load 111 (.tmp 10), _, _, _, _⟩) _ _ (by rfl) v 0 257 (by rfl) _ _ _ (0, 0) _ (HS2.out W hW) (by rw [Hvz.out]; omega) Hex.out Try.underlying111 (by rfl) iw.out) ?_
      simp only [Act.put, List.setIfInBounds_toArray, List.set_cons_succ, List.set_cons_zero]
      refine heads_nil ?_
      refine listE_step (by rfl) fun K hK => op_slice_one (P := Try.prog) (op := ⟨some 45, .buildSlice 105 1 #[(0, .tmp 44)], _, _, _, _⟩) _ _ _ (by rfl) _ 257 (.agg zeroWrite) (by rfl) Try.underlying105 zeroWrite_info Hvz.out (by omega) (by omega) (hK _ _ (HSa.out _ _ hS0) ?_)
      simp only [Act.put, List.setIfInBounds_toArray, List.set_cons_succ, List.set_cons_zero]
      have hone : ∀ u ∈ (Value.int .i64 (m : Int) :: bvs (pad b)), u.oneCell' = true := by
        intro u hu
        rcases List.mem_cons.1 hu with rfl | hu
        · rfl
        · exact bvs_oneCell _ u hu
      have hnews : ∀ j u, (Value.int .i64 (m : Int) :: bvs (pad b))[j]? = some u → (W3.drew.alloc (.cells (.int .i64 (m : Int) :: bvs (pad b)).toArray 111)).cell? ((⟨W3.drew.heap.size, 0, none⟩ : Addr).add j) = some u := by
        intro j u hu
        rw [add_mid, Nat.zero_add, cell_of_row _ _ _ _ _ _ (heap_alloc_new _ _)]
        simpa using hu
      refine listE_step (by rfl) fun K hK => op_append (P := Try.prog) (op := ⟨some 46, .call { callee := .builtin .append, args := #[.tmp 43, .tmp 45], argTypes := #[105, 105] }, _, _, _, _⟩) (H5.drew.alloc _).pull3 _ _ _ (by rfl) Try.underlying105 write_info zeroWrite_cells (by omega)
        ⟨W3.drew.heap.size, 0, none⟩ 1 1 (Value.int .i64 (m : Int) :: bvs (pad b)) (by rfl) (by rfl) (by rw [← List.size_toArray, Hvz.out]) hnews hone (by rw [Hwt'.out]; omega) (by rw [Hwt'.out]; omega) (fun v' W4 H6 _ => hK _ _ (by rw [HSd.out]; exact ⟨H6.tail.pt, H6.tail.tail.tail.tail.pt⟩) ?_)
      simp only [Act.put, List.setIfInBounds_toArray, List.set_cons_succ, List.set_cons_zero]
      obtain ⟨A2, cap2, hv2⟩ := owned_form H6
      subst hv2
      have hc2 : W4.cell? ⟨p, 2, none⟩ = some wv := by rw [cell_of_row W4 p 2 _ _ _ H6.tail.pt]; rfl
      have hf2 : W4.frozen? ⟨p, 2, none⟩ = false := frozen_of_row W4 p 2 _ _ H6.tail.pt
      have H7 := (H6.swap.setPt 2 (.slice A2 (D.act.waits.length + 1) cap2)).swap
      change wpList _ _ _ _ _ W4
      clear hS0 hone hnews hS1
      go_wp2
      refine NoPanic.normal ?_
      have H8 : St c (DiskAt p (D.act.put m (pad b)) :: F) (W4.setCell ⟨p, 2, none⟩ (.slice A2 (D.act.waits.length + 1) cap2)) := by
        refine St.shutDisk (n := n) (s := s) (wv := .slice A2 (D.act.waits.length + 1) cap2) (hw1.put m _ (by rw [Hn'.out]; exact hm) (pad_length b hl')) ?_
        have h := H7.pull4.tail.push3
        have e1 : ((diskCells n s wv D.act).setIfInBounds 2 (.slice A2 (D.act.waits.length + 1) cap2)) = diskCells n s (.slice A2 (D.act.waits.length + 1) cap2) (D.act.put m (pad b)) := by
          simp only [diskCells, DiskM.put, List.length_set]; rfl
        have e2 : D.act.waits.length + 1 = (D.act.put m (pad b)).waits.length := by simp [DiskM.put]
        have e3 : wcells D.act.waits ++ (Value.int .i64 (m : Int) :: bvs (pad b)) = wcells (D.act.put m (pad b)).waits := by
          rw [DiskM.put, wcells_append]; simp [wcells]
        rw [e1, e3] at h
        show St c (_ :: _ :: _ :: OwnP _ _ _ (D.act.put m (pad b)).waits.length _ :: F) _
        rw [← e2]
        exact h
      refine ex_gen (R := Exit.then _ _) H8 ?_
      clear H8 H7 H6 H5 hc2 hf2
      intro W5 H9
      cases hg : D.goes
      · have hk : D.keeps = 0 := by simp [DiskM.keeps, hg]
        go_wp2
        all_goals go_returns
        all_goals exact ⟨rfl, H9⟩
      · have hk : D.keeps = D.keep := by simp [DiskM.keeps, hg]
        have k0 := hw1.keep0
        have k1 := hw1.keep1
        have ek : D.act.keep = D.keep := by unfold DiskM.act; split <;> rfl
        rw [ek] at k0 k1
        clear ek
        go_wp2_with (go_at_call 22; refine (disk_off H9 D.keep k0 k1).mono ?_; rintro e w' ⟨rfl, H10⟩)
        all_goals go_returns
        all_goals exact ⟨rfl, by assumption⟩
end
end Go.Proofs.Ytakeilefbcpabaa
