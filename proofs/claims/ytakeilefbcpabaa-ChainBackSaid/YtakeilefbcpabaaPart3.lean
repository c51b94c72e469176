/- Part 3 of what the statement rests on: each piece below begins with its own remark. -/
import Derived.Test.YtakeilefbcpabaaPart2
/- The disk's acts, its switch and its fuse: what each call does. -/
namespace Go.Proofs.Ytakeilefbcpabaa
open Go.RowKit

section
variable {c : Con} {F : List HP} {w : World} {p : Nat} {D : DiskM}

/-- Behind stores into the struct alone. -/
theorem St.diskCells {n s : Nat} {wv : Value} {D' : DiskM} {w' : World} (H : St c (Pt p (.cells (diskCells n s wv D') 107 (0, 0)) :: Pt n (.cells (secs D.now).toArray 109 (0, 0)) ::
      Pt s (.cells (secs D.safe).toArray 109 (0, 0)) :: OwnP 111 257 wv D.waits.length (wcells D.waits) :: F) w')
    (h : D'.WF) (h1 : D'.now = D.now) (h2 : D'.safe = D.safe) (h3 : D'.waits = D.waits) : St c (DiskAt p D' :: F) w' := by
  refine St.shutDisk (n := n) (s := s) (wv := wv) h ?_
  show St c (_ :: _ :: _ :: _ :: F) w'
  rw [h1, h2, h3]
  exact H

/-- On. -/
theorem disk_on (H : St c (DiskAt p D :: F) w) :
    Calls Try.prog 24 #[.pointer (some ⟨p, 0, none⟩)] w fun e w' => e = .returned (.tuple #[]) ∧ St c (DiskAt p D.on :: F) w' := by
  obtain ⟨hw, n, s, wv, H⟩ := H.openDisk
  have h0 := H.pt
  have hc : ∀ j, w.cell? ⟨p, j, none⟩ = (Go.Proofs.Ytakeilefbcpabaa.diskCells n s wv D)[j]? := fun j => cell_of_row w p j _ _ _ h0
  have hf : ∀ j, w.frozen? ⟨p, j, none⟩ = false := fun j => frozen_of_row w p j _ _ h0
  unfold Go.Proofs.Ytakeilefbcpabaa.diskCells at hc
  clear h0
  have HF : ∀ b w', St c (DiskParts p n s wv D ++ F) w → w' = w.setCell ⟨p, 3, none⟩ (.bool b) → b = false → St c (DiskAt p D.on :: F) w' := by
    rintro b w' H rfl rfl
    exact St.diskCells (D := D) (D' := D.on) (H.setPt 3 (.bool false)) hw.on rfl rfl rfl
  go_enter Try.func24, Try.ntmps24
  go_wp2
  go_end0
  exact ⟨rfl, HF _ _ H rfl rfl⟩
/-- Arm. -/
theorem disk_arm (H : St c (DiskAt p D :: F) w) (i k : Int) (h1 : -9223372036854775808 ≤ i) (h2 : i ≤ 9223372036854775807) (h3 : 0 ≤ k) (h4 : k < 18446744073709551616) :
    Calls Try.prog 23 #[.pointer (some ⟨p, 0, none⟩), .int .i64 i, .int .u64 k] w fun e w' => e = .returned (.tuple #[]) ∧ St c (DiskAt p (D.arm i k) :: F) w' := by
  obtain ⟨hw, n, s, wv, H⟩ := H.openDisk
  have h0 := H.pt
  have hc : ∀ j, w.cell? ⟨p, j, none⟩ = (Go.Proofs.Ytakeilefbcpabaa.diskCells n s wv D)[j]? := fun j => cell_of_row w p j _ _ _ h0
  have hf : ∀ j, w.frozen? ⟨p, j, none⟩ = false := fun j => frozen_of_row w p j _ _ h0
  unfold Go.Proofs.Ytakeilefbcpabaa.diskCells at hc
  clear h0
  have HF : ∀ m w', St c (DiskParts p n s wv D ++ F) w → w' = (w.setCell ⟨p, 5, none⟩ (.int .i64 m)).setCell ⟨p, 6, none⟩ (.int .u64 k) → m = max i 0 → St c (DiskAt p (D.arm i k) :: F) w' := by
    rintro m w' H rfl rfl
    exact St.diskCells (D := D) (D' := D.arm i k) ((H.setPt 5 (.int .i64 (max i 0))).setPt 6 (.int .u64 k)) (hw.arm h2 h3 h4) rfl rfl rfl
  go_enter Try.func23, Try.ntmps23
  go_wp2
  · go_end0
    exact ⟨rfl, HF _ _ H rfl (by omega)⟩
  · go_end0
    exact ⟨rfl, HF _ _ H rfl (by omega)⟩
/-- Act. -/
theorem disk_act (H : St c (DiskAt p D :: F) w) :
    Calls Try.prog 57 #[.pointer (some ⟨p, 0, none⟩)] w fun e w' => e = .returned (.tuple #[.bool D.goes, .int .u64 D.keeps]) ∧ St c (DiskAt p D.act :: F) w' := by
  obtain ⟨hw, n, s, wv, H⟩ := H.openDisk
  have h0 := H.pt
  have hc : ∀ j, w.cell? ⟨p, j, none⟩ = (Go.Proofs.Ytakeilefbcpabaa.diskCells n s wv D)[j]? := fun j => cell_of_row w p j _ _ _ h0
  have hf : ∀ j, w.frozen? ⟨p, j, none⟩ = false := fun j => frozen_of_row w p j _ _ h0
  unfold Go.Proofs.Ytakeilefbcpabaa.diskCells at hc
  clear h0
  have f0 := hw.fuse0
  have f1 := hw.fuse1
  obtain ⟨now, safe, waits, down, acts, fuse, keep⟩ := D
  dsimp only at hc f0 f1
  cases down
  · by_cases e0 : fuse = 0
    · subst e0
      have HF : ∀ w' : World, St c (DiskParts p n s wv ⟨now, safe, waits, false, acts, 0, keep⟩ ++ F) w → w' = w.setCell ⟨p, 4, none⟩ (.int .i64 (wrap64 (acts + 1))) → St c (DiskAt p (DiskM.act ⟨now, safe, waits, false, acts, 0, keep⟩) :: F) w' := by
        rintro w' H rfl
        exact St.diskCells (D := ⟨now, safe, waits, false, acts, 0, keep⟩) (H.setPt 4 (.int .i64 (wrap64 (acts + 1)))) hw.act rfl rfl rfl
      go_enter Try.func57, Try.ntmps57
      go_wp2
      go_ret2
      exact ⟨rfl, HF _ H rfl⟩
    · have hd : (fuse == 0) = false := by simpa using e0
      have e0' : 1 ≤ fuse := by omega
      by_cases e1 : fuse = 1
      · subst e1
        clear e0
        have HF : ∀ (w' : World) (nq : Nat), St c (DiskParts p n s wv ⟨now, safe, waits, false, acts, 1, keep⟩ ++ F) w → w' = ((w.setCell ⟨p, 4, none⟩ (.int .i64 (wrap64 (acts + 1)))).setCell ⟨p, 5, none⟩ (.int .i64 0)).drewN nq → St c (DiskAt p (DiskM.act ⟨now, safe, waits, false, acts, 1, keep⟩) :: F) w' := by
          rintro w' nq H rfl
          exact St.diskCells (D := ⟨now, safe, waits, false, acts, 1, keep⟩) (((H.setPt 4 (.int .i64 (wrap64 (acts + 1)))).setPt 5 (.int .i64 0)).drewN nq) hw.act rfl rfl rfl
        go_enter Try.func57, Try.ntmps57
        go_wp2
        go_quiet (fail)
        go_wp2
        go_ret2
        exact ⟨rfl, HF _ _ H rfl⟩
      · have hg : DiskM.goes ⟨now, safe, waits, false, acts, fuse, keep⟩ = false := by simp [DiskM.goes, e1]
        have hk : DiskM.keeps ⟨now, safe, waits, false, acts, fuse, keep⟩ = 0 := by simp [DiskM.keeps, hg]
        rw [hg, hk]; clear hg hk
        have e1' : 1 < fuse := by omega
        clear e1
        have ha : DiskM.act ⟨now, safe, waits, false, acts, fuse, keep⟩ = ⟨now, safe, waits, false, wrap64 (acts + 1), fuse - 1, keep⟩ := by simp [DiskM.act, e0]
        have hwa := hw.act
        rw [ha] at hwa ⊢; clear ha e0
        have HF : ∀ w' : World, St c (DiskParts p n s wv ⟨now, safe, waits, false, acts, fuse, keep⟩ ++ F) w → w' = (w.setCell ⟨p, 4, none⟩ (.int .i64 (wrap64 (acts + 1)))).setCell ⟨p, 5, none⟩ (.int .i64 (fuse - 1)) → St c (DiskAt p ⟨now, safe, waits, false, wrap64 (acts + 1), fuse - 1, keep⟩ :: F) w' := by
          rintro w' H rfl
          exact St.diskCells (D := ⟨now, safe, waits, false, acts, fuse, keep⟩) ((H.setPt 4 (.int .i64 (wrap64 (acts + 1)))).setPt 5 (.int .i64 (fuse - 1))) hwa rfl rfl rfl
        go_enter Try.func57, Try.ntmps57
        go_wp2
        go_ret2
        exact ⟨rfl, HF _ H rfl⟩
  · have HF : ∀ w' : World, St c (DiskParts p n s wv ⟨now, safe, waits, true, acts, fuse, keep⟩ ++ F) w → w' = w → St c (DiskAt p (DiskM.act ⟨now, safe, waits, true, acts, fuse, keep⟩) :: F) w' := by
      rintro w' H rfl
      exact St.shutDisk hw H
    go_enter Try.func57, Try.ntmps57
    go_wp2
    go_ret2
    exact ⟨rfl, HF _ H rfl⟩
theorem disk_act_nil (w : World) :
    Calls Try.prog 57 #[.pointer none] w fun e w' => e = .returned (.tuple #[.bool false, .int .u64 0]) ∧ w = w' := by
  go_enter Try.func57, Try.ntmps57
  go_wp2
  go_ret2
  exact ⟨rfl, rfl⟩
end
end Go.Proofs.Ytakeilefbcpabaa

/- The power goes: what Off does. -/
namespace Go.Proofs.Ytakeilefbcpabaa
open Go.RowKit

def zeroWrite : Array Value := #[.int .i64 0] ++ Array.replicate 256 (.int .u8 0)
theorem zeroWrite_info : (Try.prog.info? 111).map (fun i => (i.zero, i.size)) = some (some (.agg zeroWrite), 257) := by kernel_rfl
theorem sector_info : (Try.prog.info? 109).map (·.size) = some 256 := by kernel_rfl

section
variable {c : Con} {F : List HP} {w : World} {p : Nat} {D : DiskM}

set_option maxRecDepth 100000 in
set_option maxHeartbeats 1000000 in
theorem disk_off (H : St c (DiskAt p D :: F) w) (k : Int) (hk0 : 0 ≤ k) (hk1 : k < 18446744073709551616) :
    Calls Try.prog 22 #[.pointer (some ⟨p, 0, none⟩), .int .u64 k] w fun e w' => e = .returned (.tuple #[]) ∧ St c (DiskAt p (D.off k) :: F) w' := by
  obtain ⟨hw, n, s, wv, H⟩ := H.openDisk
  have h0 := H.pt
  have hc : ∀ j, w.cell? ⟨p, j, none⟩ = (Go.Proofs.Ytakeilefbcpabaa.diskCells n s wv D)[j]? := fun j => cell_of_row w p j _ _ _ h0
  have hf : ∀ j, w.frozen? ⟨p, j, none⟩ = false := fun j => frozen_of_row w p j _ _ h0
  unfold Go.Proofs.Ytakeilefbcpabaa.diskCells at hc
  clear h0
  obtain ⟨now, safe, waits, down, acts, fuse, keep⟩ := D
  dsimp only at hc
  cases down
  · obtain ⟨A, n', cap, hv, hA⟩ : ∃ A n' cap, wv = .slice A n' cap ∧ n' = waits.length := by
      obtain ⟨h, ⟨hx, ho⟩, _⟩ := H.pull3.get
      rcases ho with ⟨rfl, e⟩ | ⟨g, cap, cur, rfl, _⟩
      · exact ⟨_, _, _, rfl, e.symm⟩
      · exact ⟨_, _, _, rfl, rfl⟩
    subst hv hA
    go_enter Try.func22, Try.ntmps22
    go_wp2
    go_loopw [19] (fun i wr => ∃ j : Nat, j ≤ waits.length ∧ i = .int .i64 j ∧
        St c (DiskParts p n s (.slice A waits.length cap) ⟨now, keptFrom k 0 (waits.take j) safe, waits, false, acts, fuse, keep⟩ ++ F) wr)
      (fun i _ => waits.length - (intOf i).toNat)
    case atStart => exact ⟨0, Nat.zero_le _, rfl, H⟩
    case round =>
      obtain ⟨j, hj, rfl, H1⟩ := hrel
      clear hc hf
      by_cases hlt : j < waits.length
      · obtain ⟨g, cur, hA, hg, hcs, htake, _, hcap, hmax⟩ := owned_some H1.pull3 (by dsimp only; omega)
        have hmax : waits.length ≤ 9223372036854775807 := Nat.le_trans hcap hmax
        obtain rfl : A = some ⟨g, 0, none⟩ := hA
        have hx := hw.waits waits[j] (List.getElem_mem hlt)
        have hall : ∀ x ∈ waits, x.2.length = 256 := fun x hx => (hw.waits x hx).2
        have hcl : j * 257 + 257 ≤ cur.size := by
          have e := congrArg List.length htake
          rw [List.length_take, wcells_length hall, Array.length_toList] at e
          omega
        have hrow : cur.extract (j * 257) (j * 257 + 257) = (wcell waits[j]).toArray := by
          rw [← wcells_at hall j hlt, ← htake]
          apply Array.ext'
          rw [Array.toList_extract, List.extract_eq_take_drop, List.drop_take, List.take_take]
          congr 1
          simp only
          omega
        have hcz : (wcell waits[j]).toArray.size = 257 := by rw [List.size_toArray, wcell_length hx.2]
        have hzz : zeroWrite.size = 257 := by kernel_rfl
        have hone : (wcell waits[j]).toArray.all (·.oneCell') = true := all_oneCell_toArray (by
            intro v hv
            rcases List.mem_cons.1 hv with rfl | hv
            · rfl
            · exact bvs_oneCell _ v hv)
        have hmh : wr.heap.size < 9223372036854775807 ∨ True := .inr trivial
        generalize hcell : (wcell waits[j]).toArray = cell at *
        have Hcell := Lib.hid hcell
        have Htake := Lib.hid htake
        have Hcap := Lib.hid hcap
        have Hcs := Lib.hid hcs
        clear hcell htake hall hcap hcs
        have iw : (Try.prog.info? 111).map (·.size) = some 257 := by kernel_rfl
        have Hg := Lib.hid hg
        have Hrow := Lib.hid hrow
        have Hcz := Lib.hid hcz
        have Hzz := Lib.hid hzz
        have Hiw := Lib.hid iw
        have Hone := Lib.hid hone
        have hbit := bit_test k j hk0 hk1
        have hx2 := hx.2
        have hx1 : waits[j].1 < now.length := hx.1
        have Hx2 := Lib.hid hx2
        have hsnoc : keptFrom k 0 (waits.take (j + 1)) safe = if bitAt k j then (keptFrom k 0 (waits.take j) safe).set waits[j].1 waits[j].2 else keptFrom k 0 (waits.take j) safe := by
          rw [List.take_succ_eq_append_getElem hlt, keptFrom_snoc, List.length_take, Nat.zero_add, Nat.min_eq_left hj]
        have Hsnoc := Lib.hid hsnoc
        clear hg hrow hcz hzz iw hone hx hx2 hsnoc
        cases hb : bitAt k j
        · rw [hb] at hbit Hsnoc
          rw [if_neg (by simp)] at Hsnoc
          clear hb
          go_wp2_with (first
            | (refine go_load_row (P := Try.prog) (op := ⟨some 23, .load 111 (.tmp 22), _, _, _, _⟩) (by rfl) _ _ (by rfl) g (j * 257) 257 (by rfl) cur cell 111 (0, 0) _ (by exact Hg.out) hcl Hrow.out Try.underlying111 (by rfl) Hiw.out ?_)
            | (refine go_alloc_big (P := Try.prog) (op := ⟨some 5, .alloc 111, _, _, _, _⟩) (by rfl) _ (by rfl) zeroWrite_info ?_)
            | (refine go_store_new (P := Try.prog) (op := ⟨none, .store 111 (.tmp 5) (.tmp 23), _, _, _, _⟩) (by rfl) _ _ _ (by rfl) wr zeroWrite cell (by rfl) (by rfl) (by rfl) (by rw [Hcz.out]; exact Hiw.out) (Hzz.out.trans Hcz.out.symm) Hone.out ?_))
          go_roundw
          case rel => exact ⟨j + 1, by omega, by go_num, by rw [Hsnoc.out]; exact H1.alloc _⟩
          case measure => simp [intOf]; omega
        · rw [hb] at hbit Hsnoc
          rw [if_pos rfl] at Hsnoc
          clear hb
          go_wp2_with (first
            | (refine go_load_row (P := Try.prog) (op := ⟨some 23, .load 111 (.tmp 22), _, _, _, _⟩) (by rfl) _ _ (by rfl) g (j * 257) 257 (by rfl) cur cell 111 (0, 0) _ (by exact Hg.out) hcl Hrow.out Try.underlying111 (by rfl) Hiw.out ?_)
            | (refine go_alloc_big (P := Try.prog) (op := ⟨some 5, .alloc 111, _, _, _, _⟩) (by rfl) _ (by rfl) zeroWrite_info ?_)
            | (refine go_store_new (P := Try.prog) (op := ⟨none, .store 111 (.tmp 5) (.tmp 23), _, _, _, _⟩) (by rfl) _ _ _ (by rfl) wr zeroWrite cell (by rfl) (by rfl) (by rfl) (by rw [Hcz.out]; exact Hiw.out) (Hzz.out.trans Hcz.out.symm) Hone.out ?_))
          refine wp_gen (H1.allocPt (.cells cell 111)) ?_
          intro W HW
          generalize wr.heap.size = v at HW ⊢
          have hv := HW.pt
          have hp := HW.tail.pt
          have hs := HW.tail.tail.tail.pt
          have hc0 : W.cell? ⟨v, 0, none⟩ = some (.int .i64 (waits[j].1 : Int)) := by rw [cell_of_row W v 0 _ _ _ hv, ← Hcell.out]; rfl
          have hc1 : W.cell? ⟨p, 1, none⟩ = some (.slice (some ⟨s, 0, none⟩) now.length now.length) := cell_of_row W p 1 _ _ _ hp
          have hext : cell.extract 1 (1 + 256) = (bvs waits[j].2).toArray := by
            rw [← Hcell.out]
            apply Array.ext'
            rw [Array.toList_extract, List.extract_eq_take_drop, List.toList_toArray, wcell, List.drop_one, List.tail_cons]
            exact List.take_of_length_le (by rw [bvs, List.length_map, Hx2.out]; omega)
          have Hext := Lib.hid hext
          have Hv := Lib.hid hv
          have Hs := Lib.hid hs
          clear hv hp hs hext
          have hu9 := Lib.hid (show (Try.prog.info? 109).map (·.size) = some 256 from by kernel_rfl)
          have hKl : (keptFrom k 0 (waits.take j) safe).length = now.length := (keptFrom_length _ _ _ _).trans hw.same
          have hKa : ∀ x ∈ keptFrom k 0 (waits.take j) safe, x.length = 256 := keptFrom_all k _ _ _ (fun x hx => (hw.waits x (List.mem_of_mem_take hx)).2) hw.safe
          have hbl := Lib.hid (show (secs (keptFrom k 0 (waits.take j) safe)).toArray.size = now.length * 256 from by rw [List.size_toArray, secs_length hKa, hKl])
          have hbl2 := Lib.hid (show (bvs waits[j].2).toArray.size = 256 from by rw [List.size_toArray, bvs, List.length_map, Hx2.out])
          refine region_tail 9 (by kernel_rfl) (by kernel_rfl) ?_
          simp only [List.take_succ_cons, List.take_zero, List.drop_succ_cons, List.drop_zero]
          iterate 7 still_step
          refine still_load_row (P := Try.prog) (op := ⟨some 37, .load 109 (.tmp 36), _, _, _, _⟩) (by rfl) _ _ (by rfl) v 1 256 (by rfl) cell (bvs waits[j].2).toArray 111 (0, 0) _ (by exact Hv.out) (by rw [Hcz.out]; omega) Hext.out Try.underlying109 (by rfl) hu9.out ?_
          still_step
          refine wpStill_nil ?_
          refine go_store_row (P := Try.prog) (op := ⟨none, .store 109 (.tmp 38) (.tmp 37), _, _, _, _⟩) (by rfl) _ _ _ (by rfl) s (waits[j].1 * 256) (bvs waits[j].2).toArray (secs (keptFrom k 0 (waits.take j) safe)).toArray (by rfl) (by rfl) 109 (by exact Hs.out) (by rw [hbl.out, hbl2.out]; omega) (by rw [hbl2.out]; exact hu9.out) (all_oneCell_toArray (bvs_oneCell _)) ?_
          refine wpList_nil ?_
          have H2 := (HW.drew.tail.pull2.setRowPt (splice (secs (keptFrom k 0 (waits.take j) safe)).toArray.toList (waits[j].1 * 256) (bvs waits[j].2).toArray.toList).toArray).push2
          have hset : (splice (secs (keptFrom k 0 (waits.take j) safe)).toArray.toList (waits[j].1 * 256) (bvs waits[j].2).toArray.toList).toArray = (secs (keptFrom k 0 (waits.take (j + 1)) safe)).toArray := by
            rw [Hsnoc.out, secs_set hKa _ (by rw [hKl]; exact hx1) Hx2.out]
          have Hset := Lib.hid hset
          clear hset hc0 hc1 hKa
          go_wp2
          go_roundw
          case rel => exact ⟨j + 1, by omega, by go_num, by rw [Hset.out] at H2 ⊢; exact H2⟩
          case measure => simp [intOf]; omega
      · obtain rfl : j = waits.length := by omega
        rw [List.take_length] at H1
        go_wp2
        have hp := H1.pt
        have hn := H1.tail.pt
        have hs := H1.tail.tail.pt
        have hc0 : wr.cell? ⟨p, 0, none⟩ = some (.slice (some ⟨n, 0, none⟩) now.length now.length) := cell_of_row wr p 0 _ _ _ hp
        have hc1 : wr.cell? ⟨p, 1, none⟩ = some (.slice (some ⟨s, 0, none⟩) now.length now.length) := cell_of_row wr p 1 _ _ _ hp
        have hKl : (keptFrom k 0 waits safe).length = now.length := (keptFrom_length _ _ _ _).trans hw.same
        have hKa : ∀ x ∈ keptFrom k 0 waits safe, x.length = 256 := keptFrom_all k _ _ _ (fun x hx => (hw.waits x hx).2) hw.safe
        have hKb : (secs (keptFrom k 0 waits safe)).length = now.length * 256 := by rw [secs_length hKa, hKl]
        have hKn : (secs now).length = now.length * 256 := secs_length hw.now
        have Hn := Lib.hid hn
        have Hs := Lib.hid hs
        have HKb := Lib.hid hKb
        have HKn := Lib.hid hKn
        clear hn hs hp hKa hKb hKn
        have hcp : splice (secs now).toArray.toList 0 (secs (keptFrom k 0 waits safe)) = secs (keptFrom k 0 waits safe) := by
          rw [splice, List.take_zero, List.nil_append, Nat.zero_add, HKb.out, List.toList_toArray, ← HKn.out, List.drop_length, List.append_nil]
        have Hcp := Lib.hid hcp
        clear hcp
        have hu9 := Lib.hid (show (Try.prog.info? 109).map (·.size) = some 256 from by kernel_rfl)
        refine region_tail 8 (by kernel_rfl) (by kernel_rfl) ?_
        simp only [List.take_succ_cons, List.take_zero, List.drop_succ_cons, List.drop_zero]
        iterate 8 still_step
        refine wpStill_nil ?_
        refine go_copy_rows (P := Try.prog) (op := ⟨some 48, .call { callee := .builtin .copy, args := #[.tmp 43, .tmp 47], argTypes := #[104, 104] }, _, _, _, _⟩) (by rfl) _ _ _ _ (by rfl)
          109 n 0 now.length now.length ⟨s, 0, none⟩ now.length now.length (by rfl) (by rfl) (secs now).toArray 109 256 now.length (secs (keptFrom k 0 waits safe))
          Try.underlying104 hu9.out (by exact Hn.out) (by simp) HKb.out (fun j v hv => ?_) (by rw [HKb.out, List.size_toArray, HKn.out]; omega) (bvs_oneCell _) ?_
        · rw [add_mid, Nat.zero_add]
          show wr.cell? ⟨s, j, none⟩ = some v
          rw [cell_of_row wr s j _ _ _ Hs.out]
          simpa using hv
        refine wpList_nil ?_
        have H2 := (H1.drew.swap.setRowPt (splice (secs now).toArray.toList 0 (secs (keptFrom k 0 waits safe))).toArray).swap
        rw [Hcp.out] at H2 ⊢
        refine ex_gen (R := Exit.then _ _) H2 ?_
        clear H2 Hs Hn Hcp HKn HKb hc0 hc1 hKl
        intro W HW
        have hp := HW.pt
        have hc : ∀ j, W.cell? ⟨p, j, none⟩ = (Go.Proofs.Ytakeilefbcpabaa.diskCells n s (.slice A waits.length cap) ⟨now, keptFrom k 0 waits safe, waits, false, acts, fuse, keep⟩)[j]? := fun j => cell_of_row W p j _ _ _ hp
        have hf : ∀ j, W.frozen? ⟨p, j, none⟩ = false := fun j => frozen_of_row W p j _ _ hp
        unfold Go.Proofs.Ytakeilefbcpabaa.diskCells at hc
        clear hp
        have HF : ∀ w' : World, w' = ((W.setCell ⟨p, 2, none⟩ (.slice none 0 0)).setCell ⟨p, 3, none⟩ (.bool true)).setCell ⟨p, 5, none⟩ (.int .i64 0) → St c (DiskAt p (DiskM.off ⟨now, safe, waits, false, acts, fuse, keep⟩ k) :: F) w' := by
          rintro w' rfl
          have h4 := ((((HW.setPt 2 (.slice none 0 0)).setPt 3 (.bool true)).setPt 5 (.int .i64 0)).pull3.tail.addNil 111 257).push3
          have e : DiskM.off ⟨now, safe, waits, false, acts, fuse, keep⟩ k = ⟨keptFrom k 0 waits safe, keptFrom k 0 waits safe, [], true, acts, 0, keep⟩ := rfl
          rw [e]
          refine St.shutDisk (n := n) (s := s) (wv := .slice none 0 0) (hw.off k) ?_
          have hl : (keptFrom k 0 waits safe).length = now.length := (keptFrom_length _ _ _ _).trans hw.same
          have e2 : Go.Proofs.Ytakeilefbcpabaa.diskCells n s (.slice none 0 0) ⟨keptFrom k 0 waits safe, keptFrom k 0 waits safe, [], true, acts, 0, keep⟩ =
              (((Go.Proofs.Ytakeilefbcpabaa.diskCells n s (.slice A waits.length cap) ⟨now, keptFrom k 0 waits safe, waits, false, acts, fuse, keep⟩).setIfInBounds 2 (.slice none 0 0)).setIfInBounds 3 (.bool true)).setIfInBounds 5 (.int .i64 0) := by
            simp only [Go.Proofs.Ytakeilefbcpabaa.diskCells, hl]; rfl
          show St c (Pt p _ :: _) _
          rw [e2]
          exact h4
        clear HW H1 H
        go_wp2
        go_returns
        exact ⟨rfl, HF _ rfl⟩
  · have HF : ∀ w' : World, St c (DiskParts p n s wv ⟨now, safe, waits, true, acts, fuse, keep⟩ ++ F) w → w' = w → St c (DiskAt p (DiskM.off ⟨now, safe, waits, true, acts, fuse, keep⟩ k) :: F) w' := by
      rintro w' H rfl
      exact St.shutDisk hw H
    go_enter Try.func22, Try.ntmps22
    go_wp2
    go_returns
    exact ⟨rfl, HF _ H rfl⟩
end
end Go.Proofs.Ytakeilefbcpabaa

/- A sector is written: what Write does. -/
namespace Go.Proofs.Ytakeilefbcpabaa
open Go.RowKit

def headWrite (i : Int) : Array Value := #[.int .i64 i] ++ Array.replicate 256 (.int .u8 0)
theorem headWrite_of (i : Int) : Try.zeroCells111.setIfInBounds 0 (.int .i64 i) = headWrite i := by kernel_rfl
theorem zeroCells_size : Try.zeroCells111.size = 257 := by kernel_rfl
theorem write_info : (Try.prog.info? 111).map (fun i => (i.zero, i.size, i.bytes)) = some (some (.agg zeroWrite), 257, 264) := by kernel_rfl
theorem u8_info : (Try.prog.info? 5).map (·.size) = some 1 := by kernel_rfl
theorem zeroWrite_cells : (Value.agg zeroWrite).cells.size = 257 := by kernel_rfl
theorem headWrite_size (i : Int) : (headWrite i).size = 257 := by kernel_rfl
theorem headWrite_all (i : Int) : (headWrite i).all (·.oneCell') = true := by kernel_rfl
theorem zeroWrite_size : zeroWrite.size = 257 := by kernel_rfl
theorem headWrite_list (i : Int) : (headWrite i).toList = .int .i64 i :: bvs zeroSec := by
  have e : bvs zeroSec = List.replicate 256 (.int .u8 0) := by
    rw [zeroSec, zeros, bvs, List.map_replicate]; rfl
  rw [e]; simp only [headWrite, Array.toList_append, Array.toList_replicate]; rfl
theorem headWrite_copy (i : Int) (b : List UInt8) (_hb : b.length ≤ 256) : splice (headWrite i).toList 1 (bvs b) = .int .i64 i :: bvs (pad b) := by
  rw [headWrite_list, splice, List.take_succ_cons, List.take_zero, Nat.add_comm 1, List.drop_succ_cons]
  rw [pad, bvs, bvs, bvs, List.map_append, List.length_map, List.singleton_append, List.cons_append]
  congr 1
  congr 1
  rw [← List.map_drop, zeroSec, zeros, zeros, List.drop_replicate]

section
variable {c : Con} {F : List HP} {w : World} {p : Nat} {D : DiskM}

set_option maxRecDepth 100000 in
set_option maxHeartbeats 1000000 in
theorem disk_write (H : St c (DiskAt p D :: F) w) (i : Int) (hi0 : -9223372036854775808 ≤ i) (hi1 : i ≤ 9223372036854775807) (v : Value) (b : List UInt8)
    (hb : ∀ W, St c F W → Reads W v b.length 1 (bvs b)) (hwl : D.waits.length ≤ 1073741824) :
    Calls Try.prog 30 #[.pointer (some ⟨p, 0, none⟩), .int .i64 i, v] w fun e w' => e = .returned (.int .i64 (D.writeE i b.length)) ∧ St c (DiskAt p (D.write i b) :: F) w' := by
  obtain ⟨A, cap, rfl, hcap, hmax⟩ := (hb w H.tail).form
  by_cases hr : D.ready i = 0
  case neg =>
    have e1 : D.writeE i b.length = D.ready i := by simp [DiskM.writeE, hr]
    have e2 : D.write i b = D := by simp [DiskM.write, hr]
    rw [e1, e2]
    have hd : (D.ready i != 0) = true := by simpa using hr
    clear e1 e2 hr
    go_enter Try.func30, Try.ntmps30
    go_wp2_with (go_at_call 58; refine (disk_ready H _ hi0 hi1).mono ?_; rintro e w' ⟨rfl, rfl⟩)
    go_returns
    exact ⟨rfl, H⟩
  case pos =>
    have hd : (D.ready i != 0) = false := by simpa using hr
    by_cases hl : 256 < b.length
    · have e1 : D.writeE i b.length = 3 := by simp [DiskM.writeE, hr, hl]
      have e2 : D.write i b = D := by simp [DiskM.write, hl]
      rw [e1, e2]
      clear e1 e2 hr
      go_enter Try.func30, Try.ntmps30
      go_wp2_with (go_at_call 58; refine (disk_ready H _ hi0 hi1).mono ?_; rintro e w' ⟨rfl, rfl⟩)
      go_returns
      exact ⟨rfl, H⟩
    · have hl' : b.length ≤ 256 := by omega
      obtain ⟨hdn, h0, hlt⟩ := DiskM.ready_zero hr
      obtain ⟨m, rfl⟩ := Int.eq_ofNat_of_zero_le h0
      have hm : m < D.now.length := by omega
      have e1 : D.writeE m b.length = if D.goes then 8 else 0 := by simp [DiskM.writeE, hr, hl]
      have e2 : D.write m b = if D.goes then (D.act.put m (pad b)).off D.keep else D.act.put m (pad b) := by simp [DiskM.write, hr, hl]
      rw [e1, e2]
      clear e1 e2 hl h0 hlt
      go_enter Try.func30, Try.ntmps30
      go_upto_region 7 with (first
        | (go_at_call 58; refine (disk_ready H _ hi0 hi1).mono ?_; rintro e w' ⟨rfl, rfl⟩)
        | (go_at_call 57; refine (disk_act H).mono ?_; rintro e w' ⟨rfl, H1⟩))
      have hbF := hb
      clear hb
      have Hr := Lib.hid hr
      have Hd := Lib.hid hd
      clear hr hd
      have iw := Lib.hid (show (Try.prog.info? 111).map (·.size) = some 257 from by kernel_rfl)
      have is := Lib.hid (show (Try.prog.info? 109).map (·.size) = some 256 from by kernel_rfl)
      have Hw1 := Lib.hid (headWrite_of m)
      go_upto_region 8 with (
        (refine go_store_new (P := Try.prog) (op := ⟨none, .store 111 (.tmp 10) (.tmp 26), _, _, _, _⟩) (by rfl) _ _ _ (by rfl) w' Try.zeroCells111 (Try.zeroCells111.setIfInBounds 0 (.int .i64 m)) (by rfl) (by rfl) (by rfl) (by rw [Hw1.out, headWrite_size]; exact iw.out) (by rw [Hw1.out]; exact zeroCells_size.trans (headWrite_size m).symm) (by rw [Hw1.out]; exact headWrite_all m) ?_))
      rw [Hw1.out]
      refine wp_gen (H1.allocPt (.cells (headWrite m) 111)) ?_
      generalize w'.heap.size = v
      intro W HW
      clear H1 H
      have Hcp := Lib.hid (headWrite_copy m b hl')
      have hrd := hbF W HW.tail.tail
      go_upto_region 9 with (
        (refine wpList_plain (o := ⟨some 30, .call { callee := .builtin .copy, args := #[.tmp 28, .tmp 29], argTypes := #[46, 46] }, _, _, _, _⟩) (by rfl) (fun K hK =>
          op_copy (P := Try.prog) HW _ _ _ _ (by rfl) 5 256 256 b.length (.slice A b.length cap) (bvs b) (by rfl) (by rfl) hrd Try.underlying46 u8_info hl' (by rw [headWrite_size]; omega) (bvs_oneCell b) (fun W2 H2 => hK _ _ ?_))))
      rw [Hcp.out] at H2
      clear HW hrd Hcp Hw1
      obtain ⟨hw1, n, s, wv, H3⟩ := H2.swap.openDisk
      have H3 : St c (DiskParts p n s wv D.act ++ (Pt v (.cells (.int .i64 (m : Int) :: bvs (pad b)).toArray 111 (0, 0)) :: F)) W2 := H3
      have hn' : D.act.now = D.now := by unfold DiskM.act; split <;> rfl
      have hwt' : D.act.waits = D.waits := by unfold DiskM.act; split <;> rfl
      clear H2
      have hp := H3.pt
      have hnb := H3.tail.pt
      have hvb := H3.tail.tail.tail.tail.pt
      have hc0 : W2.cell? ⟨p, 0, none⟩ = some (.slice (some ⟨n, 0, none⟩) D.now.length D.now.length) := by rw [cell_of_row W2 p 0 _ _ _ hp, ← hn']; rfl
      have hext : (Value.int .i64 (m : Int) :: bvs (pad b)).toArray.extract 1 (1 + 256) = (bvs (pad b)).toArray := by
        apply Array.ext'
        rw [Array.toList_extract, List.extract_eq_take_drop, List.toList_toArray, List.drop_one, List.tail_cons]
        exact List.take_of_length_le (by rw [bvs, List.length_map, pad_length b hl']; omega)
      have Hext := Lib.hid hext
      have Hv := Lib.hid hvb
      have Hn := Lib.hid hnb
      have hnl := secs_length hw1.now
      have hps : (bvs (pad b)).toArray.size = 256 := by rw [List.size_toArray, bvs, List.length_map, pad_length b hl']
      have Hps := Lib.hid hps
      have hns : (secs D.act.now).toArray.size = D.now.length * 256 := by rw [List.size_toArray, hnl, hn']
      have Hns := Lib.hid hns
      have hset : (splice (secs D.act.now).toArray.toList (m * 256) (bvs (pad b)).toArray.toList).toArray = (secs (D.act.now.set m (pad b))).toArray := by
        rw [secs_set hw1.now m (by rw [hn']; exact hm) (pad_length b hl')]
      have Hset := Lib.hid hset
      have hvz : (Value.int .i64 (m : Int) :: bvs (pad b)).toArray.size = 257 := by rw [List.size_toArray, List.length_cons, bvs, List.length_map, pad_length b hl']
      have Hvz := Lib.hid hvz
      have Hn' := Lib.hid hn'
      have Hwt' := Lib.hid hwt'
      clear hp hnb hvb hext hnl hps hns hset hvz hn' hwt'
      refine region_tail 8 (by kernel_rfl) (by kernel_rfl) ?_
      simp only [List.take_succ_cons, List.take_zero, List.drop_succ_cons, List.drop_zero]
      iterate 6 still_step
      refine still_load_row (P := Try.prog) (op := ⟨some 37, .load 109 (.tmp 36), _, _, _, _⟩) (by rfl) _ _ (by rfl) v 1 256 (by rfl) _ (bvs (pad b)).toArray 111 (0, 0) _ (by exact Hv.out) (by rw [Hvz.out]; omega) Hext.out Try.underlying109 (by rfl) is.out ?_
      still_step
      refine wpStill_nil ?_
      refine go_store_row (P := Try.prog) (op := ⟨none, .store 109 (.tmp 38) (.tmp 37), _, _, _, _⟩) (by rfl) _ _ _ (by rfl) n (m * 256) (bvs (pad b)).toArray (secs D.act.now).toArray (by rfl) (by rfl) 109 (by exact Hn.out) (by rw [Hns.out, Hps.out]; omega) (by rw [Hps.out]; exact is.out) (all_oneCell_toArray (bvs_oneCell _)) ?_
      refine wpList_nil ?_
      have H4 := (H3.drew.swap.setRowPt (splice (secs D.act.now).toArray.toList (m * 256) (bvs (pad b)).toArray.toList).toArray).swap
      rw [Hset.out] at H4 ⊢
      refine ex_gen (R := Exit.then _ _) H4 ?_
      clear H4 H3 hc0
      intro W3 H5
      go_upto_region 10 with (fail)
      have hp5 := H5.pt
      have hv5 := H5.tail.tail.tail.tail.pt
      obtain ⟨S, hS⟩ : ∃ S : World → Prop, S = fun W => W.heap[p]? = some (.cells (diskCells n s wv D.act) 107 (0, 0)) ∧ W.heap[v]? = some (.cells (.int .i64 (m : Int) :: bvs (pad b)).toArray 111 (0, 0)) := ⟨_, rfl⟩
      have hS1 : ∀ W, S W → W.cell? ⟨p, 2, none⟩ = some wv := by
        intro W h; rw [hS] at h; rw [cell_of_row W p 2 _ _ _ h.1]; rfl
      have hS2 : ∀ W, S W → W.heap[v]? = some (.cells (.int .i64 (m : Int) :: bvs (pad b)).toArray 111 (0, 0)) := by
        intro W h; rw [hS] at h; exact h.2
      have hS0 : S W3.drew := by rw [hS]; exact ⟨hp5, hv5⟩
      have hSa : ∀ W o, S W → S (W.alloc o) := by
        intro W o h; rw [hS] at h ⊢
        exact ⟨(Below.heap_alloc W o p (Array.getElem?_eq_some_iff.1 h.1).1).trans h.1, (Below.heap_alloc W o v (Array.getElem?_eq_some_iff.1 h.2).1).trans h.2⟩
      have HS2 := Lib.hid hS2
      have HSa := Lib.hid hSa
      have HSd := Lib.hid hS
      have hex : (Value.int .i64 (m : Int) :: bvs (pad b)).toArray.extract 0 (0 + 257) = (Value.int .i64 (m : Int) :: bvs (pad b)).toArray := by
        rw [Nat.zero_add, ← Hvz.out]; exact Array.extract_size
      have Hex := Lib.hid hex
      clear hp5 hv5 hS hS2 hSa hex
      refine region_take 6 8 S (by kernel_rfl) (by kernel_rfl) hS0 ?_
      simp only [List.take_succ_cons, List.take_zero, List.drop_succ_cons, List.drop_zero]
      refine heads_step (by rfl) (by intro W hW; have hcW := hS1 W hW; go_simp; try rfl) ?_
      refine heads_step (by rfl) (by intro W hW; have hcW := hS1 W hW; go_simp; try rfl) ?_
      refine heads_step (by rfl) (by intro W hW; have hcW := hS1 W hW; go_simp; try rfl) ?_
      refine heads_step (by rfl) (by intro W hW; have hcW := hS1 W hW; go_simp; try rfl) ?_
      refine heads_step (by rfl) (by intro W hW; have hcW := hS1 W hW; go_simp; try rfl) ?_
      refine heads_step (by rfl) (fun W hW => run_load_row (P := Try.prog) (op := ⟨some 44, .load 111 (.tmp 10), _, _, _, _⟩) _ _ (by rfl) v 0 257 (by rfl) _ _ _ (0, 0) _ (HS2.out W hW) (by rw [Hvz.out]; omega) Hex.out Try.underlying111 (by rfl) iw.out) ?_
      simp only [Act.put, List.setIfInBounds_toArray, List.set_cons_succ, List.set_cons_zero]
      refine heads_nil ?_
      refine listE_step (by rfl) fun K hK => op_slice_one (P := Try.prog) (op := ⟨some 45, .buildSlice 105 1 #[(0, .tmp 44)], _, _, _, _⟩) _ _ _ (by rfl) _ 257 (.agg zeroWrite) (by rfl) Try.underlying105 zeroWrite_info Hvz.out (by omega) (by omega) (hK _ _ (HSa.out _ _ hS0) ?_)
      simp only [Act.put, List.setIfInBounds_toArray, List.set_cons_succ, List.set_cons_zero]
      have hone : ∀ u ∈ (Value.int .i64 (m : Int) :: bvs (pad b)), u.oneCell' = true := by
        intro u hu
        rcases List.mem_cons.1 hu with rfl | hu
        · rfl
        · exact bvs_oneCell _ u hu
      have hnews : ∀ j u, (Value.int .i64 (m : Int) :: bvs (pad b))[j]? = some u → (W3.drew.alloc (.cells (.int .i64 (m : Int) :: bvs (pad b)).toArray 111)).cell? ((⟨W3.drew.heap.size, 0, none⟩ : Addr).add j) = some u := by
        intro j u hu
        rw [add_mid, Nat.zero_add, cell_of_row _ _ _ _ _ _ (heap_alloc_new _ _)]
        simpa using hu
      refine listE_step (by rfl) fun K hK => op_append (P := Try.prog) (op := ⟨some 46, .call { callee := .builtin .append, args := #[.tmp 43, .tmp 45], argTypes := #[105, 105] }, _, _, _, _⟩) (H5.drew.alloc _).pull3 _ _ _ (by rfl) Try.underlying105 write_info zeroWrite_cells (by omega)
        ⟨W3.drew.heap.size, 0, none⟩ 1 1 (Value.int .i64 (m : Int) :: bvs (pad b)) (by rfl) (by rfl) (by rw [← List.size_toArray, Hvz.out]) hnews hone (by rw [Hwt'.out]; omega) (by rw [Hwt'.out]; omega) (fun v' W4 H6 _ => hK _ _ (by rw [HSd.out]; exact ⟨H6.tail.pt, H6.tail.tail.tail.tail.pt⟩) ?_)
      simp only [Act.put, List.setIfInBounds_toArray, List.set_cons_succ, List.set_cons_zero]
      obtain ⟨A2, cap2, hv2⟩ := owned_form H6
      subst hv2
      have hc2 : W4.cell? ⟨p, 2, none⟩ = some wv := by rw [cell_of_row W4 p 2 _ _ _ H6.tail.pt]; rfl
      have hf2 : W4.frozen? ⟨p, 2, none⟩ = false := frozen_of_row W4 p 2 _ _ H6.tail.pt
      have H7 := (H6.swap.setPt 2 (.slice A2 (D.act.waits.length + 1) cap2)).swap
      change wpList _ _ _ _ _ W4
      clear hS0 hone hnews hS1
      go_wp2
      refine NoPanic.normal ?_
      have H8 : St c (DiskAt p (D.act.put m (pad b)) :: F) (W4.setCell ⟨p, 2, none⟩ (.slice A2 (D.act.waits.length + 1) cap2)) := by
        refine St.shutDisk (n := n) (s := s) (wv := .slice A2 (D.act.waits.length + 1) cap2) (hw1.put m _ (by rw [Hn'.out]; exact hm) (pad_length b hl')) ?_
        have h := H7.pull4.tail.push3
        have e1 : ((diskCells n s wv D.act).setIfInBounds 2 (.slice A2 (D.act.waits.length + 1) cap2)) = diskCells n s (.slice A2 (D.act.waits.length + 1) cap2) (D.act.put m (pad b)) := by
          simp only [diskCells, DiskM.put, List.length_set]; rfl
        have e2 : D.act.waits.length + 1 = (D.act.put m (pad b)).waits.length := by simp [DiskM.put]
        have e3 : wcells D.act.waits ++ (Value.int .i64 (m : Int) :: bvs (pad b)) = wcells (D.act.put m (pad b)).waits := by
          rw [DiskM.put, wcells_append]; simp [wcells]
        rw [e1, e3] at h
        show St c (_ :: _ :: _ :: OwnP _ _ _ (D.act.put m (pad b)).waits.length _ :: F) _
        rw [← e2]
        exact h
      refine ex_gen (R := Exit.then _ _) H8 ?_
      clear H8 H7 H6 H5 hc2 hf2
      intro W5 H9
      cases hg : D.goes
      · have hk : D.keeps = 0 := by simp [DiskM.keeps, hg]
        go_wp2
        all_goals go_returns
        all_goals exact ⟨rfl, H9⟩
      · have hk : D.keeps = D.keep := by simp [DiskM.keeps, hg]
        have k0 := hw1.keep0
        have k1 := hw1.keep1
        have ek : D.act.keep = D.keep := by unfold DiskM.act; split <;> rfl
        rw [ek] at k0 k1
        clear ek
        go_wp2_with (go_at_call 22; refine (disk_off H9 D.keep k0 k1).mono ?_; rintro e w' ⟨rfl, H10⟩)
        all_goals go_returns
        all_goals exact ⟨rfl, by assumption⟩
end
end Go.Proofs.Ytakeilefbcpabaa

/- A sector is read; all is made safe; all sectors at once. -/
namespace Go.Proofs.Ytakeilefbcpabaa
open Go.RowKit

theorem zeroSector_size : Try.zeroCells109.size = 256 := by kernel_rfl

section
variable {c : Con} {F : List HP} {w : World} {p : Nat} {D : DiskM}

theorem disk_read_bad (H : St c (DiskAt p D :: F) w) (i : Int) (hi0 : -9223372036854775808 ≤ i) (hi1 : i ≤ 9223372036854775807) (hr : D.ready i ≠ 0) :
    Calls Try.prog 27 #[.pointer (some ⟨p, 0, none⟩), .int .i64 i] w fun e w' => e = .returned (.tuple #[.slice none 0 0, .int .i64 (D.ready i)]) ∧ w = w' := by
  have hd : (D.ready i != 0) = true := by simpa using hr
  clear hr
  go_enter Try.func27, Try.ntmps27
  go_wp2_with (go_at_call 58; refine (disk_ready H i hi0 hi1).mono ?_; rintro e w' ⟨rfl, rfl⟩)
  go_returns
  exact ⟨rfl, rfl⟩

set_option maxRecDepth 100000 in
set_option maxHeartbeats 1000000 in
theorem disk_read (H : St c (DiskAt p D :: F) w) (i : Int) (hi1 : i ≤ 9223372036854775807) (hr : D.ready i = 0) :
    Calls Try.prog 27 #[.pointer (some ⟨p, 0, none⟩), .int .i64 i] w fun e w' => ∃ v, e = .returned (.tuple #[.slice (some ⟨v, 0, none⟩) 256 256, .int .i64 0]) ∧
      St c (Pt v (.cells (bvs (D.now.getD i.toNat [])).toArray 109 (0, 0)) :: DiskAt p D :: F) w' := by
  obtain ⟨hdn, h0, hlt⟩ := DiskM.ready_zero hr
  obtain ⟨m, rfl⟩ := Int.eq_ofNat_of_zero_le h0
  have hm : m < D.now.length := by omega
  obtain ⟨hw, n, s, wv, H1⟩ := H.openDisk
  have hp := H1.pt
  have hn := H1.tail.pt
  have hc0 : w.cell? ⟨p, 0, none⟩ = some (.slice (some ⟨n, 0, none⟩) D.now.length D.now.length) := by rw [cell_of_row w p 0 _ _ _ hp]; rfl
  have hsl : D.now[m].length = 256 := hw.now _ (List.getElem_mem hm)
  have hext : (secs D.now).toArray.extract (m * 256) (m * 256 + 256) = (bvs D.now[m]).toArray := by
    rw [← secs_at hw.now m hm]
    apply Array.ext'
    rw [Array.toList_extract, List.extract_eq_take_drop, List.toList_toArray]
    congr 1
    omega
  have hsz : (secs D.now).toArray.size = D.now.length * 256 := by rw [List.size_toArray, secs_length hw.now]
  have hbs : (bvs D.now[m]).toArray.size = 256 := by rw [List.size_toArray, bvs, List.length_map, hsl]
  have hg : D.now.getD (m : Int).toNat [] = D.now[m] := by rw [Int.toNat_natCast, List.getD_eq_getElem?_getD, List.getElem?_eq_getElem hm]; rfl
  rw [hg]
  have Hext := Lib.hid hext
  have Hsz := Lib.hid hsz
  have Hbs := Lib.hid hbs
  have Hn := Lib.hid hn
  have is := Lib.hid (show (Try.prog.info? 109).map (·.size) = some 256 from by kernel_rfl)
  have hd : (D.ready m != 0) = false := by simpa using hr
  clear hp hn hext hsz hbs hsl hg h0 hr hdn
  go_enter Try.func27, Try.ntmps27
  go_wp2_with (first
    | (go_at_call 58; refine (disk_ready H _ (by omega) hi1).mono ?_; rintro e w' ⟨rfl, rfl⟩)
    | (refine go_load_row (P := Try.prog) (op := ⟨some 20, .load 109 (.tmp 19), _, _, _, _⟩) (by rfl) _ _ (by rfl) n (m * 256) 256 (by rfl) _ _ 109 (0, 0) _ (by exact Hn.out) (by rw [Hsz.out]; omega) Hext.out Try.underlying109 (by rfl) is.out ?_)
    | (refine go_store_new (P := Try.prog) (op := ⟨none, .store 109 (.tmp 7) (.tmp 20), _, _, _, _⟩) (by rfl) _ _ _ (by rfl) w Try.zeroCells109 (bvs D.now[m]).toArray (by rfl) (by rfl) (by rfl) (by rw [Hbs.out]; exact is.out) (by rw [Hbs.out]; exact zeroSector_size) (all_oneCell_toArray (bvs_oneCell _)) ?_))
  go_returns
  exact ⟨_, rfl, H.allocPt _⟩

set_option maxRecDepth 100000 in
set_option maxHeartbeats 1000000 in
theorem disk_sync (H : St c (DiskAt p D :: F) w) :
    Calls Try.prog 32 #[.pointer (some ⟨p, 0, none⟩)] w fun e w' => e = .returned (.int .i64 D.syncE) ∧ St c (DiskAt p D.sync :: F) w' := by
  obtain ⟨hw, n, s, wv, H1⟩ := H.openDisk
  have hp := H1.pt
  have hc0 : w.cell? ⟨p, 3, none⟩ = some (.bool D.down) := by rw [cell_of_row w p 3 _ _ _ hp]; rfl
  clear hp H1 wv n s
  cases hd : D.down
  case true =>
    rw [hd] at hc0
    have e1 : D.syncE = 8 := by simp [DiskM.syncE, hd]
    have e2 : D.sync = D := by simp [DiskM.sync, hd]
    rw [e1, e2]
    clear e1 e2 hd
    go_enter Try.func32, Try.ntmps32
    go_wp2
    go_returns
    exact ⟨rfl, H⟩
  case false =>
    rw [hd] at hc0
    cases hg : D.goes
    case true =>
      have e1 : D.syncE = 8 := by simp [DiskM.syncE, hd, hg]
      have e2 : D.sync = D.act.off D.keep := by simp [DiskM.sync, hd, hg]
      have hk : D.keeps = D.keep := by simp [DiskM.keeps, hg]
      have k0 := hw.keep0
      have k1 := hw.keep1
      rw [e1, e2]
      clear e1 e2 hd
      go_enter Try.func32, Try.ntmps32
      go_wp2_with (first
        | (go_at_call 57; refine (disk_act H).mono ?_; rintro e w' ⟨rfl, H1⟩)
        | (go_at_call 22; refine (disk_off H1 D.keep k0 k1).mono ?_; rintro e w' ⟨rfl, H2⟩))
      go_returns
      exact ⟨rfl, by assumption⟩
    case false =>
      have e1 : D.syncE = 0 := by simp [DiskM.syncE, hd, hg]
      have e2 : D.sync = { D.act with safe := D.act.now, waits := [] } := by simp [DiskM.sync, hd, hg]
      have hk : D.keeps = 0 := by simp [DiskM.keeps, hg]
      rw [e1, e2]
      clear e1 e2 hd
      go_enter Try.func32, Try.ntmps32
      go_upto_region 9 with (
        (go_at_call 57; refine (disk_act H).mono ?_; rintro e w' ⟨rfl, H1⟩))
      obtain ⟨hw1, n, s, wv, H2⟩ := H1.openDisk
      clear H1 H hc0
      have hp := H2.pt
      have hn := H2.tail.pt
      have hs := H2.tail.tail.pt
      have hc0 : w'.cell? ⟨p, 0, none⟩ = some (.slice (some ⟨n, 0, none⟩) D.act.now.length D.act.now.length) := cell_of_row w' p 0 _ _ _ hp
      have hc1 : w'.cell? ⟨p, 1, none⟩ = some (.slice (some ⟨s, 0, none⟩) D.act.now.length D.act.now.length) := cell_of_row w' p 1 _ _ _ hp
      have hKb : (secs D.act.safe).length = D.act.now.length * 256 := by rw [secs_length hw1.safe, hw1.same]
      have hKn : (secs D.act.now).length = D.act.now.length * 256 := secs_length hw1.now
      have Hn := Lib.hid hn
      have Hs := Lib.hid hs
      have HKb := Lib.hid hKb
      have HKn := Lib.hid hKn
      have hcp : splice (secs D.act.safe).toArray.toList 0 (secs D.act.now) = secs D.act.now := splice_whole _ _ (by rw [List.toList_toArray, hKb, hKn])
      have Hcp := Lib.hid hcp
      have hu9 := Lib.hid (show (Try.prog.info? 109).map (·.size) = some 256 from by kernel_rfl)
      clear hn hs hp hKb hKn hcp
      refine region_tail 8 (by kernel_rfl) (by kernel_rfl) ?_
      simp only [List.take_succ_cons, List.take_zero, List.drop_succ_cons, List.drop_zero]
      iterate 8 still_step
      refine wpStill_nil ?_
      refine go_copy_rows (P := Try.prog) (op := ⟨some 30, .call { callee := .builtin .copy, args := #[.tmp 25, .tmp 29], argTypes := #[104, 104] }, _, _, _, _⟩) (by rfl) _ _ _ _ (by rfl)
        109 s 0 D.act.now.length D.act.now.length ⟨n, 0, none⟩ D.act.now.length D.act.now.length (by rfl) (by rfl) (secs D.act.safe).toArray 109 256 D.act.now.length (secs D.act.now)
        Try.underlying104 hu9.out (by exact Hs.out) (by simp) HKn.out (fun j v hv => ?_) (by rw [HKn.out, List.size_toArray, HKb.out]; omega) (bvs_oneCell _) ?_
      · rw [add_mid, Nat.zero_add]
        show w'.cell? ⟨n, j, none⟩ = some v
        rw [cell_of_row w' n j _ _ _ Hn.out]
        simpa using hv
      refine wpList_nil ?_
      have H3 := (H2.drew.pull2.setRowPt (splice (secs D.act.safe).toArray.toList 0 (secs D.act.now)).toArray).push2
      rw [Hcp.out] at H3 ⊢
      refine ex_gen (R := Exit.then _ _) H3 ?_
      clear H3 Hs Hn Hcp HKn HKb hc0 hc1
      intro W HW
      have hc : W.cell? ⟨p, 2, none⟩ = some wv := cell_of_row W p 2 _ _ _ HW.pt
      have hf : W.frozen? ⟨p, 2, none⟩ = false := frozen_of_row W p 2 _ _ HW.pt
      have H4 : St c (DiskAt p { D.act with safe := D.act.now, waits := [] } :: F) (W.setCell ⟨p, 2, none⟩ (.slice none 0 0)) := by
        have h4 := ((HW.setPt 2 (.slice none 0 0)).pull3.tail.addNil 111 257).push3
        exact St.shutDisk (n := n) (s := s) (wv := .slice none 0 0) ⟨hw1.most, rfl, hw1.now, hw1.now, (by intro x hx; cases hx), hw1.fuse0, hw1.fuse1, hw1.keep0, hw1.keep1⟩ h4
      have H4 := Lib.hid H4
      clear HW H2
      go_wp2
      go_returns
      exact ⟨rfl, H4.out⟩
end
end Go.Proofs.Ytakeilefbcpabaa

/- A new disk; all sectors at once. -/
namespace Go.Proofs.Ytakeilefbcpabaa
open Go.RowKit

def clip (n : Int) : Nat := (min (max n 0) 4096).toNat
theorem sector_zero : (Try.prog.info? 109).map (fun i => (i.zero, i.size, i.bytes)) = some (some (.agg (bvs zeroSec).toArray), 256, 256) := by kernel_rfl
theorem made_all (z : Array Value) (x : Value) (hz : 0 < z.size) (h : ∀ v ∈ z, v = x) (n : Nat) : madeCells z n = Array.replicate n x := by
  apply Array.ext_getElem?
  intro j
  unfold madeCells
  rw [Array.getElem?_map, Array.getElem?_range, Array.getElem?_replicate]
  split
  · rw [Option.map_some]
    congr 1
    have hm : j % z.size < z.size := Nat.mod_lt _ hz
    rw [getElem!_pos z _ hm]
    exact h _ (Array.getElem_mem hm)
  · rfl
theorem made_secs (k : Nat) : madeCells (bvs zeroSec).toArray (k * 256) = (secs (List.replicate k zeroSec)).toArray := by
  have h256 : (bvs zeroSec).toArray.size = 256 := by rw [List.size_toArray, bvs, List.length_map, zeroSec_length]
  have hlen : (secs (List.replicate k zeroSec)).length = k * 256 := by
    rw [secs_length (fun s hs => by rw [(List.mem_replicate.1 hs).2]; exact zeroSec_length), List.length_replicate]
  rw [made_all _ (.int .u8 0) (by rw [h256]; omega)]
  · apply Array.ext'
    rw [Array.toList_replicate, List.toList_toArray]
    refine (List.eq_replicate_iff.2 ⟨hlen, fun v hv => ?_⟩).symm
    obtain ⟨b, hb, rfl⟩ := List.mem_map.1 hv
    obtain ⟨s, hs, hbs⟩ := List.mem_flatten.1 hb
    rw [(List.mem_replicate.1 hs).2] at hbs
    rw [(List.mem_replicate.1 hbs).2]; rfl
  · intro v hv
    obtain ⟨b, hb, rfl⟩ := List.mem_map.1 (List.mem_toArray.1 hv)
    rw [(List.mem_replicate.1 hb).2]; rfl

section
variable {c : Con} {F : List HP} {w : World} {p : Nat} {D : DiskM}

set_option maxRecDepth 100000 in
set_option maxHeartbeats 1000000 in
theorem disk_new (H : St c F w) (n : Int) (h1 : -9223372036854775808 ≤ n) (h2 : n ≤ 9223372036854775807) :
    Calls Try.prog 21 #[.int .i64 n] w fun e w' => ∃ p, e = .returned (.pointer (some ⟨p, 0, none⟩)) ∧ St c (DiskAt p (DiskM.new (clip n)) :: F) w' := by
  have hmk : ∀ (W : World) (q : Nat), q ≤ 4096 → (Instr.makeSlice 104 (.int .i64 q) (.int .i64 q)).run Try.prog W = .ok (.slice (some ⟨W.heap.size, 0, none⟩) q q) (W.alloc (.cells (secs (List.replicate q zeroSec)).toArray 109)) := by
    intro W q hq
    cases hi : Try.prog.info? 109 with
    | none => have := sector_zero; rw [hi] at this; cases this
    | some i =>
      have e := sector_zero
      rw [hi] at e
      simp only [Option.map_some, Option.some.injEq, Prod.mk.injEq] at e
      have := run_make (P := Try.prog) W 104 109 i _ Try.underlying104 hi e.1 .i64 .i64 q q (by omega) (by omega) (by rw [e.2.2]; omega) (by omega)
      rw [this]
      simp only [Int.toNat_natCast, e.2.1, Value.cells, made_secs]
  obtain ⟨k, hk, hk'⟩ : ∃ k : Nat, k ≤ 4096 ∧ k = clip n := ⟨clip n, by unfold clip; omega, rfl⟩
  rw [← hk']
  have Hk' := Lib.hid hk'
  have Hmk := Lib.hid hmk
  clear hmk hk'
  go_enter Try.func21, Try.ntmps21
  go_upto_region 2 with (fail)
  have e : (if 4096 < (if n < 0 then 0 else n) then 4096 else if n < 0 then 0 else n) = (k : Int) := by
    have := Hk'.out; unfold clip at this; split <;> split <;> omega
  rw [e]
  clear e
  have hmk := fun W => Hmk.out W k hk
  go_region
  · have HF : St c (DiskAt (w.heap.size + 1 + 1) (DiskM.new k) :: F) (((w.alloc (.cells (secs (List.replicate k zeroSec)).toArray 109)).alloc (.cells (secs (List.replicate k zeroSec)).toArray 109)).alloc
        (.cells #[.slice (some ⟨w.heap.size, 0, none⟩) k k, .slice (some ⟨w.heap.size + 1, 0, none⟩) k k, .slice none 0 0, .bool false, .int .i64 0, .int .i64 0, .int .u64 0] 107)).drew := by
      refine St.shutDisk (n := w.heap.size) (s := w.heap.size + 1) (wv := .slice none 0 0) (DiskM.WF.new k hk) ?_
      have h := ((((H.allocPt (.cells (secs (List.replicate k zeroSec)).toArray 109)).allocPt (.cells (secs (List.replicate k zeroSec)).toArray 109)).swap.allocPt
        (.cells #[.slice (some ⟨w.heap.size, 0, none⟩) k k, .slice (some ⟨w.heap.size + 1, 0, none⟩) k k, .slice none 0 0, .bool false, .int .i64 0, .int .i64 0, .int .u64 0] 107)).addNil 111 257).push3.drew
      simp only [World.size_alloc] at h
      simp only [DiskParts, diskCells, DiskM.new, List.length_replicate]
      exact h
    go_wp2
    all_goals go_returns
    all_goals exact ⟨_, rfl, HF⟩
  · have HF : St c (DiskAt (w.heap.size + 1 + 1) (DiskM.new k) :: F) (((w.alloc (.cells (secs (List.replicate k zeroSec)).toArray 109)).alloc (.cells (secs (List.replicate k zeroSec)).toArray 109)).alloc
        (.cells #[.slice (some ⟨w.heap.size + 1, 0, none⟩) k k, .slice (some ⟨w.heap.size, 0, none⟩) k k, .slice none 0 0, .bool false, .int .i64 0, .int .i64 0, .int .u64 0] 107)).drew := by
      refine St.shutDisk (n := w.heap.size + 1) (s := w.heap.size) (wv := .slice none 0 0) (DiskM.WF.new k hk) ?_
      have h := ((((H.allocPt (.cells (secs (List.replicate k zeroSec)).toArray 109)).allocPt (.cells (secs (List.replicate k zeroSec)).toArray 109)).allocPt
        (.cells #[.slice (some ⟨w.heap.size + 1, 0, none⟩) k k, .slice (some ⟨w.heap.size, 0, none⟩) k k, .slice none 0 0, .bool false, .int .i64 0, .int .i64 0, .int .u64 0] 107)).addNil 111 257).push3.drew
      simp only [World.size_alloc] at h
      simp only [DiskParts, diskCells, DiskM.new, List.length_replicate]
      exact h
    go_wp2
    all_goals go_returns
    all_goals exact ⟨_, rfl, HF⟩
end
end Go.Proofs.Ytakeilefbcpabaa

/- All sectors of a disk at once: what Image does. -/
namespace Go.Proofs.Ytakeilefbcpabaa
open Go.RowKit
attribute [local irreducible] Y OW YK OWK W WL WP X CV Ev Evs HasCell HasCells Has Met Again Kept

/-- A sector out of the sectors' row. -/
theorem has_sec {H : World → Prop} {b T : Nat} {fr : Nat × Nat} {l : List Sec} (h : Has H b (.cells (secs l).toArray T fr)) (hl : ∀ s ∈ l, s.length = 256) {j : Nat} (hj : j < l.length) {o : Nat} (ho : o = j * 256) : HasCells H ⟨b, o, none⟩ (bvs l[j]) := by
  subst ho
  refine hasCells_bl h ?_
  rw [bvs_length, hl _ (List.getElem_mem hj), List.toList_toArray]
  exact secs_at hl j hj
theorem take_flatten (l : List Sec) {j : Nat} (hj : j < l.length) : bvs (l.take j).flatten ++ bvs l[j] = bvs (l.take (j + 1)).flatten := by
  rw [← bvs_append, List.take_succ_eq_append_getElem hj, List.flatten_append]
  simp

theorem shut_disk {c : Con} {F L : List HP} {w : World} {p n s : Nat} {wv : Value} {D : DiskM} (h : D.WF) (H : St c L w)
    (hs : Sel L (Pt p (.cells (diskCells n s wv D) 107 (0, 0)) :: Pt n (.cells (secs D.now).toArray 109 (0, 0)) :: Pt s (.cells (secs D.safe).toArray 109 (0, 0)) ::
      OwnP 111 257 wv D.waits.length (wcells D.waits) :: F)) : St c (DiskAt p D :: F) w := St.shutDisk h (hs.st H)
section
variable {c : Con} {F : List HP} {w : World} {p : Nat} {D : DiskM}
set_option maxRecDepth 100000 in
theorem disk_image (H : St c (DiskAt p D :: F) w) :
    Calls Try.prog 29 #[.pointer (some ⟨p, 0, none⟩)] w fun e w' => ∃ q : Option Addr × Nat, e = .returned (.slice q.1 (256 * D.now.length) q.2) ∧
      St c (OwnP 5 1 (.slice q.1 (256 * D.now.length) q.2) (256 * D.now.length) (bvs D.image) :: DiskAt p D :: F) w' := by
  obtain ⟨hw, n, s, wv, H⟩ := H.openDisk4
  refine calls_w (vs := [.pointer (some ⟨p, 0, none⟩)]) Try.func29 rfl rfl rfl ?_ w H
  (repeat' (first
      | (with_reducible refine is_yk ?_; refine yk_auto (k := ?_))
      | (with_reducible refine is_owk0 ?_; refine owk0_auto (k := ?_))
      | (with_reducible refine is_owkc ?_; refine owk_auto (k := fun _ => ?_))
      | refine go1 (k := ?_)
      | (refine go2 (ka := ?_) (kb := ?_) <;> intro _)
      | fail))
  refine w_loop (α := Nat × Option Addr × Nat) (fun x => x.1 ≤ D.now.length) (fun x => [(0, .pointer (some ⟨p, 0, none⟩)), (3, .slice x.2.1 (256 * x.1) x.2.2), (4, .int .i64 (x.1 : Int))])
    (fun x => OwnP 5 1 (.slice x.2.1 (256 * x.1) x.2.2) (256 * x.1) (bvs (D.now.take x.1).flatten) :: _) (fun x => D.now.length - x.1) (0, none, 0) (Nat.zero_le _) sub_auto (.own0 sel_all) (fun x hx => ?_)
  obtain ⟨j, A, cap⟩ := x
  have hm := hw.most
  dsimp only at hx ⊢
  (repeat' (first
      | (with_reducible refine is_owkc ?_; first | refine owk (ow_append (ev_tmp rfl) (ev_tmp rfl) (src_has Try.underlying46 (has_sec has_auto hw.now (j := j) (by omega) (by omega)) (by rw [bvs_length, hw.now _ (List.getElem_mem _)]) (by omega) (by omega) (bvs_oneCell _)) (k := 256 * (j + 1)) (by omega) (take_flatten _ _) ⟨by omega, by omega⟩ pick_auto) (fun q => ?_))
      | (with_reducible refine is_yk ?_; refine yk_auto (k := ?_))
      | (with_reducible refine is_owk0 ?_; refine owk0_auto (k := ?_))
      | (with_reducible refine is_owkc ?_; refine owk_auto (k := fun _ => ?_))
      | refine go1 (k := ?_)
      | (refine go2 (ka := ?_) (kb := ?_) <;> intro _)
      | fail))
  · exact x_again (j + 1, q) (show j + 1 ≤ _ by omega) (show D.now.length - (j + 1) < D.now.length - j by omega) sub_auto sel_auto
  · obtain rfl : j = D.now.length := by omega
    refine x_ret1 rfl rfl (fun w H => ⟨(A, cap), rfl, ?_⟩)
    rw [List.take_length] at H
    exact (shut_disk hw H sel_auto).swap
end
end Go.Proofs.Ytakeilefbcpabaa

/- The laws on the disk: what they ask first. -/
namespace Go.Proofs.Ytakeilefbcpabaa
open Go.RowKit
attribute [local irreducible] Y OW YK OWK W WL WP X CV Ev Evs HasCell HasCells Has Met Again Kept

section
variable {c : Con} {F : List HP} {w : World} {p : Nat} {D D' : DiskM}
theorem disk_write_is (i : Int) (hi0 : -9223372036854775808 ≤ i) (hi1 : i ≤ 9223372036854775807) (v : Value) (b : List UInt8) {E : Int} (hE : D.writeE i b.length = E) (hD : D.write i b = D')
    (hb : ∀ W, St c F W → Reads W v b.length 1 (bvs b)) (hwl : D.waits.length ≤ 1073741824) (H : St c (DiskAt p D :: F) w) :
    Calls Try.prog 30 #[.pointer (some ⟨p, 0, none⟩), .int .i64 i, v] w fun e w' => e = .returned (.int .i64 E) ∧ St c (DiskAt p D' :: F) w' := by
  subst hE hD
  exact disk_write H i hi0 hi1 v b hb hwl
theorem disk_read_is (i : Int) (hi1 : i ≤ 9223372036854775807) (hr : D.ready i = 0) {s : Sec} (hs : D.now.getD i.toNat [] = s) (H : St c (DiskAt p D :: F) w) :
    Calls Try.prog 27 #[.pointer (some ⟨p, 0, none⟩), .int .i64 i] w fun e w' => ∃ v, e = .returned (.tuple #[.slice (some ⟨v, 0, none⟩) 256 256, .int .i64 0]) ∧
      St c (Bl v 109 (bvs s) :: DiskAt p D :: F) w' := by
  subst hs
  exact disk_read H i hi1 hr
theorem disk_new_is (n : Int) (h1 : -9223372036854775808 ≤ n) (h2 : n ≤ 9223372036854775807) {k : Nat} (hk : k = clip n) (H : St c F w) :
    Calls Try.prog 21 #[.int .i64 n] w fun e w' => ∃ p, e = .returned (.pointer (some ⟨p, 0, none⟩)) ∧ St c (DiskAt p (DiskM.new k) :: F) w' := by
  subst hk; exact disk_new H n h1 h2
theorem disk_size_is {n : Nat} (hn : D.now.length = n) (H : St c (DiskAt p D :: F) w) :
    Calls Try.prog 28 #[.pointer (some ⟨p, 0, none⟩)] w fun e w' => e = .returned (.int .i64 n) ∧ w = w' := by
  subst hn; exact disk_size H
theorem disk_image_is {n : Nat} (hn : 256 * D.now.length = n) (H : St c (DiskAt p D :: F) w) :
    Calls Try.prog 29 #[.pointer (some ⟨p, 0, none⟩)] w fun e w' => ∃ q : Option Addr × Nat, e = .returned (.slice q.1 n q.2) ∧ St c (OwnP 5 1 (.slice q.1 n q.2) n (bvs D.image) :: DiskAt p D :: F) w' := by
  subst hn; exact disk_image H
theorem disk_read_bad_is (i : Int) (hi0 : -9223372036854775808 ≤ i) (hi1 : i ≤ 9223372036854775807) {E : Int} (hE : D.ready i = E) (h0 : E ≠ 0) (H : St c (DiskAt p D :: F) w) :
    Calls Try.prog 27 #[.pointer (some ⟨p, 0, none⟩), .int .i64 i] w fun e w' => e = .returned (.tuple #[.slice none 0 0, .int .i64 E]) ∧ w = w' := by
  subst hE; exact disk_read_bad H i hi0 hi1 h0
theorem disk_off_is (k : Int) (hk0 : 0 ≤ k) (hk1 : k < 18446744073709551616) (hD : D.off k = D') (H : St c (DiskAt p D :: F) w) :
    Calls Try.prog 22 #[.pointer (some ⟨p, 0, none⟩), .int .u64 k] w fun e w' => e = .returned (.tuple #[]) ∧ St c (DiskAt p D' :: F) w' := by
  subst hD
  exact disk_off H k hk0 hk1

def aD0 : DiskM := DiskM.new 3
def aD1 : DiskM := aD0.write 0 [120]
def aD2 : DiskM := aD1.write 1 [121]
def aD3 : DiskM := aD2.off 2
set_option maxRecDepth 100000 in
theorem alive11 (H : St c F w) : Calls Try.prog 26 #[] w fun e w' => e = .returned (.bool true) ∧ St c F w' := by
  refine calls_w (vs := []) Try.func26 rfl rfl rfl ?_ w H
  (repeat' (first
      | ((with_reducible refine at_fn 21 ?_); with_reducible refine owk_c0x (f := 21) evs_auto (by kernel_rfl) (fun w H => disk_new H 3 (by omega) (by omega)) (fun p => ?_))
      | ((with_reducible refine at_fn 30 ?_); with_reducible refine owk_c1 (f := 30) evs_auto (by kernel_rfl) pick_auto (fun w H => disk_write_is (D := DiskM.new (clip 3)) 0 (by omega) (by omega) _ [120] (E := 0) (D' := aD1) (by kernel_rfl) (by kernel_rfl) (reads_has (hasCells_bl has_auto rfl) rfl (by decide) (by decide)) (by decide) H) ?_)
      | ((with_reducible refine at_fn 30 ?_); with_reducible refine owk_c1 (f := 30) evs_auto (by kernel_rfl) pick_auto (fun w H => disk_write_is (D := aD1) 1 (by omega) (by omega) _ [121] (E := 0) (D' := aD2) (by kernel_rfl) (by kernel_rfl) (reads_has (hasCells_bl has_auto rfl) rfl (by decide) (by decide)) (by decide) H) ?_)
      | ((with_reducible refine at_fn 22 ?_); with_reducible refine owk_c1 (f := 22) evs_auto (by kernel_rfl) pick_auto (fun w H => disk_off_is (D := aD2) 2 (by omega) (by omega) (D' := aD3) rfl H) ?_)
      | ((with_reducible refine at_fn 24 ?_); with_reducible refine owk_c1 (f := 24) evs_auto (by kernel_rfl) pick_auto (fun w H => disk_on H) ?_)
      | ((with_reducible refine at_fn 27 ?_); with_reducible refine owk_c1x (f := 27) evs_auto (by kernel_rfl) pick_auto (fun w H => disk_read_is (D := aD3.on) 0 (by omega) (by kernel_rfl) (s := zeroSec) (by kernel_rfl) H) (fun p => ?_))
      | ((with_reducible refine at_fn 27 ?_); with_reducible refine owk_c1x (f := 27) evs_auto (by kernel_rfl) pick_auto (fun w H => disk_read_is (D := aD3.on) 1 (by omega) (by kernel_rfl) (s := 121 :: zeros 255) (by kernel_rfl) H) (fun p => ?_))
      | (with_reducible refine is_yk ?_; refine yk_auto (k := ?_))
      | (with_reducible refine is_owk0 ?_; refine owk0_auto (k := ?_))
      | (with_reducible refine is_owkc ?_; refine owk_auto (k := fun _ => ?_))
      | refine go1 (k := ?_)
      | (refine go2 (ka := ?_) (kb := ?_) <;> intro _)
      | fail))
  refine x_ret1 rfl rfl (fun w H => ⟨rfl, Sel.st sel_auto H⟩)
end
end Go.Proofs.Ytakeilefbcpabaa

/- Package chain: the length of a frame; areas. -/
namespace Go.Proofs.Ytakeilefbcpabaa
open Go.RowKit
/-- How many bytes the frame has that bytes begin with. -/
def lengthM (b : List UInt8) : Int := if inOk 48 16384 (some b) = true ∧ leInt (b.take 8) ≤ b.length then leInt (b.take 8) else 0
attribute [local irreducible] Y OW YK OWK W WL WP X CV Ev Evs HasCell HasCells Has Met Again Kept
section
variable {c : Con} {F : List HP} {w : World}
theorem seg_length {v : Value} {A : Option Addr} {n cap : Nat} {D : List UInt8} {E : Int} (hv : v = .slice A n cap) (hE : lengthM D = E) (hr : HasR (St c F) v n (bvs D)) (hn : n ≤ 1073741824) (H : St c F w) : Calls Try.prog 65 #[v] w fun e w' =>
    e = .returned (.int .i64 E) ∧ St c F w' := by
  subst hv hE
  have hD : D.length = n := by
    obtain ⟨h1, -⟩ := hr w H
    rw [bvs_length] at h1; omega
  refine calls_w (vs := [.slice A n cap]) Try.func65 rfl rfl rfl ?_ w H
  cases hb : inOk 48 16384 (some D)
  · have hl : lengthM D = 0 := by simp [lengthM, hb]
    rw [hl]
    (repeat' (first
      | ((with_reducible refine at_fn 69 ?_); with_reducible refine owk (ow_callx evs_auto (by kernel_rfl) (fun w H => rd_read rfl hr hn H)) (fun q => ?_))
      | ((with_reducible refine at_fn 70 ?_); with_reducible refine owk_c2 evs_auto (by kernel_rfl) pick_auto pick_auto (fun w H => rd_in_bad hb (.inl (by omega)) H) ?_)
      | (with_reducible refine is_yk ?_; refine yk_auto (k := ?_))
      | (with_reducible refine is_owk0 ?_; refine owk0_auto (k := ?_))
      | (with_reducible refine is_owkc ?_; refine owk_auto (k := fun _ => ?_))
      | refine go1 (k := ?_)
      | (refine go2 (ka := ?_) (kb := ?_) <;> intro _)
      | fail))
    exact x_ret1 rfl rfl (fun w H => ⟨rfl, H.tail.tail⟩)
  · have h8 : 8 ≤ D.length ∧ 48 ≤ leInt (D.take 8) ∧ leInt (D.take 8) ≤ 16384 := by simp [inOk] at hb; omega
    have hl : D = D.take 8 ++ D.drop 8 := (List.take_append_drop 8 D).symm
    have ha : (D.take 8).length = 8 := by simp; omega
    obtain ⟨m, hm⟩ : ∃ m, leInt (D.take 8) = m := ⟨_, rfl⟩
    have hlm : lengthM D = if m ≤ (n : Int) then m else 0 := by simp [lengthM, hb, hm, hD]
    rw [hlm]
    rw [hm] at h8
    (repeat' (first
      | ((with_reducible refine at_fn 69 ?_); with_reducible refine owk (ow_callx evs_auto (by kernel_rfl) (fun w H => rd_read rfl hr hn H)) (fun q => ?_))
      | ((with_reducible refine at_fn 70 ?_); with_reducible refine owk_c2 evs_auto (by kernel_rfl) pick_auto pick_auto (fun w H => rd_in_ok hl ha hm h8.2 H) ?_)
      | (with_reducible refine is_yk ?_; refine yk_auto (k := ?_))
      | (with_reducible refine is_owk0 ?_; refine owk0_auto (k := ?_))
      | (with_reducible refine is_owkc ?_; refine owk_auto (k := fun _ => ?_))
      | refine go1 (k := ?_)
      | (refine go2 (ka := ?_) (kb := ?_) <;> intro _)
      | fail))

    · rename_i k
      exact x_ret1 rfl rfl (fun w H => ⟨by rw [if_neg (by omega)], H.tail.tail⟩)
    · rename_i k
      exact x_ret1 rfl rfl (fun w H => ⟨by rw [if_pos (by omega)], H.tail.tail⟩)
end
end Go.Proofs.Ytakeilefbcpabaa

/- slices.Chunk of bytes, ranged over. -/
namespace Go.Proofs.Ytakeilefbcpabaa
open Go.RowKit
/-- The j-th chunk's bounds. -/
def chunkV (A : Option Addr) (n j : Nat) : Value := .slice (A.map (·.add (256 * j * 1))) (min 256 (n - 256 * j)) (min 256 (n - 256 * j))
attribute [local irreducible] Y OW YK OWK W WL WP X CV WG XG CVG Ev Evs HasCell HasCells Has Met Again Kept
section
variable {c : Con} {F : List HP} {w : World}
theorem chunk_make {A : Option Addr} {n cap : Nat} (H : St c F w) : Calls Try.prog 66 #[.slice A n cap, .int .i64 256] w fun e w' =>
    ∃ q : Nat × Nat, e = .returned (.func (.func 71) #[] #[.pointer (some ⟨q.1, 0, none⟩), .pointer (some ⟨q.2, 0, none⟩)]) ∧ St c (Bl q.2 3 [.int .i64 256] :: Bl q.1 46 [.slice A n cap] :: F) w' := by
  refine calls_w (vs := [.slice A n cap, .int .i64 256]) Try.func66 rfl rfl rfl ?_ w H
  (repeat' (first
      | (with_reducible refine is_yk ?_; refine yk_auto (k := ?_))
      | (with_reducible refine is_owk0 ?_; refine owk0_auto (k := ?_))
      | (with_reducible refine is_owkc ?_; refine owk_auto (k := fun _ => ?_))
      | refine go1 (k := ?_)
      | (refine go2 (ka := ?_) (kb := ?_) <;> intro _)
      | refine gg1 (k := ?_)
      | (refine gg2 (ka := ?_) (kb := ?_) <;> intro _)
      | fail))
  exact x_ret1 rfl rfl (fun w H => ⟨(_, _), rfl, H⟩)
set_option maxRecDepth 100000 in
theorem chunk_iter {A : Option Addr} {n cap m p q : Nat} {K : List HP} (hm : m = (n + 255) / 256) (hn : n ≤ cap ∧ cap ≤ 9223372036854775807) (hn2 : n ≤ 1073741824) (l : Nat) (B' : Nat → HP) (J' : HP)
    (hr : ∀ i, i < m → ∀ (G : List HP) (w : World), St c (B' i :: G) w → YieldAt Fence.wide 0 Try.prog l #[chunkV A n i] w fun e w' => (e = .returned (.bool true) ∧ St c (B' (i + 1) :: G) w') ∨ (e = .returned (.bool false) ∧ St c (J' :: G) w')) :
    ∀ w, St c (B' 0 :: Bl q 3 [.int .i64 256] :: Bl p 46 [.slice A n cap] :: K) w → Calls Try.prog 71 #[.func (.yield l) #[] #[], .pointer (some ⟨p, 0, none⟩), .pointer (some ⟨q, 0, none⟩)] w fun e w' => (∃ v, e = .returned v) ∧
      (St c (B' m :: Bl q 3 [.int .i64 256] :: Bl p 46 [.slice A n cap] :: K) w' ∨ St c (J' :: Bl q 3 [.int .i64 256] :: Bl p 46 [.slice A n cap] :: K) w') := fun w H => by
  subst hm
  refine calls_w (vs := [.func (.yield l) #[] #[], .pointer (some ⟨p, 0, none⟩), .pointer (some ⟨q, 0, none⟩)]) Try.func71 rfl rfl rfl ?_ w H
  (repeat' (first
      | (with_reducible refine is_yk ?_; refine yk_auto (k := ?_))
      | (with_reducible refine is_owk0 ?_; refine owk0_auto (k := ?_))
      | (with_reducible refine is_owkc ?_; refine owk_auto (k := fun _ => ?_))
      | refine go1 (k := ?_)
      | (refine go2 (ka := ?_) (kb := ?_) <;> intro _)
      | refine gg1 (k := ?_)
      | (refine gg2 (ka := ?_) (kb := ?_) <;> intro _)
      | fail))
  refine w_loop (α := Nat) (fun j => j ≤ (n + 255) / 256)
    (fun j => [(4, .int .i64 ((256 * j : Nat) : Int)), (0, .func (.yield l) #[] #[]), (1, .pointer (some ⟨p, 0, none⟩)), (2, .pointer (some ⟨q, 0, none⟩))])
    (fun j => B' j :: Bl q 3 [.int .i64 256] :: Bl p 46 [.slice A n cap] :: K) (fun j => (n + 255) / 256 - j) 0 (Nat.zero_le _) sub_auto sel_auto (fun j hj => ?_)
  by_cases hlt : 256 * j < n
  · have hjm : j < (n + 255) / 256 := by omega
    have hle : 256 * j ≤ n := by omega
    have hY := hr j hjm
    have hmn : min (256 : Int) ((n - 256 * j : Nat) : Int) = ((min 256 (n - 256 * j) : Nat) : Int) := by omega
    have hV : chunkV A n j = .slice (A.map (·.add (256 * j * 1))) (min 256 (n - 256 * j)) (min 256 (n - 256 * j)) := rfl
    have hk : 0 < min 256 (n - 256 * j) ∧ 256 * j + min 256 (n - 256 * j) ≤ n := by omega
    have hnx : (256 * j : Nat) + 256 = 256 * (j + 1) := by omega
    generalize min 256 (n - 256 * j) = k at hmn hV hk
    have hsum : ((256 * j : Nat) : Int) + (k : Int) = ((256 * j + k : Nat) : Int) := by omega
    have hsum2 : ((256 * j : Nat) : Int) + 256 = ((256 * (j + 1) : Nat) : Int) := by omega
    have hsl : Value.slice (if 256 * j + k = 256 * j then A else A.map (·.add (256 * j * 1))) (256 * j + k - 256 * j) (256 * j + k - 256 * j) = chunkV A n j := by
      rw [hV, if_neg (by omega), Nat.add_sub_cancel_left]
    generalize chunkV A n j = cv at hY hsl
    (repeat' (first
      | (with_reducible refine at_call ?_; first | refine yk_eq (y_min (ev_tmp rfl) (ev_tmp rfl)) (congrArg _ hmn) ?_)
      | (with_reducible refine at_bin ?_; first | refine yk_eq (y_add64 (ev_tmp rfl) (ev_tmp rfl) (by omega)) (congrArg _ hsum) ?_)
      | (with_reducible refine at_slice ?_; first | refine yk_eq (y_slice3 (ev_tmp rfl) (ev_tmp rfl) (ev_tmp rfl) (ev_tmp rfl) (by omega)) hsl ?_)
      | (with_reducible refine is_w ?_; first | refine w_plan (id := 3) [(0, true), (1, true), (2, true), (3, true), (4, true), (5, true), (6, true)] _ (by kernel_rfl) (by kernel_rfl) sel_all ?_ | ((refine w_yield (id := 4) 10 rfl ?_); simp only [List.take_succ_cons, List.take_zero, List.drop_succ_cons, List.drop_zero]))
      | (with_reducible refine is_yk ?_; refine yk_auto (k := ?_))
      | (with_reducible refine is_owk0 ?_; refine owk0_auto (k := ?_))
      | (with_reducible refine is_owkc ?_; refine owk_auto (k := fun _ => ?_))
      | refine go1 (k := ?_)
      | (refine go2 (ka := ?_) (kb := ?_) <;> intro _)
      | refine gg1 (k := ?_)
      | (refine gg2 (ka := ?_) (kb := ?_) <;> intro _)
      | fail))
    refine x_yield rfl (ev_tmp rfl) (ev_tmp rfl) (fun w H => hY _ w H) ?_ ?_
    · refine x_rest rfl ?_
      (repeat' (first
      | (with_reducible refine at_bin ?_; first | refine yk_eq (y_add64 (ev_tmp rfl) (ev_tmp rfl) (by omega)) (congrArg _ hsum2) ?_)
      | (with_reducible refine is_yk ?_; refine yk_auto (k := ?_))
      | (with_reducible refine is_owk0 ?_; refine owk0_auto (k := ?_))
      | (with_reducible refine is_owkc ?_; refine owk_auto (k := fun _ => ?_))
      | refine go1 (k := ?_)
      | (refine go2 (ka := ?_) (kb := ?_) <;> intro _)
      | refine gg1 (k := ?_)
      | (refine gg2 (ka := ?_) (kb := ?_) <;> intro _)
      | fail))
      exact x_again (j + 1) (by show j + 1 ≤ _; omega) (by show (n + 255) / 256 - (j + 1) < (n + 255) / 256 - j; omega) sub_auto sel_auto
    · refine x_rest rfl ?_
      (repeat' (first
      | (with_reducible refine is_yk ?_; refine yk_auto (k := ?_))
      | (with_reducible refine is_owk0 ?_; refine owk0_auto (k := ?_))
      | (with_reducible refine is_owkc ?_; refine owk_auto (k := fun _ => ?_))
      | refine go1 (k := ?_)
      | (refine go2 (ka := ?_) (kb := ?_) <;> intro _)
      | refine gg1 (k := ?_)
      | (refine gg2 (ka := ?_) (kb := ?_) <;> intro _)
      | fail))
      exact x_ret0 rfl (fun w H => ⟨⟨_, rfl⟩, .inr H⟩)
  · obtain rfl : j = (n + 255) / 256 := by omega
    (repeat' (first
      | (with_reducible refine is_yk ?_; refine yk_auto (k := ?_))
      | (with_reducible refine is_owk0 ?_; refine owk0_auto (k := ?_))
      | (with_reducible refine is_owkc ?_; refine owk_auto (k := fun _ => ?_))
      | refine go1 (k := ?_)
      | (refine go2 (ka := ?_) (kb := ?_) <;> intro _)
      | refine gg1 (k := ?_)
      | (refine gg2 (ka := ?_) (kb := ?_) <;> intro _)
      | fail))
    exact x_end0 rfl (fun w H => ⟨⟨_, rfl⟩, .inl H⟩)
end
end Go.Proofs.Ytakeilefbcpabaa

/- Package chain: areas, Half, Left, Add. -/
namespace Go.Proofs.Ytakeilefbcpabaa
open Go.RowKit
/-- An area of the disk at d. -/
structure AreaM where
  lo : Nat
  hi : Nat
  pos : Nat
abbrev areaCells (d : Nat) (A : AreaM) : List Value := [.pointer (some ⟨d, 0, none⟩), .int .i64 A.lo, .int .i64 A.hi, .int .i64 A.pos]
abbrev AreaAt (b d : Nat) (A : AreaM) : HP := Bl b 119 (areaCells d A)
/-- The half of n sectors that an epoch has. -/
def halfA (n : Nat) (epoch : Int) : AreaM := ⟨(epoch % 2).toNat * (n / 2), (epoch % 2).toNat * (n / 2) + n / 2, (epoch % 2).toNat * (n / 2)⟩
theorem bits_and1 (x : Int) (h : -9223372036854775808 ≤ x ∧ x ≤ 9223372036854775807) : bits .and .i64 x 1 = x % 2 := by
  show IntKind.i64.wrap (((BitVec.ofInt 64 x) &&& (BitVec.ofInt 64 1)).toNat : Int) = x % 2
  have e1 : (BitVec.ofInt 64 1) = 1#64 := rfl
  rw [e1, BitVec.toNat_and]
  have e2 : (1#64).toNat = 1 := rfl
  rw [e2, Nat.and_one_is_mod, BitVec.toNat_ofInt]
  rw [IntWalk.i64_left]
  have : ((2 : Nat) ^ 64 : Nat) = 18446744073709551616 := rfl
  unfold wrap64
  omega
attribute [local irreducible] Y OW YK OWK W WL WP X CV WG XG CVG Ev Evs HasCell HasCells Has Met Again Kept
section
variable {c : Con} {F : List HP} {w : World} {p b : Nat} {D : DiskM} {A : AreaM}
theorem disk_downE {b : Bool} (hd : D.down = b) (H : St c (DiskAt p D :: F) w) : Calls Try.prog 40 #[.pointer (some ⟨p, 0, none⟩)] w fun e w' => e = .returned (.bool b) ∧ w = w' := by subst hd; exact disk_down H
theorem disk_actsE {b : Int} (hd : D.acts = b) (H : St c (DiskAt p D :: F) w) : Calls Try.prog 39 #[.pointer (some ⟨p, 0, none⟩)] w fun e w' => e = .returned (.int .i64 b) ∧ w = w' := by subst hd; exact disk_acts H
theorem c_half {n : Nat} {R : AreaM} (epoch : Int) (he : -9223372036854775808 ≤ epoch ∧ epoch ≤ 9223372036854775807) (hn : D.now.length = n) (hmax : n ≤ 4096) (hR : halfA n epoch = R) (H : St c (DiskAt p D :: F) w) : Calls Try.prog 44 #[.pointer (some ⟨p, 0, none⟩), .int .i64 epoch] w fun e w' =>
    ∃ b, e = .returned (.pointer (some ⟨b, 0, none⟩)) ∧ St c (AreaAt b p R :: DiskAt p D :: F) w' := by
  subst hR
  have hq : (n : Int) / 2 = ((n / 2 : Nat) : Int) := by omega
  have ha := bits_and1 epoch he
  obtain ⟨k, hk⟩ : ∃ k : Nat, epoch % 2 = (k : Int) := ⟨(epoch % 2).toNat, by omega⟩
  have hk2 : k = 0 ∨ k = 1 := by omega
  obtain ⟨m, hm⟩ : ∃ m, n / 2 = m := ⟨_, rfl⟩
  have hR : halfA n epoch = ⟨k * m, k * m + m, k * m⟩ := by unfold halfA; rw [hk, hm]; rfl
  rw [hR]
  rw [hm] at hq
  rw [hk] at ha
  have hmul : (k : Int) * (m : Int) = ((k * m : Nat) : Int) := by rw [Int.natCast_mul]
  have hb : k * m ≤ 4096 := by rcases hk2 with rfl | rfl <;> omega
  generalize k * m = f at hmul hb ⊢
  have hadd : (f : Int) + (m : Int) = ((f + m : Nat) : Int) := by omega
  refine calls_w (vs := [.pointer (some ⟨p, 0, none⟩), .int .i64 epoch]) Try.func44 rfl rfl rfl ?_ w H
  (repeat' (first
      | ((with_reducible refine at_fn 28 ?_); with_reducible refine owk_c1q evs_auto (by kernel_rfl) pick_auto (fun w H => disk_size_is hn H) ?_)
      | (with_reducible refine at_bin ?_; first | refine yk_eq (y_quo64 (ev_tmp rfl) ev_const (by omega)) (congrArg _ hq) ?_ | refine yk_eq (y_bits (.inl rfl) (ev_tmp rfl) ev_const) (congrArg _ ha) ?_ | refine yk_eq (y_mul64 (ev_tmp rfl) (ev_tmp rfl) (by rw [hmul]; omega)) (congrArg _ hmul) ?_ | refine yk_eq (y_add64 (ev_tmp rfl) (ev_tmp rfl) (by omega)) (congrArg _ hadd) ?_)
      | (with_reducible refine is_yk ?_; refine yk_auto (k := ?_))
      | (with_reducible refine is_owk0 ?_; refine owk0_auto (k := ?_))
      | (with_reducible refine is_owkc ?_; refine owk_auto (k := fun _ => ?_))
      | refine go1 (k := ?_)
      | (refine go2 (ka := ?_) (kb := ?_) <;> intro _)
      | refine gg1 (k := ?_)
      | (refine gg2 (ka := ?_) (kb := ?_) <;> intro _)
      | fail))
  exact x_ret1 rfl rfl (fun w H => ⟨_, rfl, H⟩)
theorem c_left {n : Int} (hn : (A.hi : Int) - A.pos = n) (hb : A.hi ≤ 1073741824 ∧ A.pos ≤ 1073741824) (H : St c (AreaAt b p A :: F) w) : Calls Try.prog 46 #[.pointer (some ⟨b, 0, none⟩)] w fun e w' => e = .returned (.int .i64 n) ∧ St c (AreaAt b p A :: F) w' := by
  subst hn
  replace H : St c (Bl b 119 [.pointer (some ⟨p, 0, none⟩), .int .i64 A.lo, .int .i64 A.hi, .int .i64 A.pos] :: F) w := H
  refine calls_w (vs := [.pointer (some ⟨b, 0, none⟩)]) Try.func46 rfl rfl rfl ?_ w H
  (repeat' (first
      | (with_reducible refine is_w ?_; first | refine w_plan (id := 3) [(0, true), (1, true), (2, true), (3, true), (4, true), (5, true), (6, true), (7, true), (8, true), (9, true)] _ (by kernel_rfl) (by kernel_rfl) sel_all ?_)
      | (with_reducible refine is_yk ?_; refine yk_auto (k := ?_))
      | (with_reducible refine is_owk0 ?_; refine owk0_auto (k := ?_))
      | (with_reducible refine is_owkc ?_; refine owk_auto (k := fun _ => ?_))
      | refine go1 (k := ?_)
      | (refine go2 (ka := ?_) (kb := ?_) <;> intro _)
      | refine gg1 (k := ?_)
      | (refine gg2 (ka := ?_) (kb := ?_) <;> intro _)
      | fail))
  exact x_ret1 rfl rfl (fun w H => ⟨rfl, H⟩)
end
end Go.Proofs.Ytakeilefbcpabaa

/- Package chain: Add. -/
namespace Go.Proofs.Ytakeilefbcpabaa
open Go.RowKit
/-- The disk behind the first writes of several, one behind the other. -/
def wrTo (D : DiskM) (pos : Nat) (cs : List (List UInt8)) : Nat → DiskM
  | 0 => D
  | i + 1 => (wrTo D pos cs i).write ((pos + i : Nat) : Int) (cs.getD i [])
def wrE (D : DiskM) (pos : Nat) (cs : List (List UInt8)) (i : Nat) : Int := (wrTo D pos cs i).writeE ((pos + i : Nat) : Int) (cs.getD i []).length
/-- Several writes, up to the first that fails. -/
def writes (D : DiskM) (pos : Nat) : List (List UInt8) → Int × DiskM
  | [] => (0, D)
  | b :: r => if D.writeE (pos : Int) b.length ≠ 0 then (D.writeE (pos : Int) b.length, D.write (pos : Int) b) else writes (D.write (pos : Int) b) (pos + 1) r
theorem wrTo_cons (D : DiskM) (pos : Nat) (b : List UInt8) (r : List (List UInt8)) : ∀ i, wrTo D pos (b :: r) (i + 1) = wrTo (D.write (pos : Int) b) (pos + 1) r i
  | 0 => rfl
  | i + 1 => by
    rw [wrTo, wrTo_cons D pos b r i, wrTo, List.getD_cons_succ, show pos + (i + 1) = pos + 1 + i by omega]
theorem wrE_cons (D : DiskM) (pos : Nat) (b : List UInt8) (r : List (List UInt8)) (i : Nat) : wrE D pos (b :: r) (i + 1) = wrE (D.write (pos : Int) b) (pos + 1) r i := by
  rw [wrE, wrTo_cons, wrE, List.getD_cons_succ, show pos + (i + 1) = pos + 1 + i by omega]
theorem writes_ok : ∀ (cs : List (List UInt8)) (D : DiskM) (pos : Nat), (∀ i, i < cs.length → wrE D pos cs i = 0) → writes D pos cs = (0, wrTo D pos cs cs.length)
  | [], _, _, _ => rfl
  | b :: r, D, pos, h => by
    have h0 : D.writeE (pos : Int) b.length = 0 := h 0 (by simp)
    rw [writes, if_neg (by rw [h0]; simp), writes_ok r _ _ (fun i hi => by rw [← wrE_cons]; exact h (i + 1) (by simpa using hi)), List.length_cons, wrTo_cons]
theorem writes_bad : ∀ (cs : List (List UInt8)) (D : DiskM) (pos j : Nat), j < cs.length → (∀ i, i < j → wrE D pos cs i = 0) → wrE D pos cs j ≠ 0 → writes D pos cs = (wrE D pos cs j, wrTo D pos cs (j + 1))
  | b :: r, D, pos, 0, _, _, hj => by
    have h0 : D.writeE (pos : Int) b.length ≠ 0 := hj
    rw [writes, if_pos h0]; rfl
  | b :: r, D, pos, j + 1, hl, h, hj => by
    have h0 : D.writeE (pos : Int) b.length = 0 := h 0 (by omega)
    rw [wrE_cons] at hj ⊢
    rw [writes, if_neg (by rw [h0]; simp), writes_bad r _ _ j (by simpa using hl) (fun i hi => by rw [← wrE_cons]; exact h (i + 1) (by omega)) hj, wrTo_cons]
theorem write_waits (D : DiskM) (i : Int) (b : List UInt8) : (D.write i b).waits.length ≤ D.waits.length + 1 := by
  unfold DiskM.write
  split
  · omega
  · split
    · omega
    · have e : ∀ s, (D.act.put i.toNat s).waits.length = D.waits.length + 1 := fun s => by
        simp only [DiskM.put, List.length_append, List.length_singleton]
        unfold DiskM.act; split <;> rfl
      split
      · unfold DiskM.off
        split
        · rw [e]; omega
        · simp
      · rw [e]; omega
theorem wrTo_waits (D : DiskM) (pos : Nat) (cs : List (List UInt8)) : ∀ i, (wrTo D pos cs i).waits.length ≤ D.waits.length + i
  | 0 => Nat.le_refl _
  | i + 1 => by
    have h1 := wrTo_waits D pos cs i
    have h2 := write_waits (wrTo D pos cs i) ((pos + i : Nat) : Int) (cs.getD i [])
    rw [wrTo]; omega
/-- A frame's sectors. -/
def chunkB (f : List UInt8) (j : Nat) : List UInt8 := (f.take (256 * j + min 256 (f.length - 256 * j))).drop (256 * j)
def chunks (f : List UInt8) : List (List UInt8) := (List.range ((f.length + 255) / 256)).map (chunkB f)
theorem chunks_length (f : List UInt8) : (chunks f).length = (f.length + 255) / 256 := by simp [chunks]
theorem chunks_get (f : List UInt8) {j : Nat} (hj : j < (f.length + 255) / 256) : (chunks f).getD j [] = chunkB f j := by
  simp [chunks, List.getD_eq_getElem?_getD, hj]
theorem chunkB_length (f : List UInt8) (j : Nat) : (chunkB f j).length = min 256 (f.length - 256 * j) := by
  simp [chunkB]; omega
/-- A frame is added. -/
def addM (D : DiskM) (A : AreaM) (f : List UInt8) : Int × AreaM × DiskM :=
  if f = [] ∨ lengthM f ≠ f.length then (1, A, D) else if D.down = true then (8, A, D) else if (A.hi : Int) - A.pos < ((f.length + 255) / 256 : Nat) then (7, A, D) else
  ((writes D A.pos (chunks f)).1, if (writes D A.pos (chunks f)).1 = 0 then { A with pos := A.pos + (f.length + 255) / 256 } else A, (writes D A.pos (chunks f)).2)
theorem chunk_reads {H : World → Prop} {S : Option Addr} {n cap j : Nat} {f : List UInt8} (hr : HasR H (.slice S n cap) n (bvs f)) (hf : f.length = n) (hj : 256 * j < n) (h63 : n ≤ 9223372036854775807) : HasR H (chunkV S n j) (min 256 (n - 256 * j)) (bvs (chunkB f j)) := by
  subst hf
  refine hasR_sub (h := 256 * j + min 256 (f.length - 256 * j)) hr ⟨by omega, by omega, h63⟩ rfl (by omega) ?_
  simp [chunkB, bvs, List.map_drop, List.map_take]
attribute [local irreducible] Y OW YK OWK W WL WP X CV WG XG CVG Ev Evs HasCell HasCells Has Met Again Kept
section
variable {c : Con} {F : List HP} {w : World} {p b : Nat} {D D' : DiskM} {A A' : AreaM}
set_option maxRecDepth 100000 in
set_option maxHeartbeats 2000000 in
theorem c_add1 {J : HP} {v : Value} {f : List UInt8} {n : Nat} {E : Int} (hA : addM D A f = (E, A', D')) (hr : HasR (St c [J]) v n (bvs f)) (hn : n ≤ 1073741824) (hb : A.hi ≤ 1073741824 ∧ A.pos ≤ 1073741824) (hwl : D.waits.length ≤ 536870912) (H : St c [AreaAt b p A, DiskAt p D, J] w) : Calls Try.prog 47 #[.pointer (some ⟨b, 0, none⟩), v] w fun e w' =>
    e = .returned (.int .i64 E) ∧ St c [AreaAt b p A', DiskAt p D', J] w' := by
  have hr0 := hr w H.tail.tail
  obtain ⟨S, cap, rfl, hnc, hcap⟩ := hr0.form
  have hfl : f.length = n := by have := hr0.1; rw [bvs_length] at this; omega
  have hr' : HasR (St c [AreaAt b p A, DiskAt p D, J]) (.slice S n cap) n (bvs f) := hasR_tl (hasR_tl hr)
  obtain ⟨m, hm⟩ : ∃ m, (n + 255) / 256 = m := ⟨_, rfl⟩
  have hbad : (f = [] ∨ lengthM f ≠ f.length) → E = 1 ∧ A' = A ∧ D' = D := fun h => by
    rw [addM, if_pos h] at hA; obtain ⟨rfl, h2⟩ := Prod.mk.inj hA; obtain ⟨rfl, rfl⟩ := Prod.mk.inj h2; exact ⟨rfl, rfl, rfl⟩
  have hdown : f ≠ [] → lengthM f = f.length → D.down = true → E = 8 ∧ A' = A ∧ D' = D := fun h1 h2 h3 => by
    rw [addM, if_neg (by simp [h1, h2]), if_pos h3] at hA; obtain ⟨rfl, h2⟩ := Prod.mk.inj hA; obtain ⟨rfl, rfl⟩ := Prod.mk.inj h2; exact ⟨rfl, rfl, rfl⟩
  have hfull : f ≠ [] → lengthM f = f.length → D.down = false → (A.hi : Int) - A.pos < m → E = 7 ∧ A' = A ∧ D' = D := fun h1 h2 h3 h4 => by
    rw [addM, if_neg (by simp [h1, h2]), if_neg (by simp [h3]), hfl, hm, if_pos h4] at hA; obtain ⟨rfl, h2⟩ := Prod.mk.inj hA; obtain ⟨rfl, rfl⟩ := Prod.mk.inj h2; exact ⟨rfl, rfl, rfl⟩
  have hgo : f ≠ [] → lengthM f = f.length → D.down = false → ¬ (A.hi : Int) - A.pos < m → E = (writes D A.pos (chunks f)).1 ∧ A' = (if (writes D A.pos (chunks f)).1 = 0 then { A with pos := A.pos + m } else A) ∧ D' = (writes D A.pos (chunks f)).2 := fun h1 h2 h3 h4 => by
    rw [addM, if_neg (by simp [h1, h2]), if_neg (by simp [h3]), hfl, hm, if_neg h4] at hA; obtain ⟨rfl, h2⟩ := Prod.mk.inj hA; obtain ⟨rfl, rfl⟩ := Prod.mk.inj h2; exact ⟨rfl, rfl, rfl⟩
  clear hA
  obtain ⟨L0, hL0⟩ : ∃ L0, lengthM f = L0 := ⟨_, rfl⟩
  have hf0 : f = [] ↔ n = 0 := by rw [← hfl]; exact List.length_eq_zero_iff.symm
  obtain ⟨dn, hdn⟩ : ∃ dn, D.down = dn := ⟨_, rfl⟩
  have hq : ((n : Int) + 256 - 1) / 256 = (m : Int) := by omega
  rw [hfl, hL0, hdn] at hdown hfull hgo
  rw [hfl, hL0] at hbad
  obtain ⟨lf, hlf⟩ : ∃ lf : Int, (A.hi : Int) - A.pos = lf := ⟨_, rfl⟩
  rw [hlf] at hfull hgo
  refine calls_wM (vs := [.pointer (some ⟨b, 0, none⟩), .slice S n cap]) Try.func47 rfl rfl rfl ?_ w H
  (repeat' (first
      | ((with_reducible refine at_fn 65 ?_); with_reducible refine owk_c0s evs_auto (by kernel_rfl) (fun w H => seg_length rfl hL0 (hasR_tl (hasR_tl hr')) hn H) ?_)
      | ((with_reducible refine at_fn 40 ?_); with_reducible refine owk_c1q evs_auto (by kernel_rfl) pick_auto (fun w H => disk_downE hdn H) ?_)
      | ((with_reducible refine at_fn 46 ?_); with_reducible refine owk_c1 evs_auto (by kernel_rfl) pick_auto (fun w H => c_left hlf hb H) ?_)
      | ((with_reducible refine at_fn 66 ?_); with_reducible refine owk (ow_callx evs_auto (by kernel_rfl) (fun w H => chunk_make H)) (fun q => ?_))
      | (with_reducible refine at_bin ?_; first | refine yk_eq (y_quo64 (ev_tmp rfl) ev_const (by omega)) (congrArg _ hq) ?_)
      | (with_reducible refine is_yk ?_; refine yk_auto (k := ?_))
      | (with_reducible refine is_owk0 ?_; refine owk0_auto (k := ?_))
      | (with_reducible refine is_owkc ?_; refine owk_auto (k := fun _ => ?_))
      | refine go1 (k := ?_)
      | (refine go2 (ka := ?_) (kb := ?_) <;> intro _)
      | refine gg1 (k := ?_)
      | (refine gg2 (ka := ?_) (kb := ?_) <;> intro _)
      | fail))
  · rename_i k
    obtain ⟨rfl, rfl, rfl⟩ := hbad (.inl (hf0.2 (by omega)))
    exact x_retM (x_retC1 rfl rfl (hasCell_bl has_auto rfl) (fun w H => ⟨rfl, H.tail.tail⟩))
  · rename_i k0 k
    obtain ⟨rfl, rfl, rfl⟩ := hbad (.inr k)
    exact x_retM (x_retC1 rfl rfl (hasCell_bl has_auto rfl) (fun w H => ⟨rfl, H.tail.tail⟩))
  · rename_i k0 k1 k
    obtain ⟨rfl, rfl, rfl⟩ := hdown (fun e => k0 (by have := hf0.1 e; omega)) (by omega) k
    exact x_retM (x_retC1 rfl rfl (hasCell_bl has_auto rfl) (fun w H => ⟨rfl, H.tail.tail⟩))
  · rename_i k0 k1 k2 k
    obtain ⟨rfl, rfl, rfl⟩ := hfull (fun e => k0 (by have := hf0.1 e; omega)) (by omega) k2 k
    exact x_retM (x_retC1 rfl rfl (hasCell_bl has_auto rfl) (fun w H => ⟨rfl, Sel.st (.cons .hd (.cons (.tl (.tl .hd)) (.cons (.tl (.tl .hd)) .nil))) H⟩))
  · rename_i t2 t4 k0 k1 k2 k3 t6
    have hgo := hgo (fun e => k0 (by have := hf0.1 e; omega)) (by omega) k2 k3
    obtain ⟨q2, q1⟩ := q
    dsimp only
    have hcl : (chunks f).length = m := by rw [chunks_length, hfl, hm]
    have hcg : ∀ j, j < m → (chunks f).getD j [] = chunkB f j := fun j hj => chunks_get f (by rw [hfl, hm]; exact hj)
    generalize chunks f = cs at hgo hcl hcg
    have hm63 : m ≤ 4194304 := by omega
    refine w_range (m := m) (K := [Bl q1 3 [.int .i64 256], Bl q2 46 [.slice S n cap]])
      (fun i => [Bl t6 3 [.int .i64 ((A.pos + i : Nat) : Int)], AreaAt b p A, Bl t4 26 [.int .i64 0], Bl t2 78 [.pointer (some ⟨b, 0, none⟩)], Pure (∀ j, j < i → wrE D A.pos cs j = 0) (DiskAt p (wrTo D A.pos cs i)), J])
      [AreaAt b p A, Bl t4 26 [.int .i64 (writes D A.pos cs).1], Pure ((writes D A.pos cs).1 ≠ 0) (DiskAt p (writes D A.pos cs).2), J]
      (fun i => chunkV S n i) (fun i => [(7, chunkV S n i), (2, .pointer (some ⟨t2, 0, none⟩)), (4, .pointer (some ⟨t4, 0, none⟩)), (6, .pointer (some ⟨t6, 0, none⟩))])
      rfl (ev_tmp rfl) (by kernel_rfl) (fun l B' J' hr => chunk_iter hm.symm ⟨hnc, hcap⟩ hn l B' J' hr)
      (.cons (.tl (.tl .hd)) (.cons (.tl (.tl .hd)) (.cons (.tl (.tl .hd)) (.cons (.tl (.tl .hd)) (.imp (.tl (.tl .hd)) (fun h a => ⟨fun j hj => by omega, a⟩) (.cons (.tl (.tl .hd)) sel_all)))))) ?_ ?_ ?_ ?_
    · intro l i Rr hi
      (repeat' (first
      | (with_reducible refine is_yk ?_; refine yk_auto (k := ?_))
      | (with_reducible refine is_owk0 ?_; refine owk0_auto (k := ?_))
      | (with_reducible refine is_owkc ?_; refine owk_auto (k := fun _ => ?_))
      | refine go1 (k := ?_)
      | (refine go2 (ka := ?_) (kb := ?_) <;> intro _)
      | refine gg1 (k := ?_)
      | (refine gg2 (ka := ?_) (kb := ?_) <;> intro _)
      | fail))
      exact xg_pa sub_auto sel_auto
    · intro l i Rr hi
      refine wg_pure (.tl (.tl (.tl (.tl (.tl .hd))))) (fun hok => ?_)
      have hcr := chunk_reads hr hfl (j := i) (by omega) (by omega)
      have hcgi := hcg i hi
      have hcl' := chunkB_length f i
      rw [hfl] at hcl'
      rw [← hcgi] at hcr hcl'
      have hcV : chunkV S n i = .slice (S.map (·.add (256 * i * 1))) (min 256 (n - 256 * i)) (min 256 (n - 256 * i)) := rfl
      generalize chunkV S n i = cv at hcr
      have hEi : (wrTo D A.pos cs i).writeE ((A.pos + i : Nat) : Int) (cs.getD i []).length = wrE D A.pos cs i := rfl
      have hDi : (wrTo D A.pos cs i).write ((A.pos + i : Nat) : Int) (cs.getD i []) = wrTo D A.pos cs (i + 1) := rfl
      have hwi := wrTo_waits D A.pos cs i
      generalize cs.getD i [] = ch at hEi hDi hcr hcl'
      obtain ⟨Ei, hEi'⟩ : ∃ Ei, wrE D A.pos cs i = Ei := ⟨_, rfl⟩
      rw [hEi'] at hEi
      have hsum : ((A.pos + i : Nat) : Int) + 1 = ((A.pos + (i + 1) : Nat) : Int) := by omega
      (repeat' (first
      | ((with_reducible refine at_fn 30 ?_); with_reducible refine owk_c1 evs_auto (by kernel_rfl) pick_auto (fun w H => disk_write_is _ (by omega) (by omega) _ ch hEi hDi (HasR.bytes (hasR_tl (hasR_tl (hasR_tl (hasR_tl (hasR_tl hcr)))))) (by omega) H) ?_)
      | (with_reducible refine at_bin ?_; first | refine yk_eq (y_add64 (ev_tmp rfl) ev_const (by omega)) (congrArg _ hsum) ?_)
      | (with_reducible refine is_wg ?_; first | refine wg_plan (id := 13) (by first | exact wide0 | exact wideR _) [(0, true), (1, true), (2, true), (3, true), (4, true), (5, true), (6, false), (7, false)] [Bl t6 3 [.int .i64 ((A.pos + i : Nat) : Int)], AreaAt b p A, Bl t2 78 [.pointer (some ⟨b, 0, none⟩)]] (by kernel_rfl) (by kernel_rfl) (by kernel_rfl) sel_auto ?_)
      | (with_reducible refine is_yk ?_; refine yk_auto (k := ?_))
      | (with_reducible refine is_owk0 ?_; refine owk0_auto (k := ?_))
      | (with_reducible refine is_owkc ?_; refine owk_auto (k := fun _ => ?_))
      | refine go1 (k := ?_)
      | (refine go2 (ka := ?_) (kb := ?_) <;> intro _)
      | refine gg1 (k := ?_)
      | (refine gg2 (ka := ?_) (kb := ?_) <;> intro _)
      | fail))
      · rename_i k
        have hw := writes_bad cs D A.pos i (by omega) hok (by rw [hEi']; exact k)
        rw [hEi'] at hw
        rw [hw]
        refine xg_pbR (.cons (.tl .hd) (.cons (.tl (.tl .hd)) (.cons (.tl (.tl .hd)) (.imp .hd (fun h a => ⟨k, a⟩) (.cons (.tl (.tl .hd)) .nil)))))
      · rename_i k
        exact xg_pb (.cons (.tl .hd) (.cons (.tl .hd) (.cons (.tl .hd) (.cons (.tl .hd) (.cons (.tl .hd) (.imp .hd (fun h a => ⟨fun j hj => by
          rcases Nat.lt_or_eq_of_le (Nat.lt_succ_iff.1 hj) with h1 | rfl
          · exact hok j h1
          · rw [hEi']; omega, a⟩) sel_all))))))
    · intro D2
      refine xg_pure (.tl (.tl (.tl (.tl (.tl .hd))))) (fun hok => ?_)
      have hw := writes_ok cs D A.pos (by rw [hcl]; exact hok)
      rw [hcl] at hw
      rw [hw] at hgo
      obtain ⟨rfl, rfl, rfl⟩ := hgo
      (repeat' (first
      | (with_reducible refine is_yk ?_; refine yk_auto (k := ?_))
      | (with_reducible refine is_owk0 ?_; refine owk0_auto (k := ?_))
      | (with_reducible refine is_owkc ?_; refine owk_auto (k := fun _ => ?_))
      | refine go1 (k := ?_)
      | (refine go2 (ka := ?_) (kb := ?_) <;> intro _)
      | refine gg1 (k := ?_)
      | (refine gg2 (ka := ?_) (kb := ?_) <;> intro _)
      | fail))
      refine xg_sel (.cons (.tl .hd) sel_all) (xg_retC1 rfl rfl (hasCell_bl has_auto rfl) (fun w H => ⟨rfl, ?_⟩))
      exact Sel.st (.cons (.tl (.tl .hd)) (.cons .hd (.cons (.tl (.tl (.tl .hd))) .nil))) H
    · intro D2
      refine xg_pure (.tl (.tl (.tl .hd))) (fun hne => ?_)
      rw [if_neg hne] at hgo
      obtain ⟨rfl, rfl, rfl⟩ := hgo
      (repeat' (first
      | (with_reducible refine is_yk ?_; refine yk_auto (k := ?_))
      | (with_reducible refine is_owk0 ?_; refine owk0_auto (k := ?_))
      | (with_reducible refine is_owkc ?_; refine owk_auto (k := fun _ => ?_))
      | refine go1 (k := ?_)
      | (refine go2 (ka := ?_) (kb := ?_) <;> intro _)
      | refine gg1 (k := ?_)
      | (refine gg2 (ka := ?_) (kb := ?_) <;> intro _)
      | fail))
      refine xg_sel (.cons (.tl .hd) sel_all) (xg_retC1 rfl rfl (hasCell_bl has_auto rfl) (fun w H => ⟨rfl, ?_⟩))
      exact Sel.st (.cons (.tl .hd) (.cons .hd (.cons (.tl .hd) .nil))) H
end
end Go.Proofs.Ytakeilefbcpabaa

/- DiskSizes: the walk. -/
namespace Go.Proofs.Ytakeilefbcpabaa
open Go.RowKit
attribute [local irreducible] Y OW YK OWK W WL WP X CV Ev Evs HasCell HasCells Has Met Again Kept

theorem wf64 {n : Int} (h : (Lit.int .i64 n).wf = true) : -9223372036854775808 ≤ n ∧ n ≤ 9223372036854775807 := by
  simp [Lit.wf, IntKind.min, IntKind.max, IntKind.bits, IntKind.signed] at h
  omega
theorem new_length (n : Nat) : (DiskM.new n).now.length = n := by simp [DiskM.new]
theorem image_length {D : DiskM} (h : D.WF) : D.image.length = 256 * D.now.length := by
  have := secs_length h.now
  rw [secs, bvs_length] at this
  unfold DiskM.image; omega
set_option maxRecDepth 100000 in
set_option maxHeartbeats 2000000 in
theorem diskSizes_walk (n i : Int) (w : World) (hn : (Lit.int .i64 n).wf = true) (hi : (Lit.int .i64 i).wf = true) :
    Calls Try.prog 5 #[.int .i64 n, .int .i64 i] w fun e w' => e = .returned (.bool true) ∧ Below w.heap.size w w' := by
  obtain ⟨n0, n1⟩ := wf64 hn
  obtain ⟨i0, i1⟩ := wf64 hi
  clear hn hi
  have hl := new_length (clip n)
  obtain ⟨k, hk⟩ : ∃ k, k = clip n := ⟨_, rfl⟩
  have hk' : (k : Int) = if n < 0 then 0 else if 4096 < n then 4096 else n := by rw [hk]; unfold clip; split <;> (try split) <;> omega
  rw [← hk] at hl
  have hd : (DiskM.new k).down = false := rfl
  by_cases hr : (DiskM.new k).ready i = 0
  · obtain ⟨-, q1, q2⟩ := DiskM.ready_zero hr
    rw [hl] at q2
    refine calls_w (vs := [.int .i64 n, .int .i64 i]) Try.func5 rfl rfl rfl ?_ w (St.start w)
    (repeat' (first
      | ((with_reducible refine at_fn 26 ?_); with_reducible refine owk_c0s (f := 26) evs_auto (by kernel_rfl) (fun w H => alive11 H) ?_)
      | ((with_reducible refine at_fn 21 ?_); with_reducible refine owk_c0x (f := 21) evs_auto (by kernel_rfl) (fun w H => disk_new_is n n0 n1 hk H) (fun p => ?_))
      | ((with_reducible refine at_fn 27 ?_); with_reducible refine owk_c1x (f := 27) evs_auto (by kernel_rfl) pick_auto (fun w H => disk_read_is (D := DiskM.new k) i i1 hr rfl H) (fun p => ?_))
      | ((with_reducible refine at_fn 28 ?_); with_reducible refine owk_c1q (f := 28) evs_auto (by kernel_rfl) pick_auto (fun w H => disk_size_is hl H) ?_)
      | ((with_reducible refine at_fn 29 ?_); with_reducible refine owk_c1x (f := 29) evs_auto (by kernel_rfl) pick_auto (fun w H => disk_image_is (n := 256 * k) (by rw [hl]) H) (fun q => ?_))
      | (with_reducible refine is_yk ?_; refine yk_auto (k := ?_))
      | (with_reducible refine is_owk0 ?_; refine owk0_auto (k := ?_))
      | (with_reducible refine is_owkc ?_; refine owk_auto (k := fun _ => ?_))
      | refine go1 (k := ?_)
      | (refine go2 (ka := ?_) (kb := ?_) <;> intro _)
      | fail))
    all_goals exact x_ret1 rfl rfl (fun w H => ⟨rfl, (Sel.st (T := [Old _]) sel_auto H).toBelow'⟩)
  · have hE : (DiskM.new k).ready i = 1 := by
      unfold DiskM.ready at hr ⊢
      rw [hd] at hr ⊢
      simp only [Bool.false_eq_true, if_false] at hr ⊢
      by_cases h : i < 0 ∨ ((DiskM.new k).now.length : Int) ≤ i
      · rw [if_pos h]
      · rw [if_neg h] at hr; omega
    have q : i < 0 ∨ (k : Int) ≤ i := by
      unfold DiskM.ready at hE
      rw [hd, hl] at hE
      simp only [Bool.false_eq_true, if_false] at hE
      by_cases h : i < 0 ∨ (k : Int) ≤ i
      · exact h
      · rw [if_neg h] at hE; omega
    clear hr
    refine calls_w (vs := [.int .i64 n, .int .i64 i]) Try.func5 rfl rfl rfl ?_ w (St.start w)
    (repeat' (first
      | ((with_reducible refine at_fn 26 ?_); with_reducible refine owk_c0s (f := 26) evs_auto (by kernel_rfl) (fun w H => alive11 H) ?_)
      | ((with_reducible refine at_fn 21 ?_); with_reducible refine owk_c0x (f := 21) evs_auto (by kernel_rfl) (fun w H => disk_new_is n n0 n1 hk H) (fun p => ?_))
      | ((with_reducible refine at_fn 27 ?_); with_reducible refine owk_c1q (f := 27) evs_auto (by kernel_rfl) pick_auto (fun w H => disk_read_bad_is (D := DiskM.new k) i i0 i1 hE (by omega) H) ?_)
      | ((with_reducible refine at_fn 28 ?_); with_reducible refine owk_c1q (f := 28) evs_auto (by kernel_rfl) pick_auto (fun w H => disk_size_is hl H) ?_)
      | ((with_reducible refine at_fn 29 ?_); with_reducible refine owk_c1x (f := 29) evs_auto (by kernel_rfl) pick_auto (fun w H => disk_image_is (n := 256 * k) (by rw [hl]) H) (fun q => ?_))
      | (with_reducible refine is_yk ?_; refine yk_auto (k := ?_))
      | (with_reducible refine is_owk0 ?_; refine owk0_auto (k := ?_))
      | (with_reducible refine is_owkc ?_; refine owk_auto (k := fun _ => ?_))
      | refine go1 (k := ?_)
      | (refine go2 (ka := ?_) (kb := ?_) <;> intro _)
      | fail))
    all_goals exact x_ret1 rfl rfl (fun w H => ⟨rfl, (Sel.st (T := [Old _]) sel_auto H).toBelow'⟩)
end Go.Proofs.Ytakeilefbcpabaa

/- Package chain: Add on a disk whose power stays; the laws' alive. -/
namespace Go.Proofs.Ytakeilefbcpabaa
open Go.RowKit
theorem Stars.fold {F : List HP} {w : World} (X : List HP) {S : Nat → Prop} : Stars (X ++ F) S w ↔ Stars (X ++ [Join F]) S w :=
  ⟨Stars.append (fun _ h => Stars.join.2 (by rw [List.append_nil]; exact h)) X, Stars.append (fun _ h => by have := Stars.join.1 h; rwa [List.append_nil] at this) X⟩
theorem St.fold {c : Con} {F : List HP} {w : World} (X : List HP) : St c (X ++ F) w ↔ St c (X ++ [Join F]) w :=
  ⟨fun H => ⟨H.con, (Stars.fold X).1 H.stars⟩, fun H => ⟨H.con, (Stars.fold X).2 H.stars⟩⟩
theorem hasR_fold {c : Con} {F : List HP} {v : Value} {n : Nat} {cs : List Value} (h : HasR (St c F) v n cs) : HasR (St c [Join F]) v n cs := fun w H => h w ((St.fold (X := [])).2 H)
/-- A disk whose power is on, and stays. -/
structure Steady (D : DiskM) (n : Nat) (acts : Int) : Prop where
  down : D.down = false
  fuse : D.fuse = 0
  len : D.now.length = n
  acts : D.acts = acts
theorem Steady.goes {D : DiskM} {n : Nat} {a : Int} (h : Steady D n a) : D.goes = false := by simp [DiskM.goes, h.fuse]
theorem Steady.ready {D : DiskM} {n : Nat} {a : Int} (h : Steady D n a) {i : Int} (hi : 0 ≤ i ∧ i < n) : D.ready i = 0 := by
  unfold DiskM.ready
  rw [h.down, if_neg (by simp), if_neg (by rw [h.len]; omega)]
theorem Steady.writeE {D : DiskM} {n : Nat} {a : Int} (h : Steady D n a) {i : Int} (hi : 0 ≤ i ∧ i < n) {k : Nat} (hk : k ≤ 256) : D.writeE i k = 0 := by
  unfold DiskM.writeE
  rw [h.ready hi, if_neg (by simp), if_neg (by omega), h.goes]; rfl
theorem Steady.write_eq {D : DiskM} {n : Nat} {a : Int} (h : Steady D n a) {i : Int} (hi : 0 ≤ i ∧ i < n) {b : List UInt8} (hk : b.length ≤ 256) (ha : 0 ≤ a ∧ a < 4611686018427387904) :
    D.write i b = { D with now := D.now.set i.toNat (pad b), waits := D.waits ++ [(i.toNat, pad b)], acts := a + 1 } := by
  unfold DiskM.write
  rw [h.ready hi, if_neg (by simp), if_neg (by omega), h.goes, if_neg (by simp)]
  unfold DiskM.act
  rw [if_neg (by rw [h.down]; simp), h.fuse, if_pos rfl, h.acts]
  have : wrap64 (a + 1) = a + 1 := by unfold wrap64; omega
  rw [this]
  simp [DiskM.put, h.fuse]
theorem Steady.write {D : DiskM} {n : Nat} {a : Int} (h : Steady D n a) {i : Int} (hi : 0 ≤ i ∧ i < n) {b : List UInt8} (hk : b.length ≤ 256) (ha : 0 ≤ a ∧ a < 4611686018427387904) : Steady (D.write i b) n (a + 1) := by
  rw [h.write_eq hi hk ha]
  exact ⟨h.down, h.fuse, by simp [h.len], rfl⟩
theorem Steady.wrTo {D : DiskM} {n pos : Nat} {a : Int} (h : Steady D n a) {cs : List (List UInt8)} (hc : ∀ i, i < cs.length → (cs.getD i []).length ≤ 256) (hp : pos + cs.length ≤ n) (ha : 0 ≤ a ∧ a + cs.length < 4611686018427387904) :
    ∀ i, i ≤ cs.length → Steady (wrTo D pos cs i) n (a + i)
  | 0, _ => by
    have e : a + ((0 : Nat) : Int) = a := by omega
    rw [e]; exact h
  | i + 1, hi => by
    have h1 := Steady.wrTo h hc hp ha i (by omega)
    have h2 := h1.write (i := ((pos + i : Nat) : Int)) ⟨by omega, by omega⟩ (hc i (by omega)) (by omega)
    have e : a + ((i + 1 : Nat) : Int) = a + i + 1 := by omega
    rw [e]; exact h2
theorem Steady.wrE {D : DiskM} {n pos : Nat} {a : Int} (h : Steady D n a) {cs : List (List UInt8)} (hc : ∀ i, i < cs.length → (cs.getD i []).length ≤ 256) (hp : pos + cs.length ≤ n) (ha : 0 ≤ a ∧ a + cs.length < 4611686018427387904)
    {i : Nat} (hi : i < cs.length) : wrE D pos cs i = 0 := (h.wrTo hc hp ha i (by omega)).writeE ⟨by omega, by omega⟩ (hc i hi)
theorem chunks_le (f : List UInt8) (i : Nat) (hi : i < (chunks f).length) : ((chunks f).getD i []).length ≤ 256 := by
  rw [chunks_length] at hi
  rw [chunks_get f hi, chunkB_length]; omega
theorem leN_leB : ∀ k x, x < 256 ^ k → leN (leB k x) = x
  | 0, x, h => by simp [leB, leN]; omega
  | k + 1, x, h => by
    rw [leB, leN, leN_leB k (x / 256) (by rw [Nat.pow_succ] at h; omega), UInt8.toNat_ofNat']
    omega
theorem frame_take (s : List UInt8) : (frameB s).take 8 = leB 8 (max s.length 40 + 8) := by
  rw [frameB, List.append_assoc, List.take_left' (leB_length 8 _)]
theorem leInt_leB {x : Nat} (h : x < 9223372036854775808) : leInt (leB 8 x) = x := by
  rw [leInt, leN_leB 8 x (by have : (256 : Nat) ^ 8 = 18446744073709551616 := rfl; omega)]
  unfold wrap64; omega
theorem lengthM_frame (s : List UInt8) (hs : s.length ≤ 16376) : lengthM (frameB s) = ((frameB s).length : Int) := by
  have h1 := frameB_length s
  have h2 : leInt ((frameB s).take 8) = ((max s.length 40 + 8 : Nat) : Int) := by rw [frame_take, leInt_leB (by omega)]
  unfold lengthM inOk
  rw [h2, h1, if_pos]
  refine ⟨?_, Int.le_refl _⟩
  simp; omega
theorem frame_ne (s : List UInt8) : frameB s ≠ [] := fun h => by have := frameB_length s; rw [h] at this; simp at this
/-- There is room. -/
theorem addM_ok {D : DiskM} {A : AreaM} {f : List UInt8} {n m : Nat} {a : Int} (h : Steady D n a) (hf : f ≠ []) (hl : lengthM f = f.length) (hm : (f.length + 255) / 256 = m) (hr : A.pos + m ≤ A.hi) (hn : A.hi ≤ n) (ha : 0 ≤ a ∧ a + m < 4611686018427387904) :
    addM D A f = (0, { A with pos := A.pos + m }, wrTo D A.pos (chunks f) m) ∧ Steady (wrTo D A.pos (chunks f) m) n (a + m) := by
  have hcl : (chunks f).length = m := by rw [chunks_length, hm]
  have hw := writes_ok (chunks f) D A.pos (fun i hi => h.wrE (chunks_le f) (by omega) (by omega) hi)
  rw [hcl] at hw
  constructor
  · unfold addM
    rw [if_neg (by simp [hf, hl]), if_neg (by simp [h.down]), hm, if_neg (by omega), hw, if_pos rfl]
  · have := h.wrTo (pos := A.pos) (chunks_le f) (by omega) (by omega) m (by omega)
    exact this
theorem addM_full {D : DiskM} {A : AreaM} {f : List UInt8} {n : Nat} {a : Int} (h : Steady D n a) (hf : f ≠ []) (hl : lengthM f = f.length) (hr : (A.hi : Int) - A.pos < ((f.length + 255) / 256 : Nat)) : addM D A f = (7, A, D) := by
  unfold addM
  rw [if_neg (by simp [hf, hl]), if_neg (by simp [h.down]), if_pos hr]
theorem new_calm (n : Nat) : Steady (DiskM.new n) n 0 := ⟨rfl, rfl, by simp [DiskM.new], rfl⟩
attribute [local irreducible] Y OW YK OWK W WL WP X CV Ev Evs HasCell HasCells Has Met Again Kept
section
variable {c : Con} {F : List HP} {w : World} {p b : Nat} {D D' : DiskM} {A A' : AreaM}
theorem c_add {v : Value} {f : List UInt8} {n : Nat} {E : Int} (hA : addM D A f = (E, A', D')) (hr : HasR (St c F) v n (bvs f)) (hn : n ≤ 1073741824) (hb : A.hi ≤ 1073741824 ∧ A.pos ≤ 1073741824) (hwl : D.waits.length ≤ 536870912) (H : St c (AreaAt b p A :: DiskAt p D :: F) w) : Calls Try.prog 47 #[.pointer (some ⟨b, 0, none⟩), v] w fun e w' =>
    e = .returned (.int .i64 E) ∧ St c (AreaAt b p A' :: DiskAt p D' :: F) w' :=
  (c_add1 hA (hasR_fold hr) hn hb hwl ((St.fold [AreaAt b p A, DiskAt p D]).1 H)).mono fun _ _ h => ⟨h.1, (St.fold [AreaAt b p A', DiskAt p D']).2 h.2⟩

def xB : List UInt8 := [120]
abbrev kD0 : DiskM := DiskM.new 9
def kD1 : DiskM := wrTo kD0 0 (chunks (frameB xB)) 1
theorem kadd : addM kD0 ⟨0, 4, 0⟩ (frameB xB) = (0, ⟨0, 4, 1⟩, kD1) ∧ Steady kD1 9 1 := by
  have h := addM_ok (D := kD0) (A := halfA 9 0) (f := frameB xB) (n := 9) (m := 1) (a := 0) (new_calm 9) (frame_ne _) (lengthM_frame _ (by decide)) (by rw [frameB_length]; rfl) (by decide) (by decide) (by decide)
  exact h
set_option maxRecDepth 100000 in
theorem alive16 (H : St c F w) : Calls Try.prog 43 #[] w fun e w' => e = .returned (.bool true) ∧ St c F w' := by
  have h9 := new_length 9
  have hl : (frameB xB).length = 48 := by rw [frameB_length]; rfl
  have h9' := kadd.2.len
  have hxs : Value.string ⟨#[120]⟩ = str xB := rfl
  refine calls_w (vs := []) Try.func43 rfl rfl rfl ?_ w H
  (repeat' (first
      | ((with_reducible refine at_fn 21 ?_); with_reducible refine owk_c0x evs_auto (by kernel_rfl) (fun w H => disk_new_is 9 (by omega) (by omega) (k := 9) (by decide) H) (fun p => ?_))
      | ((with_reducible refine at_fn 44 ?_); with_reducible refine owk_c1x evs_auto (by kernel_rfl) pick_auto (fun w H => c_half (D := kD0) 0 (by omega) h9 (by omega) (R := ⟨0, 4, 0⟩) rfl H) (fun a => ?_))
      | ((with_reducible refine at_fn 44 ?_); with_reducible refine owk_c1x evs_auto (by kernel_rfl) pick_auto (fun w H => c_half (D := kD0) 3 (by omega) h9 (by omega) (R := ⟨4, 8, 4⟩) rfl H) (fun a => ?_))
      | ((with_reducible refine at_fn 45 ?_); with_reducible refine owk_c0x evs_auto (by kernel_rfl) (fun w H => framed_ref xB (by decide) hxs H) (fun q => ?_))
      | ((with_reducible refine at_fn 46 ?_); with_reducible refine owk_c1 evs_auto (by kernel_rfl) pick_auto (fun w H => c_left (A := ⟨0, 4, 0⟩) (n := 4) (by decide) (by decide) H) ?_)
      | ((with_reducible refine at_fn 46 ?_); with_reducible refine owk_c1 evs_auto (by kernel_rfl) pick_auto (fun w H => c_left (A := ⟨4, 8, 4⟩) (n := 4) (by decide) (by decide) H) ?_)
      | ((with_reducible refine at_fn 46 ?_); with_reducible refine owk_c1 evs_auto (by kernel_rfl) pick_auto (fun w H => c_left (A := ⟨0, 4, 1⟩) (n := 3) (by decide) (by decide) H) ?_)
      | ((with_reducible refine at_fn 47 ?_); with_reducible refine owk_c2 evs_auto (by kernel_rfl) pick_auto pick_auto (fun w H => c_add (f := frameB xB) (n := (frameB xB).length) kadd.1 rds_auto (by omega) (by decide) (by decide) H) ?_)
      | ((with_reducible refine at_fn 28 ?_); with_reducible refine owk_c1q evs_auto (by kernel_rfl) pick_auto (fun w H => disk_size_is h9' H) ?_)
      | (with_reducible refine is_yk ?_; refine yk_auto (k := ?_))
      | (with_reducible refine is_owk0 ?_; refine owk0_auto (k := ?_))
      | (with_reducible refine is_owkc ?_; refine owk_auto (k := fun _ => ?_))
      | refine go1 (k := ?_)
      | (refine go2 (ka := ?_) (kb := ?_) <;> intro _)
      | fail))
  exact x_ret1 rfl rfl (fun w H => ⟨rfl, Sel.st sel_auto H⟩)
end
end Go.Proofs.Ytakeilefbcpabaa

/- Package chain: Next. -/
namespace Go.Proofs.Ytakeilefbcpabaa
open Go.RowKit
/-- The first k sectors from pos on. -/
def accB (now : List Sec) (pos k : Nat) : List UInt8 := ((now.drop pos).take k).flatten
theorem accB_zero (now : List Sec) (pos : Nat) : accB now pos 0 = [] := by simp [accB]
theorem accB_succ {now : List Sec} {pos k : Nat} (h : pos + k < now.length) : accB now pos (k + 1) = accB now pos k ++ now[pos + k] := by
  unfold accB
  rw [List.take_succ_eq_append_getElem (by simp; omega), List.flatten_append]
  simp
theorem accB_length {now : List Sec} (hw : ∀ s ∈ now, s.length = 256) {pos : Nat} : ∀ {k : Nat}, pos + k ≤ now.length → (accB now pos k).length = 256 * k
  | 0, _ => by simp [accB]
  | k + 1, h => by rw [accB_succ (by omega), List.length_append, accB_length hw (by omega), hw _ (List.getElem_mem _)]; omega
theorem lengthM_nonneg (b : List UInt8) : 0 ≤ lengthM b ∧ lengthM b ≤ b.length := by
  unfold lengthM
  split
  · rename_i h
    refine ⟨?_, h.2⟩
    have := h.1
    simp [inOk] at this; omega
  · omega
attribute [local irreducible] Y OW YK OWK W WL WP X CV Ev Evs HasCell HasCells Has Met Again Kept
section
variable {c : Con} {F : List HP} {w : World} {p b : Nat} {D D' : DiskM} {A A' : AreaM}
theorem c_next_down (hd : D.down = true) (H : St c (AreaAt b p A :: DiskAt p D :: F) w) : Calls Try.prog 48 #[.pointer (some ⟨b, 0, none⟩)] w fun e w' =>
    e = .returned (.tuple #[.slice none 0 0, .int .i64 8]) ∧ St c (AreaAt b p A :: DiskAt p D :: F) w' := by
  refine calls_w (vs := [.pointer (some ⟨b, 0, none⟩)]) Try.func48 rfl rfl rfl ?_ w H
  (repeat' (first
      | ((with_reducible refine at_fn 40 ?_); with_reducible refine owk_c1q evs_auto (by kernel_rfl) pick_auto (fun w H => disk_downE hd H) ?_)
      | (with_reducible refine is_yk ?_; refine yk_auto (k := ?_))
      | (with_reducible refine is_owk0 ?_; refine owk0_auto (k := ?_))
      | (with_reducible refine is_owkc ?_; refine owk_auto (k := fun _ => ?_))
      | refine go1 (k := ?_)
      | (refine go2 (ka := ?_) (kb := ?_) <;> intro _)
      | fail))
  exact x_ret2 rfl rfl rfl (fun w H => ⟨rfl, H⟩)
set_option maxRecDepth 100000 in
set_option maxHeartbeats 2000000 in
theorem c_next {k lim : Nat} (hd : D.down = false) (hlim : min (A.hi - A.pos) 64 = lim) (hb : A.hi ≤ D.now.length) (hk : k ≤ lim) (hno : ∀ j, j < k → lengthM (accB D.now A.pos (j + 1)) = 0) (hend : k < lim → 0 < lengthM (accB D.now A.pos (k + 1)))
    (H : St c (AreaAt b p A :: DiskAt p D :: F) w) : Calls Try.prog 48 #[.pointer (some ⟨b, 0, none⟩)] w fun e w' =>
    (k < lim ∧ ∃ g : Nat, e = .returned (.tuple #[.slice (some ⟨g, 0, none⟩) (lengthM (accB D.now A.pos (k + 1))).toNat (lengthM (accB D.now A.pos (k + 1))).toNat, .int .i64 0]) ∧
      St c (BkP g ((accB D.now A.pos (k + 1)).take (lengthM (accB D.now A.pos (k + 1))).toNat) :: AreaAt b p { A with pos := A.pos + k + 1 } :: DiskAt p D :: F) w') ∨
    (k = lim ∧ e = .returned (.tuple #[.slice none 0 0, .int .i64 0]) ∧ St c (AreaAt b p A :: DiskAt p D :: F) w') := by
  have hwf := (St.openDisk (Sel.st (.cons (.tl .hd) (.cons .hd sel_all)) H)).1
  have hmost := hwf.most
  obtain ⟨n, hn⟩ : ∃ n, D.now.length = n := ⟨_, rfl⟩
  rw [hn] at hb hmost
  refine calls_w (vs := [.pointer (some ⟨b, 0, none⟩)]) Try.func48 rfl rfl rfl ?_ w H
  (repeat' (first
      | ((with_reducible refine at_fn 40 ?_); with_reducible refine owk_c1q evs_auto (by kernel_rfl) pick_auto (fun w H => disk_downE hd H) ?_)
      | (with_reducible refine is_yk ?_; refine yk_auto (k := ?_))
      | (with_reducible refine is_owk0 ?_; refine owk0_auto (k := ?_))
      | (with_reducible refine is_owkc ?_; refine owk_auto (k := fun _ => ?_))
      | refine go1 (k := ?_)
      | (refine go2 (ka := ?_) (kb := ?_) <;> intro _)
      | fail))
  refine w_loop (α := Nat × Option Addr × Nat) (fun x => x.1 ≤ k)
    (fun x => [(5, .int .i64 ((A.pos + x.1 : Nat) : Int)), (4, .slice x.2.1 (256 * x.1) x.2.2), (0, .pointer (some ⟨b, 0, none⟩))])
    (fun x => OwnP 5 1 (.slice x.2.1 (256 * x.1) x.2.2) (256 * x.1) (bvs (accB D.now A.pos x.1)) :: AreaAt b p A :: DiskAt p D :: F) (fun x => k - x.1) (0, none, 0) (Nat.zero_le _) sub_auto (.own0 sel_all) (fun x hx => ?_)
  obtain ⟨i, S, cap⟩ := x
  dsimp only at hx ⊢
  by_cases hil : i < lim
  · have hin : A.pos + i < n := by omega
    have hacc := accB_succ (now := D.now) (pos := A.pos) (k := i) (by omega)
    have hlen := accB_length hwf.now (pos := A.pos) (k := i) (by omega)
    have hlen' := accB_length hwf.now (pos := A.pos) (k := i + 1) (by omega)
    have hsl : (D.now[A.pos + i]'(by omega)).length = 256 := hwf.now _ (List.getElem_mem _)
    have hgd : D.now.getD (((A.pos + i : Nat) : Int)).toNat [] = D.now[A.pos + i]'(by omega) := by
      rw [Int.toNat_natCast, List.getD_eq_getElem?_getD, List.getElem?_eq_getElem (by omega)]; rfl
    have hready : D.ready ((A.pos + i : Nat) : Int) = 0 := by
      unfold DiskM.ready
      rw [hd, if_neg (by simp), if_neg (by omega)]
    generalize D.now[A.pos + i]'(by omega) = s at hacc hsl hgd
    have hbl : (bvs s).length = 256 := by rw [bvs_length, hsl]
    have hone := bvs_oneCell s
    have hcat : bvs (accB D.now A.pos i) ++ bvs s = bvs (accB D.now A.pos (i + 1)) := by rw [hacc, bvs_append]
    obtain ⟨m, hm⟩ : ∃ m, 256 * (i + 1) = m := ⟨_, rfl⟩
    have hmm : 256 * i + 256 = m := by omega
    have hm0 : 0 < m ∧ m ≤ 16384 := by omega
    obtain ⟨f, hf⟩ : ∃ f, accB D.now A.pos (i + 1) = f := ⟨_, rfl⟩
    rw [hf] at hcat hlen'
    rw [hm] at hlen'
    have hsucc : ((A.pos + i : Nat) : Int) + 1 = ((A.pos + (i + 1) : Nat) : Int) := by omega
    by_cases hik : i < k
    · have hL := hno i hik
      rw [hf] at hL
      (repeat' (first
      | ((with_reducible refine at_fn 27 ?_); with_reducible refine owk_c1x evs_auto (by kernel_rfl) pick_auto (fun w H => disk_read_is _ (by omega) hready hgd H) (fun v => ?_))
      | ((with_reducible refine at_fn 65 ?_); with_reducible refine owk_c0s evs_auto (by kernel_rfl) (fun w H => seg_length rfl hL q.hasR (by omega) H) ?_)
      | (with_reducible refine is_owkc ?_; first | refine owk (ow_opened hm0.1 (ow_appendR (ev_tmp rfl) (ev_tmp rfl) rds_auto hone hmm hcat (by omega) pick_auto)) (fun q => ?_))
      | (with_reducible refine at_bin ?_; first | refine yk_eq (y_add64 (ev_tmp rfl) ev_const (by omega)) (congrArg _ hsucc) ?_)
      | (with_reducible refine is_yk ?_; refine yk_auto (k := ?_))
      | (with_reducible refine is_owk0 ?_; refine owk0_auto (k := ?_))
      | (with_reducible refine is_owkc ?_; refine owk_auto (k := fun _ => ?_))
      | refine go1 (k := ?_)
      | (refine go2 (ka := ?_) (kb := ?_) <;> intro _)
      | fail))
      exact x_again (i + 1, some ⟨q.g, 0, none⟩, q.cap) (by show i + 1 ≤ k; omega) (by show k - (i + 1) < k - i; omega) (by dsimp only; rw [hm]; exact sub_auto)
        (by dsimp only; rw [hm, hf]; exact .imp .hd q.shut (.cons (.tl (.tl .hd)) (.cons (.tl .hd) (.tl sel_all))))
    · obtain rfl : i = k := by omega
      obtain ⟨L0, hL0⟩ : ∃ L0, lengthM f = L0 := ⟨_, rfl⟩
      have hL1 := hend hil
      have hL2 := (lengthM_nonneg f).2
      rw [hf, hL0] at hL1
      rw [hL0, hlen'] at hL2
      obtain ⟨n0, rfl⟩ : ∃ n0 : Nat, L0 = n0 := ⟨L0.toNat, by omega⟩
      have hpos : ((A.pos + i : Nat) : Int) + 1 = ((A.pos + i + 1 : Nat) : Int) := by omega
      have hn0m : n0 ≤ m := by omega
      (repeat' (first
      | ((with_reducible refine at_fn 27 ?_); with_reducible refine owk_c1x evs_auto (by kernel_rfl) pick_auto (fun w H => disk_read_is _ (by omega) hready hgd H) (fun v => ?_))
      | ((with_reducible refine at_fn 65 ?_); with_reducible refine owk_c0s evs_auto (by kernel_rfl) (fun w H => seg_length rfl hL0 q.hasR (by omega) H) ?_)
      | (with_reducible refine is_owkc ?_; first | refine owk (ow_opened hm0.1 (ow_appendR (ev_tmp rfl) (ev_tmp rfl) rds_auto hone hmm hcat (by omega) pick_auto)) (fun q => ?_))
      | (with_reducible refine at_bin ?_; first | refine yk_eq (y_add64 (ev_tmp rfl) ev_const (by omega)) (congrArg _ hpos) ?_)
      | (with_reducible refine at_slice ?_; first | refine yk (y_slice3h (ev_tmp rfl) (ev_tmp rfl) (ev_tmp rfl) (OB.le q hn0m)) ?_)
      | (with_reducible refine is_yk ?_; refine yk_auto (k := ?_))
      | (with_reducible refine is_owk0 ?_; refine owk0_auto (k := ?_))
      | (with_reducible refine is_owkc ?_; refine owk_auto (k := fun _ => ?_))
      | refine go1 (k := ?_)
      | (refine go2 (ka := ?_) (kb := ?_) <;> intro _)
      | fail))

      refine x_ret2 rfl rfl rfl (fun w H => .inl ⟨hil, q.g, ?_, ?_⟩)
      · rw [hf, hL0]; rfl
      · refine Sel.st (.imp .hd (fun h hb => .inr ⟨_, _, _, hb, ?_⟩) (.cons (.tl (.tl .hd)) (.cons (.tl .hd) (.tl sel_all)))) H
        rw [hf, hL0, Int.toNat_natCast, List.length_take, hlen', Nat.min_eq_left hn0m]
        have h1 := congrArg (List.take n0) q.take1
        rw [List.take_take, Nat.min_eq_left hn0m] at h1
        have h2 : List.take n0 (bvs f) = bvs (f.take n0) := by simp [bvs, List.map_take]
        rw [h2] at h1
        exact h1
  · obtain rfl : i = k := by omega
    obtain rfl : i = lim := by omega
    by_cases h64 : A.pos + i < A.hi
    · have h65 : ¬ (((A.pos + i : Nat) : Int) - A.pos < 64) := by omega
      (repeat' (first
      | (with_reducible refine is_yk ?_; refine yk_auto (k := ?_))
      | (with_reducible refine is_owk0 ?_; refine owk0_auto (k := ?_))
      | (with_reducible refine is_owkc ?_; refine owk_auto (k := fun _ => ?_))
      | refine go1 (k := ?_)
      | (refine go2 (ka := ?_) (kb := ?_) <;> intro _)
      | fail))
      exact x_ret2 rfl rfl rfl (fun w H => .inr ⟨rfl, rfl, Sel.st (.tl sel_all) H⟩)
    · (repeat' (first
      | (with_reducible refine is_yk ?_; refine yk_auto (k := ?_))
      | (with_reducible refine is_owk0 ?_; refine owk0_auto (k := ?_))
      | (with_reducible refine is_owkc ?_; refine owk_auto (k := fun _ => ?_))
      | refine go1 (k := ?_)
      | (refine go2 (ka := ?_) (kb := ?_) <;> intro _)
      | fail))
      exact x_ret2 rfl rfl rfl (fun w H => .inr ⟨rfl, rfl, Sel.st (.tl sel_all) H⟩)
end
end Go.Proofs.Ytakeilefbcpabaa

/- The reference's reader of bytes: Take, Num, In; the length of a frame. -/
namespace Go.Proofs.Ytakeilefbcpabaa
open Go.RowKit
def RRd (r : Nat) : Option (List UInt8) → HP
  | some l => Bl r 127 [str l, .bool false]
  | none => Bl r 127 [str [], .bool true]
attribute [local irreducible] Y OW YK OWK W WL WP X CV Ev Evs HasCell HasCells Has Met Again Kept
section
variable {c : Con} {F : List HP} {w : World} {r : Nat}
theorem rr_take_ok {l a b : List UInt8} {n : Nat} {k : Int} (hl : l = a ++ b) (hn : a.length = n) (hk : (n : Int) = k) (H : St c (RRd r (some l) :: F) w) : Calls Try.prog 73 #[.pointer (some ⟨r, 0, none⟩), .int .i64 k] w fun e w' =>
    e = .returned (.tuple #[str a, .bool true]) ∧ St c (RRd r (some b) :: F) w' := by
  subst hk
  replace H : St c (Bl r 127 [str l, .bool false] :: F) w := H
  have h1 : l.take n = a := by rw [hl, ← hn, List.take_left]
  have h2 : l.drop n = b := by rw [hl, ← hn, List.drop_left]
  have hle : n ≤ l.length := by rw [hl, List.length_append]; omega
  have e1 := congrArg str h1
  have e2 := congrArg str h2
  refine calls_w (vs := [.pointer (some ⟨r, 0, none⟩), .int .i64 n]) Try.func73 rfl rfl rfl ?_ w H
  (repeat' (first
      | (with_reducible refine at_slice ?_; first | refine yk_eq (y_sliceStrHi (ev_tmp rfl) (ev_tmp rfl) (by omega)) e1 ?_ | refine yk_eq (y_sliceStrLo (ev_tmp rfl) (ev_tmp rfl) (by omega)) e2 ?_)
      | (with_reducible refine is_yk ?_; refine yk_auto (k := ?_))
      | (with_reducible refine is_owk0 ?_; refine owk0_auto (k := ?_))
      | (with_reducible refine is_owkc ?_; refine owk_auto (k := fun _ => ?_))
      | refine go1 (k := ?_)
      | (refine go2 (ka := ?_) (kb := ?_) <;> intro _)
      | fail))
  exact x_ret2 rfl rfl rfl (fun w H => ⟨rfl, H⟩)
theorem rr_take_bad {R : Option (List UInt8)} {n : Int} (hn : ∀ l, R = some l → n < 0 ∨ (l.length : Int) < n) (H : St c (RRd r R :: F) w) : Calls Try.prog 73 #[.pointer (some ⟨r, 0, none⟩), .int .i64 n] w fun e w' =>
    e = .returned (.tuple #[str [], .bool false]) ∧ St c (RRd r none :: F) w' := by
  have hs : Value.string ⟨#[]⟩ = str [] := rfl
  cases R with
  | none =>
    replace H : St c (Bl r 127 [str [], .bool true] :: F) w := H
    refine calls_w (vs := [.pointer (some ⟨r, 0, none⟩), .int .i64 n]) Try.func73 rfl rfl rfl ?_ w H
    (repeat' (first
      | (with_reducible refine is_yk ?_; refine yk_auto (k := ?_))
      | (with_reducible refine is_owk0 ?_; refine owk0_auto (k := ?_))
      | (with_reducible refine is_owkc ?_; refine owk_auto (k := fun _ => ?_))
      | refine go1 (k := ?_)
      | (refine go2 (ka := ?_) (kb := ?_) <;> intro _)
      | fail))
    exact x_ret2 rfl rfl rfl (fun w H => ⟨rfl, H⟩)
  | some l =>
    have hn := hn l rfl
    replace H : St c (Bl r 127 [str l, .bool false] :: F) w := H
    refine calls_w (vs := [.pointer (some ⟨r, 0, none⟩), .int .i64 n]) Try.func73 rfl rfl rfl ?_ w H
    by_cases h0 : n < 0
    · (repeat' (first
      | (with_reducible refine is_yk ?_; refine yk_auto (k := ?_))
      | (with_reducible refine is_owk0 ?_; refine owk0_auto (k := ?_))
      | (with_reducible refine is_owkc ?_; refine owk_auto (k := fun _ => ?_))
      | refine go1 (k := ?_)
      | (refine go2 (ka := ?_) (kb := ?_) <;> intro _)
      | fail))
      exact x_ret2 rfl rfl rfl (fun w H => ⟨rfl, H⟩)
    · have h1 : (l.length : Int) < n := by omega
      (repeat' (first
      | (with_reducible refine is_yk ?_; refine yk_auto (k := ?_))
      | (with_reducible refine is_owk0 ?_; refine owk0_auto (k := ?_))
      | (with_reducible refine is_owkc ?_; refine owk_auto (k := fun _ => ?_))
      | refine go1 (k := ?_)
      | (refine go2 (ka := ?_) (kb := ?_) <;> intro _)
      | fail))
      exact x_ret2 rfl rfl rfl (fun w H => ⟨rfl, H⟩)
theorem rr_num_bad {R : Option (List UInt8)} (hn : ∀ l, R = some l → l.length < 8) (H : St c (RRd r R :: F) w) : Calls Try.prog 72 #[.pointer (some ⟨r, 0, none⟩)] w fun e w' =>
    e = .returned (.int .i64 0) ∧ St c (RRd r none :: F) w' := by
  refine calls_w (vs := [.pointer (some ⟨r, 0, none⟩)]) Try.func72 rfl rfl rfl ?_ w H
  (repeat' (first
      | ((with_reducible refine at_fn 73 ?_); with_reducible refine owk_c1 evs_auto (by kernel_rfl) pick_auto (fun w H => rr_take_bad (n := 8) (fun l e => by have := hn l e; omega) H) ?_)
      | (with_reducible refine is_yk ?_; refine yk_auto (k := ?_))
      | (with_reducible refine is_owk0 ?_; refine owk0_auto (k := ?_))
      | (with_reducible refine is_owkc ?_; refine owk_auto (k := fun _ => ?_))
      | refine go1 (k := ?_)
      | (refine go2 (ka := ?_) (kb := ?_) <;> intro _)
      | fail))
  refine w_loop (α := Unit) (fun _ => True) (fun _ => [(6, .int .i64 7), (5, .int .u64 0), (4, .bool false)]) (fun _ => RRd r none :: F) (fun _ => 0) () trivial sub_auto sel_auto (fun _ _ => ?_)
  (repeat' (first
      | (with_reducible refine is_yk ?_; refine yk_auto (k := ?_))
      | (with_reducible refine is_owk0 ?_; refine owk0_auto (k := ?_))
      | (with_reducible refine is_owkc ?_; refine owk_auto (k := fun _ => ?_))
      | refine go1 (k := ?_)
      | (refine go2 (ka := ?_) (kb := ?_) <;> intro _)
      | fail))
  exact x_ret1 rfl rfl (fun w H => ⟨rfl, H⟩)
set_option maxRecDepth 100000 in
theorem rr_num_ok {l a b : List UInt8} (hl : l = a ++ b) (ha : a.length = 8) (H : St c (RRd r (some l) :: F) w) : Calls Try.prog 72 #[.pointer (some ⟨r, 0, none⟩)] w fun e w' =>
    e = .returned (.int .i64 (leInt a)) ∧ St c (RRd r (some b) :: F) w' := by
  refine calls_w (vs := [.pointer (some ⟨r, 0, none⟩)]) Try.func72 rfl rfl rfl ?_ w H
  (repeat' (first
      | ((with_reducible refine at_fn 73 ?_); with_reducible refine owk_c1 evs_auto (by kernel_rfl) pick_auto (fun w H => rr_take_ok (n := 8) hl ha (by omega) H) ?_)
      | (with_reducible refine is_yk ?_; refine yk_auto (k := ?_))
      | (with_reducible refine is_owk0 ?_; refine owk0_auto (k := ?_))
      | (with_reducible refine is_owkc ?_; refine owk_auto (k := fun _ => ?_))
      | refine go1 (k := ?_)
      | (refine go2 (ka := ?_) (kb := ?_) <;> intro _)
      | fail))
  refine w_loop (α := Nat) (fun j => j ≤ 8) (fun j => [(6, .int .i64 ((j : Int) - 1)), (5, .int .u64 ((leN (a.drop j) : Nat) : Int)), (4, .bool true), (3, str a)]) (fun _ => RRd r (some b) :: F) (fun j => j) 8 (Nat.le_refl _)
    (sub_cons rfl (sub_cons (by rw [List.drop_of_length_le (by omega)]; rfl) sub_auto)) sel_auto (fun j hj => ?_)
  by_cases h0 : 0 < j
  · obtain ⟨i, rfl⟩ : ∃ i, j = i + 1 := ⟨j - 1, by omega⟩
    have hil : i < a.length := by omega
    have hai := List.getElem?_eq_getElem hil
    have hb := a[i].toNat_lt
    have hd : leN (a.drop i) = a[i].toNat + 256 * leN (a.drop (i + 1)) := by rw [List.drop_eq_getElem_cons hil, leN]
    have hlt := leN_lt (a.drop (i + 1))
    rw [List.length_drop, ha] at hlt
    have h64 : (256 : Nat) ^ (8 - (i + 1)) ≤ 256 ^ 7 := Nat.pow_le_pow_right (by omega) (by omega)
    have h7 : (256 : Nat) ^ 7 = 72057594037927936 := rfl
    generalize a[i] = y at hai hb hd
    generalize leN (a.drop (i + 1)) = x at hlt hd ⊢
    obtain ⟨x', hx'⟩ : ∃ x', leN (a.drop i) = x' := ⟨_, rfl⟩
    rw [hx'] at hd
    have k0 : (((i + 1 : Nat) : Int) - 1) = (i : Int) := by omega
    have k1 : IntKind.u64.wrap (y.toNat : Int) = y.toNat := by show (y.toNat : Int) % 18446744073709551616 = _; omega
    have k2 : IntKind.u64.wrap ((x : Int) * 256) = ((x * 256 : Nat) : Int) := by show ((x : Int) * 256) % 18446744073709551616 = _; omega
    have k3 : IntKind.u64.wrap (((x * 256 : Nat) : Int) + (y.toNat : Int)) = (x' : Int) := by show (((x * 256 : Nat) : Int) + (y.toNat : Int)) % 18446744073709551616 = _; omega
    rw [k0]
    (repeat' (first
      | (with_reducible refine at_conv ?_; first | refine yk_eq (y_conv_int (ev_tmp rfl)) (congrArg _ k1) ?_)
      | (with_reducible refine at_bin ?_; first | refine yk_eq (y_mul (ev_tmp rfl) ev_const) (congrArg _ k2) ?_ | refine yk_eq (y_add (ev_tmp rfl) (ev_tmp rfl)) (congrArg _ k3) ?_)
      | (with_reducible refine is_yk ?_; first | refine yk (y_indexStr (ev_tmp rfl) (ev_tmp rfl) rfl hai) ?_)
      | (with_reducible refine is_yk ?_; refine yk_auto (k := ?_))
      | (with_reducible refine is_owk0 ?_; refine owk0_auto (k := ?_))
      | (with_reducible refine is_owkc ?_; refine owk_auto (k := fun _ => ?_))
      | refine go1 (k := ?_)
      | (refine go2 (ka := ?_) (kb := ?_) <;> intro _)
      | fail))
    exact x_again i (by show i ≤ 8; omega) (by show i < i + 1; omega) (by rw [hx']; exact sub_auto) sel_auto
  · obtain rfl : j = 0 := by omega
    have k4 : IntKind.i64.wrap (leN (a.drop 0) : Int) = leInt a := by rw [leInt, IntWalk.i64_left, List.drop_zero]
    (repeat' (first
      | (with_reducible refine at_conv ?_; first | refine yk_eq (y_conv_int (ev_tmp rfl)) (congrArg _ k4) ?_)
      | (with_reducible refine is_yk ?_; refine yk_auto (k := ?_))
      | (with_reducible refine is_owk0 ?_; refine owk0_auto (k := ?_))
      | (with_reducible refine is_owkc ?_; refine owk_auto (k := fun _ => ?_))
      | refine go1 (k := ?_)
      | (refine go2 (ka := ?_) (kb := ?_) <;> intro _)
      | fail))
    exact x_ret1 rfl rfl (fun w H => ⟨rfl, H⟩)
theorem rr_in_ok {l a b : List UInt8} {lo hi n : Int} (hl : l = a ++ b) (ha : a.length = 8) (hv : leInt a = n) (h1 : lo ≤ n ∧ n ≤ hi) (H : St c (RRd r (some l) :: F) w) : Calls Try.prog 67 #[.pointer (some ⟨r, 0, none⟩), .int .i64 lo, .int .i64 hi] w fun e w' =>
    e = .returned (.int .i64 n) ∧ St c (RRd r (some b) :: F) w' := by
  subst hv
  have hN : ∀ {w : World}, St c (RRd r (some l) :: F) w → Calls Try.prog 72 #[.pointer (some ⟨r, 0, none⟩)] w fun e w' => e = .returned (.int .i64 (leInt a)) ∧ St c (Bl r 127 [str b, .bool false] :: F) w' := fun H => rr_num_ok hl ha H
  refine calls_w (vs := [.pointer (some ⟨r, 0, none⟩), .int .i64 lo, .int .i64 hi]) Try.func67 rfl rfl rfl ?_ w H
  (repeat' (first
      | ((with_reducible refine at_fn 72 ?_); with_reducible refine owk_c1 evs_auto (by kernel_rfl) pick_auto (fun w H => hN H) ?_)
      | (with_reducible refine is_yk ?_; refine yk_auto (k := ?_))
      | (with_reducible refine is_owk0 ?_; refine owk0_auto (k := ?_))
      | (with_reducible refine is_owkc ?_; refine owk_auto (k := fun _ => ?_))
      | refine go1 (k := ?_)
      | (refine go2 (ka := ?_) (kb := ?_) <;> intro _)
      | fail))
  exact x_ret1 rfl rfl (fun w H => ⟨rfl, H⟩)
theorem rr_in_bad {R : Option (List UInt8)} {lo hi : Int} (hb : inOk lo hi R = false) (H : St c (RRd r R :: F) w) : Calls Try.prog 67 #[.pointer (some ⟨r, 0, none⟩), .int .i64 lo, .int .i64 hi] w fun e w' =>
    e = .returned (.int .i64 0) ∧ St c (RRd r none :: F) w' := by
  have hT : ∀ {R : Option (List UInt8)} {w : World}, St c (RRd r R :: F) w → Calls Try.prog 73 #[.pointer (some ⟨r, 0, none⟩), .int .i64 (-1)] w fun e w' => e = .returned (.tuple #[str [], .bool false]) ∧ St c (RRd r none :: F) w' := fun H => rr_take_bad (fun l e => by omega) H
  refine calls_w (vs := [.pointer (some ⟨r, 0, none⟩), .int .i64 lo, .int .i64 hi]) Try.func67 rfl rfl rfl ?_ w H
  by_cases h8 : ∃ l, R = some l ∧ 8 ≤ l.length
  · obtain ⟨l, rfl, h8⟩ := h8
    have hl : l = l.take 8 ++ l.drop 8 := (List.take_append_drop 8 l).symm
    have ha : (l.take 8).length = 8 := by simp; omega
    obtain ⟨n, hn⟩ : ∃ n, leInt (l.take 8) = n := ⟨_, rfl⟩
    have hbad : ¬ (lo ≤ n ∧ n ≤ hi) := by
      rintro ⟨h1, h2⟩
      simp [inOk, h8, hn, h1, h2] at hb
    have hN : ∀ {w : World}, St c (RRd r (some l) :: F) w → Calls Try.prog 72 #[.pointer (some ⟨r, 0, none⟩)] w fun e w' => e = .returned (.int .i64 n) ∧ St c (Bl r 127 [str (l.drop 8), .bool false] :: F) w' := fun H => by have := rr_num_ok hl ha H; rw [hn] at this; exact this
    have hT : ∀ {w : World}, St c (Bl r 127 [str (l.drop 8), .bool false] :: F) w → Calls Try.prog 73 #[.pointer (some ⟨r, 0, none⟩), .int .i64 (-1)] w fun e w' => e = .returned (.tuple #[str [], .bool false]) ∧ St c (RRd r none :: F) w' := fun H => hT (R := some (l.drop 8)) H
    by_cases h1 : n < lo
    · (repeat' (first
      | ((with_reducible refine at_fn 72 ?_); with_reducible refine owk_c1 evs_auto (by kernel_rfl) pick_auto (fun w H => hN H) ?_)
      | ((with_reducible refine at_fn 73 ?_); with_reducible refine owk_c1 evs_auto (by kernel_rfl) pick_auto (fun w H => hT H) ?_)
      | (with_reducible refine is_yk ?_; refine yk_auto (k := ?_))
      | (with_reducible refine is_owk0 ?_; refine owk0_auto (k := ?_))
      | (with_reducible refine is_owkc ?_; refine owk_auto (k := fun _ => ?_))
      | refine go1 (k := ?_)
      | (refine go2 (ka := ?_) (kb := ?_) <;> intro _)
      | fail))
      exact x_ret1 rfl rfl (fun w H => ⟨rfl, H⟩)
    · have h2 : hi < n := by omega
      (repeat' (first
      | ((with_reducible refine at_fn 72 ?_); with_reducible refine owk_c1 evs_auto (by kernel_rfl) pick_auto (fun w H => hN H) ?_)
      | ((with_reducible refine at_fn 73 ?_); with_reducible refine owk_c1 evs_auto (by kernel_rfl) pick_auto (fun w H => hT H) ?_)
      | (with_reducible refine is_yk ?_; refine yk_auto (k := ?_))
      | (with_reducible refine is_owk0 ?_; refine owk0_auto (k := ?_))
      | (with_reducible refine is_owkc ?_; refine owk_auto (k := fun _ => ?_))
      | refine go1 (k := ?_)
      | (refine go2 (ka := ?_) (kb := ?_) <;> intro _)
      | fail))
      exact x_ret1 rfl rfl (fun w H => ⟨rfl, H⟩)
  · have hn : ∀ l, R = some l → l.length < 8 := fun l e => Nat.lt_of_not_le fun k => h8 ⟨l, e, k⟩
    have hN : ∀ {w : World}, St c (RRd r R :: F) w → Calls Try.prog 72 #[.pointer (some ⟨r, 0, none⟩)] w fun e w' => e = .returned (.int .i64 0) ∧ St c (Bl r 127 [str [], .bool true] :: F) w' := fun H => rr_num_bad hn H
    have hT : ∀ {w : World}, St c (Bl r 127 [str [], .bool true] :: F) w → Calls Try.prog 73 #[.pointer (some ⟨r, 0, none⟩), .int .i64 (-1)] w fun e w' => e = .returned (.tuple #[str [], .bool false]) ∧ St c (RRd r none :: F) w' := fun H => hT (R := none) H
    (repeat' (first
      | ((with_reducible refine at_fn 72 ?_); with_reducible refine owk_c1 evs_auto (by kernel_rfl) pick_auto (fun w H => hN H) ?_)
      | ((with_reducible refine at_fn 73 ?_); with_reducible refine owk_c1 evs_auto (by kernel_rfl) pick_auto (fun w H => hT H) ?_)
      | (with_reducible refine is_yk ?_; refine yk_auto (k := ?_))
      | (with_reducible refine is_owk0 ?_; refine owk0_auto (k := ?_))
      | (with_reducible refine is_owkc ?_; refine owk_auto (k := fun _ => ?_))
      | refine go1 (k := ?_)
      | (refine go2 (ka := ?_) (kb := ?_) <;> intro _)
      | fail))
    exact x_ret1 rfl rfl (fun w H => ⟨rfl, H⟩)
/-- The reference's length of a frame. -/
theorem ref_length {D : List UInt8} {E : Int} (hE : lengthM D = E) (H : St c F w) : Calls Try.prog 49 #[str D] w fun e w' => e = .returned (.int .i64 E) ∧ St c F w' := by
  subst hE
  refine calls_w (vs := [str D]) Try.func49 rfl rfl rfl ?_ w H
  have hI : ∀ {r : Nat} {E : Int} {R : Option (List UInt8)}, (∀ {w : World}, St c (RRd r (some D) :: F) w → Calls Try.prog 67 #[.pointer (some ⟨r, 0, none⟩), .int .i64 48, .int .i64 16384] w fun e w' => e = .returned (.int .i64 E) ∧ St c (RRd r R :: F) w') →
      ∀ {w : World}, St c (Bl r 127 [str D, .bool false] :: F) w → Calls Try.prog 67 #[.pointer (some ⟨r, 0, none⟩), .int .i64 48, .int .i64 16384] w fun e w' => e = .returned (.int .i64 E) ∧ St c (RRd r R :: F) w' := fun {_ _ _} h {_} H => h H
  have hbuild : Value.agg ([str [], .bool false].set 0 (str D)).toArray = .agg [str D, .bool false].toArray := rfl
  cases hb : inOk 48 16384 (some D)
  · have hl : lengthM D = 0 := by simp [lengthM, hb]
    rw [hl]
    (repeat' (first
      | ((with_reducible refine at_fn 67 ?_); with_reducible refine owk_c1 evs_auto (by kernel_rfl) pick_auto (fun w H => hI (fun H => rr_in_bad hb H) H) ?_)
      | (with_reducible refine at_build ?_; first | refine yk_eq (y_build lay_auto) hbuild ?_)
      | (with_reducible refine is_yk ?_; refine yk_auto (k := ?_))
      | (with_reducible refine is_owk0 ?_; refine owk0_auto (k := ?_))
      | (with_reducible refine is_owkc ?_; refine owk_auto (k := fun _ => ?_))
      | refine go1 (k := ?_)
      | (refine go2 (ka := ?_) (kb := ?_) <;> intro _)
      | fail))
    exact x_ret1 rfl rfl (fun w H => ⟨rfl, H.tail⟩)
  · have h8 : 8 ≤ D.length ∧ 48 ≤ leInt (D.take 8) ∧ leInt (D.take 8) ≤ 16384 := by simp [inOk] at hb; omega
    have hl : D = D.take 8 ++ D.drop 8 := (List.take_append_drop 8 D).symm
    have ha : (D.take 8).length = 8 := by simp; omega
    obtain ⟨m, hm⟩ : ∃ m, leInt (D.take 8) = m := ⟨_, rfl⟩
    have hlm : lengthM D = if m ≤ (D.length : Int) then m else 0 := by simp [lengthM, hb, hm]
    rw [hlm]
    rw [hm] at h8
    (repeat' (first
      | ((with_reducible refine at_fn 67 ?_); with_reducible refine owk_c1 evs_auto (by kernel_rfl) pick_auto (fun w H => hI (fun H => rr_in_ok hl ha hm h8.2 H) H) ?_)
      | (with_reducible refine at_build ?_; first | refine yk_eq (y_build lay_auto) hbuild ?_)
      | (with_reducible refine is_yk ?_; refine yk_auto (k := ?_))
      | (with_reducible refine is_owk0 ?_; refine owk0_auto (k := ?_))
      | (with_reducible refine is_owkc ?_; refine owk_auto (k := fun _ => ?_))
      | refine go1 (k := ?_)
      | (refine go2 (ka := ?_) (kb := ?_) <;> intro _)
      | fail))
    · rename_i k
      exact x_ret1 rfl rfl (fun w H => ⟨by rw [if_neg (by omega)], H.tail⟩)
    · rename_i k
      exact x_ret1 rfl rfl (fun w H => ⟨by rw [if_pos (by omega)], H.tail⟩)
end
end Go.Proofs.Ytakeilefbcpabaa

/- Package chain: what Next answers, in two ways; how long a frame is. -/
namespace Go.Proofs.Ytakeilefbcpabaa
open Go.RowKit
theorem first_or_none (p : Nat → Prop) [DecidablePred p] : ∀ lim, ∃ k, k ≤ lim ∧ (∀ j, j < k → ¬ p j) ∧ (k < lim → p k)
  | 0 => ⟨0, Nat.le_refl _, fun j h => by omega, fun h => by omega⟩
  | lim + 1 => by
    obtain ⟨k, h1, h2, h3⟩ := first_or_none p lim
    by_cases h : k < lim
    · exact ⟨k, by omega, h2, fun _ => h3 h⟩
    · by_cases hp : p k
      · exact ⟨k, by omega, h2, fun _ => hp⟩
      · exact ⟨k + 1, by omega, fun j hj => by rcases Nat.lt_or_eq_of_le (Nat.lt_succ_iff.1 hj) with h' | rfl; exact h2 j h'; exact hp, fun h' => by omega⟩
theorem lengthM_pos {b : List UInt8} (h : 0 < lengthM b) : lengthM b = leInt (b.take 8) ∧ 8 ≤ b.length ∧ 48 ≤ lengthM b ∧ lengthM b ≤ 16384 ∧ lengthM b ≤ b.length := by
  unfold lengthM at h ⊢
  split at h
  · rename_i k
    rw [if_pos k]
    have h1 := k.1
    simp [inOk] at h1
    exact ⟨rfl, h1.1.1, h1.1.2, h1.2, k.2⟩
  · omega
theorem lengthM_of {b : List UInt8} {n : Int} (h8 : 8 ≤ b.length) (hn : leInt (b.take 8) = n) (h : 48 ≤ n ∧ n ≤ 16384) : lengthM b = if n ≤ b.length then n else 0 := by
  unfold lengthM inOk
  simp [h8, hn, h.1, h.2]
theorem lengthM_take {b : List UInt8} {n : Nat} (h : lengthM b = n) (h0 : 0 < n) : lengthM (b.take n) = n ∧ (b.take n).length = n := by
  obtain ⟨h1, h2, h3, h4, h5⟩ := lengthM_pos (b := b) (by omega)
  have hl : (b.take n).length = n := by simp; omega
  refine ⟨?_, hl⟩
  rw [lengthM_of (n := n) (by omega) (by rw [List.take_take, Nat.min_eq_left (by omega), ← h1, h]) (by omega), hl, if_pos (Int.le_refl _)]
/-- The first sectors that have a frame are as many as it takes. -/
theorem first_sectors {now : List Sec} (hw : ∀ s ∈ now, s.length = 256) {pos k n : Nat} (hk : pos + k < now.length) (hno : ∀ j, j < k → lengthM (accB now pos (j + 1)) = 0) (hn : lengthM (accB now pos (k + 1)) = n) (h0 : 0 < n) : (n + 255) / 256 = k + 1 := by
  obtain ⟨h1, h2, h3, h4, h5⟩ := lengthM_pos (b := accB now pos (k + 1)) (by omega)
  rw [accB_length hw (by omega)] at h5
  have hlow : 256 * k < n := by
    cases k with
    | zero => omega
    | succ k =>
      have h := hno k (by omega)
      have hl := accB_length hw (pos := pos) (k := k + 1) (by omega)
      have he : (accB now pos (k + 1)).take 8 = (accB now pos (k + 1 + 1)).take 8 := by rw [accB_succ (k := k + 1) (by omega), List.take_append_of_le_length (by omega)]
      rw [lengthM_of (n := n) (by omega) (by rw [he, ← h1, hn]) (by omega), hl] at h
      split at h <;> omega
  omega
/-- A frame stands next, or none. -/
structure Stands (now : List Sec) (pos lim k n : Nat) (f : List UInt8) : Prop where
  lt : k < lim
  no : ∀ j, j < k → lengthM (accB now pos (j + 1)) = 0
  is : lengthM (accB now pos (k + 1)) = n
  n0 : 0 < n
  most : n ≤ 16384
  take : (accB now pos (k + 1)).take n = f
  len : f.length = n
  lenM : lengthM f = n
  secs : (n + 255) / 256 = k + 1
theorem next_split {now : List Sec} (hw : ∀ s ∈ now, s.length = 256) {pos lim : Nat} (h : pos + lim ≤ now.length) : (∃ k n f, Stands now pos lim k n f) ∨ ∀ j, j < lim → lengthM (accB now pos (j + 1)) = 0 := by
  obtain ⟨k, hk1, hk2, hk3⟩ := first_or_none (fun k => 0 < lengthM (accB now pos (k + 1))) lim
  have hk2' : ∀ t, t < k → lengthM (accB now pos (t + 1)) = 0 := fun t ht => by
    have h1 := hk2 t ht
    have h2 := (lengthM_nonneg (accB now pos (t + 1))).1
    omega
  by_cases hk : k < lim
  · have hpos := hk3 hk
    obtain ⟨n, hn⟩ : ∃ n : Nat, lengthM (accB now pos (k + 1)) = n := ⟨_, (Int.toNat_of_nonneg (lengthM_nonneg _).1).symm⟩
    have hb := lengthM_pos hpos
    rw [hn] at hb hpos
    have h0 : 0 < n := by omega
    obtain ⟨ht1, ht2⟩ := lengthM_take hn h0
    exact .inl ⟨k, n, _, hk, hk2', hn, h0, by omega, rfl, ht2, ht1, first_sectors hw (by omega) hk2' hn h0⟩
  · obtain rfl : k = lim := by omega
    exact .inr hk2'
/-- What a party knows of its disk. -/
theorem w_disk {P : Program} {N : Nat} {c : Con} {Q : Exit → Act → World → Prop} {code : Code} {E : Env} {L F : List HP} {p : Nat} {D : DiskM} (hp : Pick L (DiskAt p D) F) (h : D.WF → W P N c Q code E L) : W P N c Q code E L := fun a w hf H => h (St.openDisk (hp.st H)).1 a w hf H
attribute [local irreducible] Y OW YK OWK W WL WP X CV Ev Evs HasCell HasCells Has Met Again Kept
section
variable {c : Con} {F : List HP} {w : World} {p b : Nat} {D D' : DiskM} {A A' : AreaM}
theorem c_next_some {k lim n : Nat} {f : List UInt8} (hd : D.down = false) (hlim : min (A.hi - A.pos) 64 = lim) (hb : A.hi ≤ D.now.length) (hk : k < lim) (hno : ∀ j, j < k → lengthM (accB D.now A.pos (j + 1)) = 0) (hn : lengthM (accB D.now A.pos (k + 1)) = n) (h0 : 0 < n) (hf : (accB D.now A.pos (k + 1)).take n = f) (hA : { A with pos := A.pos + k + 1 } = A')
    (H : St c (AreaAt b p A :: DiskAt p D :: F) w) : Calls Try.prog 48 #[.pointer (some ⟨b, 0, none⟩)] w fun e w' =>
    ∃ g : Nat, e = .returned (.tuple #[.slice (some ⟨g, 0, none⟩) n n, .int .i64 0]) ∧ St c (BkP g f :: AreaAt b p A' :: DiskAt p D :: F) w' := by
  subst hf hA
  refine (c_next hd hlim hb (by omega) hno (fun _ => by rw [hn]; omega) H).mono fun e w' h => ?_
  rcases h with ⟨_, g, h1, h2⟩ | ⟨h1, _⟩
  · rw [hn, Int.toNat_natCast] at h1 h2
    exact ⟨g, h1, h2⟩
  · omega
theorem c_next_none {lim : Nat} (hd : D.down = false) (hlim : min (A.hi - A.pos) 64 = lim) (hb : A.hi ≤ D.now.length) (hno : ∀ j, j < lim → lengthM (accB D.now A.pos (j + 1)) = 0)
    (H : St c (AreaAt b p A :: DiskAt p D :: F) w) : Calls Try.prog 48 #[.pointer (some ⟨b, 0, none⟩)] w fun e w' =>
    e = .returned (.tuple #[.slice none 0 0, .int .i64 0]) ∧ St c (AreaAt b p A :: DiskAt p D :: F) w' := by
  refine (c_next hd hlim hb (Nat.le_refl _) hno (fun h => by omega) H).mono fun e w' h => ?_
  rcases h with ⟨h1, _⟩ | ⟨_, h1⟩
  · omega
  · exact h1
theorem bkp_hasR {g n : Nat} {f : List UInt8} (hn : f.length = n) (h0 : 0 < n) (h1 : n ≤ 9223372036854775807) : HasR (St c (BkP g f :: F)) (.slice (some ⟨g, 0, none⟩) n n) n (bvs f) := by
  subst hn
  exact SubOf.hasR ⟨_, _, rfl, Nat.le_refl _, h1, fun e => (by cases e), .inr ⟨0, rfl, by simp⟩⟩ rfl
end
end Go.Proofs.Ytakeilefbcpabaa

/- Frames that lie in sectors, one behind the other. -/
namespace Go.Proofs.Ytakeilefbcpabaa
open Go.RowKit
/-- Sectors that lie from a place on. -/
def LaidAt (now : List Sec) (lo : Nat) (L : List Sec) : Prop := ∀ j s, L[j]? = some s → now[lo + j]? = some s
def secsOf (f : List UInt8) : List Sec := (chunks f).map pad
theorem secsOf_length (f : List UInt8) : (secsOf f).length = (f.length + 255) / 256 := by rw [secsOf, List.length_map, chunks_length]
def sizeS (fs : List (List UInt8)) : Nat := (fs.flatMap secsOf).length
theorem sizeS_nil : sizeS [] = 0 := rfl
theorem sizeS_snoc (fs : List (List UInt8)) (f : List UInt8) : sizeS (fs ++ [f]) = sizeS fs + (f.length + 255) / 256 := by simp [sizeS, secsOf_length]
theorem sizeS_cons (fs : List (List UInt8)) (f : List UInt8) : sizeS (f :: fs) = (f.length + 255) / 256 + sizeS fs := by simp [sizeS, secsOf_length]
theorem LaidAt.nil {now : List Sec} {lo : Nat} : LaidAt now lo [] := fun j s h => by simp at h
theorem LaidAt.append {now : List Sec} {lo : Nat} {L M : List Sec} (h : LaidAt now lo L) (k : LaidAt now (lo + L.length) M) : LaidAt now lo (L ++ M) := fun j s e => by
  rw [List.getElem?_append] at e
  split at e
  · exact h j s e
  · rename_i hj
    have := k (j - L.length) s e
    rwa [show lo + L.length + (j - L.length) = lo + j by omega] at this
theorem LaidAt.left {now : List Sec} {lo : Nat} {L M : List Sec} (h : LaidAt now lo (L ++ M)) : LaidAt now lo L := fun j s e => h j s (by
  rw [List.getElem?_append_left (List.getElem?_eq_some_iff.1 e).1]; exact e)
theorem LaidAt.right {now : List Sec} {lo : Nat} {L M : List Sec} (h : LaidAt now lo (L ++ M)) : LaidAt now (lo + L.length) M := fun j s e => by
  have := h (L.length + j) s (by rw [List.getElem?_append_right (by omega), Nat.add_sub_cancel_left]; exact e)
  rwa [← Nat.add_assoc] at this
theorem LaidAt.keep {now now' : List Sec} {lo : Nat} {L : List Sec} (h : LaidAt now lo L) (k : ∀ t, lo ≤ t → t < lo + L.length → now'[t]? = now[t]?) : LaidAt now' lo L := fun j s e => by
  have hj := (List.getElem?_eq_some_iff.1 e).1
  rw [k _ (by omega) (by omega)]; exact h j s e
/-- Which sectors several writes turn. -/
theorem wrTo_get {D : DiskM} {n pos : Nat} {a : Int} (h : Steady D n a) {cs : List (List UInt8)} (hc : ∀ i, i < cs.length → (cs.getD i []).length ≤ 256) (hp : pos + cs.length ≤ n) (ha : 0 ≤ a ∧ a + cs.length < 4611686018427387904) :
    ∀ i, i ≤ cs.length → ∀ t, (wrTo D pos cs i).now[t]? = if pos ≤ t ∧ t < pos + i then some (pad (cs.getD (t - pos) [])) else D.now[t]?
  | 0, _, t => by rw [if_neg (by omega)]; rfl
  | i + 1, hi, t => by
    have h1 := h.wrTo hc hp ha i (by omega)
    rw [wrTo, h1.write_eq (i := ((pos + i : Nat) : Int)) ⟨by omega, by omega⟩ (hc i (by omega)) (by omega)]
    dsimp only
    rw [Int.toNat_natCast, List.getElem?_set, wrTo_get h hc hp ha i (by omega) t, h1.len]
    by_cases e : pos + i = t
    · subst e
      rw [if_pos rfl, if_pos (by omega), if_pos (by omega), Nat.add_sub_cancel_left]
    · rw [if_neg e]
      by_cases k : pos ≤ t ∧ t < pos + i
      · rw [if_pos k, if_pos (by omega)]
      · rw [if_neg k, if_neg (by omega)]
theorem frame_laid {D : DiskM} {n pos m : Nat} {a : Int} (h : Steady D n a) {f : List UInt8} (hm : (f.length + 255) / 256 = m) (hp : pos + m ≤ n) (ha : 0 ≤ a ∧ a + m < 4611686018427387904) :
    LaidAt (wrTo D pos (chunks f) m).now pos (secsOf f) ∧ ∀ t, (t < pos ∨ pos + m ≤ t) → (wrTo D pos (chunks f) m).now[t]? = D.now[t]? := by
  have hl : (chunks f).length = m := by rw [chunks_length, hm]
  have hg := wrTo_get h (pos := pos) (chunks_le f) (by omega) (by omega) m (by omega)
  refine ⟨fun j s e => ?_, fun t ht => by rw [hg, if_neg (by omega)]⟩
  have hj := (List.getElem?_eq_some_iff.1 e).1
  rw [secsOf, List.length_map, hl] at hj
  rw [hg, if_pos (by omega), Nat.add_sub_cancel_left]
  rw [secsOf, List.getElem?_map] at e
  rw [List.getD_eq_getElem?_getD]
  cases k : (chunks f)[j]? with
  | none => rw [k] at e; cases e
  | some c => rw [k] at e; exact e
/-- Several frames, and one behind them. -/
theorem laid_add {D : DiskM} {n lo m : Nat} {a : Int} (h : Steady D n a) {fs : List (List UInt8)} {f : List UInt8} (hl : LaidAt D.now lo (fs.flatMap secsOf)) (hm : (f.length + 255) / 256 = m) (hp : lo + sizeS fs + m ≤ n) (ha : 0 ≤ a ∧ a + m < 4611686018427387904) :
    LaidAt (wrTo D (lo + sizeS fs) (chunks f) m).now lo ((fs ++ [f]).flatMap secsOf) := by
  obtain ⟨h1, h2⟩ := frame_laid h (pos := lo + sizeS fs) hm hp ha
  rw [List.flatMap_append, List.flatMap_singleton]
  refine LaidAt.append (hl.keep fun t h3 h4 => h2 t (.inl ?_)) h1
  exact h4
/-- A frame that lies there stands next. -/
theorem accB_laid {now : List Sec} {pos : Nat} {L : List Sec} (h : LaidAt now pos L) {k : Nat} (hk : k ≤ L.length) : accB now pos k = (L.take k).flatten := by
  unfold accB
  congr 1
  apply List.ext_getElem?
  intro j
  rw [List.getElem?_take, List.getElem?_take]
  by_cases hj : j < k
  · rw [if_pos hj, if_pos hj, List.getElem?_drop]
    obtain ⟨s, hs⟩ : ∃ s, L[j]? = some s := ⟨_, List.getElem?_eq_getElem (by omega)⟩
    rw [hs, h j s hs]
  · rw [if_neg hj, if_neg hj]
theorem chunks_cat (f : List UInt8) : ∀ k, 256 * k ≤ f.length → (((chunks f).take k).map pad).flatten = f.take (256 * k)
  | 0, _ => by simp
  | k + 1, h => by
    have hk : k < (f.length + 255) / 256 := by omega
    have hl : k < (chunks f).length := by rw [chunks_length]; exact hk
    have hg := chunks_get f hk
    rw [List.getD_eq_getElem?_getD, List.getElem?_eq_getElem hl] at hg
    have hg : (chunks f)[k] = chunkB f k := hg
    rw [List.take_succ_eq_append_getElem hl, List.map_append, List.flatten_append, chunks_cat f k (by omega), hg]
    have hc : (chunkB f k).length = 256 := by rw [chunkB_length]; omega
    have hp : pad (chunkB f k) = chunkB f k := by unfold pad; rw [hc]; simp [zeros]
    simp only [List.map_cons, List.map_nil, List.flatten_cons, List.flatten_nil, List.append_nil, hp]
    unfold chunkB
    rw [show min 256 (f.length - 256 * k) = 256 by omega, show 256 * (k + 1) = 256 * k + 256 by omega]
    rw [List.drop_take, show 256 * k + 256 - 256 * k = 256 by omega, ← List.take_add]
theorem secs_cat (f : List UInt8) : ∃ z, (secsOf f).flatten = f ++ List.replicate z 0 := by
  by_cases h0 : f.length % 256 = 0
  · refine ⟨0, ?_⟩
    have h := chunks_cat f ((f.length + 255) / 256) (by omega)
    rw [List.take_of_length_le (by rw [chunks_length]; omega), List.take_of_length_le (by omega)] at h
    rw [secsOf, h]; simp
  · obtain ⟨k, hk⟩ : ∃ k, (f.length + 255) / 256 = k + 1 := ⟨f.length / 256, by omega⟩
    have hl : (chunks f).length = k + 1 := by rw [chunks_length, hk]
    have h := chunks_cat f k (by omega)
    have hg := chunks_get f (j := k) (by omega)
    rw [List.getD_eq_getElem?_getD, List.getElem?_eq_getElem (by omega)] at hg
    have hg : (chunks f)[k]'(by omega) = chunkB f k := hg
    have e : chunks f = (chunks f).take k ++ [chunkB f k] := by
      rw [← hg, ← List.take_succ_eq_append_getElem (by omega), List.take_of_length_le (by omega)]
    refine ⟨256 - (chunkB f k).length, ?_⟩
    rw [secsOf, e, List.map_append, List.flatten_append, h]
    simp only [List.map_cons, List.map_nil, List.flatten_cons, List.flatten_nil, List.append_nil]
    unfold pad
    rw [← List.append_assoc]
    congr 1
    unfold chunkB
    have e3 : f.take (256 * k + min 256 (f.length - 256 * k)) = f := List.take_of_length_le (by omega)
    rw [e3, List.take_append_drop]
theorem stands_of {now : List Sec} {pos lim : Nat} {f : List UInt8} (hw : ∀ s ∈ now, s.length = 256) (h : LaidAt now pos (secsOf f)) (hne : f ≠ []) (hM : lengthM f = f.length) (hlim : (f.length + 255) / 256 ≤ lim) (hn : pos + lim ≤ now.length) :
    ∃ k, Stands now pos lim k f.length f ∧ k + 1 = (f.length + 255) / 256 := by
  have hlen : 0 < f.length := List.length_pos_iff.2 hne
  obtain ⟨h1, h2, h3, h4, h5⟩ := lengthM_pos (b := f) (by omega)
  obtain ⟨k, hk⟩ : ∃ k, (f.length + 255) / 256 = k + 1 := ⟨(f.length - 1) / 256, by omega⟩
  obtain ⟨z, hz⟩ := secs_cat f
  have hsl := secsOf_length f
  have hacc : accB now pos (k + 1) = f ++ List.replicate z 0 := by
    rw [accB_laid h (by omega), List.take_of_length_le (by omega), hz]
  have haccl : ∀ j, j ≤ k → (accB now pos (j + 1)).length = 256 * (j + 1) := fun j hj => accB_length hw (by omega)
  have hpre : ∀ j, j ≤ k → (accB now pos (j + 1)).take 8 = f.take 8 := fun j hj => by
    have h8 : (accB now pos (j + 1)).take 8 = (accB now pos (k + 1)).take 8 := by
      have e : accB now pos (j + 1) = (accB now pos (k + 1)).take (256 * (j + 1)) := by
        have e1 : (now.drop pos).take (k + 1) = (now.drop pos).take (j + 1) ++ ((now.drop pos).drop (j + 1)).take (k - j) := by
          rw [show k + 1 = (j + 1) + (k - j) by omega, List.take_add]
        have e2 : accB now pos (k + 1) = accB now pos (j + 1) ++ (((now.drop pos).drop (j + 1)).take (k - j)).flatten := by
          unfold accB; rw [e1, List.flatten_append]
        rw [e2, ← haccl j hj, List.take_left]
      rw [e, List.take_take, Nat.min_eq_left (by omega)]
    rw [h8, hacc, List.take_append_of_le_length h2]
  refine ⟨k, ⟨by omega, fun j hj => ?_, ?_, hlen, by omega, ?_, rfl, hM, hk⟩, hk.symm⟩
  · rw [lengthM_of (n := (f.length : Int)) (by rw [haccl j (by omega)]; omega) (by rw [hpre j (by omega), ← h1, hM]) (by omega), haccl j (by omega), if_neg (by omega)]
  · rw [lengthM_of (n := (f.length : Int)) (by rw [haccl k (by omega)]; omega) (by rw [hpre k (by omega), ← h1, hM]) (by omega), haccl k (by omega), if_pos (by omega)]
  · rw [hacc, List.take_left]
theorem sizeS_take {us : List (List UInt8)} {i : Nat} {f : List UInt8} (h : us[i]? = some f) : sizeS (us.take (i + 1)) = sizeS (us.take i) + (f.length + 255) / 256 := by
  have hl := (List.getElem?_eq_some_iff.1 h).1
  have e : us[i] = f := by rw [List.getElem?_eq_getElem hl] at h; exact Option.some.inj h
  rw [List.take_succ_eq_append_getElem hl, e, sizeS_snoc]
theorem sizeS_take_le (us : List (List UInt8)) (i : Nat) : sizeS (us.take i) ≤ sizeS us := by
  have e : us = us.take i ++ us.drop i := (List.take_append_drop i us).symm
  have ha : ∀ a b : List (List UInt8), sizeS (a ++ b) = sizeS a + sizeS b := fun a b => by simp [sizeS]
  have h := ha (us.take i) (us.drop i)
  rw [← e] at h
  omega
theorem laid_nth {now : List Sec} {lo : Nat} {us : List (List UInt8)} (h : LaidAt now lo (us.flatMap secsOf)) {i : Nat} {f : List UInt8} (hf : us[i]? = some f) : LaidAt now (lo + sizeS (us.take i)) (secsOf f) := by
  have hl := (List.getElem?_eq_some_iff.1 hf).1
  have e1 : us[i] = f := by rw [List.getElem?_eq_getElem hl] at hf; exact Option.some.inj hf
  have e : us = us.take i ++ (f :: us.drop (i + 1)) := by rw [← e1, ← List.drop_eq_getElem_cons hl, List.take_append_drop]
  rw [e, List.flatMap_append] at h
  have h2 := h.right
  rw [List.flatMap_cons] at h2
  exact h2.left
/-- Frames as strings, in memory. -/
theorem cell_nth {g T n j o : Nat} {cur : List Value} {us : List (List UInt8)} {H : World → Prop} {f : List UInt8} (h : Has H g (.cells cur.toArray T (0, 0))) (hc : cur.take (n * 1) = us.map str) (hn : us.length = n) (hf : us[j]? = some f) (ho : o = 0 + j * 1) : HasCell H ⟨g, o, none⟩ (str f) := by
  subst ho
  refine hasCell_bl h ?_
  have hj := (List.getElem?_eq_some_iff.1 hf).1
  have e : (us.map str)[j]? = some (str f) := by rw [List.getElem?_map, hf]; rfl
  rw [← hc, List.getElem?_take] at e
  split at e
  · simpa using e
  · cases e
/-- A frame as it may be added. -/
structure FrameOk (f : List UInt8) (most : Nat) : Prop where
  ne : f ≠ []
  is : lengthM f = f.length
  le : f.length ≤ most
theorem frame_ok (s : List UInt8) (hs : s.length ≤ 16376) {most : Nat} (hm : max s.length 40 + 8 ≤ most) : FrameOk (frameB s) most := ⟨frame_ne s, lengthM_frame s hs, by rw [frameB_length]; exact hm⟩
end Go.Proofs.Ytakeilefbcpabaa

/- A slice of bytes among the arguments, and inside a struct's cells. -/
namespace Go.Proofs.Ytakeilefbcpabaa
open Go.RowKit
section
variable {H : Type} {enc : TypeId × Value → H} {W : World}
theorem elem_slice_bytes {P : Program} {t e : TypeId} (ht : P.underlying t = some (.slice e)) (he : P.underlying e = some (.int .u8)) (hs : P.cellsOf e = 1) {n : Nat} {cs : List Value} {x : DataW H × List MemPlace}
    (h : DataW.trod enc P W 0 (fun _ => true) true n t cs = some x) : ∃ a len cap, ∃ l : List UInt8, cs = [.slice a len cap] ∧ l.length = len ∧ Reads W (.slice a len cap) len 1 (bvs l) := by
  obtain ⟨a, len, cap, rfl, h0, h1, h2, ys, hy⟩ := open_elems (R := IsByte) ht hs (fun n cs x _ hh => elem_byte he hh) h
  exact ⟨a, len, cap, ys, rfl, reads_of_elems hy h0 h1 h2⟩
theorem open_bytes {P : Program} {t e : TypeId} (ht : P.underlying t = some (.slice e)) (he : P.underlying e = some (.int .u8)) (hs : P.cellsOf e = 1) {a : Option Addr} {len cap : Nat} {d : DataW H} {ps : List MemPlace}
    (h : DataW.Trod enc P W 0 (fun _ => true) true t (.slice a len cap) d ps) : ∃ l : List UInt8, l.length = len ∧ Reads W (.slice a len cap) len 1 (bvs l) := by
  obtain ⟨fuel, hf⟩ := h
  obtain ⟨a', len', cap', l, hcs, h1, h2⟩ := elem_slice_bytes ht he hs hf
  simp [Value.cells] at hcs
  obtain ⟨rfl, rfl, rfl⟩ := hcs
  exact ⟨l, h1, h2⟩
end
end Go.Proofs.Ytakeilefbcpabaa

/- Slices that came in: of integers, truth values, texts, rows of bytes. No program in sight. -/
namespace Go.Proofs.Ytakeilefbcpabaa
open Go.ChangeShapes Go.WideShapes Go.ChangeAt Go.RowKit Go.Deep
section
variable {H : Type} {enc : TypeId × Value → H} {W : World}
def IsInt (_ : World) (z : Int) (cs : List Value) : Prop := cs = [.int .i64 z] ∧ -9223372036854775808 ≤ z ∧ z ≤ 9223372036854775807
def IsTruth (_ : World) (b : Bool) (cs : List Value) : Prop := cs = [.bool b]
structure BRow where
  A : Option Addr
  len : Nat
  cap : Nat
  b : List UInt8
def IsBRow (w : World) (y : BRow) (cs : List Value) : Prop := cs = [.slice y.A y.len y.cap] ∧ y.b.length = y.len ∧ Reads w (.slice y.A y.len y.cap) y.len 1 (bvs y.b)
theorem elem_truth {P : Program} {t : TypeId} (ht : P.underlying t = some .bool) {n : Nat} {cs : List Value} {x : DataW H × List MemPlace} (h : DataW.trod enc P W 0 (fun _ => true) true n t cs = some x) : ∃ b : Bool, cs = [.bool b] := by
  obtain ⟨b, h1, _⟩ := DataW.trod_bool ht h
  exact ⟨b, h1⟩
theorem open_rowOf {α : Type} {P : Program} {t e : TypeId} {size : Nat} {R : World → α → List Value → Prop} (ht : P.underlying t = some (.slice e)) (hs : P.cellsOf e = size)
    (hR : ∀ (n : Nat) (cs : List Value) (x : DataW H × List MemPlace), cs.length = size → DataW.trod enc P W 0 (fun _ => true) true n e cs = some x → ∃ y : α, R W y cs)
    {a : Option Addr} {len cap : Nat} {d : DataW H} {ps : List MemPlace} (h : DataW.Trod enc P W 0 (fun _ => true) true t (.slice a len cap) d ps) : ∃ zs, ElemsOf R size W a len zs := by
  obtain ⟨fuel, hf⟩ := h
  obtain ⟨a', len', cap', hcs, _, _, _, ys, hy⟩ := open_elems ht hs hR hf
  simp [Value.cells] at hcs
  obtain ⟨rfl, rfl, rfl⟩ := hcs
  exact ⟨ys, hy⟩
theorem open_ints {P : Program} {t e : TypeId} (ht : P.underlying t = some (.slice e)) (he : P.underlying e = some (.int .i64)) (hs : P.cellsOf e = 1) {a : Option Addr} {len cap : Nat} {d : DataW H} {ps : List MemPlace}
    (h : DataW.Trod enc P W 0 (fun _ => true) true t (.slice a len cap) d ps) : ∃ zs, ElemsOf IsInt 1 W a len zs :=
  open_rowOf ht hs (fun _ _ _ _ hh => by obtain ⟨z, h1, h2⟩ := elem_int he hh; exact ⟨z, h1, h2⟩) h
theorem open_truths {P : Program} {t e : TypeId} (ht : P.underlying t = some (.slice e)) (he : P.underlying e = some .bool) (hs : P.cellsOf e = 1) {a : Option Addr} {len cap : Nat} {d : DataW H} {ps : List MemPlace}
    (h : DataW.Trod enc P W 0 (fun _ => true) true t (.slice a len cap) d ps) : ∃ zs, ElemsOf IsTruth 1 W a len zs :=
  open_rowOf ht hs (fun _ _ _ _ hh => elem_truth he hh) h
theorem open_brows {P : Program} {t e q : TypeId} (ht : P.underlying t = some (.slice e)) (he : P.underlying e = some (.slice q)) (hq : P.underlying q = some (.int .u8)) (hs : P.cellsOf e = 1) (hs' : P.cellsOf q = 1) {a : Option Addr} {len cap : Nat} {d : DataW H} {ps : List MemPlace}
    (h : DataW.Trod enc P W 0 (fun _ => true) true t (.slice a len cap) d ps) : ∃ zs, ElemsOf IsBRow 1 W a len zs :=
  open_rowOf ht hs (fun _ _ _ _ hh => by obtain ⟨a, len, cap, l, h1, h2, h3⟩ := elem_slice_bytes he hq hs' hh; exact ⟨⟨a, len, cap, l⟩, h1, h2, h3⟩) h
def IsText (_ : World) (s : List UInt8) (cs : List Value) : Prop := cs = [str s]
theorem elem_text {P : Program} {t : TypeId} (ht : P.underlying t = some .string) {n : Nat} {cs : List Value} {x : DataW H × List MemPlace} (h : DataW.trod enc P W 0 (fun _ => true) true n t cs = some x) : ∃ s : List UInt8, cs = [str s] := by
  obtain ⟨s, h1, _⟩ := DataW.trod_string ht h
  exact ⟨s.data.toList, by rw [h1]; simp [str]⟩
theorem open_texts {P : Program} {t e : TypeId} (ht : P.underlying t = some (.slice e)) (he : P.underlying e = some .string) (hs : P.cellsOf e = 1) {a : Option Addr} {len cap : Nat} {d : DataW H} {ps : List MemPlace}
    (h : DataW.Trod enc P W 0 (fun _ => true) true t (.slice a len cap) d ps) : ∃ zs, ElemsOf IsText 1 W a len zs := by
  obtain ⟨fuel, hf⟩ := h
  obtain ⟨a', len', cap', hcs, _, _, _, ys, hy⟩ := open_elems ht hs (R := IsText) (fun _ _ _ _ hh => by obtain ⟨s, h1⟩ := elem_text he hh; exact ⟨s, h1⟩) hf
  simp [Value.cells] at hcs
  obtain ⟨rfl, rfl, rfl⟩ := hcs
  exact ⟨ys, hy⟩
end
end Go.Proofs.Ytakeilefbcpabaa

/- The register as plain data, and how it lies in memory; a disk or none. -/
namespace Go.Proofs.Ytakeilefbcpabaa
open Go.RowKit

structure MeterM where
  count : Int
  epoch : Int
  root : List UInt8
  most : Int
structure MeterM.WF (M : MeterM) : Prop where
  root : M.root.length = 32
  count0 : 0 ≤ M.count
  count1 : M.count ≤ M.most
  most : M.most ≤ 1099511627776
  epoch0 : 0 ≤ M.epoch
  epoch1 : M.epoch ≤ 9223372036854775807

/-- A disk, or none. -/
abbrev DiskO := Option DiskM
namespace DiskO
def down : DiskO → Bool | none => false | some D => D.down
def goes : DiskO → Bool | none => false | some D => D.goes
def keeps : DiskO → Int | none => 0 | some D => D.keeps
def act : DiskO → DiskO | none => none | some D => some D.act
def off (k : Int) : DiskO → DiskO | none => none | some D => some (D.off k)
end DiskO
def DiskV (dv : Value) : DiskO → HP
  | none => fun _ => dv = .pointer none
  | some D => fun h => ∃ p, dv = .pointer (some ⟨p, 0, none⟩) ∧ DiskAt p D h

namespace MeterM
def nextE (M : MeterM) (D : DiskO) (ep : Int) : Int :=
  if D.down then 8 else if ep < M.epoch then 1 else if M.most - M.count = 0 then 10 else if D.goes then 8 else 0
/-- It goes on. -/
def steps (M : MeterM) (D : DiskO) (ep : Int) : Bool := !D.down && !decide (ep < M.epoch) && !decide (M.most - M.count = 0)
def next (M : MeterM) (D : DiskO) (ep : Int) (r : List UInt8) : MeterM :=
  if M.steps D ep && (!D.goes || decide (9223372036854775808 ≤ D.keeps)) then { M with count := M.count + 1, epoch := ep, root := r } else M
def nextD (M : MeterM) (D : DiskO) (ep : Int) : DiskO :=
  if M.steps D ep then (if D.goes then D.act.off D.keeps else D.act) else D
end MeterM

theorem MeterM.WF.next {M : MeterM} (h : M.WF) (D : DiskO) (ep : Int) (r : List UInt8) (hr : r.length = 32) (h1 : ep ≤ 9223372036854775807) : (M.next D ep r).WF := by
  unfold MeterM.next
  split
  · rename_i hs
    have e : ¬ ep < M.epoch ∧ ¬ M.most - M.count = 0 := by
      simp only [MeterM.steps, Bool.and_eq_true, Bool.not_eq_true', decide_eq_false_iff_not] at hs
      exact ⟨hs.1.1.2, hs.1.2⟩
    have := h.count0; have := h.count1; have := h.most; have := h.epoch0
    exact ⟨hr, by show 0 ≤ M.count + 1; omega, by show M.count + 1 ≤ M.most; omega, h.most, by show 0 ≤ ep; omega, h1⟩
  · exact h

def meterCells (dv : Value) (M : MeterM) : Array Value := (.int .i64 M.count :: .int .i64 M.epoch :: (bvs M.root ++ [.int .i64 M.most, dv])).toArray
def MeterAt (m : Nat) (dv : Value) (M : MeterM) : HP := Pure M.WF (Pt m (.cells (meterCells dv M) 34 (0, 0)))

theorem meterCells_most (dv : Value) {M : MeterM} (h : M.root.length = 32) : (meterCells dv M)[34]? = some (.int .i64 M.most) := by
  have e : (bvs M.root).length = 32 := by rw [bvs, List.length_map, h]
  simp only [meterCells, List.getElem?_toArray, List.getElem?_cons_succ]
  rw [List.getElem?_append_right (by omega), e]; rfl
theorem meterCells_disk (dv : Value) {M : MeterM} (h : M.root.length = 32) : (meterCells dv M)[35]? = some dv := by
  have e : (bvs M.root).length = 32 := by rw [bvs, List.length_map, h]
  simp only [meterCells, List.getElem?_toArray, List.getElem?_cons_succ]
  rw [List.getElem?_append_right (by omega), e]; rfl
theorem meterCells_size (dv : Value) {M : MeterM} (h : M.root.length = 32) : (meterCells dv M).size = 36 := by
  simp [meterCells, bvs, h]
/-- What a load, a store of the value is. -/
def valueCells (c e : Int) (r : List UInt8) : Array Value := (.int .i64 c :: .int .i64 e :: bvs r).toArray
theorem meterCells_value (dv : Value) {M : MeterM} (h : M.root.length = 32) : (meterCells dv M).extract 0 (0 + 34) = valueCells M.count M.epoch M.root := by
  have e : (bvs M.root).length = 32 := by rw [bvs, List.length_map, h]
  apply Array.ext'
  rw [Array.toList_extract, List.extract_eq_take_drop, List.drop_zero, meterCells, List.toList_toArray, valueCells, List.toList_toArray]
  show List.take 34 _ = _
  rw [List.take_succ_cons, List.take_succ_cons, List.take_left' e]
theorem meterCells_store (dv : Value) {M : MeterM} (h : M.root.length = 32) (c e : Int) {r : List UInt8} (hr : r.length = 32) :
    (splice (meterCells dv M).toList 0 (valueCells c e r).toList).toArray = meterCells dv { M with count := c, epoch := e, root := r } := by
  have e1 : (bvs M.root).length = 32 := by rw [bvs, List.length_map, h]
  have e2 : (bvs r).length = 32 := by rw [bvs, List.length_map, hr]
  congr 1
  rw [splice, List.take_zero, List.nil_append, Nat.zero_add, valueCells, List.toList_toArray, List.length_cons, List.length_cons, e2, meterCells, List.toList_toArray]
  rw [List.drop_succ_cons, List.drop_succ_cons, ← e1, List.drop_left]
  rfl
theorem valueCells_size (c e : Int) {r : List UInt8} (hr : r.length = 32) : (valueCells c e r).size = 34 := by simp [valueCells, bvs, hr]
theorem valueCells_all (c e : Int) (r : List UInt8) : (valueCells c e r).all (·.oneCell') = true := all_oneCell_toArray (by
  intro v hv
  rcases List.mem_cons.1 hv with rfl | hv
  · rfl
  · rcases List.mem_cons.1 hv with rfl | hv
    · rfl
    · exact bvs_oneCell _ v hv)
def zeroRoot : List UInt8 := zeros 32
theorem zeroRoot_length : zeroRoot.length = 32 := zeros_length 32
theorem build_value (a b : Int) (r : List UInt8) (hr : r.length = 32) (w : World) :
    (Instr.build 31 #[(0, .int .i64 a), (1, .int .i64 b), (2, .agg (bvs r).toArray)]).run Try.prog w = .ok (.agg (valueCells a b r)) w := by
  have hs : (bvs r).length = 32 := by rw [bvs, List.length_map, hr]
  have e : valueCells a b r = (#[Value.int IntKind.i64 a, Value.int IntKind.i64 b] : Array Value) ++ (bvs r).toArray := by simp [valueCells]
  rw [e]
  generalize hb : (bvs r).toArray = cells
  have hc : cells.size = 32 := by rw [← hb, List.size_toArray, hs]
  clear e hb
  simp [Instr.build, go_sem, hc]
  rw [fold_arr 2 32 cells _ hc (by rw [hc]; simp)]
  have hl : cells.toList.length = 32 := by simpa using hc
  simp [splice, hl]
end Go.Proofs.Ytakeilefbcpabaa

/- The register: what each call does. -/
namespace Go.Proofs.Ytakeilefbcpabaa
open Go.RowKit

section
variable {c : Con} {F : List HP} {w : World} {m : Nat} {M : MeterM} {dv : Value} {D : DiskO}

theorem dv_form (H : St c (DiskV dv D :: F) w) : dv = .pointer none ∨ ∃ p, dv = .pointer (some ⟨p, 0, none⟩) := by
  obtain ⟨h, a, _⟩ := H.get
  cases D with
  | none => exact .inl a
  | some D => obtain ⟨p, e, _⟩ := a; exact .inr ⟨p, e⟩
theorem St.someDisk {D : DiskM} (H : St c (DiskV dv (some D) :: F) w) : ∃ p, dv = .pointer (some ⟨p, 0, none⟩) ∧ St c (DiskAt p D :: F) w := by
  obtain ⟨h, ⟨p, e, a⟩, l, r⟩ := H.stars
  exact ⟨p, e, H.con, h, a, l, r⟩
theorem St.toDisk {D : DiskM} {p : Nat} (H : St c (DiskAt p D :: F) w) : St c (DiskV (.pointer (some ⟨p, 0, none⟩)) (some D) :: F) w := H.imp fun _ a => ⟨p, rfl, a⟩
theorem St.noDisk (H : St c F w) : St c (DiskV (.pointer none) none :: F) w := H.new w _ rfl (fun _ _ => rfl) rfl

/-- Down, Act, Off of a disk or none. -/
theorem disko_down (H : St c (DiskV dv D :: F) w) :
    Calls Try.prog 40 #[dv] w fun e w' => e = .returned (.bool D.down) ∧ w = w' := by
  cases D with
  | none => obtain ⟨h, rfl, _⟩ := H.get; exact disk_down_nil w
  | some D => obtain ⟨p, rfl, H2⟩ := H.someDisk; exact disk_down H2
theorem disko_down_is {b : Bool} (hd : Hid (D.down = b)) (H : St c (DiskV dv D :: F) w) :
    Calls Try.prog 40 #[dv] w fun e w' => e = .returned (.bool b) ∧ w = w' := by
  have h := disko_down H
  rw [hd.out] at h
  exact h
theorem disko_act (H : St c (DiskV dv D :: F) w) :
    Calls Try.prog 57 #[dv] w fun e w' => e = .returned (.tuple #[.bool D.goes, .int .u64 D.keeps]) ∧ St c (DiskV dv D.act :: F) w' := by
  cases D with
  | none =>
    obtain ⟨h, rfl, _⟩ := H.get
    exact (disk_act_nil w).mono fun e w' ⟨h1, h2⟩ => ⟨h1, by rw [← h2]; exact H⟩
  | some D =>
    obtain ⟨p, rfl, H2⟩ := H.someDisk
    exact (disk_act H2).mono fun e w' ⟨h1, h2⟩ => ⟨h1, h2.toDisk⟩
theorem disko_off (H : St c (DiskV dv D :: F) w) (hg : D.goes = true) (k : Int) (hk0 : 0 ≤ k) (hk1 : k < 18446744073709551616) (D1 : DiskO) (H1 : St c (DiskV dv D1 :: F) w) (hd : D1 = D.act) :
    Calls Try.prog 22 #[dv, .int .u64 k] w fun e w' => e = .returned (.tuple #[]) ∧ St c (DiskV dv (D.act.off k) :: F) w' := by
  subst hd
  cases D with
  | none => simp [DiskO.goes] at hg
  | some D =>
    obtain ⟨p, rfl, H2⟩ := H1.someDisk
    exact (disk_off H2 k hk0 hk1).mono fun e w' ⟨h1, h2⟩ => ⟨h1, h2.toDisk⟩

theorem meter_cells (H : St c (MeterAt m dv M :: F) w) : M.WF ∧ w.heap[m]? = some (.cells (meterCells dv M) 34 (0, 0)) := by
  obtain ⟨h, H⟩ := St.pure H
  exact ⟨h, H.pt⟩

/-- Left. -/
theorem meter_left (H : St c (MeterAt m dv M :: F) w) :
    Calls Try.prog 20 #[.pointer (some ⟨m, 0, none⟩)] w fun e w' => e = .returned (.int .i64 (M.most - M.count)) ∧ ∃ n, w' = w.drewN n := by
  obtain ⟨hw, hm⟩ := meter_cells H
  have hc0 : w.cell? ⟨m, 0, none⟩ = some (.int .i64 M.count) := cell_of_row w m 0 _ _ _ hm
  have hc34 : w.cell? ⟨m, 34, none⟩ = some (.int .i64 M.most) := (cell_of_row w m 34 _ _ _ hm).trans (meterCells_most dv hw.root)
  have h1 := hw.count0
  have h2 := hw.count1
  have h3 := hw.most
  clear hm
  go_enter Try.func20, Try.ntmps20
  go_wp2
  go_quiet (fail)
  go_wp2
  go_returns
  exact ⟨by go_num, _, rfl⟩
theorem meter_left_nil (w : World) :
    Calls Try.prog 20 #[.pointer none] w fun e w' => e = .returned (.int .i64 0) ∧ w = w' := by
  go_enter Try.func20, Try.ntmps20
  go_wp2
  go_returns
  exact ⟨rfl, rfl⟩

/-- New. -/
def meterOf (most : Int) : MeterM := ⟨0, 0, zeroRoot, min (max most 0) 1099511627776⟩
theorem meterOf_wf (most : Int) : (meterOf most).WF := ⟨zeroRoot_length, by simp [meterOf], by simp only [meterOf]; omega, by simp only [meterOf]; omega, by simp [meterOf], by simp [meterOf]⟩
theorem meterCells_new (dv : Value) (x : Int) : (#[.int .i64 0, .int .i64 0, .int .u8 0, .int .u8 0, .int .u8 0, .int .u8 0, .int .u8 0, .int .u8 0, .int .u8 0, .int .u8 0, .int .u8 0, .int .u8 0, .int .u8 0, .int .u8 0, .int .u8 0, .int .u8 0, .int .u8 0, .int .u8 0, .int .u8 0, .int .u8 0, .int .u8 0, .int .u8 0, .int .u8 0, .int .u8 0, .int .u8 0, .int .u8 0, .int .u8 0, .int .u8 0, .int .u8 0, .int .u8 0, .int .u8 0, .int .u8 0, .int .u8 0, .int .u8 0, .int .i64 x, dv] : Array Value) = meterCells dv ⟨0, 0, zeroRoot, x⟩ := by kernel_rfl
set_option maxRecDepth 100000 in
theorem meter_new (H : St c F w) (most : Int) (dv : Value) (hdv : dv = .pointer none ∨ ∃ p, dv = .pointer (some ⟨p, 0, none⟩)) :
    Calls Try.prog 18 #[.int .i64 most, dv] w fun e w' => ∃ m, e = .returned (.pointer (some ⟨m, 0, none⟩)) ∧ St c (MeterAt m dv (meterOf most) :: F) w' := by
  have HF : ∀ (x : Int) (cs : Array Value), x = min (max most 0) 1099511627776 → cs = meterCells dv ⟨0, 0, zeroRoot, x⟩ → St c (MeterAt w.heap.size dv (meterOf most) :: F) (w.alloc (.cells cs 34)) := by
    rintro x cs rfl rfl
    exact St.toPure (meterOf_wf most) (H.allocPt _)
  have HF := Lib.hid HF
  rcases hdv with rfl | ⟨p, rfl⟩
  · go_enter Try.func18, Try.ntmps18
    go_wp2
    all_goals go_returns
    all_goals exact ⟨_, rfl, HF.out _ _ (by omega) (meterCells_new _ _)⟩
  · go_enter Try.func18, Try.ntmps18
    go_wp2
    all_goals go_returns
    all_goals exact ⟨_, rfl, HF.out _ _ (by omega) (meterCells_new _ _)⟩

theorem value_info : (Try.prog.info? 31).map (·.size) = some 34 := by kernel_rfl
theorem value_zero : (Try.prog.info? 31).map (fun i => (i.zero, i.size)) = some (some (.agg (valueCells 0 0 zeroRoot)), 34) := by kernel_rfl
theorem value_build (w : World) : (Instr.build 31 #[]).run Try.prog w = .ok (.agg (valueCells 0 0 zeroRoot)) w := by kernel_rfl
set_option maxRecDepth 100000 in
set_option maxHeartbeats 1000000 in
/-- Get. -/
theorem meter_get_down (hd : Hid (D.down = true)) (H : St c (MeterAt m dv M :: DiskV dv D :: F) w) :
    Calls Try.prog 25 #[.pointer (some ⟨m, 0, none⟩)] w fun e w' =>
      e = .returned (.tuple #[.agg (valueCells 0 0 zeroRoot), .int .i64 8]) ∧
      St c (MeterAt m dv M :: DiskV dv D :: F) w' := by
  obtain ⟨hw, hm⟩ := meter_cells H
  clear hm
  have hv := meterCells_value dv hw.root
  have hsz := meterCells_size dv hw.root
  have Hvs := Lib.hid (valueCells_size M.count M.epoch hw.root)
  have Hvz := Lib.hid (valueCells_size 0 0 zeroRoot_length)
  have Hv := Lib.hid hv
  have Hsz := Lib.hid hsz
  clear hv hsz
  go_enter Try.func25, Try.ntmps25
  go_upto_region 1 with (refine go_alloc_big (P := Try.prog) (op := ⟨some 2, .alloc 31, _, _, _, _⟩) (by rfl) _ (by rfl) value_zero ?_)
  refine wp_gen (H.allocPt (.cells (valueCells 0 0 zeroRoot) 31)) ?_
  generalize w.heap.size = q
  clear H
  intro w1 H
  obtain ⟨_, hm⟩ := meter_cells H.tail
  have hc35 : w1.cell? ⟨m, 35, none⟩ = some dv := (cell_of_row w1 m 35 _ _ _ hm).trans (meterCells_disk dv hw.root)
  have Hm := Lib.hid hm
  have Hq := Lib.hid H.pt
  have Hi := Lib.hid value_info
  have hdv := dv_form H.tail.tail
  clear hm
  rcases hdv with rfl | ⟨p, rfl⟩
  all_goals
    go_wp2_with (first
      | (go_at_call 40; refine (disko_down_is hd H.pull2).mono ?_; rintro e w' ⟨rfl, rfl⟩)
      | (refine wpList_plain (o := ⟨some 14, .build 31 #[], _, _, _, _⟩) (by rfl) (fun K hK => op_build (P := Try.prog) _ _ (by rfl) #[] (by rfl) _ (value_build _) (hK _ _ ?_)))
      | (refine go_store_row (P := Try.prog) (op := ⟨none, .store 31 (.tmp 2) (.tmp 14), _, _, _, _⟩) (by rfl) _ _ _ (by rfl) q 0 (valueCells 0 0 zeroRoot) (valueCells 0 0 zeroRoot) (by rfl) (by rfl) 31 (by exact Hq.out) (by rw [Hvz.out]; omega) (by rw [Hvz.out]; exact Hi.out) (valueCells_all _ _ _) ?_))
    have H2 := H.setRowPt (splice (valueCells 0 0 zeroRoot).toList 0 (valueCells 0 0 zeroRoot).toList).toArray
    rw [splice_whole _ _ rfl, Array.toArray_toList] at H2 ⊢
    exact bodyPost_ret (results_ct rfl _ _ q _ _ (0, 0) _ (by rfl) H2.pt Try.underlying31 rfl (by rw [Hvz.out]; exact Hi.out)) rfl ⟨rfl, H2.tail⟩

set_option maxRecDepth 100000 in
set_option maxHeartbeats 1000000 in
/-- Get. -/
theorem meter_get (hd : Hid (D.down = false)) (H : St c (MeterAt m dv M :: DiskV dv D :: F) w) :
    Calls Try.prog 25 #[.pointer (some ⟨m, 0, none⟩)] w fun e w' =>
      e = .returned (.tuple #[.agg (valueCells M.count M.epoch M.root), .int .i64 0]) ∧
      St c (MeterAt m dv M :: DiskV dv D :: F) w' := by
  obtain ⟨hw, hm⟩ := meter_cells H
  clear hm
  have hv := meterCells_value dv hw.root
  have hsz := meterCells_size dv hw.root
  have Hvs := Lib.hid (valueCells_size M.count M.epoch hw.root)
  have Hvz := Lib.hid (valueCells_size 0 0 zeroRoot_length)
  have Hv := Lib.hid hv
  have Hsz := Lib.hid hsz
  clear hv hsz
  go_enter Try.func25, Try.ntmps25
  go_upto_region 1 with (refine go_alloc_big (P := Try.prog) (op := ⟨some 2, .alloc 31, _, _, _, _⟩) (by rfl) _ (by rfl) value_zero ?_)
  refine wp_gen (H.allocPt (.cells (valueCells 0 0 zeroRoot) 31)) ?_
  generalize w.heap.size = q
  clear H
  intro w1 H
  obtain ⟨_, hm⟩ := meter_cells H.tail
  have hc35 : w1.cell? ⟨m, 35, none⟩ = some dv := (cell_of_row w1 m 35 _ _ _ hm).trans (meterCells_disk dv hw.root)
  have Hm := Lib.hid hm
  have Hq := Lib.hid H.pt
  have Hi := Lib.hid value_info
  have hdv := dv_form H.tail.tail
  clear hm
  rcases hdv with rfl | ⟨p, rfl⟩
  all_goals
    go_wp2_with (first
      | (go_at_call 40; refine (disko_down_is hd H.pull2).mono ?_; rintro e w' ⟨rfl, rfl⟩)
      | (refine go_load_row (P := Try.prog) (op := ⟨some 18, .load 31 (.tmp 17), _, _, _, _⟩) (by rfl) _ _ (by rfl) m 0 34 (by rfl) _ _ 34 (0, 0) _ (by exact Hm.out) (by rw [Hsz.out]; omega) Hv.out Try.underlying31 (by rfl) Hi.out ?_)
      | (refine go_store_row (P := Try.prog) (op := ⟨none, .store 31 (.tmp 2) (.tmp 18), _, _, _, _⟩) (by rfl) _ _ _ (by rfl) q 0 (valueCells M.count M.epoch M.root) (valueCells 0 0 zeroRoot) (by rfl) (by rfl) 31 (by exact Hq.out) (by rw [Hvz.out, Hvs.out]; omega) (by rw [Hvs.out]; exact Hi.out) (valueCells_all _ _ _) ?_))
    have H2 := H.setRowPt (splice (valueCells 0 0 zeroRoot).toList 0 (valueCells M.count M.epoch M.root).toList).toArray
    rw [splice_whole _ _ (by rw [Array.length_toList, Array.length_toList, Hvz.out, Hvs.out]), Array.toArray_toList] at H2 ⊢
    exact bodyPost_ret (results_ct rfl _ _ q _ _ (0, 0) _ (by rfl) H2.pt Try.underlying31 rfl (by rw [Hvs.out]; exact Hi.out)) rfl ⟨rfl, H2.tail⟩
end
end Go.Proofs.Ytakeilefbcpabaa

/- The register goes on. -/
namespace Go.Proofs.Ytakeilefbcpabaa
open Go.RowKit

section
variable {c : Con} {F : List HP} {w : World} {m : Nat} {M : MeterM} {dv : Value} {D : DiskO}

theorem meter_dv (H : St c (MeterAt m dv M :: F) w) : w.cell? ⟨m, 35, none⟩ = some dv := by
  obtain ⟨hw, hm⟩ := meter_cells H
  exact (cell_of_row w m 35 _ _ _ hm).trans (meterCells_disk dv hw.root)
theorem disko_act_is {b : Bool} {k : Int} (hg : Hid (D.goes = b)) (hk : Hid (D.keeps = k)) (H : St c (DiskV dv D :: F) w) :
    Calls Try.prog 57 #[dv] w fun e w' => e = .returned (.tuple #[.bool b, .int .u64 k]) ∧ St c (DiskV dv D.act :: F) w' := by
  have h := disko_act H
  rw [hg.out, hk.out] at h
  exact h
theorem disko_off_is (H1 : St c (DiskV dv D.act :: F) w) (hg : D.goes = true) (k : Int) (hk0 : 0 ≤ k) (hk1 : k < 18446744073709551616) :
    Calls Try.prog 22 #[dv, .int .u64 k] w fun e w' => e = .returned (.tuple #[]) ∧ St c (DiskV dv (D.act.off k) :: F) w' := by
  cases D with
  | none => simp [DiskO.goes] at hg
  | some D =>
    obtain ⟨p, rfl, H2⟩ := H1.someDisk
    exact (disk_off H2 k hk0 hk1).mono fun e w' ⟨h1, h2⟩ => ⟨h1, h2.toDisk⟩
theorem St.keeps (H : St c (DiskV dv D :: F) w) : 0 ≤ D.keeps ∧ D.keeps < 18446744073709551616 := by
  cases D with
  | none => exact ⟨Int.le_refl _, by show (0 : Int) < _; omega⟩
  | some D =>
    obtain ⟨p, rfl, H2⟩ := H.someDisk
    obtain ⟨hw, _⟩ := H2.openDisk
    show 0 ≤ D.keeps ∧ D.keeps < _
    unfold DiskM.keeps
    split
    · exact ⟨hw.keep0, hw.keep1⟩
    · exact ⟨Int.le_refl _, by omega⟩
theorem root_info : (Try.prog.info? 28).map (·.size) = some 32 := by kernel_rfl

set_option maxRecDepth 100000 in
set_option maxHeartbeats 1000000 in
theorem meter_next_down (hd : Hid (D.down = true)) (H : St c (MeterAt m dv M :: DiskV dv D :: F) w) (ep : Int) (r : List UInt8) (_hr : r.length = 32) :
    Calls Try.prog 19 #[.pointer (some ⟨m, 0, none⟩), .int .i64 ep, .agg (bvs r).toArray] w fun e w' =>
      e = .returned (.int .i64 8) ∧ St c (MeterAt m dv M :: DiskV dv D :: F) w' := by
  obtain ⟨hw, _⟩ := meter_cells H
  have q0 := hw.count0
  have q1 := hw.count1
  have q2 := hw.most
  go_enter Try.func19, Try.ntmps19
  go_upto_region 1 with (fail)
  refine wp_gen (H.allocPt (.cells (bvs r).toArray 28)) ?_
  generalize w.heap.size = q
  clear H
  intro w1 H
  obtain ⟨_, hm⟩ := meter_cells H.tail
  have hc0 : w1.cell? ⟨m, 0, none⟩ = some (.int .i64 M.count) := cell_of_row w1 m 0 _ _ _ hm
  have hc1 : w1.cell? ⟨m, 1, none⟩ = some (.int .i64 M.epoch) := cell_of_row w1 m 1 _ _ _ hm
  have hc35 : w1.cell? ⟨m, 35, none⟩ = some dv := (cell_of_row w1 m 35 _ _ _ hm).trans (meterCells_disk dv hw.root)
  have hdv := dv_form H.tail.tail
  clear hm
  rcases hdv with rfl | ⟨p, rfl⟩
  all_goals
    go_wp2_with (go_at_call 40; refine (disko_down_is hd H.pull2).mono ?_; rintro e w' ⟨rfl, rfl⟩)
    go_returns
    exact ⟨rfl, H.tail⟩

set_option maxRecDepth 100000 in
set_option maxHeartbeats 1000000 in
theorem meter_next_arg (hd : Hid (D.down = false)) (H : St c (MeterAt m dv M :: DiskV dv D :: F) w) (ep : Int) (r : List UInt8) (_hr : r.length = 32) (he : ep < M.epoch) :
    Calls Try.prog 19 #[.pointer (some ⟨m, 0, none⟩), .int .i64 ep, .agg (bvs r).toArray] w fun e w' =>
      e = .returned (.int .i64 1) ∧ St c (MeterAt m dv M :: DiskV dv D :: F) w' := by
  obtain ⟨hw, _⟩ := meter_cells H
  have q0 := hw.count0
  have q1 := hw.count1
  have q2 := hw.most
  go_enter Try.func19, Try.ntmps19
  go_upto_region 1 with (fail)
  refine wp_gen (H.allocPt (.cells (bvs r).toArray 28)) ?_
  generalize w.heap.size = q
  clear H
  intro w1 H
  obtain ⟨_, hm⟩ := meter_cells H.tail
  have hc0 : w1.cell? ⟨m, 0, none⟩ = some (.int .i64 M.count) := cell_of_row w1 m 0 _ _ _ hm
  have hc1 : w1.cell? ⟨m, 1, none⟩ = some (.int .i64 M.epoch) := cell_of_row w1 m 1 _ _ _ hm
  have hc35 : w1.cell? ⟨m, 35, none⟩ = some dv := (cell_of_row w1 m 35 _ _ _ hm).trans (meterCells_disk dv hw.root)
  have hdv := dv_form H.tail.tail
  clear hm
  rcases hdv with rfl | ⟨p, rfl⟩
  all_goals
    go_wp2_with (go_at_call 40; refine (disko_down_is hd H.pull2).mono ?_; rintro e w' ⟨rfl, rfl⟩)
    go_returns
    exact ⟨rfl, H.tail⟩

set_option maxRecDepth 100000 in
set_option maxHeartbeats 1000000 in
theorem meter_next_spent (hd : Hid (D.down = false)) (H : St c (MeterAt m dv M :: DiskV dv D :: F) w) (ep : Int) (r : List UInt8) (_hr : r.length = 32) (he : M.epoch ≤ ep) (hs : Hid (M.most - M.count = 0)) :
    Calls Try.prog 19 #[.pointer (some ⟨m, 0, none⟩), .int .i64 ep, .agg (bvs r).toArray] w fun e w' =>
      e = .returned (.int .i64 10) ∧ St c (MeterAt m dv M :: DiskV dv D :: F) w' := by
  obtain ⟨hw, _⟩ := meter_cells H
  have q0 := hw.count0
  have q1 := hw.count1
  have q2 := hw.most
  go_enter Try.func19, Try.ntmps19
  go_upto_region 1 with (fail)
  refine wp_gen (H.allocPt (.cells (bvs r).toArray 28)) ?_
  generalize w.heap.size = q
  clear H
  intro w1 H
  obtain ⟨_, hm⟩ := meter_cells H.tail
  have hc0 : w1.cell? ⟨m, 0, none⟩ = some (.int .i64 M.count) := cell_of_row w1 m 0 _ _ _ hm
  have hc1 : w1.cell? ⟨m, 1, none⟩ = some (.int .i64 M.epoch) := cell_of_row w1 m 1 _ _ _ hm
  have hc35 : w1.cell? ⟨m, 35, none⟩ = some dv := (cell_of_row w1 m 35 _ _ _ hm).trans (meterCells_disk dv hw.root)
  have hdv := dv_form H.tail.tail
  clear hm
  have hs' : (M.most - M.count == 0) = true := by simpa using hs.out
  rcases hdv with rfl | ⟨p, rfl⟩
  all_goals
    go_wp2_with (first | (go_at_call 40; refine (disko_down_is hd H.pull2).mono ?_; rintro e w' ⟨rfl, rfl⟩) | (go_at_call 20; refine (meter_left H.tail).mono ?_; rintro e w' ⟨rfl, nq, rfl⟩))
    go_returns
    exact ⟨rfl, (H.drewN nq).tail⟩

set_option maxRecDepth 100000 in
set_option maxHeartbeats 1000000 in
theorem meter_next_ok (hd : Hid (D.down = false)) (hg : Hid (D.goes = false)) (hk : Hid (D.keeps = 0)) (H : St c (MeterAt m dv M :: DiskV dv D :: F) w) (ep : Int) (r : List UInt8) (hr : r.length = 32) (he : M.epoch ≤ ep) (he1 : ep ≤ 9223372036854775807) (hs : M.count < M.most) :
    Calls Try.prog 19 #[.pointer (some ⟨m, 0, none⟩), .int .i64 ep, .agg (bvs r).toArray] w fun e w' =>
      e = .returned (.int .i64 0) ∧ St c (MeterAt m dv { M with count := M.count + 1, epoch := ep, root := r } :: DiskV dv D.act :: F) w' := by
  obtain ⟨hw, _⟩ := meter_cells H
  have q0 := hw.count0
  have q1 := hw.count1
  have q2 := hw.most
  go_enter Try.func19, Try.ntmps19
  go_upto_region 1 with (fail)
  refine wp_gen (H.allocPt (.cells (bvs r).toArray 28)) ?_
  generalize w.heap.size = q
  clear H
  intro w1 H
  obtain ⟨_, hm⟩ := meter_cells H.tail
  have hc0 : w1.cell? ⟨m, 0, none⟩ = some (.int .i64 M.count) := cell_of_row w1 m 0 _ _ _ hm
  have hc1 : w1.cell? ⟨m, 1, none⟩ = some (.int .i64 M.epoch) := cell_of_row w1 m 1 _ _ _ hm
  have hc35 : w1.cell? ⟨m, 35, none⟩ = some dv := (cell_of_row w1 m 35 _ _ _ hm).trans (meterCells_disk dv hw.root)
  have hdv := dv_form H.tail.tail
  clear hm
  have hs' : (M.most - M.count == 0) = false := by rw [beq_eq_false_iff_ne]; omega
  rcases hdv with rfl | ⟨p, rfl⟩
  · go_upto_region 11 with (first | (go_at_call 40; refine (disko_down_is hd H.pull2).mono ?_; rintro e w' ⟨rfl, rfl⟩) | (go_at_call 20; refine (meter_left H.tail).mono ?_; rintro e w' ⟨rfl, nq, rfl⟩) | (go_at_call 57; refine (disko_act_is hg hk (H.drewN nq).pull2).mono ?_; rintro e w2 ⟨rfl, H2⟩))
    refine ex_gen' H2.pull2 ?_
    intro W HW
    obtain ⟨_, hm⟩ := meter_cells HW
    have hc0' : W.cell? ⟨m, 0, none⟩ = some (.int .i64 M.count) := cell_of_row W m 0 _ _ _ hm
    have Hm := Lib.hid hm
    have Hq := Lib.hid HW.pull2.pt
    have Hri := Lib.hid root_info
    have Hvi := Lib.hid value_info
    have Hrs := Lib.hid (show (bvs r).toArray.size = 32 from by rw [List.size_toArray, bvs, List.length_map, hr])
    have Hrx := Lib.hid (show (bvs r).toArray.extract 0 (0 + 32) = (bvs r).toArray from by rw [Nat.zero_add, ← Hrs.out]; exact Array.extract_size)
    have Hsz := Lib.hid (meterCells_size (.pointer none) hw.root)
    have Hvs := Lib.hid (valueCells_size (M.count + 1) ep hr)
    have Hst := Lib.hid (meterCells_store (.pointer none) hw.root (M.count + 1) ep hr)
    have hwn : ({ M with count := M.count + 1, epoch := ep, root := r } : MeterM).WF := ⟨hr, by show 0 ≤ M.count + 1; omega, by show M.count + 1 ≤ M.most; omega, hw.most, by show 0 ≤ ep; have := hw.epoch0; omega, he1⟩
    clear hm
    have hsum : IntKind.i64.wrap (M.count + 1) = M.count + 1 := IntWalk.i64_in _ (by omega)
    have hsum' : wrap64 (M.count + 1) = M.count + 1 := by unfold wrap64; omega
    refine region_tail 12 (by kernel_rfl) (by kernel_rfl) ?_
    simp only [List.take_succ_cons, List.take_zero, List.drop_succ_cons, List.drop_zero]
    iterate 8 still_step
    refine still_load_row (P := Try.prog) (op := ⟨some 53, .load 28 (.tmp 5), _, _, _, _⟩) (by rfl) _ _ (by rfl) q 0 32 (by rfl) _ _ 28 (0, 0) _ (by exact Hq.out) (by rw [Hrs.out]; omega) Hrx.out Try.underlying28 (by rfl) Hri.out ?_
    refine still_value (P := Try.prog) (op := ⟨some 54, .build 31 #[(0, .tmp 51), (1, .tmp 52), (2, .tmp 53)], _, _, _, _⟩) (by rfl) (run_build3 _ _ _ _ _ _ _ (by rfl) (.int .i64 (M.count + 1)) (.int .i64 ep) (.agg (bvs r).toArray) _ (by rfl) (by rfl) (by rfl) (build_value _ _ r hr _)) ?_
    iterate 2 still_step
    refine wpStill_nil ?_
    clear hsum hsum'
    refine go_store_row (P := Try.prog) (op := ⟨none, .store 31 (.tmp 56) (.tmp 54), _, _, _, _⟩) (by rfl) _ _ _ (by rfl) m 0 (valueCells (M.count + 1) ep r) (meterCells (.pointer none) M) (by rfl) (by rfl) 34 (by exact Hm.out) (by rw [Hsz.out, Hvs.out]; omega) (by rw [Hvs.out]; exact Hvi.out) (valueCells_all _ _ _) ?_
    refine wpList_nil ?_
    obtain ⟨_, HW1⟩ := St.pure HW.drew
    have H3 := HW1.setRowPt (splice (meterCells (.pointer none) M).toList 0 (valueCells (M.count + 1) ep r).toList).toArray
    rw [Hst.out] at H3 ⊢
    have H4 : St c (MeterAt m (.pointer none) { M with count := M.count + 1, epoch := ep, root := r } :: DiskV (.pointer none) D.act :: F) (W.drew.setRow m (meterCells (.pointer none) { M with count := M.count + 1, epoch := ep, root := r })) := (St.toPure hwn H3).pull2.tail
    refine ex_gen (R := Exit.then _ _) H4 ?_
    clear H4 H3 HW1 HW H2 Hst hc0'
    intro W5 H5
    go_wp2
    go_returns
    exact ⟨rfl, H5⟩
  · go_upto_region 11 with (first | (go_at_call 40; refine (disko_down_is hd H.pull2).mono ?_; rintro e w' ⟨rfl, rfl⟩) | (go_at_call 20; refine (meter_left H.tail).mono ?_; rintro e w' ⟨rfl, nq, rfl⟩) | (go_at_call 57; refine (disko_act_is hg hk (H.drewN nq).pull2).mono ?_; rintro e w2 ⟨rfl, H2⟩))
    refine ex_gen' H2.pull2 ?_
    intro W HW
    obtain ⟨_, hm⟩ := meter_cells HW
    have hc0' : W.cell? ⟨m, 0, none⟩ = some (.int .i64 M.count) := cell_of_row W m 0 _ _ _ hm
    have Hm := Lib.hid hm
    have Hq := Lib.hid HW.pull2.pt
    have Hri := Lib.hid root_info
    have Hvi := Lib.hid value_info
    have Hrs := Lib.hid (show (bvs r).toArray.size = 32 from by rw [List.size_toArray, bvs, List.length_map, hr])
    have Hrx := Lib.hid (show (bvs r).toArray.extract 0 (0 + 32) = (bvs r).toArray from by rw [Nat.zero_add, ← Hrs.out]; exact Array.extract_size)
    have Hsz := Lib.hid (meterCells_size (.pointer (some ⟨p, 0, none⟩)) hw.root)
    have Hvs := Lib.hid (valueCells_size (M.count + 1) ep hr)
    have Hst := Lib.hid (meterCells_store (.pointer (some ⟨p, 0, none⟩)) hw.root (M.count + 1) ep hr)
    have hwn : ({ M with count := M.count + 1, epoch := ep, root := r } : MeterM).WF := ⟨hr, by show 0 ≤ M.count + 1; omega, by show M.count + 1 ≤ M.most; omega, hw.most, by show 0 ≤ ep; have := hw.epoch0; omega, he1⟩
    clear hm
    have hsum : IntKind.i64.wrap (M.count + 1) = M.count + 1 := IntWalk.i64_in _ (by omega)
    have hsum' : wrap64 (M.count + 1) = M.count + 1 := by unfold wrap64; omega
    refine region_tail 12 (by kernel_rfl) (by kernel_rfl) ?_
    simp only [List.take_succ_cons, List.take_zero, List.drop_succ_cons, List.drop_zero]
    iterate 8 still_step
    refine still_load_row (P := Try.prog) (op := ⟨some 53, .load 28 (.tmp 5), _, _, _, _⟩) (by rfl) _ _ (by rfl) q 0 32 (by rfl) _ _ 28 (0, 0) _ (by exact Hq.out) (by rw [Hrs.out]; omega) Hrx.out Try.underlying28 (by rfl) Hri.out ?_
    refine still_value (P := Try.prog) (op := ⟨some 54, .build 31 #[(0, .tmp 51), (1, .tmp 52), (2, .tmp 53)], _, _, _, _⟩) (by rfl) (run_build3 _ _ _ _ _ _ _ (by rfl) (.int .i64 (M.count + 1)) (.int .i64 ep) (.agg (bvs r).toArray) _ (by rfl) (by rfl) (by rfl) (build_value _ _ r hr _)) ?_
    iterate 2 still_step
    refine wpStill_nil ?_
    clear hsum hsum'
    refine go_store_row (P := Try.prog) (op := ⟨none, .store 31 (.tmp 56) (.tmp 54), _, _, _, _⟩) (by rfl) _ _ _ (by rfl) m 0 (valueCells (M.count + 1) ep r) (meterCells (.pointer (some ⟨p, 0, none⟩)) M) (by rfl) (by rfl) 34 (by exact Hm.out) (by rw [Hsz.out, Hvs.out]; omega) (by rw [Hvs.out]; exact Hvi.out) (valueCells_all _ _ _) ?_
    refine wpList_nil ?_
    obtain ⟨_, HW1⟩ := St.pure HW.drew
    have H3 := HW1.setRowPt (splice (meterCells (.pointer (some ⟨p, 0, none⟩)) M).toList 0 (valueCells (M.count + 1) ep r).toList).toArray
    rw [Hst.out] at H3 ⊢
    have H4 : St c (MeterAt m (.pointer (some ⟨p, 0, none⟩)) { M with count := M.count + 1, epoch := ep, root := r } :: DiskV (.pointer (some ⟨p, 0, none⟩)) D.act :: F) (W.drew.setRow m (meterCells (.pointer (some ⟨p, 0, none⟩)) { M with count := M.count + 1, epoch := ep, root := r })) := (St.toPure hwn H3).pull2.tail
    refine ex_gen (R := Exit.then _ _) H4 ?_
    clear H4 H3 HW1 HW H2 Hst hc0'
    intro W5 H5
    go_wp2
    go_returns
    exact ⟨rfl, H5⟩
set_option maxRecDepth 100000 in
set_option maxHeartbeats 1000000 in
theorem meter_next_high (hd : Hid (D.down = false)) (hg : Hid (D.goes = true)) (k : Int) (hk : Hid (D.keeps = k)) (hkb : Hid ((k / 9223372036854775808 == 1) = true)) (H : St c (MeterAt m dv M :: DiskV dv D :: F) w) (ep : Int) (r : List UInt8) (hr : r.length = 32) (he : M.epoch ≤ ep) (he1 : ep ≤ 9223372036854775807) (hs : M.count < M.most) :
    Calls Try.prog 19 #[.pointer (some ⟨m, 0, none⟩), .int .i64 ep, .agg (bvs r).toArray] w fun e w' =>
      e = .returned (.int .i64 8) ∧ St c (MeterAt m dv { M with count := M.count + 1, epoch := ep, root := r } :: DiskV dv (D.act.off k) :: F) w' := by
  obtain ⟨hw, _⟩ := meter_cells H
  have q0 := hw.count0
  have q1 := hw.count1
  have q2 := hw.most
  go_enter Try.func19, Try.ntmps19
  go_upto_region 1 with (fail)
  refine wp_gen (H.allocPt (.cells (bvs r).toArray 28)) ?_
  generalize w.heap.size = q
  clear H
  intro w1 H
  obtain ⟨_, hm⟩ := meter_cells H.tail
  have hc0 : w1.cell? ⟨m, 0, none⟩ = some (.int .i64 M.count) := cell_of_row w1 m 0 _ _ _ hm
  have hc1 : w1.cell? ⟨m, 1, none⟩ = some (.int .i64 M.epoch) := cell_of_row w1 m 1 _ _ _ hm
  have hc35 : w1.cell? ⟨m, 35, none⟩ = some dv := (cell_of_row w1 m 35 _ _ _ hm).trans (meterCells_disk dv hw.root)
  have hdv := dv_form H.tail.tail
  clear hm
  obtain ⟨k0, k1⟩ := H.tail.tail.keeps
  rw [hk.out] at k0 k1
  have hs' : (M.most - M.count == 0) = false := by rw [beq_eq_false_iff_ne]; omega
  have hp : ∃ p, dv = .pointer (some ⟨p, 0, none⟩) := by
    rcases hdv with rfl | h
    · cases D with
      | none => exact absurd hg.out (by simp [DiskO.goes])
      | some D => obtain ⟨h, ⟨p, e, _⟩, _⟩ := H.tail.tail.get; cases e
    · exact h
  clear hdv
  obtain ⟨p, rfl⟩ := hp
  have hkb' := hkb.out
  go_upto_region 11 with (first | (go_at_call 40; refine (disko_down_is hd H.pull2).mono ?_; rintro e w' ⟨rfl, rfl⟩) | (go_at_call 20; refine (meter_left H.tail).mono ?_; rintro e w' ⟨rfl, nq, rfl⟩) | (go_at_call 57; refine (disko_act_is hg hk (H.drewN nq).pull2).mono ?_; rintro e w2 ⟨rfl, H2⟩))
  refine ex_gen' H2.pull2 ?_
  intro W HW
  obtain ⟨_, hm⟩ := meter_cells HW
  have hc0' : W.cell? ⟨m, 0, none⟩ = some (.int .i64 M.count) := cell_of_row W m 0 _ _ _ hm
  have Hm := Lib.hid hm
  have Hq := Lib.hid HW.pull2.pt
  have Hri := Lib.hid root_info
  have Hvi := Lib.hid value_info
  have Hrs := Lib.hid (show (bvs r).toArray.size = 32 from by rw [List.size_toArray, bvs, List.length_map, hr])
  have Hrx := Lib.hid (show (bvs r).toArray.extract 0 (0 + 32) = (bvs r).toArray from by rw [Nat.zero_add, ← Hrs.out]; exact Array.extract_size)
  have Hsz := Lib.hid (meterCells_size (.pointer (some ⟨p, 0, none⟩)) hw.root)
  have Hvs := Lib.hid (valueCells_size (M.count + 1) ep hr)
  have Hst := Lib.hid (meterCells_store (.pointer (some ⟨p, 0, none⟩)) hw.root (M.count + 1) ep hr)
  have hwn : ({ M with count := M.count + 1, epoch := ep, root := r } : MeterM).WF := ⟨hr, by show 0 ≤ M.count + 1; omega, by show M.count + 1 ≤ M.most; omega, hw.most, by show 0 ≤ ep; have := hw.epoch0; omega, he1⟩
  clear hm
  have hsum : IntKind.i64.wrap (M.count + 1) = M.count + 1 := IntWalk.i64_in _ (by omega)
  have hsum' : wrap64 (M.count + 1) = M.count + 1 := by unfold wrap64; omega
  refine region_tail 12 (by kernel_rfl) (by kernel_rfl) ?_
  simp only [List.take_succ_cons, List.take_zero, List.drop_succ_cons, List.drop_zero]
  iterate 8 still_step
  refine still_load_row (P := Try.prog) (op := ⟨some 53, .load 28 (.tmp 5), _, _, _, _⟩) (by rfl) _ _ (by rfl) q 0 32 (by rfl) _ _ 28 (0, 0) _ (by exact Hq.out) (by rw [Hrs.out]; omega) Hrx.out Try.underlying28 (by rfl) Hri.out ?_
  refine still_value (P := Try.prog) (op := ⟨some 54, .build 31 #[(0, .tmp 51), (1, .tmp 52), (2, .tmp 53)], _, _, _, _⟩) (by rfl) (run_build3 _ _ _ _ _ _ _ (by rfl) (.int .i64 (M.count + 1)) (.int .i64 ep) (.agg (bvs r).toArray) _ (by rfl) (by rfl) (by rfl) (build_value _ _ r hr _)) ?_
  iterate 2 still_step
  refine wpStill_nil ?_
  clear hsum hsum'
  refine go_store_row (P := Try.prog) (op := ⟨none, .store 31 (.tmp 56) (.tmp 54), _, _, _, _⟩) (by rfl) _ _ _ (by rfl) m 0 (valueCells (M.count + 1) ep r) (meterCells (.pointer (some ⟨p, 0, none⟩)) M) (by rfl) (by rfl) 34 (by exact Hm.out) (by rw [Hsz.out, Hvs.out]; omega) (by rw [Hvs.out]; exact Hvi.out) (valueCells_all _ _ _) ?_
  refine wpList_nil ?_
  obtain ⟨_, HW1⟩ := St.pure HW.drew
  have H3 := HW1.setRowPt (splice (meterCells (.pointer (some ⟨p, 0, none⟩)) M).toList 0 (valueCells (M.count + 1) ep r).toList).toArray
  rw [Hst.out] at H3 ⊢
  have H4 : St c (MeterAt m (.pointer (some ⟨p, 0, none⟩)) { M with count := M.count + 1, epoch := ep, root := r } :: DiskV (.pointer (some ⟨p, 0, none⟩)) D.act :: F) (W.drew.setRow m (meterCells (.pointer (some ⟨p, 0, none⟩)) { M with count := M.count + 1, epoch := ep, root := r })) := (St.toPure hwn H3).pull2.tail
  refine ex_gen (R := Exit.then _ _) H4 ?_
  clear H4 H3 HW1 HW H2 Hst hc0'
  intro W5 H5
  have hcx := meter_dv H5
  go_wp2_with (go_at_call 22; refine (disko_off_is H5.swap hg.out k k0 k1).mono ?_; rintro e w6 ⟨rfl, H6⟩)
  go_returns
  exact ⟨rfl, H6.swap⟩

set_option maxRecDepth 100000 in
set_option maxHeartbeats 1000000 in
theorem meter_next_low (hd : Hid (D.down = false)) (hg : Hid (D.goes = true)) (k : Int) (hk : Hid (D.keeps = k)) (hkb : Hid ((k / 9223372036854775808 == 1) = false)) (H : St c (MeterAt m dv M :: DiskV dv D :: F) w) (ep : Int) (r : List UInt8) (_hr : r.length = 32) (he : M.epoch ≤ ep) (_he1 : ep ≤ 9223372036854775807) (hs : M.count < M.most) :
    Calls Try.prog 19 #[.pointer (some ⟨m, 0, none⟩), .int .i64 ep, .agg (bvs r).toArray] w fun e w' =>
      e = .returned (.int .i64 8) ∧ St c (MeterAt m dv M :: DiskV dv (D.act.off k) :: F) w' := by
  obtain ⟨hw, _⟩ := meter_cells H
  have q0 := hw.count0
  have q1 := hw.count1
  have q2 := hw.most
  go_enter Try.func19, Try.ntmps19
  go_upto_region 1 with (fail)
  refine wp_gen (H.allocPt (.cells (bvs r).toArray 28)) ?_
  generalize w.heap.size = q
  clear H
  intro w1 H
  obtain ⟨_, hm⟩ := meter_cells H.tail
  have hc0 : w1.cell? ⟨m, 0, none⟩ = some (.int .i64 M.count) := cell_of_row w1 m 0 _ _ _ hm
  have hc1 : w1.cell? ⟨m, 1, none⟩ = some (.int .i64 M.epoch) := cell_of_row w1 m 1 _ _ _ hm
  have hc35 : w1.cell? ⟨m, 35, none⟩ = some dv := (cell_of_row w1 m 35 _ _ _ hm).trans (meterCells_disk dv hw.root)
  have hdv := dv_form H.tail.tail
  clear hm
  obtain ⟨k0, k1⟩ := H.tail.tail.keeps
  rw [hk.out] at k0 k1
  have hs' : (M.most - M.count == 0) = false := by rw [beq_eq_false_iff_ne]; omega
  have hp : ∃ p, dv = .pointer (some ⟨p, 0, none⟩) := by
    rcases hdv with rfl | h
    · cases D with
      | none => exact absurd hg.out (by simp [DiskO.goes])
      | some D => obtain ⟨h, ⟨p, e, _⟩, _⟩ := H.tail.tail.get; cases e
    · exact h
  clear hdv
  obtain ⟨p, rfl⟩ := hp
  have hkb' := hkb.out
  go_wp2_with (first | (go_at_call 40; refine (disko_down_is hd H.pull2).mono ?_; rintro e w' ⟨rfl, rfl⟩) | (go_at_call 20; refine (meter_left H.tail).mono ?_; rintro e w' ⟨rfl, nq, rfl⟩) | (go_at_call 57; refine (disko_act_is hg hk (H.drewN nq).pull2).mono ?_; rintro e w2 ⟨rfl, H2⟩; have hcx := meter_dv H2.pull2) | (go_at_call 22; refine (disko_off_is H2 hg.out k k0 k1).mono ?_; rintro e w6 ⟨rfl, H6⟩))
  go_returns
  exact ⟨rfl, H6.pull2.pull2.tail⟩

theorem nextD_down (hd : D.down = true) (ep : Int) : M.nextD D ep = D := by simp [MeterM.nextD, MeterM.steps, hd]
/-- Next, whatever happens. -/
theorem meter_next (H : St c (MeterAt m dv M :: DiskV dv D :: F) w) (ep : Int) (r : List UInt8) (hr : r.length = 32) (he1 : ep ≤ 9223372036854775807) :
    Calls Try.prog 19 #[.pointer (some ⟨m, 0, none⟩), .int .i64 ep, .agg (bvs r).toArray] w fun e w' =>
      e = .returned (.int .i64 (M.nextE D ep)) ∧ St c (MeterAt m dv (M.next D ep r) :: DiskV dv (M.nextD D ep) :: F) w' := by
  obtain ⟨hw, _⟩ := meter_cells H
  have q1 := hw.count1
  obtain ⟨k0, k1⟩ := H.swap.keeps
  cases hd : D.down
  case true =>
    have h := meter_next_down (Lib.hid hd) H ep r hr
    simpa [MeterM.nextE, MeterM.next, MeterM.nextD, MeterM.steps, hd] using h
  case false =>
    by_cases he : ep < M.epoch
    · have h := meter_next_arg (Lib.hid hd) H ep r hr he
      simpa [MeterM.nextE, MeterM.next, MeterM.nextD, MeterM.steps, hd, he] using h
    · by_cases hs : M.most - M.count = 0
      · have h := meter_next_spent (Lib.hid hd) H ep r hr (by omega) (Lib.hid hs)
        simpa [MeterM.nextE, MeterM.next, MeterM.nextD, MeterM.steps, hd, he, hs] using h
      · cases hg : D.goes
        case false =>
          have hk : D.keeps = 0 := by
            cases D with
            | none => rfl
            | some D => simpa [DiskO.keeps, DiskM.keeps, DiskO.goes] using fun h => absurd h (by simpa [DiskO.goes] using hg)
          have h := meter_next_ok (Lib.hid hd) (Lib.hid hg) (Lib.hid hk) H ep r hr (by omega) he1 (by omega)
          simpa [MeterM.nextE, MeterM.next, MeterM.nextD, MeterM.steps, hd, he, hs, hg] using h
        case true =>
          by_cases hk : 9223372036854775808 ≤ D.keeps
          · have hb : (D.keeps / 9223372036854775808 == 1) = true := by rw [beq_iff_eq]; omega
            have h := meter_next_high (Lib.hid hd) (Lib.hid hg) D.keeps (Lib.hid rfl) (Lib.hid hb) H ep r hr (by omega) he1 (by omega)
            simpa [MeterM.nextE, MeterM.next, MeterM.nextD, MeterM.steps, hd, he, hs, hg, hk] using h
          · have hb : (D.keeps / 9223372036854775808 == 1) = false := by rw [beq_eq_false_iff_ne]; omega
            have h := meter_next_low (Lib.hid hd) (Lib.hid hg) D.keeps (Lib.hid rfl) (Lib.hid hb) H ep r hr (by omega) he1 (by omega)
            simpa [MeterM.nextE, MeterM.next, MeterM.nextD, MeterM.steps, hd, he, hs, hg, hk] using h
end
end Go.Proofs.Ytakeilefbcpabaa
