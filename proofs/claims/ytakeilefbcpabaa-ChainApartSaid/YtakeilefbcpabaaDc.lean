/- The power goes: what Off does. -/
import Derived.Test.YtakeilefbcpabaaDb
import Derived.Test.YtakeilefbcpabaaSld
namespace Go.Proofs.Ytakeilefbcpabaa
open Go.RowKit

def zeroWrite : Array Value := #[.int .i64 0] ++ Array.replicate 256 (.int .u8 0)
theorem zeroWrite_info : (Try.prog.info? 111).map (fun i => (i.zero, i.size)) = some (some (.agg zeroWrite), 257) := by kernel_rfl
theorem sector_info : (Try.prog.info? 109).map (·.size) = some 256 := by kernel_rfl

section
variable {c : Con} {F : List HP} {w : World} {p : Nat} {D : DiskM}

set_option maxRecDepth 100000 in
set_option maxHeartbeats 1000000 in
theorem disk_off (H : St c (DiskAt p D :: F) w) (k : Int) (hk0 : 0 ≤ k) (hk1 : k < 18446744073709551616) :
    Calls Try.prog 22 #[.pointer (some ⟨p, 0, none⟩), .int .u64 k] w fun e w' => e = .returned (.tuple #[]) ∧ St c (DiskAt p (D.off k) :: F) w' := by
  obtain ⟨hw, n, s, wv, H⟩ := H.openDisk
  have h0 := H.pt
  have hc : ∀ j, w.cell? ⟨p, j, none⟩ = (Go.Proofs.Ytakeilefbcpabaa.diskCells n s wv D)[j]? := fun j => cell_of_row w p j _ _ _ h0
  have hf : ∀ j, w.frozen? ⟨p, j, none⟩ = false := fun j => frozen_of_row w p j _ _ h0
  unfold Go.Proofs.Ytakeilefbcpabaa.diskCells at hc
  clear h0
  obtain ⟨now, safe, waits, down, acts, fuse, keep⟩ := D
  dsimp only at hc
  cases down
  · obtain ⟨A, n', cap, hv, hA⟩ : ∃ A n' cap, wv = .slice A n' cap ∧ n' = waits.length := by
      obtain ⟨h, ⟨hx, ho⟩, _⟩ := H.pull3.get
      rcases ho with ⟨rfl, e⟩ | ⟨g, cap, cur, rfl, _⟩
      · exact ⟨_, _, _, rfl, e.symm⟩
      · exact ⟨_, _, _, rfl, rfl⟩
    subst hv hA
    go_enter Try.func22, Try.ntmps22
    go_wp2
    go_loopw [19] (fun i wr => ∃ j : Nat, j ≤ waits.length ∧ i = .int .i64 j ∧
        St c (DiskParts p n s (.slice A waits.length cap) ⟨now, keptFrom k 0 (waits.take j) safe, waits, false, acts, fuse, keep⟩ ++ F) wr)
      (fun i _ => waits.length - (intOf i).toNat)
    case atStart => exact ⟨0, Nat.zero_le _, rfl, H⟩
    case round =>
      obtain ⟨j, hj, rfl, H1⟩ := hrel
      clear hc hf
      by_cases hlt : j < waits.length
      · obtain ⟨g, cur, hA, hg, hcs, htake, _, hcap, hmax⟩ := owned_some H1.pull3 (by dsimp only; omega)
        have hmax : waits.length ≤ 9223372036854775807 := Nat.le_trans hcap hmax
        obtain rfl : A = some ⟨g, 0, none⟩ := hA
        have hx := hw.waits waits[j] (List.getElem_mem hlt)
        have hall : ∀ x ∈ waits, x.2.length = 256 := fun x hx => (hw.waits x hx).2
        have hcl : j * 257 + 257 ≤ cur.size := by
          have e := congrArg List.length htake
          rw [List.length_take, wcells_length hall, Array.length_toList] at e
          omega
        have hrow : cur.extract (j * 257) (j * 257 + 257) = (wcell waits[j]).toArray := by
          rw [← wcells_at hall j hlt, ← htake]
          apply Array.ext'
          rw [Array.toList_extract, List.extract_eq_take_drop, List.drop_take, List.take_take]
          congr 1
          simp only
          omega
        have hcz : (wcell waits[j]).toArray.size = 257 := by rw [List.size_toArray, wcell_length hx.2]
        have hzz : zeroWrite.size = 257 := by kernel_rfl
        have hone : (wcell waits[j]).toArray.all (·.oneCell') = true := all_oneCell_toArray (by
            intro v hv
            rcases List.mem_cons.1 hv with rfl | hv
            · rfl
            · exact bvs_oneCell _ v hv)
        have hmh : wr.heap.size < 9223372036854775807 ∨ True := .inr trivial
        generalize hcell : (wcell waits[j]).toArray = cell at *
        have Hcell := Lib.hid hcell
        have Htake := Lib.hid htake
        have Hcap := Lib.hid hcap
        have Hcs := Lib.hid hcs
        clear hcell htake hall hcap hcs
        have iw : (Try.prog.info? 111).map (·.size) = some 257 := by kernel_rfl
        have Hg := Lib.hid hg
        have Hrow := Lib.hid hrow
        have Hcz := Lib.hid hcz
        have Hzz := Lib.hid hzz
        have Hiw := Lib.hid iw
        have Hone := Lib.hid hone
        have hbit := bit_test k j hk0 hk1
        have hx2 := hx.2
        have hx1 : waits[j].1 < now.length := hx.1
        have Hx2 := Lib.hid hx2
        have hsnoc : keptFrom k 0 (waits.take (j + 1)) safe = if bitAt k j then (keptFrom k 0 (waits.take j) safe).set waits[j].1 waits[j].2 else keptFrom k 0 (waits.take j) safe := by
          rw [List.take_succ_eq_append_getElem hlt, keptFrom_snoc, List.length_take, Nat.zero_add, Nat.min_eq_left hj]
        have Hsnoc := Lib.hid hsnoc
        clear hg hrow hcz hzz iw hone hx hx2 hsnoc
        cases hb : bitAt k j
        · rw [hb] at hbit Hsnoc
          rw [if_neg (by simp)] at Hsnoc
          clear hb
          go_wp2_with (first
            | (refine go_load_row (P := Try.prog) (op := ⟨some 23, .load 111 (.tmp 22), _, _, _, _⟩) (by rfl) _ _ (by rfl) g (j * 257) 257 (by rfl) cur cell 111 (0, 0) _ (by exact Hg.out) hcl Hrow.out Try.underlying111 (by rfl) Hiw.out ?_)
            | (refine go_alloc_big (P := Try.prog) (op := ⟨some 5, .alloc 111, _, _, _, _⟩) (by rfl) _ (by rfl) zeroWrite_info ?_)
            | (refine go_store_new (P := Try.prog) (op := ⟨none, .store 111 (.tmp 5) (.tmp 23), _, _, _, _⟩) (by rfl) _ _ _ (by rfl) wr zeroWrite cell (by rfl) (by rfl) (by rfl) (by rw [Hcz.out]; exact Hiw.out) (Hzz.out.trans Hcz.out.symm) Hone.out ?_))
          go_roundw
          case rel => exact ⟨j + 1, by omega, by go_num, by rw [Hsnoc.out]; exact H1.alloc _⟩
          case measure => simp [intOf]; omega
        · rw [hb] at hbit Hsnoc
          rw [if_pos rfl] at Hsnoc
          clear hb
          go_wp2_with (first
            | (refine go_load_row (P := Try.prog) (op := ⟨some 23, .load 111 (.tmp 22), _, _, _, _⟩) (by rfl) _ _ (by rfl) g (j * 257) 257 (by rfl) cur cell 111 (0, 0) _ (by exact Hg.out) hcl Hrow.out Try.underlying111 (by rfl) Hiw.out ?_)
            | (refine go_alloc_big (P := Try.prog) (op := ⟨some 5, .alloc 111, _, _, _, _⟩) (by rfl) _ (by rfl) zeroWrite_info ?_)
            | (refine go_store_new (P := Try.prog) (op := ⟨none, .store 111 (.tmp 5) (.tmp 23), _, _, _, _⟩) (by rfl) _ _ _ (by rfl) wr zeroWrite cell (by rfl) (by rfl) (by rfl) (by rw [Hcz.out]; exact Hiw.out) (Hzz.out.trans Hcz.out.symm) Hone.out ?_))
          refine wp_gen (H1.allocPt (.cells cell 111)) ?_
          intro W HW
          generalize wr.heap.size = v at HW ⊢
          have hv := HW.pt
          have hp := HW.tail.pt
          have hs := HW.tail.tail.tail.pt
          have hc0 : W.cell? ⟨v, 0, none⟩ = some (.int .i64 (waits[j].1 : Int)) := by rw [cell_of_row W v 0 _ _ _ hv, ← Hcell.out]; rfl
          have hc1 : W.cell? ⟨p, 1, none⟩ = some (.slice (some ⟨s, 0, none⟩) now.length now.length) := cell_of_row W p 1 _ _ _ hp
          have hext : cell.extract 1 (1 + 256) = (bvs waits[j].2).toArray := by
            rw [← Hcell.out]
            apply Array.ext'
            rw [Array.toList_extract, List.extract_eq_take_drop, List.toList_toArray, wcell, List.drop_one, List.tail_cons]
            exact List.take_of_length_le (by rw [bvs, List.length_map, Hx2.out]; omega)
          have Hext := Lib.hid hext
          have Hv := Lib.hid hv
          have Hs := Lib.hid hs
          clear hv hp hs hext
          have hu9 := Lib.hid (show (Try.prog.info? 109).map (·.size) = some 256 from by kernel_rfl)
          have hKl : (keptFrom k 0 (waits.take j) safe).length = now.length := (keptFrom_length _ _ _ _).trans hw.same
          have hKa : ∀ x ∈ keptFrom k 0 (waits.take j) safe, x.length = 256 := keptFrom_all k _ _ _ (fun x hx => (hw.waits x (List.mem_of_mem_take hx)).2) hw.safe
          have hbl := Lib.hid (show (secs (keptFrom k 0 (waits.take j) safe)).toArray.size = now.length * 256 from by rw [List.size_toArray, secs_length hKa, hKl])
          have hbl2 := Lib.hid (show (bvs waits[j].2).toArray.size = 256 from by rw [List.size_toArray, bvs, List.length_map, Hx2.out])
          refine region_tail 9 (by kernel_rfl) (by kernel_rfl) ?_
          simp only [List.take_succ_cons, List.take_zero, List.drop_succ_cons, List.drop_zero]
          iterate 7 still_step
          refine still_load_row (P := Try.prog) (op := ⟨some 37, .load 109 (.tmp 36), _, _, _, _⟩) (by rfl) _ _ (by rfl) v 1 256 (by rfl) cell (bvs waits[j].2).toArray 111 (0, 0) _ (by exact Hv.out) (by rw [Hcz.out]; omega) Hext.out Try.underlying109 (by rfl) hu9.out ?_
          still_step
          refine wpStill_nil ?_
          refine go_store_row (P := Try.prog) (op := ⟨none, .store 109 (.tmp 38) (.tmp 37), _, _, _, _⟩) (by rfl) _ _ _ (by rfl) s (waits[j].1 * 256) (bvs waits[j].2).toArray (secs (keptFrom k 0 (waits.take j) safe)).toArray (by rfl) (by rfl) 109 (by exact Hs.out) (by rw [hbl.out, hbl2.out]; omega) (by rw [hbl2.out]; exact hu9.out) (all_oneCell_toArray (bvs_oneCell _)) ?_
          refine wpList_nil ?_
          have H2 := (HW.drew.tail.pull2.setRowPt (splice (secs (keptFrom k 0 (waits.take j) safe)).toArray.toList (waits[j].1 * 256) (bvs waits[j].2).toArray.toList).toArray).push2
          have hset : (splice (secs (keptFrom k 0 (waits.take j) safe)).toArray.toList (waits[j].1 * 256) (bvs waits[j].2).toArray.toList).toArray = (secs (keptFrom k 0 (waits.take (j + 1)) safe)).toArray := by
            rw [Hsnoc.out, secs_set hKa _ (by rw [hKl]; exact hx1) Hx2.out]
          have Hset := Lib.hid hset
          clear hset hc0 hc1 hKa
          go_wp2
          go_roundw
          case rel => exact ⟨j + 1, by omega, by go_num, by rw [Hset.out] at H2 ⊢; exact H2⟩
          case measure => simp [intOf]; omega
      · obtain rfl : j = waits.length := by omega
        rw [List.take_length] at H1
        go_wp2
        have hp := H1.pt
        have hn := H1.tail.pt
        have hs := H1.tail.tail.pt
        have hc0 : wr.cell? ⟨p, 0, none⟩ = some (.slice (some ⟨n, 0, none⟩) now.length now.length) := cell_of_row wr p 0 _ _ _ hp
        have hc1 : wr.cell? ⟨p, 1, none⟩ = some (.slice (some ⟨s, 0, none⟩) now.length now.length) := cell_of_row wr p 1 _ _ _ hp
        have hKl : (keptFrom k 0 waits safe).length = now.length := (keptFrom_length _ _ _ _).trans hw.same
        have hKa : ∀ x ∈ keptFrom k 0 waits safe, x.length = 256 := keptFrom_all k _ _ _ (fun x hx => (hw.waits x hx).2) hw.safe
        have hKb : (secs (keptFrom k 0 waits safe)).length = now.length * 256 := by rw [secs_length hKa, hKl]
        have hKn : (secs now).length = now.length * 256 := secs_length hw.now
        have Hn := Lib.hid hn
        have Hs := Lib.hid hs
        have HKb := Lib.hid hKb
        have HKn := Lib.hid hKn
        clear hn hs hp hKa hKb hKn
        have hcp : splice (secs now).toArray.toList 0 (secs (keptFrom k 0 waits safe)) = secs (keptFrom k 0 waits safe) := by
          rw [splice, List.take_zero, List.nil_append, Nat.zero_add, HKb.out, List.toList_toArray, ← HKn.out, List.drop_length, List.append_nil]
        have Hcp := Lib.hid hcp
        clear hcp
        have hu9 := Lib.hid (show (Try.prog.info? 109).map (·.size) = some 256 from by kernel_rfl)
        refine region_tail 8 (by kernel_rfl) (by kernel_rfl) ?_
        simp only [List.take_succ_cons, List.take_zero, List.drop_succ_cons, List.drop_zero]
        iterate 8 still_step
        refine wpStill_nil ?_
        refine go_copy_rows (P := Try.prog) (op := ⟨some 48, .call { callee := .builtin .copy, args := #[.tmp 43, .tmp 47], argTypes := #[104, 104] }, _, _, _, _⟩) (by rfl) _ _ _ _ (by rfl)
          109 n 0 now.length now.length ⟨s, 0, none⟩ now.length now.length (by rfl) (by rfl) (secs now).toArray 109 256 now.length (secs (keptFrom k 0 waits safe))
          Try.underlying104 hu9.out (by exact Hn.out) (by simp) HKb.out (fun j v hv => ?_) (by rw [HKb.out, List.size_toArray, HKn.out]; omega) (bvs_oneCell _) ?_
        · rw [add_mid, Nat.zero_add]
          show wr.cell? ⟨s, j, none⟩ = some v
          rw [cell_of_row wr s j _ _ _ Hs.out]
          simpa using hv
        refine wpList_nil ?_
        have H2 := (H1.drew.swap.setRowPt (splice (secs now).toArray.toList 0 (secs (keptFrom k 0 waits safe))).toArray).swap
        rw [Hcp.out] at H2 ⊢
        refine ex_gen (R := Exit.then _ _) H2 ?_
        clear H2 Hs Hn Hcp HKn HKb hc0 hc1 hKl
        intro W HW
        have hp := HW.pt
        have hc : ∀ j, W.cell? ⟨p, j, none⟩ = (Go.Proofs.Ytakeilefbcpabaa.diskCells n s (.slice A waits.length cap) ⟨now, keptFrom k 0 waits safe, waits, false, acts, fuse, keep⟩)[j]? := fun j => cell_of_row W p j _ _ _ hp
        have hf : ∀ j, W.frozen? ⟨p, j, none⟩ = false := fun j => frozen_of_row W p j _ _ hp
        unfold Go.Proofs.Ytakeilefbcpabaa.diskCells at hc
        clear hp
        have HF : ∀ w' : World, w' = ((W.setCell ⟨p, 2, none⟩ (.slice none 0 0)).setCell ⟨p, 3, none⟩ (.bool true)).setCell ⟨p, 5, none⟩ (.int .i64 0) → St c (DiskAt p (DiskM.off ⟨now, safe, waits, false, acts, fuse, keep⟩ k) :: F) w' := by
          rintro w' rfl
          have h4 := ((((HW.setPt 2 (.slice none 0 0)).setPt 3 (.bool true)).setPt 5 (.int .i64 0)).pull3.tail.addNil 111 257).push3
          have e : DiskM.off ⟨now, safe, waits, false, acts, fuse, keep⟩ k = ⟨keptFrom k 0 waits safe, keptFrom k 0 waits safe, [], true, acts, 0, keep⟩ := rfl
          rw [e]
          refine St.shutDisk (n := n) (s := s) (wv := .slice none 0 0) (hw.off k) ?_
          have hl : (keptFrom k 0 waits safe).length = now.length := (keptFrom_length _ _ _ _).trans hw.same
          have e2 : Go.Proofs.Ytakeilefbcpabaa.diskCells n s (.slice none 0 0) ⟨keptFrom k 0 waits safe, keptFrom k 0 waits safe, [], true, acts, 0, keep⟩ =
              (((Go.Proofs.Ytakeilefbcpabaa.diskCells n s (.slice A waits.length cap) ⟨now, keptFrom k 0 waits safe, waits, false, acts, fuse, keep⟩).setIfInBounds 2 (.slice none 0 0)).setIfInBounds 3 (.bool true)).setIfInBounds 5 (.int .i64 0) := by
            simp only [Go.Proofs.Ytakeilefbcpabaa.diskCells, hl]; rfl
          show St c (Pt p _ :: _) _
          rw [e2]
          exact h4
        clear HW H1 H
        go_wp2
        go_returns
        exact ⟨rfl, HF _ rfl⟩
  · have HF : ∀ w' : World, St c (DiskParts p n s wv ⟨now, safe, waits, true, acts, fuse, keep⟩ ++ F) w → w' = w → St c (DiskAt p (DiskM.off ⟨now, safe, waits, true, acts, fuse, keep⟩ k) :: F) w' := by
      rintro w' H rfl
      exact St.shutDisk hw H
    go_enter Try.func22, Try.ntmps22
    go_wp2
    go_returns
    exact ⟨rfl, HF _ H rfl⟩
end
end Go.Proofs.Ytakeilefbcpabaa
