/- MeterRises: the walk. -/
import Derived.Test.YtakeilefbcpabaaMp
import Derived.Test.YtakeilefbcpabaaOq
namespace Go.Proofs.Ytakeilefbcpabaa
open Go.RowKit

theorem mcall_zero : (Try.prog.info? 40).map (fun i => (i.zero, i.size)) = some (some (.agg (mcallCells ⟨0, 0, zeroRoot, 0⟩).toArray), 35) := by kernel_rfl
theorem mcall_info : (Try.prog.info? 40).map (·.size) = some 35 := by kernel_rfl
theorem load_at {P : Program} (w : World) (ad : Addr) (ty : TypeId) (cs : List Value) (d : TypeDesc) (hc : CellsAt w ad cs) (hu : P.underlying ty = some d) (hd : d.isRow = true) (hi : (P.info? ty).map (·.size) = some cs.length) :
    (Instr.loadAt ty (.pointer (some ad))).run P w = .ok (.agg cs.toArray) w := by
  have hl : (loadCells ad cs.length).run P w = .ok cs.toArray w := run_loadCells_list (P := P) w ad cs hc
  cases hq : P.info? ty with
  | none => simp [hq] at hi
  | some i =>
    have hs : i.size = cs.length := by simpa [hq] using hi
    have hagg : (isAgg ty).run P w = .ok true w := by
      unfold isAgg
      rw [Sem.run_bind, run_underlying hu w]
      cases d <;> simp_all
    simp [Instr.loadAt, Instr.sureAddr, loadVar, Sem.run_bind, hagg, sizeOf, typeInfo, hq, hs, hl]
theorem op_load_at {P : Program} {op : Oper} {a : Act} {w : World} {K : Act → World → Prop} {Q : Exit → Act → World → Prop} (ty : TypeId) (x : Operand) (ho : op.op = .load ty x)
    (ad : Addr) (hx : a.eval x = .pointer (some ad)) (cs : List Value) (d : TypeDesc) (hc : CellsAt w ad cs) (hu : P.underlying ty = some d) (hd : d.isRow = true) (hi : (P.info? ty).map (·.size) = some cs.length)
    (h : K (a.put op.dst (.agg cs.toArray)) w) : op.wp P a w K Q := by
  unfold Oper.wp execOp
  simp only [ho, hx, Sem.run_bind, load_at w ad ty cs d hc hu hd hi, Result.andThen_ok, Sem.run_pure]
  exact h
theorem value_whole (c e : Int) {r : List UInt8} (hr : r.length = 32) : (valueCells c e r).extract 0 (0 + 34) = valueCells c e r := by
  rw [Nat.zero_add, ← valueCells_size c e hr]; exact Array.extract_size

/-- What Next leaves. -/
theorem next_rises {M : MeterM} (hw : M.WF) (D : DiskO) {ep : Int} (r : List UInt8) :
    (M.nextE D ep = 0 ∧ M.next D ep r = { M with count := M.count + 1, epoch := ep, root := r } ∧ M.epoch ≤ ep) ∨
    (M.nextE D ep = 8 ∧ (M.next D ep r = M ∨ (M.next D ep r = { M with count := M.count + 1, epoch := ep, root := r } ∧ M.epoch ≤ ep))) ∨
    (M.nextE D ep = 1 ∧ M.next D ep r = M) ∨ (M.nextE D ep = 10 ∧ M.next D ep r = M) := by
  have _ := hw
  cases hd : D.down
  · by_cases he : ep < M.epoch
    · refine .inr (.inr (.inl ⟨by simp [MeterM.nextE, hd, he], by simp [MeterM.next, MeterM.steps, he]⟩))
    · by_cases hs : M.most - M.count = 0
      · refine .inr (.inr (.inr ⟨by simp [MeterM.nextE, hd, he, hs], by simp [MeterM.next, MeterM.steps, hs]⟩))
      · cases hg : D.goes
        · exact .inl ⟨by simp [MeterM.nextE, hd, he, hs, hg], by simp [MeterM.next, MeterM.steps, hd, he, hs, hg], by omega⟩
        · refine .inr (.inl ⟨by simp [MeterM.nextE, hd, he, hs, hg], ?_⟩)
          unfold MeterM.next
          split
          · exact .inr ⟨rfl, by omega⟩
          · exact .inl rfl
  · exact .inr (.inl ⟨by simp [MeterM.nextE, hd], .inl (by simp [MeterM.next, MeterM.steps, hd])⟩)

def RisesMet (kind ep : Int) (r : List UInt8) (M : MeterM) (E : Int) (M1 : MeterM) : Prop :=
  (kind = 0 ∧ E = 0 ∧ M1 = { M with count := M.count + 1, epoch := ep, root := r } ∧ M.epoch ≤ ep) ∨ (kind = 0 ∧ E = 8 ∧ M.count ≤ M1.count ∧ M1.count ≤ M.count + 1 ∧ M.epoch ≤ M1.epoch) ∨ ((kind ≠ 0 ∨ E ≠ 0 ∧ E ≠ 8) ∧ M1 = M)
theorem rises_met {M : MeterM} (hw : M.WF) (D : DiskO) (ep : Int) (r : List UInt8) : RisesMet 0 ep r M (M.nextE D ep) (M.next D ep r) := by
  rcases next_rises hw D (ep := ep) r with ⟨hE, hM, hep⟩ | ⟨hE, hM | ⟨hM, hep⟩⟩ | ⟨hE, hM⟩ | ⟨hE, hM⟩
  · exact .inl ⟨rfl, hE, hM, hep⟩
  · exact .inr (.inl ⟨rfl, hE, by rw [hM]; omega, by rw [hM]; omega, by rw [hM]; omega⟩)
  · exact .inr (.inl ⟨rfl, hE, by rw [hM]; show M.count ≤ M.count + 1; omega, by rw [hM]; show M.count + 1 ≤ M.count + 1; omega, by rw [hM]; exact hep⟩)
  · exact .inr (.inr ⟨.inr ⟨by omega, by omega⟩, hM⟩)
  · exact .inr (.inr ⟨.inr ⟨by omega, by omega⟩, hM⟩)

section
set_option maxRecDepth 100000 in
set_option maxHeartbeats 400000 in
theorem meterRises_out (most : Int) (A : Option Addr) (len cap : Nat) (w : World) (hlen : len ≤ 9223372036854775807) (h : 80 < len) :
    Calls Try.prog 4 #[.int .i64 most, .slice A len cap] w fun e w' => e = .returned (.bool true) ∧ Below w.heap.size w w' := by
  have H := St.start w
  go_enter Try.func4, Try.ntmps4
  go_wp2_with (go_at_call 17; refine (alive12 H).mono ?_; rintro e w1 ⟨rfl, H1⟩)
  go_returns
  exact ⟨rfl, H1.toBelow'⟩

set_option maxRecDepth 100000 in
set_option maxHeartbeats 8000000 in
theorem meterRises_in (most : Int) (A : Option Addr) (len cap : Nat) (zs : List MCall) (w : World) (hrow : ElemsOf IsMCall 35 w A len zs) (h2 : len ≤ 80) :
    Calls Try.prog 4 #[.int .i64 most, .slice A len cap] w fun e w' => e = .returned (.bool true) ∧ Below w.heap.size w w' := by
  have H := St.start w
  go_enter Try.func4, Try.ntmps4
  go_upto_region 8 with (first | (go_at_call 17; refine (alive12 H).mono ?_; rintro e w1 ⟨rfl, H1⟩) | (go_at_call 21; refine (disk_new H1 2 (by omega) (by omega)).mono ?_; rintro e w2 ⟨p, rfl, H2⟩) | (go_at_call 18; refine (meter_new H2 most (.pointer (some ⟨p, 0, none⟩)) (.inr ⟨p, rfl⟩)).mono ?_; rintro e w3 ⟨m, rfl, H3⟩) | (refine go_alloc_big (P := Try.prog) (op := ⟨some 7, .alloc 31, _, _, _, _⟩) (by rfl) _ (by rfl) value_zero ?_))
  refine wp_gen (H3.allocPt (.cells (valueCells 0 0 zeroRoot) 31)).push2 ?_
  generalize w3.heap.size = q
  clear H1 H2 H3 H
  intro w4 H4
  go_wp2
  go_loopw [24] (fun i wr => ∃ (j : Nat) (M : MeterM) (D : DiskM), j ≤ len ∧ i = .int .i64 j ∧ D.down = false ∧
      St (conOf w) [MeterAt m (.pointer (some ⟨p, 0, none⟩)) M, DiskAt p D, Pt q (.cells (valueCells M.count M.epoch M.root) 31 (0, 0)), Old w] wr)
    (fun i _ => len - (intOf i).toNat)
  case atStart => exact ⟨0, meterOf most, DiskM.new (clip 2), Nat.zero_le _, rfl, rfl, H4⟩
  case round =>
    obtain ⟨j, M, D, hj, rfl, hdn, H5⟩ := hrel
    have hdn := Lib.hid hdn
    by_cases hlt : j < len
    case neg =>
      go_wp2
      go_returns
      exact ⟨rfl, H5.pull3.toBelow'⟩
    case pos =>
    obtain ⟨hzl, hl63, hcell⟩ := hrow
    obtain ⟨a, cs, rfl, ⟨hxw, rfl⟩, hcl, hca⟩ := hcell j zs[j] (List.getElem?_eq_getElem (by omega))
    generalize zs[j] = x at hxw hcl hca
    have hca' : CellsAt wr (a.add (j * 35)) (mcallCells x) := fun i u hu => by
      have e := hca i u hu
      rw [World.cell?_of_block (w := w) (H5.pull3.old _ (World.block_lt_of_cell? w _ e))]
      exact e
    obtain ⟨hMw, _⟩ := meter_cells H5
    have Hcl := Lib.hid hcl
    have Hca := Lib.hid hca'
    have Hci := Lib.hid mcall_info
    have Hvi := Lib.hid value_info
    have Hri := Lib.hid root_info
    have Hxr := Lib.hid hxw.root
    have Hcz := Lib.hid (show (mcallCells ⟨0, 0, zeroRoot, 0⟩).toArray.size = 35 from by rw [List.size_toArray, mcall_length zeroRoot_length])
    have Hn2 := Lib.hid (show 2 + 32 ≤ (mcallCells x).toArray.size from by rw [List.size_toArray, hcl]; omega)
    clear hcell hzl hcl hca hca'
    go_upto_region 11 with (first
      | ((with_reducible refine wpList_plain (o := ⟨some 27, .load 40 (.tmp 26), _, _, _, _⟩) ?_ (fun K hK => ?_)); (focus rfl); refine op_load_at (P := Try.prog) 40 (.tmp 26) (by kernel_rfl) (a.add (j * 35)) (by kernel_rfl) (mcallCells x) _ Hca.out Try.underlying40 rfl (by rw [Hcl.out]; exact Hci.out) (hK _ _ ?_))
      | ((with_reducible refine wpList_plain (o := ⟨some 9, .alloc 40, _, _, _, _⟩) ?_ (fun K hK => ?_)); (focus rfl); refine op_alloc_big (P := Try.prog) 40 (by kernel_rfl) mcall_zero (hK _ _ ?_))
      | ((with_reducible refine wpList_plain (o := ⟨none, .store 40 (.tmp 9) (.tmp 27), _, _, _, _⟩) ?_ (fun K hK => ?_)); (focus rfl); refine op_store_new (P := Try.prog) 40 (.tmp 9) (.tmp 27) (by kernel_rfl) wr (mcallCells ⟨0, 0, zeroRoot, 0⟩).toArray (mcallCells x).toArray rfl (by kernel_rfl) (by kernel_rfl) (by rw [List.size_toArray, Hcl.out]; exact Hci.out) (by rw [Hcz.out, List.size_toArray, Hcl.out]) (mcall_all x) (hK _ _ ?_)))
    refine wp_gen (H5.allocPt (.cells (mcallCells x).toArray 40)).push2 ?_
    generalize wr.heap.size = v
    clear H5 H4
    intro W HW
    obtain ⟨f0, f1, f2⟩ := mcall_facts Hxr.out HW.pull2
    obtain ⟨kind, ep, r, keep⟩ := x
    obtain ⟨k0, k1, e0, e1, hr, p0, p1⟩ := hxw
    dsimp only at f0 f1 f2 k0 k1 e0 e1 p0 p1
    have Hr := Lib.hid hr
    clear hr
    clear hdn
    go_upto_if 30 with (fail)
    go_cut [] (fun wx => ∃ D1 : DiskM, St (conOf w) [MeterAt m (.pointer (some ⟨p, 0, none⟩)) M, DiskAt p D1, Pt v (.cells (mcallCells ⟨kind, ep, r, keep⟩).toArray 40 (0, 0)), Pt q (.cells (valueCells M.count M.epoch M.root) 31 (0, 0)), Old w] wx)
    case first =>
      by_cases hk : kind = 1
      · subst hk
        go_wp2_with ((go_at_call 22; refine (disk_off HW.swap keep p0 p1).mono ?_; rintro e w5 ⟨rfl, H5⟩))
        go_meet
        exact ⟨_, (by assumption : St _ _ _).swap⟩
      · have hk' : (kind == 1) = false := by simpa using hk
        clear hk
        go_wp2
        go_meet
        exact ⟨D, HW⟩
    case rest =>
    obtain ⟨D1, HW1⟩ := hcut
    clear HW
    obtain ⟨W1, rfl⟩ : ∃ x, x = wc := ⟨_, rfl⟩
    obtain ⟨f0, f1, f2⟩ := mcall_facts Hxr.out HW1.pull2
    go_upto_if 37 with (fail)
    go_cut [] (fun wx => ∃ D1 : DiskM, St (conOf w) [MeterAt m (.pointer (some ⟨p, 0, none⟩)) M, DiskAt p D1, Pt v (.cells (mcallCells ⟨kind, ep, r, keep⟩).toArray 40 (0, 0)), Pt q (.cells (valueCells M.count M.epoch M.root) 31 (0, 0)), Old w] wx)
    case first =>
      by_cases hk : kind = 3
      · subst hk
        go_wp2_with ((go_at_call 23; refine (disk_arm HW1.swap ep keep e0 e1 p0 p1).mono ?_; rintro e w5 ⟨rfl, H5⟩))
        go_meet
        exact ⟨_, (by assumption : St _ _ _).swap⟩
      · have hk' : (kind == 3) = false := by simpa using hk
        clear hk
        go_wp2
        go_meet
        exact ⟨D1, HW1⟩
    case rest =>
    obtain ⟨D2, HW2⟩ := hcut
    clear HW1
    obtain ⟨W2, rfl⟩ : ∃ x, x = wc := ⟨_, rfl⟩
    obtain ⟨f0, f1, f2⟩ := mcall_facts Hxr.out HW2.pull2
    go_upto_if 46 with (fail)
    go_cut [10] (fun s10 wx => ∃ (E : Int) (M1 : MeterM) (D3 : DiskM), s10 = .int .i64 E ∧ St (conOf w) [MeterAt m (.pointer (some ⟨p, 0, none⟩)) M1, DiskAt p D3, Pt v (.cells (mcallCells ⟨kind, ep, r, keep⟩).toArray 40 (0, 0)), Pt q (.cells (valueCells M.count M.epoch M.root) 31 (0, 0)), Old w] wx ∧ RisesMet kind ep r M E M1)
    case first =>
      by_cases hk : kind = 0
      · subst hk
        go_wp2_with (first | ((with_reducible refine wpList_plain (o := ⟨some 51, .load 28 (.tmp 50), _, _, _, _⟩) ?_ (fun K hK => ?_)); (focus rfl); refine op_load_row (P := Try.prog) 28 (.tmp 50) (by kernel_rfl) v 2 32 (by kernel_rfl) _ _ 40 (0, 0) _ HW2.pull2.pt Hn2.out (mcall_root Hxr.out) Try.underlying28 rfl Hri.out (hK _ _ ?_)) | (go_at_call 19; refine (meter_next_d HW2 ep _ r rfl Hr.out e1 rfl rfl rfl).mono ?_; rintro e w5 ⟨rfl, H5⟩))
        go_meet
        exact ⟨_, _, _, rfl, H5, rises_met hMw _ _ _⟩
      · have hk' : (kind == 0) = false := by simpa using hk
        go_wp2
        go_meet
        exact ⟨0, M, D2, rfl, HW2, .inr (.inr ⟨.inl hk, rfl⟩)⟩
    case rest =>
    obtain ⟨E, M1, D3, rfl, H5, hc⟩ := hcut
    clear HW2
    rcases hc with ⟨hk0, hE0, hM1, hep⟩ | ⟨hk0, hE8, q1, q2, q3⟩ | ⟨hsame, hM1⟩
    · subst hk0 hE0 hM1
      have hMx := (meter_cells H5).1
      go_upto_region 20 with (first
        | (go_at_call 24; refine (disk_on H5.swap).mono ?_; rintro e w6 ⟨rfl, H6⟩)
        | (go_at_call 25; refine (meter_get_d rfl H6.swap).mono ?_; rintro e w7 ⟨rfl, H7⟩)
        | ((with_reducible refine wpList_plain (o := ⟨some 11, .alloc 31, _, _, _, _⟩) ?_ (fun K hK => ?_)); (focus rfl); refine op_alloc_big (P := Try.prog) 31 (by kernel_rfl) value_zero (hK _ _ ?_))
        | ((with_reducible refine wpList_plain (o := ⟨none, .store 31 (.tmp 11) (.tmp 58), _, _, _, _⟩) ?_ (fun K hK => ?_)); (focus rfl); refine op_store_new (P := Try.prog) 31 (.tmp 11) (.tmp 58) (by kernel_rfl) w7 (valueCells 0 0 zeroRoot) (valueCells (({ M with count := M.count + 1, epoch := ep, root := r } : MeterM)).count (({ M with count := M.count + 1, epoch := ep, root := r } : MeterM)).epoch (({ M with count := M.count + 1, epoch := ep, root := r } : MeterM)).root) rfl (by kernel_rfl) (by kernel_rfl) (by rw [valueCells_size _ _ hMx.root]; exact Hvi.out) (by rw [valueCells_size _ _ zeroRoot_length, valueCells_size _ _ hMx.root]) (valueCells_all _ _ _) (hK _ _ ?_)))
      refine wp_gen (H7.allocPt (.cells (valueCells (({ M with count := M.count + 1, epoch := ep, root := r } : MeterM)).count (({ M with count := M.count + 1, epoch := ep, root := r } : MeterM)).epoch (({ M with count := M.count + 1, epoch := ep, root := r } : MeterM)).root) 31)).push2 ?_
      generalize w7.heap.size = u
      clear H6 H7
      intro w8 H8
      obtain ⟨g0, g1, g2⟩ := mcall_facts Hxr.out H8.pull3
      have hu8 := H8.pull2.pt
      have hq8 := H8.pull4.pt
      have a0 : w8.cell? ⟨u, 0, none⟩ = some (.int .i64 (({ M with count := M.count + 1, epoch := ep, root := r } : MeterM)).count) := cell_of_row w8 u 0 _ _ _ hu8
      have a1 : w8.cell? ⟨u, 1, none⟩ = some (.int .i64 (({ M with count := M.count + 1, epoch := ep, root := r } : MeterM)).epoch) := cell_of_row w8 u 1 _ _ _ hu8
      have b0 : w8.cell? ⟨q, 0, none⟩ = some (.int .i64 M.count) := cell_of_row w8 q 0 _ _ _ hq8
      have b1 : w8.cell? ⟨q, 1, none⟩ = some (.int .i64 M.epoch) := cell_of_row w8 q 1 _ _ _ hq8
      have Hu8 := Lib.hid hu8
      have Hq8 := Lib.hid hq8
      clear hu8 hq8
      have c0 := hMx.count0
      have c1 := hMx.count1
      have c2 := hMx.most
      have c3 := hMx.epoch0
      have c4 := hMx.epoch1
      have d0 := hMw.count0
      have d1 := hMw.count1
      have d2 := hMw.most
      have d3 := hMw.epoch0
      have d4 := hMw.epoch1
      have Hxw := Lib.hid (value_whole (({ M with count := M.count + 1, epoch := ep, root := r } : MeterM)).count (({ M with count := M.count + 1, epoch := ep, root := r } : MeterM)).epoch hMx.root)
      have Hmw := Lib.hid (value_whole M.count M.epoch hMw.root)
      have Hxs := Lib.hid (valueCells_size (({ M with count := M.count + 1, epoch := ep, root := r } : MeterM)).count (({ M with count := M.count + 1, epoch := ep, root := r } : MeterM)).epoch hMx.root)
      have Hms := Lib.hid (valueCells_size M.count M.epoch hMw.root)
      have Hxn := Lib.hid (show 0 + 34 ≤ (valueCells (({ M with count := M.count + 1, epoch := ep, root := r } : MeterM)).count (({ M with count := M.count + 1, epoch := ep, root := r } : MeterM)).epoch (({ M with count := M.count + 1, epoch := ep, root := r } : MeterM)).root).size from by rw [Hxs.out]; omega)
      have Hmn := Lib.hid (show 0 + 34 ≤ (valueCells M.count M.epoch M.root).size from by rw [Hms.out]; omega)
      have Hst1 := Lib.hid (show 0 + (valueCells (({ M with count := M.count + 1, epoch := ep, root := r } : MeterM)).count (({ M with count := M.count + 1, epoch := ep, root := r } : MeterM)).epoch (({ M with count := M.count + 1, epoch := ep, root := r } : MeterM)).root).size ≤ (valueCells M.count M.epoch M.root).size from by first | (rw [Hxs.out, Hms.out]; omega) | (rw [Hxs.out]; omega))
      have Hst2 := Lib.hid (show (Try.prog.info? 31).map (·.size) = some (valueCells (({ M with count := M.count + 1, epoch := ep, root := r } : MeterM)).count (({ M with count := M.count + 1, epoch := ep, root := r } : MeterM)).epoch (({ M with count := M.count + 1, epoch := ep, root := r } : MeterM)).root).size from by rw [Hxs.out]; exact Hvi.out)
      have Hsame := Lib.hid (fun w : World => value_same (c := (({ M with count := M.count + 1, epoch := ep, root := r } : MeterM)).count) (e := (({ M with count := M.count + 1, epoch := ep, root := r } : MeterM)).epoch) (r := (({ M with count := M.count + 1, epoch := ep, root := r } : MeterM)).root) ⟨by omega, by omega⟩ ⟨by omega, by omega⟩ hMx.root w)
      have q1 : decide ((({ M with count := M.count + 1, epoch := ep, root := r } : MeterM)).count < M.count) = false := by simp; omega
      have q2 : decide (M.count + 1 < (({ M with count := M.count + 1, epoch := ep, root := r } : MeterM)).count) = false := by simp
      have q3 : decide ((({ M with count := M.count + 1, epoch := ep, root := r } : MeterM)).epoch < M.epoch) = false := by simp; omega
      go_upto_region 22 with (fail)
      go_upto_region 24 with (first
        | ((with_reducible refine BigFrame.wpList_want (o := ⟨some 92, .load 31 (.tmp 11), _, _, _, _⟩) ?_ (fun K hK => ?_)); (focus kernel_rfl); refine op_load_row (P := Try.prog) 31 (.tmp 11) (by kernel_rfl) u 0 34 (by kernel_rfl) _ _ 31 (0, 0) _ Hu8.out Hxn.out Hxw.out Try.underlying31 rfl Hvi.out (hK _ _ ?_))
        | ((with_reducible refine BigFrame.wpList_want (o := ⟨some 99, .load 28 (.tmp 98), _, _, _, _⟩) ?_ (fun K hK => ?_)); (focus kernel_rfl); refine op_load_row (P := Try.prog) 28 (.tmp 98) (by kernel_rfl) v 2 32 (by kernel_rfl) _ _ 40 (0, 0) _ H8.pull3.pt Hn2.out (mcall_root Hxr.out) Try.underlying28 rfl Hri.out (hK _ _ ?_))
        | ((with_reducible refine BigFrame.wpList_want (o := ⟨some 100, .build 31 #[(0, .tmp 95), (1, .tmp 97), (2, .tmp 99)], _, _, _, _⟩) ?_ (fun K hK => ?_)); (focus kernel_rfl); refine op_value (P := Try.prog) (run_build3 31 0 1 2 (.tmp 95) (.tmp 97) (.tmp 99) (by kernel_rfl) (.int .i64 (M.count + 1)) (.int .i64 ep) (.agg (bvs r).toArray) _ (by kernel_rfl) (by kernel_rfl) (by kernel_rfl) (build_value _ _ r Hr.out _)) (hK _ _ ?_))
        | ((with_reducible refine BigFrame.wpList_want (o := ⟨some 101, .binOp .neq 31 (.tmp 92) (.tmp 100) 31, _, _, _, _⟩) ?_ (fun K hK => ?_)); (focus kernel_rfl); refine op_cmp (P := Try.prog) .neq 31 (.tmp 92) (.tmp 100) 31 (by kernel_rfl) _ _ false (by kernel_rfl) (by kernel_rfl) guard_value (Hsame.out _) (hK _ _ ?_)))
      go_upto_region 26 with (fail)
      go_upto_region 27 with (first
        | ((with_reducible refine wpList_plain (o := ⟨some 119, .load 31 (.tmp 11), _, _, _, _⟩) ?_ (fun K hK => ?_)); (focus rfl); refine op_load_row (P := Try.prog) 31 (.tmp 11) (by kernel_rfl) u 0 34 (by kernel_rfl) _ _ 31 (0, 0) _ Hu8.out Hxn.out Hxw.out Try.underlying31 rfl Hvi.out (hK _ _ ?_))
        | ((with_reducible refine wpList_plain (o := ⟨none, .store 31 (.tmp 7) (.tmp 119), _, _, _, _⟩) ?_ (fun K hK => ?_)); (focus rfl); refine op_store_row (P := Try.prog) 31 (.tmp 7) (.tmp 119) (by kernel_rfl) q 0 (valueCells (({ M with count := M.count + 1, epoch := ep, root := r } : MeterM)).count (({ M with count := M.count + 1, epoch := ep, root := r } : MeterM)).epoch (({ M with count := M.count + 1, epoch := ep, root := r } : MeterM)).root) (valueCells M.count M.epoch M.root) (by kernel_rfl) (by kernel_rfl) 31 Hq8.out Hst1.out Hst2.out (valueCells_all _ _ _) (hK _ _ ?_)))
      have H9 := (H8.pull4.setRowPt (splice (valueCells M.count M.epoch M.root).toList 0 (valueCells (({ M with count := M.count + 1, epoch := ep, root := r } : MeterM)).count (({ M with count := M.count + 1, epoch := ep, root := r } : MeterM)).epoch (({ M with count := M.count + 1, epoch := ep, root := r } : MeterM)).root).toList).toArray)
      rw [splice_whole _ _ (by first | rfl | (rw [Array.length_toList, Array.length_toList, Hms.out, Hxs.out])), Array.toArray_toList] at H9 ⊢
      go_wp2
      go_roundw
      case rel => exact ⟨j + 1, ({ M with count := M.count + 1, epoch := ep, root := r } : MeterM), _, by omega, by go_num, rfl, (H9.pull4.tail.pull3.tail).push2⟩
      case measure => simp [intOf]; omega
    · subst hk0 hE8
      have hMx := (meter_cells H5).1
      go_upto_region 20 with (first
        | (go_at_call 24; refine (disk_on H5.swap).mono ?_; rintro e w6 ⟨rfl, H6⟩)
        | (go_at_call 25; refine (meter_get_d rfl H6.swap).mono ?_; rintro e w7 ⟨rfl, H7⟩)
        | ((with_reducible refine wpList_plain (o := ⟨some 11, .alloc 31, _, _, _, _⟩) ?_ (fun K hK => ?_)); (focus rfl); refine op_alloc_big (P := Try.prog) 31 (by kernel_rfl) value_zero (hK _ _ ?_))
        | ((with_reducible refine wpList_plain (o := ⟨none, .store 31 (.tmp 11) (.tmp 58), _, _, _, _⟩) ?_ (fun K hK => ?_)); (focus rfl); refine op_store_new (P := Try.prog) 31 (.tmp 11) (.tmp 58) (by kernel_rfl) w7 (valueCells 0 0 zeroRoot) (valueCells (M1).count (M1).epoch (M1).root) rfl (by kernel_rfl) (by kernel_rfl) (by rw [valueCells_size _ _ hMx.root]; exact Hvi.out) (by rw [valueCells_size _ _ zeroRoot_length, valueCells_size _ _ hMx.root]) (valueCells_all _ _ _) (hK _ _ ?_)))
      refine wp_gen (H7.allocPt (.cells (valueCells (M1).count (M1).epoch (M1).root) 31)).push2 ?_
      generalize w7.heap.size = u
      clear H6 H7
      intro w8 H8
      obtain ⟨g0, g1, g2⟩ := mcall_facts Hxr.out H8.pull3
      have hu8 := H8.pull2.pt
      have hq8 := H8.pull4.pt
      have a0 : w8.cell? ⟨u, 0, none⟩ = some (.int .i64 (M1).count) := cell_of_row w8 u 0 _ _ _ hu8
      have a1 : w8.cell? ⟨u, 1, none⟩ = some (.int .i64 (M1).epoch) := cell_of_row w8 u 1 _ _ _ hu8
      have b0 : w8.cell? ⟨q, 0, none⟩ = some (.int .i64 M.count) := cell_of_row w8 q 0 _ _ _ hq8
      have b1 : w8.cell? ⟨q, 1, none⟩ = some (.int .i64 M.epoch) := cell_of_row w8 q 1 _ _ _ hq8
      have Hu8 := Lib.hid hu8
      have Hq8 := Lib.hid hq8
      clear hu8 hq8
      have c0 := hMx.count0
      have c1 := hMx.count1
      have c2 := hMx.most
      have c3 := hMx.epoch0
      have c4 := hMx.epoch1
      have d0 := hMw.count0
      have d1 := hMw.count1
      have d2 := hMw.most
      have d3 := hMw.epoch0
      have d4 := hMw.epoch1
      have Hxw := Lib.hid (value_whole (M1).count (M1).epoch hMx.root)
      have Hmw := Lib.hid (value_whole M.count M.epoch hMw.root)
      have Hxs := Lib.hid (valueCells_size (M1).count (M1).epoch hMx.root)
      have Hms := Lib.hid (valueCells_size M.count M.epoch hMw.root)
      have Hxn := Lib.hid (show 0 + 34 ≤ (valueCells (M1).count (M1).epoch (M1).root).size from by rw [Hxs.out]; omega)
      have Hmn := Lib.hid (show 0 + 34 ≤ (valueCells M.count M.epoch M.root).size from by rw [Hms.out]; omega)
      have Hst1 := Lib.hid (show 0 + (valueCells (M1).count (M1).epoch (M1).root).size ≤ (valueCells M.count M.epoch M.root).size from by first | (rw [Hxs.out, Hms.out]; omega) | (rw [Hxs.out]; omega))
      have Hst2 := Lib.hid (show (Try.prog.info? 31).map (·.size) = some (valueCells (M1).count (M1).epoch (M1).root).size from by rw [Hxs.out]; exact Hvi.out)
      have Hsame := Lib.hid (fun w : World => value_same (c := (M1).count) (e := (M1).epoch) (r := (M1).root) ⟨by omega, by omega⟩ ⟨by omega, by omega⟩ hMx.root w)
      have z1 : decide (M1.count < M.count) = false := by simp; omega
      have z2 : decide (M.count + 1 < M1.count) = false := by simp; omega
      have z3 : decide (M1.epoch < M.epoch) = false := by simp; omega
      go_upto_region 26 with (fail)
      go_upto_region 27 with (first
        | ((with_reducible refine wpList_plain (o := ⟨some 119, .load 31 (.tmp 11), _, _, _, _⟩) ?_ (fun K hK => ?_)); (focus rfl); refine op_load_row (P := Try.prog) 31 (.tmp 11) (by kernel_rfl) u 0 34 (by kernel_rfl) _ _ 31 (0, 0) _ Hu8.out Hxn.out Hxw.out Try.underlying31 rfl Hvi.out (hK _ _ ?_))
        | ((with_reducible refine wpList_plain (o := ⟨none, .store 31 (.tmp 7) (.tmp 119), _, _, _, _⟩) ?_ (fun K hK => ?_)); (focus rfl); refine op_store_row (P := Try.prog) 31 (.tmp 7) (.tmp 119) (by kernel_rfl) q 0 (valueCells (M1).count (M1).epoch (M1).root) (valueCells M.count M.epoch M.root) (by kernel_rfl) (by kernel_rfl) 31 Hq8.out Hst1.out Hst2.out (valueCells_all _ _ _) (hK _ _ ?_)))
      have H9 := (H8.pull4.setRowPt (splice (valueCells M.count M.epoch M.root).toList 0 (valueCells (M1).count (M1).epoch (M1).root).toList).toArray)
      rw [splice_whole _ _ (by first | rfl | (rw [Array.length_toList, Array.length_toList, Hms.out, Hxs.out])), Array.toArray_toList] at H9 ⊢
      go_wp2
      go_roundw
      case rel => exact ⟨j + 1, M1, _, by omega, by go_num, rfl, (H9.pull4.tail.pull3.tail).push2⟩
      case measure => simp [intOf]; omega
    · have hM1 := hM1.symm
      subst hM1
      have hb : (kind == 0) = false ∨ ((E == 0) = false ∧ (E == 8) = false) := by
        rcases hsame with h | ⟨h1, h2⟩
        · exact .inl (by simpa using h)
        · exact .inr ⟨by simpa using h1, by simpa using h2⟩
      clear hsame
      rcases hb with hb | ⟨hb, hb'⟩
      · have hb2 : (kind != 0) = true := by simpa using hb
        have hMx := (meter_cells H5).1
        go_upto_region 20 with (first
          | (go_at_call 24; refine (disk_on H5.swap).mono ?_; rintro e w6 ⟨rfl, H6⟩)
          | (go_at_call 25; refine (meter_get_d rfl H6.swap).mono ?_; rintro e w7 ⟨rfl, H7⟩)
          | ((with_reducible refine wpList_plain (o := ⟨some 11, .alloc 31, _, _, _, _⟩) ?_ (fun K hK => ?_)); (focus rfl); refine op_alloc_big (P := Try.prog) 31 (by kernel_rfl) value_zero (hK _ _ ?_))
          | ((with_reducible refine wpList_plain (o := ⟨none, .store 31 (.tmp 11) (.tmp 58), _, _, _, _⟩) ?_ (fun K hK => ?_)); (focus rfl); refine op_store_new (P := Try.prog) 31 (.tmp 11) (.tmp 58) (by kernel_rfl) w7 (valueCells 0 0 zeroRoot) (valueCells (M).count (M).epoch (M).root) rfl (by kernel_rfl) (by kernel_rfl) (by rw [valueCells_size _ _ hMx.root]; exact Hvi.out) (by rw [valueCells_size _ _ zeroRoot_length, valueCells_size _ _ hMx.root]) (valueCells_all _ _ _) (hK _ _ ?_)))
        refine wp_gen (H7.allocPt (.cells (valueCells (M).count (M).epoch (M).root) 31)).push2 ?_
        generalize w7.heap.size = u
        clear H6 H7
        intro w8 H8
        obtain ⟨g0, g1, g2⟩ := mcall_facts Hxr.out H8.pull3
        have hu8 := H8.pull2.pt
        have hq8 := H8.pull4.pt
        have a0 : w8.cell? ⟨u, 0, none⟩ = some (.int .i64 (M).count) := cell_of_row w8 u 0 _ _ _ hu8
        have a1 : w8.cell? ⟨u, 1, none⟩ = some (.int .i64 (M).epoch) := cell_of_row w8 u 1 _ _ _ hu8
        have b0 : w8.cell? ⟨q, 0, none⟩ = some (.int .i64 M.count) := cell_of_row w8 q 0 _ _ _ hq8
        have b1 : w8.cell? ⟨q, 1, none⟩ = some (.int .i64 M.epoch) := cell_of_row w8 q 1 _ _ _ hq8
        have Hu8 := Lib.hid hu8
        have Hq8 := Lib.hid hq8
        clear hu8 hq8
        have c0 := hMx.count0
        have c1 := hMx.count1
        have c2 := hMx.most
        have c3 := hMx.epoch0
        have c4 := hMx.epoch1
        have d0 := hMw.count0
        have d1 := hMw.count1
        have d2 := hMw.most
        have d3 := hMw.epoch0
        have d4 := hMw.epoch1
        have Hxw := Lib.hid (value_whole (M).count (M).epoch hMx.root)
        have Hmw := Lib.hid (value_whole M.count M.epoch hMw.root)
        have Hxs := Lib.hid (valueCells_size (M).count (M).epoch hMx.root)
        have Hms := Lib.hid (valueCells_size M.count M.epoch hMw.root)
        have Hxn := Lib.hid (show 0 + 34 ≤ (valueCells (M).count (M).epoch (M).root).size from by rw [Hxs.out]; omega)
        have Hmn := Lib.hid (show 0 + 34 ≤ (valueCells M.count M.epoch M.root).size from by rw [Hms.out]; omega)
        have Hst1 := Lib.hid (show 0 + (valueCells (M).count (M).epoch (M).root).size ≤ (valueCells M.count M.epoch M.root).size from by first | (rw [Hxs.out, Hms.out]; omega) | (rw [Hxs.out]; omega))
        have Hst2 := Lib.hid (show (Try.prog.info? 31).map (·.size) = some (valueCells (M).count (M).epoch (M).root).size from by rw [Hxs.out]; exact Hvi.out)
        have Hsame := Lib.hid (fun w : World => value_same (c := (M).count) (e := (M).epoch) (r := (M).root) ⟨by omega, by omega⟩ ⟨by omega, by omega⟩ hMx.root w)
        go_upto_region 24 with (fail)
        go_upto_region 26 with (first
          | ((with_reducible refine BigFrame.wpList_want (o := ⟨some 115, .load 31 (.tmp 11), _, _, _, _⟩) ?_ (fun K hK => ?_)); (focus kernel_rfl); refine op_load_row (P := Try.prog) 31 (.tmp 11) (by kernel_rfl) u 0 34 (by kernel_rfl) _ _ 31 (0, 0) _ Hu8.out Hxn.out Hxw.out Try.underlying31 rfl Hvi.out (hK _ _ ?_))
          | ((with_reducible refine BigFrame.wpList_want (o := ⟨some 116, .load 31 (.tmp 7), _, _, _, _⟩) ?_ (fun K hK => ?_)); (focus kernel_rfl); refine op_load_row (P := Try.prog) 31 (.tmp 7) (by kernel_rfl) q 0 34 (by kernel_rfl) _ _ 31 (0, 0) _ Hq8.out Hmn.out Hmw.out Try.underlying31 rfl Hvi.out (hK _ _ ?_))
          | ((with_reducible refine BigFrame.wpList_want (o := ⟨some 117, .binOp .neq 31 (.tmp 115) (.tmp 116) 31, _, _, _, _⟩) ?_ (fun K hK => ?_)); (focus kernel_rfl); refine op_cmp (P := Try.prog) .neq 31 (.tmp 115) (.tmp 116) 31 (by kernel_rfl) _ _ false (by kernel_rfl) (by kernel_rfl) guard_value (Hsame.out _) (hK _ _ ?_)))
        go_upto_region 27 with (first
          | ((with_reducible refine wpList_plain (o := ⟨some 119, .load 31 (.tmp 11), _, _, _, _⟩) ?_ (fun K hK => ?_)); (focus rfl); refine op_load_row (P := Try.prog) 31 (.tmp 11) (by kernel_rfl) u 0 34 (by kernel_rfl) _ _ 31 (0, 0) _ Hu8.out Hxn.out Hxw.out Try.underlying31 rfl Hvi.out (hK _ _ ?_))
          | ((with_reducible refine wpList_plain (o := ⟨none, .store 31 (.tmp 7) (.tmp 119), _, _, _, _⟩) ?_ (fun K hK => ?_)); (focus rfl); refine op_store_row (P := Try.prog) 31 (.tmp 7) (.tmp 119) (by kernel_rfl) q 0 (valueCells (M).count (M).epoch (M).root) (valueCells M.count M.epoch M.root) (by kernel_rfl) (by kernel_rfl) 31 Hq8.out Hst1.out Hst2.out (valueCells_all _ _ _) (hK _ _ ?_)))
        have H9 := (H8.pull4.setRowPt (splice (valueCells M.count M.epoch M.root).toList 0 (valueCells (M).count (M).epoch (M).root).toList).toArray)
        rw [splice_whole _ _ (by first | rfl | (rw [Array.length_toList, Array.length_toList, Hms.out, Hxs.out])), Array.toArray_toList] at H9 ⊢
        go_wp2
        go_roundw
        case rel => exact ⟨j + 1, M, _, by omega, by go_num, rfl, (H9.pull4.tail.pull3.tail).push2⟩
        case measure => simp [intOf]; omega
      · have hb2 : (E != 0) = true := by simpa using hb
        have hb3 : (E != 8) = true := by simpa using hb'
        by_cases hk0 : kind = 0
        · subst hk0
          have hMx := (meter_cells H5).1
          go_upto_region 20 with (first
            | (go_at_call 24; refine (disk_on H5.swap).mono ?_; rintro e w6 ⟨rfl, H6⟩)
            | (go_at_call 25; refine (meter_get_d rfl H6.swap).mono ?_; rintro e w7 ⟨rfl, H7⟩)
            | ((with_reducible refine wpList_plain (o := ⟨some 11, .alloc 31, _, _, _, _⟩) ?_ (fun K hK => ?_)); (focus rfl); refine op_alloc_big (P := Try.prog) 31 (by kernel_rfl) value_zero (hK _ _ ?_))
            | ((with_reducible refine wpList_plain (o := ⟨none, .store 31 (.tmp 11) (.tmp 58), _, _, _, _⟩) ?_ (fun K hK => ?_)); (focus rfl); refine op_store_new (P := Try.prog) 31 (.tmp 11) (.tmp 58) (by kernel_rfl) w7 (valueCells 0 0 zeroRoot) (valueCells (M).count (M).epoch (M).root) rfl (by kernel_rfl) (by kernel_rfl) (by rw [valueCells_size _ _ hMx.root]; exact Hvi.out) (by rw [valueCells_size _ _ zeroRoot_length, valueCells_size _ _ hMx.root]) (valueCells_all _ _ _) (hK _ _ ?_)))
          refine wp_gen (H7.allocPt (.cells (valueCells (M).count (M).epoch (M).root) 31)).push2 ?_
          generalize w7.heap.size = u
          clear H6 H7
          intro w8 H8
          obtain ⟨g0, g1, g2⟩ := mcall_facts Hxr.out H8.pull3
          have hu8 := H8.pull2.pt
          have hq8 := H8.pull4.pt
          have a0 : w8.cell? ⟨u, 0, none⟩ = some (.int .i64 (M).count) := cell_of_row w8 u 0 _ _ _ hu8
          have a1 : w8.cell? ⟨u, 1, none⟩ = some (.int .i64 (M).epoch) := cell_of_row w8 u 1 _ _ _ hu8
          have b0 : w8.cell? ⟨q, 0, none⟩ = some (.int .i64 M.count) := cell_of_row w8 q 0 _ _ _ hq8
          have b1 : w8.cell? ⟨q, 1, none⟩ = some (.int .i64 M.epoch) := cell_of_row w8 q 1 _ _ _ hq8
          have Hu8 := Lib.hid hu8
          have Hq8 := Lib.hid hq8
          clear hu8 hq8
          have c0 := hMx.count0
          have c1 := hMx.count1
          have c2 := hMx.most
          have c3 := hMx.epoch0
          have c4 := hMx.epoch1
          have d0 := hMw.count0
          have d1 := hMw.count1
          have d2 := hMw.most
          have d3 := hMw.epoch0
          have d4 := hMw.epoch1
          have Hxw := Lib.hid (value_whole (M).count (M).epoch hMx.root)
          have Hmw := Lib.hid (value_whole M.count M.epoch hMw.root)
          have Hxs := Lib.hid (valueCells_size (M).count (M).epoch hMx.root)
          have Hms := Lib.hid (valueCells_size M.count M.epoch hMw.root)
          have Hxn := Lib.hid (show 0 + 34 ≤ (valueCells (M).count (M).epoch (M).root).size from by rw [Hxs.out]; omega)
          have Hmn := Lib.hid (show 0 + 34 ≤ (valueCells M.count M.epoch M.root).size from by rw [Hms.out]; omega)
          have Hst1 := Lib.hid (show 0 + (valueCells (M).count (M).epoch (M).root).size ≤ (valueCells M.count M.epoch M.root).size from by first | (rw [Hxs.out, Hms.out]; omega) | (rw [Hxs.out]; omega))
          have Hst2 := Lib.hid (show (Try.prog.info? 31).map (·.size) = some (valueCells (M).count (M).epoch (M).root).size from by rw [Hxs.out]; exact Hvi.out)
          have Hsame := Lib.hid (fun w : World => value_same (c := (M).count) (e := (M).epoch) (r := (M).root) ⟨by omega, by omega⟩ ⟨by omega, by omega⟩ hMx.root w)
          go_upto_region 24 with (fail)
          go_upto_region 26 with (first
            | ((with_reducible refine BigFrame.wpList_want (o := ⟨some 115, .load 31 (.tmp 11), _, _, _, _⟩) ?_ (fun K hK => ?_)); (focus kernel_rfl); refine op_load_row (P := Try.prog) 31 (.tmp 11) (by kernel_rfl) u 0 34 (by kernel_rfl) _ _ 31 (0, 0) _ Hu8.out Hxn.out Hxw.out Try.underlying31 rfl Hvi.out (hK _ _ ?_))
            | ((with_reducible refine BigFrame.wpList_want (o := ⟨some 116, .load 31 (.tmp 7), _, _, _, _⟩) ?_ (fun K hK => ?_)); (focus kernel_rfl); refine op_load_row (P := Try.prog) 31 (.tmp 7) (by kernel_rfl) q 0 34 (by kernel_rfl) _ _ 31 (0, 0) _ Hq8.out Hmn.out Hmw.out Try.underlying31 rfl Hvi.out (hK _ _ ?_))
            | ((with_reducible refine BigFrame.wpList_want (o := ⟨some 117, .binOp .neq 31 (.tmp 115) (.tmp 116) 31, _, _, _, _⟩) ?_ (fun K hK => ?_)); (focus kernel_rfl); refine op_cmp (P := Try.prog) .neq 31 (.tmp 115) (.tmp 116) 31 (by kernel_rfl) _ _ false (by kernel_rfl) (by kernel_rfl) guard_value (Hsame.out _) (hK _ _ ?_)))
          go_upto_region 27 with (first
            | ((with_reducible refine wpList_plain (o := ⟨some 119, .load 31 (.tmp 11), _, _, _, _⟩) ?_ (fun K hK => ?_)); (focus rfl); refine op_load_row (P := Try.prog) 31 (.tmp 11) (by kernel_rfl) u 0 34 (by kernel_rfl) _ _ 31 (0, 0) _ Hu8.out Hxn.out Hxw.out Try.underlying31 rfl Hvi.out (hK _ _ ?_))
            | ((with_reducible refine wpList_plain (o := ⟨none, .store 31 (.tmp 7) (.tmp 119), _, _, _, _⟩) ?_ (fun K hK => ?_)); (focus rfl); refine op_store_row (P := Try.prog) 31 (.tmp 7) (.tmp 119) (by kernel_rfl) q 0 (valueCells (M).count (M).epoch (M).root) (valueCells M.count M.epoch M.root) (by kernel_rfl) (by kernel_rfl) 31 Hq8.out Hst1.out Hst2.out (valueCells_all _ _ _) (hK _ _ ?_)))
          have H9 := (H8.pull4.setRowPt (splice (valueCells M.count M.epoch M.root).toList 0 (valueCells (M).count (M).epoch (M).root).toList).toArray)
          rw [splice_whole _ _ (by first | rfl | (rw [Array.length_toList, Array.length_toList, Hms.out, Hxs.out])), Array.toArray_toList] at H9 ⊢
          go_wp2
          go_roundw
          case rel => exact ⟨j + 1, M, _, by omega, by go_num, rfl, (H9.pull4.tail.pull3.tail).push2⟩
          case measure => simp [intOf]; omega
        · have hk1 : (kind == 0) = false := by simpa using hk0
          have hk2 : (kind != 0) = true := by simpa using hk0
          clear hk0
          have hMx := (meter_cells H5).1
          go_upto_region 20 with (first
            | (go_at_call 24; refine (disk_on H5.swap).mono ?_; rintro e w6 ⟨rfl, H6⟩)
            | (go_at_call 25; refine (meter_get_d rfl H6.swap).mono ?_; rintro e w7 ⟨rfl, H7⟩)
            | ((with_reducible refine wpList_plain (o := ⟨some 11, .alloc 31, _, _, _, _⟩) ?_ (fun K hK => ?_)); (focus rfl); refine op_alloc_big (P := Try.prog) 31 (by kernel_rfl) value_zero (hK _ _ ?_))
            | ((with_reducible refine wpList_plain (o := ⟨none, .store 31 (.tmp 11) (.tmp 58), _, _, _, _⟩) ?_ (fun K hK => ?_)); (focus rfl); refine op_store_new (P := Try.prog) 31 (.tmp 11) (.tmp 58) (by kernel_rfl) w7 (valueCells 0 0 zeroRoot) (valueCells (M).count (M).epoch (M).root) rfl (by kernel_rfl) (by kernel_rfl) (by rw [valueCells_size _ _ hMx.root]; exact Hvi.out) (by rw [valueCells_size _ _ zeroRoot_length, valueCells_size _ _ hMx.root]) (valueCells_all _ _ _) (hK _ _ ?_)))
          refine wp_gen (H7.allocPt (.cells (valueCells (M).count (M).epoch (M).root) 31)).push2 ?_
          generalize w7.heap.size = u
          clear H6 H7
          intro w8 H8
          obtain ⟨g0, g1, g2⟩ := mcall_facts Hxr.out H8.pull3
          have hu8 := H8.pull2.pt
          have hq8 := H8.pull4.pt
          have a0 : w8.cell? ⟨u, 0, none⟩ = some (.int .i64 (M).count) := cell_of_row w8 u 0 _ _ _ hu8
          have a1 : w8.cell? ⟨u, 1, none⟩ = some (.int .i64 (M).epoch) := cell_of_row w8 u 1 _ _ _ hu8
          have b0 : w8.cell? ⟨q, 0, none⟩ = some (.int .i64 M.count) := cell_of_row w8 q 0 _ _ _ hq8
          have b1 : w8.cell? ⟨q, 1, none⟩ = some (.int .i64 M.epoch) := cell_of_row w8 q 1 _ _ _ hq8
          have Hu8 := Lib.hid hu8
          have Hq8 := Lib.hid hq8
          clear hu8 hq8
          have c0 := hMx.count0
          have c1 := hMx.count1
          have c2 := hMx.most
          have c3 := hMx.epoch0
          have c4 := hMx.epoch1
          have d0 := hMw.count0
          have d1 := hMw.count1
          have d2 := hMw.most
          have d3 := hMw.epoch0
          have d4 := hMw.epoch1
          have Hxw := Lib.hid (value_whole (M).count (M).epoch hMx.root)
          have Hmw := Lib.hid (value_whole M.count M.epoch hMw.root)
          have Hxs := Lib.hid (valueCells_size (M).count (M).epoch hMx.root)
          have Hms := Lib.hid (valueCells_size M.count M.epoch hMw.root)
          have Hxn := Lib.hid (show 0 + 34 ≤ (valueCells (M).count (M).epoch (M).root).size from by rw [Hxs.out]; omega)
          have Hmn := Lib.hid (show 0 + 34 ≤ (valueCells M.count M.epoch M.root).size from by rw [Hms.out]; omega)
          have Hst1 := Lib.hid (show 0 + (valueCells (M).count (M).epoch (M).root).size ≤ (valueCells M.count M.epoch M.root).size from by first | (rw [Hxs.out, Hms.out]; omega) | (rw [Hxs.out]; omega))
          have Hst2 := Lib.hid (show (Try.prog.info? 31).map (·.size) = some (valueCells (M).count (M).epoch (M).root).size from by rw [Hxs.out]; exact Hvi.out)
          have Hsame := Lib.hid (fun w : World => value_same (c := (M).count) (e := (M).epoch) (r := (M).root) ⟨by omega, by omega⟩ ⟨by omega, by omega⟩ hMx.root w)
          go_upto_region 24 with (fail)
          go_upto_region 26 with (first
            | ((with_reducible refine BigFrame.wpList_want (o := ⟨some 115, .load 31 (.tmp 11), _, _, _, _⟩) ?_ (fun K hK => ?_)); (focus kernel_rfl); refine op_load_row (P := Try.prog) 31 (.tmp 11) (by kernel_rfl) u 0 34 (by kernel_rfl) _ _ 31 (0, 0) _ Hu8.out Hxn.out Hxw.out Try.underlying31 rfl Hvi.out (hK _ _ ?_))
            | ((with_reducible refine BigFrame.wpList_want (o := ⟨some 116, .load 31 (.tmp 7), _, _, _, _⟩) ?_ (fun K hK => ?_)); (focus kernel_rfl); refine op_load_row (P := Try.prog) 31 (.tmp 7) (by kernel_rfl) q 0 34 (by kernel_rfl) _ _ 31 (0, 0) _ Hq8.out Hmn.out Hmw.out Try.underlying31 rfl Hvi.out (hK _ _ ?_))
            | ((with_reducible refine BigFrame.wpList_want (o := ⟨some 117, .binOp .neq 31 (.tmp 115) (.tmp 116) 31, _, _, _, _⟩) ?_ (fun K hK => ?_)); (focus kernel_rfl); refine op_cmp (P := Try.prog) .neq 31 (.tmp 115) (.tmp 116) 31 (by kernel_rfl) _ _ false (by kernel_rfl) (by kernel_rfl) guard_value (Hsame.out _) (hK _ _ ?_)))
          go_upto_region 27 with (first
            | ((with_reducible refine wpList_plain (o := ⟨some 119, .load 31 (.tmp 11), _, _, _, _⟩) ?_ (fun K hK => ?_)); (focus rfl); refine op_load_row (P := Try.prog) 31 (.tmp 11) (by kernel_rfl) u 0 34 (by kernel_rfl) _ _ 31 (0, 0) _ Hu8.out Hxn.out Hxw.out Try.underlying31 rfl Hvi.out (hK _ _ ?_))
            | ((with_reducible refine wpList_plain (o := ⟨none, .store 31 (.tmp 7) (.tmp 119), _, _, _, _⟩) ?_ (fun K hK => ?_)); (focus rfl); refine op_store_row (P := Try.prog) 31 (.tmp 7) (.tmp 119) (by kernel_rfl) q 0 (valueCells (M).count (M).epoch (M).root) (valueCells M.count M.epoch M.root) (by kernel_rfl) (by kernel_rfl) 31 Hq8.out Hst1.out Hst2.out (valueCells_all _ _ _) (hK _ _ ?_)))
          have H9 := (H8.pull4.setRowPt (splice (valueCells M.count M.epoch M.root).toList 0 (valueCells (M).count (M).epoch (M).root).toList).toArray)
          rw [splice_whole _ _ (by first | rfl | (rw [Array.length_toList, Array.length_toList, Hms.out, Hxs.out])), Array.toArray_toList] at H9 ⊢
          go_wp2
          go_roundw
          case rel => exact ⟨j + 1, M, _, by omega, by go_num, rfl, (H9.pull4.tail.pull3.tail).push2⟩
          case measure => simp [intOf]; omega
end
end Go.Proofs.Ytakeilefbcpabaa
