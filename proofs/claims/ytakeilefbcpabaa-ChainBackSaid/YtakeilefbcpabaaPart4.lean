/- Part 4 of what the statement rests on: each piece below begins with its own remark. -/
import Derived.Test.YtakeilefbcpabaaPart3
/- The laws on the register: what they ask first. -/
namespace Go.Proofs.Ytakeilefbcpabaa
open Go.RowKit

section
variable {c : Con} {F : List HP} {w : World} {m : Nat} {M : MeterM} {dv : Value} {D : DiskO}

theorem meter_next_at (H : St c (MeterAt m dv M :: DiskV dv D :: F) w) (ep : Int) (cs : Array Value) (r : List UInt8) (hcs : cs = (bvs r).toArray) (hr : r.length = 32) (he1 : ep ≤ 9223372036854775807) {E : Int} {M' : MeterM} {D' : DiskO}
    (h1 : M.nextE D ep = E) (h2 : M.next D ep r = M') (h3 : M.nextD D ep = D') :
    Calls Try.prog 19 #[.pointer (some ⟨m, 0, none⟩), .int .i64 ep, .agg cs] w fun e w' =>
      e = .returned (.int .i64 E) ∧ St c (MeterAt m dv M' :: DiskV dv D' :: F) w' := by
  subst hcs h1 h2 h3
  exact meter_next H ep r hr he1
theorem meter_left_is (H : St c (MeterAt m dv M :: F) w) {n : Int} (hn : M.most - M.count = n) :
    Calls Try.prog 20 #[.pointer (some ⟨m, 0, none⟩)] w fun e w' => e = .returned (.int .i64 n) ∧ ∃ n, w' = w.drewN n := by
  subst hn; exact meter_left H

set_option maxRecDepth 100000 in
set_option maxHeartbeats 1000000 in
theorem alive12 (H : St c F w) : Calls Try.prog 17 #[] w fun e w' => e = .returned (.bool true) ∧ St c F w' := by
  go_enter Try.func17, Try.ntmps17
  go_wp2_with fail
  refine (meter_new H 1 (.pointer none) (.inl rfl)).mono ?_
  rintro e w1 ⟨m, rfl, H1⟩
  replace H1 := H1.noDisk.swap
  go_wp2_with fail
  refine (meter_left_is H1 (n := 1) (by rfl)).mono ?_
  rintro e w2 ⟨rfl, n2, rfl⟩
  have H2 := H1.drewN n2
  go_wp2_with fail
  refine (meter_next_at H2 0 _ (7 :: zeros 31) (by kernel_rfl) (by rfl) (by omega) (E := 0) (M' := ⟨1, 0, 7 :: zeros 31, 1⟩) (D' := none) (by rfl) (by rfl) (by rfl)).mono ?_
  rintro e w3 ⟨rfl, H3⟩
  clear H1 H2 H
  go_wp2_with fail
  refine (meter_next_at H3 0 _ (zeros 32) (by kernel_rfl) (by rfl) (by omega) (E := 10) (M' := ⟨1, 0, 7 :: zeros 31, 1⟩) (D' := none) (by rfl) (by rfl) (by rfl)).mono ?_
  rintro e w4 ⟨rfl, H4⟩
  clear H3
  obtain ⟨_, hm⟩ := meter_cells H4
  have hc0 : w4.cell? ⟨m, 0, none⟩ = some (.int .i64 1) := cell_of_row w4 m 0 _ _ _ hm
  have hc2 : w4.cell? ⟨m, 2, none⟩ = some (.int .u8 7) := cell_of_row w4 m 2 _ _ _ hm
  clear hm
  go_wp2
  go_returns
  exact ⟨rfl, H4.tail.tail⟩
end
end Go.Proofs.Ytakeilefbcpabaa

/- MeterSpends: the walk. -/
namespace Go.Proofs.Ytakeilefbcpabaa
open Go.RowKit

def byteOf (x : Int) : UInt8 := UInt8.ofNat (x % 256).toNat
theorem bv_byteOf (x : Int) : bv (byteOf x) = .int .u8 (IntKind.u8.wrap x) := by
  have h : 0 ≤ x % 256 := Int.emod_nonneg x (by omega)
  have h2 : x % 256 < 256 := Int.emod_lt_of_pos x (by omega)
  have e : (byteOf x).toNat = (x % 256).toNat := by
    rw [byteOf, UInt8.toNat_ofNat']; omega
  rw [bv, e, Int.toNat_of_nonneg h, IntKind.wrap_u8]

theorem byteRoot0 (v : Int) : (#[.int .u8 v, .int .u8 0, .int .u8 0, .int .u8 0, .int .u8 0, .int .u8 0, .int .u8 0, .int .u8 0, .int .u8 0, .int .u8 0, .int .u8 0, .int .u8 0, .int .u8 0, .int .u8 0, .int .u8 0, .int .u8 0, .int .u8 0, .int .u8 0, .int .u8 0, .int .u8 0, .int .u8 0, .int .u8 0, .int .u8 0, .int .u8 0, .int .u8 0, .int .u8 0, .int .u8 0, .int .u8 0, .int .u8 0, .int .u8 0, .int .u8 0, .int .u8 0] : Array Value) = (Value.int .u8 v :: bvs (zeros 31)).toArray := by kernel_rfl
theorem byteRoot (x : Int) : (#[.int .u8 (IntKind.u8.wrap x), .int .u8 0, .int .u8 0, .int .u8 0, .int .u8 0, .int .u8 0, .int .u8 0, .int .u8 0, .int .u8 0, .int .u8 0, .int .u8 0, .int .u8 0, .int .u8 0, .int .u8 0, .int .u8 0, .int .u8 0, .int .u8 0, .int .u8 0, .int .u8 0, .int .u8 0, .int .u8 0, .int .u8 0, .int .u8 0, .int .u8 0, .int .u8 0, .int .u8 0, .int .u8 0, .int .u8 0, .int .u8 0, .int .u8 0, .int .u8 0, .int .u8 0] : Array Value) = (bvs (byteOf x :: zeros 31)).toArray := by
  have e : bvs (byteOf x :: zeros 31) = bv (byteOf x) :: bvs (zeros 31) := rfl
  rw [e, bv_byteOf]; exact byteRoot0 _
theorem nextD_none (M : MeterM) (ep : Int) : M.nextD none ep = none := by unfold MeterM.nextD; split <;> (try split) <;> rfl

/-- A slice of numbers that came in. -/
def RowOf (k : IntKind) (w : World) (A : Option Addr) (len _cap : Nat) (zs : List Int) : Prop :=
  zs.length = len ∧ len ≤ 9223372036854775807 ∧ (∀ j, j < len → ∃ a, A = some a ∧ w.cell? (a.add j) = some (.int k (zs.getD j 0))) ∧ ∀ z ∈ zs, (Lit.int k z).wf = true

section
set_option maxRecDepth 100000 in
set_option maxHeartbeats 1000000 in
theorem meterSpends_out (most : Int) (A : Option Addr) (len cap : Nat) (w : World) (hlen : len ≤ 9223372036854775807) (h : most < 0 ∨ 60 < most ∨ 60 < len) :
    Calls Try.prog 3 #[.int .i64 most, .slice A len cap] w fun e w' => e = .returned (.bool true) ∧ Below w.heap.size w w' := by
  have H := St.start w
  rcases h with h | h
  · go_enter Try.func3, Try.ntmps3
    go_wp2_with (go_at_call 17; refine (alive12 H).mono ?_; rintro e w1 ⟨rfl, H1⟩)
    go_returns
    exact ⟨rfl, H1.toBelow'⟩
  · by_cases h0 : most < 0
    · go_enter Try.func3, Try.ntmps3
      go_wp2_with (go_at_call 17; refine (alive12 H).mono ?_; rintro e w1 ⟨rfl, H1⟩)
      go_returns
      exact ⟨rfl, H1.toBelow'⟩
    · have h0' : 0 ≤ most := by omega
      have hd0 : decide (most < 0) = false := by simpa using h0
      by_cases h1 : 60 < most
      · go_enter Try.func3, Try.ntmps3
        go_wp2_with (go_at_call 17; refine (alive12 H).mono ?_; rintro e w1 ⟨rfl, H1⟩)
        go_returns
        exact ⟨rfl, H1.toBelow'⟩
      · have hd1 : decide (60 < most) = false := by simpa using h1
        have h1' : most ≤ 60 := by omega
        have h2 : 60 < len := by omega
        clear h h0 h1
        go_enter Try.func3, Try.ntmps3
        go_wp2_with (go_at_call 17; refine (alive12 H).mono ?_; rintro e w1 ⟨rfl, H1⟩)
        go_returns
        exact ⟨rfl, H1.toBelow'⟩

set_option maxRecDepth 100000 in
set_option maxHeartbeats 2000000 in
theorem meterSpends_in (most : Int) (A : Option Addr) (len cap : Nat) (zs : List Int) (w : World) (hrow : RowOf .i64 w A len cap zs) (h0 : 0 ≤ most) (h1 : most ≤ 60) (h2 : len ≤ 60) :
    Calls Try.prog 3 #[.int .i64 most, .slice A len cap] w fun e w' => e = .returned (.bool true) ∧ Below w.heap.size w w' := by
  have H := St.start w
  have hd0 : decide (most < 0) = false := by simpa using h0
  have hd1 : decide (60 < most) = false := by simpa using h1
  go_enter Try.func3, Try.ntmps3
  go_wp2_with (first
    | (go_at_call 17; refine (alive12 H).mono ?_; rintro e w1 ⟨rfl, H1⟩)
    | (go_at_call 18; refine (meter_new H1 most (.pointer none) (.inl rfl)).mono ?_; rintro e w2 ⟨m, rfl, H2⟩))
  replace H2 := H2.noDisk.swap
  clear H1 H
  go_loopw [28, 6, 7] (fun i n t wr => ∃ (j : Nat) (k x : Int) (r : List UInt8), j ≤ len ∧ i = .int .i64 j ∧ n = .int .i64 k ∧ t = .int .i64 x ∧ 0 ≤ k ∧ k ≤ most ∧ 0 ≤ x ∧ x ≤ 9223372036854775807 ∧
      St (conOf w) [MeterAt m (.pointer none) ⟨k, x, r, most⟩, DiskV (.pointer none) none, Old w] wr)
    (fun i _ _ _ => len - (intOf i).toNat)
  case atStart =>
    refine ⟨0, 0, 0, zeroRoot, Nat.zero_le _, rfl, rfl, rfl, by omega, h0, by omega, by omega, ?_⟩
    have e : meterOf most = ⟨0, 0, zeroRoot, most⟩ := by simp only [meterOf]; congr 1; omega
    rw [e] at H2; exact H2
  case round =>
    obtain ⟨j, k, x, r, hj, rfl, rfl, rfl, hk0, hk1, hx0, hx1, H3⟩ := hrel
    by_cases hlt : j < len
    · obtain ⟨hzl, hl63, hcell, hwf⟩ := hrow
      obtain ⟨a, rfl, hca⟩ := hcell j hlt
      have hzm : zs.getD j 0 ∈ zs := by
        rw [List.getD_eq_getElem?_getD, List.getElem?_eq_getElem (by omega)]
        exact List.getElem_mem _
      have hzw := hwf _ hzm
      generalize zs.getD j 0 = z at hca hzw
      obtain ⟨hz0, hz1⟩ : -9223372036854775808 ≤ z ∧ z ≤ 9223372036854775807 := by
        simp [Lit.wf, IntKind.min, IntKind.max, IntKind.signed, IntKind.bits] at hzw; omega
      have hca' : wr.cell? (a.add j) = some (.int .i64 z) := by
        rw [← hca]
        exact World.cell?_of_block (H3.pull2.old _ (World.block_lt_of_cell? w _ hca))
      clear hwf hzm hcell hzl
      by_cases hzx : z < x
      · go_wp2_with fail
        refine (meter_next_at H3 z _ (byteOf z :: zeros 31) (byteRoot z) (by rfl) hz1 (E := 1) (M' := ⟨k, x, r, most⟩) (D' := none) (by simp [MeterM.nextE, DiskO.down, hzx]) (by simp [MeterM.next, MeterM.steps, DiskO.down, hzx]) (nextD_none _ _)).mono ?_
        rintro e w4 ⟨rfl, H4⟩
        clear H3
        obtain ⟨_, hm⟩ := meter_cells H4
        have hc0 : w4.cell? ⟨m, 0, none⟩ = some (.int .i64 k) := cell_of_row w4 m 0 _ _ _ hm
        have hc1 : w4.cell? ⟨m, 1, none⟩ = some (.int .i64 x) := cell_of_row w4 m 1 _ _ _ hm
        clear hm hca'
        go_wp2_with (go_at_call 20; refine (meter_left_is H4 (n := most - k) rfl).mono ?_; rintro e w5 ⟨rfl, n5, rfl⟩)
        go_roundw
        case rel => exact ⟨j + 1, k, x, r, by omega, by go_num, rfl, rfl, by omega, by omega, by omega, by omega, H4.drewN _⟩
        case measure => simp [intOf]; omega
      · have hzx' : x ≤ z := by omega
        have hdz : decide (z < x) = false := by simpa using hzx
        by_cases hkm : k = most
        · subst hkm
          go_wp2_with fail
          refine (meter_next_at H3 z _ (byteOf z :: zeros 31) (byteRoot z) (by rfl) hz1 (E := 10) (M' := ⟨k, x, r, k⟩) (D' := none) (by simp [MeterM.nextE, DiskO.down, hzx]) (by simp [MeterM.next, MeterM.steps, DiskO.down]) (nextD_none _ _)).mono ?_
          rintro e w4 ⟨rfl, H4⟩
          clear H3
          obtain ⟨_, hm⟩ := meter_cells H4
          have hc0 : w4.cell? ⟨m, 0, none⟩ = some (.int .i64 k) := cell_of_row w4 m 0 _ _ _ hm
          have hc1 : w4.cell? ⟨m, 1, none⟩ = some (.int .i64 x) := cell_of_row w4 m 1 _ _ _ hm
          clear hm hca'
          go_wp2_with (go_at_call 20; refine (meter_left_is H4 (n := k - k) rfl).mono ?_; rintro e w5 ⟨rfl, n5, rfl⟩)
          go_roundw
          case rel => exact ⟨j + 1, k, x, r, by omega, by go_num, rfl, rfl, by omega, by omega, by omega, by omega, H4.drewN _⟩
          case measure => simp [intOf]; omega
        · have hkm' : (k == most) = false := by simpa using hkm
          have hks : ¬ most - k = 0 := by omega
          have Hks := Lib.hid hks
          clear hks
          go_wp2_with fail
          refine (meter_next_at H3 z _ (byteOf z :: zeros 31) (byteRoot z) (by rfl) hz1 (E := 0) (M' := ⟨k + 1, z, byteOf z :: zeros 31, most⟩) (D' := none) (by simp [MeterM.nextE, DiskO.down, DiskO.goes, hzx, Hks.out]) (by simp [MeterM.next, MeterM.steps, DiskO.down, DiskO.goes, hzx, Hks.out]) (nextD_none _ _)).mono ?_
          rintro e w4 ⟨rfl, H4⟩
          clear H3
          obtain ⟨_, hm⟩ := meter_cells H4
          have hc0 : w4.cell? ⟨m, 0, none⟩ = some (.int .i64 (k + 1)) := cell_of_row w4 m 0 _ _ _ hm
          have hc1 : w4.cell? ⟨m, 1, none⟩ = some (.int .i64 z) := cell_of_row w4 m 1 _ _ _ hm
          clear hm hca'
          go_wp2_with (go_at_call 20; refine (meter_left_is H4 (n := most - (k + 1)) rfl).mono ?_; rintro e w5 ⟨rfl, n5, rfl⟩)
          go_roundw
          case rel => exact ⟨j + 1, k + 1, z, byteOf z :: zeros 31, by omega, by go_num, rfl, rfl, by omega, by omega, by omega, by omega, H4.drewN _⟩
          case measure => simp [intOf]; omega
    · go_wp2
      go_returns
      exact ⟨rfl, H3.pull2.toBelow'⟩
end
end Go.Proofs.Ytakeilefbcpabaa

/- The document's Full; what was handed in and what was answered, written over. -/
namespace Go.Proofs.Ytakeilefbcpabaa
open Go.RowKit
attribute [local irreducible] Y OW YK OWK W WL WP X CV Ev Evs HasCell HasCells Has Met Again Kept

section
variable {c : Con} {F : List HP} {w : World} {p : Nat} {D D' : DiskM}
set_option maxRecDepth 100000 in
theorem ref_full (l : List UInt8) (hl : l.length ≤ 256) (H : St c F w) : Calls Try.prog 31 #[str l] w fun e w' => e = .returned (str (pad l)) ∧ St c F w' := by
  refine calls_w (vs := [str l]) Try.func31 rfl rfl rfl ?_ w H
  have hz : (bvs (zeros (256 - l.length))).length = 256 - l.length := by rw [bvs_length, zeros_length]
  (repeat' (first
      | (with_reducible refine is_owkc ?_; first | refine owk (ow_makeSliceI (n := 256 - l.length) (ev_tmp rfl) (ev_tmp rfl) (by omega) (by omega) (by omega)) (fun b => ?_))
      | (with_reducible refine at_conv ?_; first | refine yk (y_str (l := zeros (256 - l.length)) (n := 256 - l.length) (ev_tmp rfl) (by rw [← replicate_bvs]; exact hasR_blAll (by simp) (by omega) (by omega))) ?_)
      | (with_reducible refine at_bin ?_; first | refine yk (y_add_s (ev_tmp rfl) (ev_tmp rfl) (by rw [zeros_length]; omega)) ?_)
      | (with_reducible refine is_yk ?_; refine yk_auto (k := ?_))
      | (with_reducible refine is_owk0 ?_; refine owk0_auto (k := ?_))
      | (with_reducible refine is_owkc ?_; refine owk_auto (k := fun _ => ?_))
      | refine go1 (k := ?_)
      | (refine go2 (ka := ?_) (kb := ?_) <;> intro _)
      | fail))
  exact x_ret1 rfl rfl (fun w H => ⟨rfl, Sel.st sel_auto H⟩)
end
end Go.Proofs.Ytakeilefbcpabaa

/- Rows of elements of many cells: what lies in a block from an element on. No program in sight. -/
namespace Go.Proofs.Ytakeilefbcpabaa
section
variable {α : Type} {f : α → List Value} {sz : Nat}
/-- All elements have so many cells. -/
def Szd (f : α → List Value) (sz : Nat) (l : List α) : Prop := ∀ x ∈ l, (f x).length = sz
theorem Szd.tail {x : α} {l : List α} (h : Szd f sz (x :: l)) : Szd f sz l := fun y hy => h y (List.mem_cons_of_mem _ hy)
theorem Szd.head {x : α} {l : List α} (h : Szd f sz (x :: l)) : (f x).length = sz := h x List.mem_cons_self
theorem Szd.append {l m : List α} (h : Szd f sz l) (k : Szd f sz m) : Szd f sz (l ++ m) := fun y hy => (List.mem_append.1 hy).elim (h y) (k y)
theorem Szd.filter {l : List α} (h : Szd f sz l) (p : α → Bool) : Szd f sz (l.filter p) := fun y hy => h y (List.mem_filter.1 hy).1
theorem Szd.take {l : List α} (h : Szd f sz l) (n : Nat) : Szd f sz (l.take n) := fun y hy => h y (List.mem_of_mem_take hy)
theorem Szd.drop {l : List α} (h : Szd f sz l) (n : Nat) : Szd f sz (l.drop n) := fun y hy => h y (List.mem_of_mem_drop hy)
theorem Szd.get {l : List α} (h : Szd f sz l) {j : Nat} (hj : j < l.length) : (f l[j]).length = sz := h _ (List.getElem_mem hj)
theorem flat_length : ∀ {l : List α}, Szd f sz l → (l.flatMap f).length = l.length * sz
  | [], _ => by simp
  | x :: l, h => by rw [List.flatMap_cons, List.length_append, h.head, flat_length h.tail, List.length_cons, Nat.add_mul, Nat.one_mul, Nat.add_comm]
theorem flat_at : ∀ {l : List α}, Szd f sz l → ∀ (j : Nat) (hj : j < l.length), ((l.flatMap f).drop (j * sz)).take sz = f l[j]
  | x :: l, h, 0, _ => by
    rw [Nat.zero_mul, List.drop_zero, List.flatMap_cons]
    exact List.take_left' h.head
  | x :: l, h, j + 1, hj => by
    rw [List.flatMap_cons, Nat.add_mul, Nat.one_mul, Nat.add_comm (j * sz), ← List.drop_drop, List.drop_left' h.head]
    exact flat_at h.tail j (by simpa using hj)
/-- The row's cells are those elements from element i on. -/
def RowFrom (f : α → List Value) (sz : Nat) (cur : List Value) (i : Nat) (l : List α) : Prop := (cur.drop (i * sz)).take (l.length * sz) = l.flatMap f ∧ (i + l.length) * sz ≤ cur.length
theorem rowFrom_of {cur : List Value} {l : List α} {n : Nat} (hn : l.length = n) (h : cur.take (n * sz) = l.flatMap f) (hl : n * sz ≤ cur.length) : RowFrom f sz cur 0 l := by
  subst hn
  exact ⟨by rw [Nat.zero_mul, List.drop_zero]; exact h, by rw [Nat.zero_add]; exact hl⟩
theorem RowFrom.head {cur : List Value} {l : List α} (h : RowFrom f sz cur 0 l) : cur.take (l.length * sz) = l.flatMap f := by
  have := h.1; rwa [Nat.zero_mul, List.drop_zero] at this
theorem RowFrom.get {cur : List Value} {i : Nat} {l : List α} (h : RowFrom f sz cur i l) (hl : Szd f sz l) {j : Nat} (hj : j < l.length) : (cur.drop ((i + j) * sz)).take sz = f l[j] := by
  have h1 := flat_at hl j hj
  have h2 : j * sz + sz ≤ l.length * sz := by rw [← Nat.succ_mul]; exact Nat.mul_le_mul_right _ hj
  rw [← h.1, List.drop_take, List.drop_drop, List.take_take, Nat.min_eq_left (by omega), ← Nat.add_mul] at h1
  exact h1
theorem RowFrom.tail {cur : List Value} {i : Nat} {x : α} {l : List α} (h : RowFrom f sz cur i (x :: l)) (hx : (f x).length = sz) : RowFrom f sz cur (i + 1) l := by
  obtain ⟨h1, h2⟩ := h
  rw [List.length_cons] at h1 h2
  refine ⟨?_, by rw [show i + 1 + l.length = i + (l.length + 1) by omega]; exact h2⟩
  have h3 := congrArg (List.drop sz) h1
  rw [List.drop_take, List.drop_drop, List.flatMap_cons, List.drop_left' hx, Nat.add_mul, Nat.one_mul, Nat.add_sub_cancel] at h3
  rw [Nat.add_mul, Nat.one_mul]; exact h3
theorem RowFrom.drop {cur : List Value} : ∀ {l : List α} {i : Nat} (_ : RowFrom f sz cur i l) (_ : Szd f sz l) (n : Nat), RowFrom f sz cur (i + n) (l.drop n) ∨ l.length < n
  | l, i, h, _, 0 => .inl h
  | [], _, _, _, n + 1 => .inr (by simp)
  | x :: l, i, h, hl, n + 1 => by
    rcases RowFrom.drop (h.tail hl.head) hl.tail n with k | k
    · left; rw [show i + (n + 1) = i + 1 + n by omega]; exact k
    · right; simpa using k
theorem RowFrom.take {cur : List Value} {i : Nat} {l : List α} (h : RowFrom f sz cur i l) (hl : Szd f sz l) (n : Nat) : RowFrom f sz cur i (l.take n) := by
  obtain ⟨h1, h2⟩ := h
  have h3 : (l.take n).length ≤ l.length := by rw [List.length_take]; omega
  have h4 : (l.take n).length * sz ≤ l.length * sz := Nat.mul_le_mul_right _ h3
  refine ⟨?_, Nat.le_trans (Nat.mul_le_mul_right _ (by omega)) h2⟩
  have h5 := congrArg (List.take ((l.take n).length * sz)) h1
  rw [List.take_take, Nat.min_eq_left h4] at h5
  rw [h5]
  have h6 : l.flatMap f = (l.take n).flatMap f ++ (l.drop n).flatMap f := by rw [← List.flatMap_append, List.take_append_drop]
  rw [h6, ← flat_length (hl.take n), List.take_left]
/-- An element is laid at the end of those that are kept. -/
theorem RowFrom.put {cur : List Value} {kept : List α} {x : α} (h : RowFrom f sz cur 0 kept) (hk : Szd f sz kept) (hx : (f x).length = sz) (hfit : (kept.length + 1) * sz ≤ cur.length) : RowFrom f sz (splice cur (kept.length * sz) (f x)) 0 (kept ++ [x]) := by
  have hfit' : kept.length * sz + (f x).length ≤ cur.length := by rw [hx, ← Nat.succ_mul]; exact hfit
  refine ⟨?_, ?_⟩
  · rw [Nat.zero_mul, List.drop_zero, List.flatMap_append, List.length_append, List.length_singleton, splice, h.head]
    have e : (kept.length + 1) * sz = (kept.flatMap f ++ f x).length := by rw [List.length_append, flat_length hk, hx, Nat.succ_mul]
    rw [e, List.take_left]
    simp
  · rw [splice_length hfit', List.length_append, List.length_singleton, Nat.zero_add]; exact hfit
/-- What lies behind isn't touched. -/
theorem RowFrom.behind {cur : List Value} {o j : Nat} {l : List α} {vs : List Value} (h : RowFrom f sz cur j l) (ho : o + vs.length ≤ j * sz) : RowFrom f sz (splice cur o vs) j l := by
  obtain ⟨h1, h2⟩ := h
  have h3 : j * sz ≤ cur.length := Nat.le_trans (Nat.mul_le_mul_right _ (by omega)) h2
  refine ⟨?_, by rw [splice_length (by omega)]; exact h2⟩
  rw [← h1]
  congr 1
  have hlen : (cur.take o ++ vs).length = o + vs.length := by rw [List.length_append, List.length_take]; omega
  rw [splice, List.drop_append, List.drop_of_length_le (by omega), List.nil_append, List.drop_drop]
  congr 1
  omega
theorem RowFrom.ahead {cur : List Value} {i o : Nat} {l : List α} {zs : List Value} (h : RowFrom f sz cur i l) (ho : (i + l.length) * sz ≤ o) (hfit : o + zs.length ≤ cur.length) : RowFrom f sz (splice cur o zs) i l := by
  obtain ⟨h1, h2⟩ := h
  refine ⟨?_, by rw [splice_length hfit]; exact h2⟩
  rw [← h1, splice, List.append_assoc]
  have h3 : i * sz + l.length * sz ≤ o := by rw [← Nat.add_mul]; exact ho
  rw [List.drop_append_of_le_length (by rw [List.length_take]; omega), List.take_append_of_le_length (by rw [List.length_drop, List.length_take]; omega), List.drop_take, List.take_take, Nat.min_eq_left (by omega)]
/-- An element is turned in its place. -/
theorem RowFrom.set {cur : List Value} {l : List α} {x : α} {j : Nat} (h : RowFrom f sz cur 0 l) (hl : Szd f sz l) (hx : (f x).length = sz) (hj : j < l.length) : RowFrom f sz (splice cur (j * sz) (f x)) 0 (l.set j x) := by
  have hb : (j + 1) * sz ≤ l.length * sz := Nat.mul_le_mul_right _ hj
  have hb' : j * sz + sz ≤ l.length * sz := by rw [← Nat.succ_mul]; exact Nat.mul_le_mul_right _ hj
  have hc : l.length * sz ≤ cur.length := by have := h.2; rwa [Nat.zero_add] at this
  have hlt : (l.take j).length = j := by rw [List.length_take]; omega
  have h1 := ((h.take hl j).put (hl.take j) hx (by rw [hlt]; omega))
  rw [hlt] at h1
  have h2 : RowFrom f sz cur (j + 1) (l.drop (j + 1)) := by
    rcases h.drop hl (j + 1) with k | k
    · rw [Nat.zero_add] at k; exact k
    · omega
  have h3 := h2.behind (o := j * sz) (vs := f x) (by rw [hx, ← Nat.succ_mul]; exact Nat.le_refl _)
  obtain ⟨a1, a2⟩ := h1
  obtain ⟨b1, b2⟩ := h3
  have hset : l.set j x = (l.take j ++ [x]) ++ l.drop (j + 1) := by rw [List.set_eq_take_append_cons_drop, if_pos hj]; simp
  have hll : (l.take j ++ [x]).length = j + 1 := by rw [List.length_append, hlt, List.length_singleton]
  rw [Nat.zero_mul, List.drop_zero, hll] at a1
  refine ⟨?_, ?_⟩
  · rw [hset, List.flatMap_append, ← a1, ← b1, Nat.zero_mul, List.drop_zero, List.length_append, hll, Nat.add_mul]
    rw [List.take_add]
  · rw [List.length_set, splice_length (by rw [hx]; omega), Nat.zero_add]; exact hc
end
end Go.Proofs.Ytakeilefbcpabaa

/- Somebody writes a sector: what Forge does; DeleteFunc at waiting writes. -/
namespace Go.Proofs.Ytakeilefbcpabaa
open Go.RowKit
attribute [local irreducible] Y OW YK OWK W WL WP X CV Ev Evs HasCell HasCells Has Met Again Kept

abbrev delV (t : Nat) : Value := .func (.func 63) #[] #[.pointer (some ⟨t, 0, none⟩)]
/-- The first write of a sector; -1: none. -/
def firstOf (i : Int) (l : List (Nat × Sec)) : Int := if l.findIdx (fun x => decide ((x.1 : Int) = i)) < l.length then (l.findIdx (fun x => decide ((x.1 : Int) = i)) : Nat) else -1
def others (i : Int) (l : List (Nat × Sec)) : List (Nat × Sec) := l.filter fun x => !decide ((x.1 : Int) = i)
theorem firstOf_hit {i : Int} {l : List (Nat × Sec)} {j : Nat} (hj : j < l.length) (h : ∀ x ∈ l.take j, (x.1 : Int) ≠ i) (hx : (l[j].1 : Int) = i) : firstOf i l = j := by
  have e : l.findIdx (fun x => decide ((x.1 : Int) = i)) = j := by
    rw [List.findIdx_eq hj]
    refine ⟨by simpa using hx, fun k hk => ?_⟩
    have := h l[k] (List.mem_take_iff_getElem.2 ⟨k, by omega, rfl⟩)
    simpa using this
  unfold firstOf
  rw [e, if_pos hj]
theorem firstOf_miss {i : Int} {l : List (Nat × Sec)} (h : ∀ x ∈ l, (x.1 : Int) ≠ i) : firstOf i l = -1 := by
  unfold firstOf
  rw [if_neg]
  intro k
  obtain ⟨x, hx, hp⟩ := List.findIdx_lt_length.1 k
  exact h x hx (by simpa using hp)
theorem none_succ {i : Int} {l : List (Nat × Sec)} {j : Nat} (hj : j < l.length) (h : ∀ x ∈ l.take j, (x.1 : Int) ≠ i) (hx : (l[j].1 : Int) ≠ i) : ∀ x ∈ l.take (j + 1), (x.1 : Int) ≠ i := by
  rw [List.take_succ_eq_append_getElem hj]
  intro x hx'
  rcases List.mem_append.1 hx' with h' | h'
  · exact h x h'
  · rw [List.mem_singleton.1 h']; exact hx
theorem others_take_hit {i : Int} {l : List (Nat × Sec)} {j : Nat} (hj : j < l.length) (hx : (l[j].1 : Int) = i) : others i (l.take (j + 1)) = others i (l.take j) := by
  unfold others; rw [List.take_succ_eq_append_getElem hj, List.filter_append, List.filter_cons_of_neg (by simpa using hx)]; simp
theorem others_take_miss {i : Int} {l : List (Nat × Sec)} {j : Nat} (hj : j < l.length) (hx : (l[j].1 : Int) ≠ i) : others i (l.take (j + 1)) = others i (l.take j) ++ [l[j]] := by
  unfold others; rw [List.take_succ_eq_append_getElem hj, List.filter_append, List.filter_cons_of_pos (by simpa using hx)]; simp
theorem others_all {i : Int} {l : List (Nat × Sec)} (h : ∀ x ∈ l, (x.1 : Int) ≠ i) : others i l = l := List.filter_eq_self.2 fun x hx => by simpa using h x hx
theorem others_le (i : Int) (l : List (Nat × Sec)) : (others i l).length ≤ l.length := List.length_filter_le _ _
theorem others_lt {i : Int} {l : List (Nat × Sec)} {j : Nat} (hj : j < l.length) (hx : (l[j].1 : Int) = i) {m : Nat} (hm : j < m) (hml : m ≤ l.length) : (others i (l.take m)).length < m := by
  have h1 : (l.take m).length = m := by rw [List.length_take]; omega
  have h2 := (List.length_filter_lt_length_iff_exists (l := l.take m) (p := fun x : Nat × Sec => !decide ((x.1 : Int) = i))).2 ⟨l[j], List.mem_take_iff_getElem.2 ⟨j, by omega, rfl⟩, by simpa using hx⟩
  unfold others; omega
theorem firstOf_cases (i : Int) (l : List (Nat × Sec)) : (firstOf i l = -1 ∧ ∀ x ∈ l, (x.1 : Int) ≠ i) ∨ ∃ j, ∃ hj : j < l.length, firstOf i l = j ∧ (l[j].1 : Int) = i ∧ ∀ x ∈ l.take j, (x.1 : Int) ≠ i := by
  by_cases h : ∀ x ∈ l, (x.1 : Int) ≠ i
  · exact .inl ⟨firstOf_miss h, h⟩
  · right
    have hlt : l.findIdx (fun x => decide ((x.1 : Int) = i)) < l.length := by
      rw [List.findIdx_lt_length]
      simp only [Classical.not_forall] at h
      obtain ⟨x, hx, hp⟩ := h
      exact ⟨x, hx, by simpa using hp⟩
    refine ⟨_, hlt, by unfold firstOf; rw [if_pos hlt], by simpa using List.findIdx_getElem (w := hlt), fun x hx => ?_⟩
    obtain ⟨k, hk, rfl⟩ := List.mem_take_iff_getElem.1 hx
    have := List.not_of_lt_findIdx (p := fun x : Nat × Sec => decide ((x.1 : Int) = i)) (xs := l) (i := k) (by omega)
    simpa using this
theorem szd_w {l : List (Nat × Sec)} (h : ∀ x ∈ l, x.2.length = 256) : Szd wcell 257 l := fun x hx => wcell_length (h x hx)
theorem wcell_one (x : Nat × Sec) : ∀ v ∈ wcell x, v.oneCell' = true := by
  intro v hv
  rcases List.mem_cons.1 hv with rfl | hv
  · rfl
  · exact bvs_oneCell _ v hv
theorem has_row {α : Type} {f : α → List Value} {sz : Nat} {H : World → Prop} {b T o : Nat} {fr : Nat × Nat} {cur : List Value} {l : List α} {i j : Nat} (h : Has H b (.cells cur.toArray T fr)) (hr : RowFrom f sz cur i l) (hl : Szd f sz l) (hj : j < l.length) (ho : o = (i + j) * sz) :
    HasCells H ⟨b, o, none⟩ (f l[j]) := by
  subst ho
  refine hasCells_bl h ?_
  rw [hl.get hj, List.toList_toArray]
  exact hr.get hl hj

section
variable {c : Con} {F : List HP} {w : World} {t g cap : Nat} {i : Int} {cur : List Value} {l : List (Nat × Sec)}
set_option maxRecDepth 100000 in
theorem del_f (x : Nat × Sec) (H : St c (Bl t 3 [.int .i64 i] :: F) w) :
    Calls Try.prog 63 #[.agg (wcell x).toArray, .pointer (some ⟨t, 0, none⟩)] w fun e w' => e = .returned (.bool (decide ((x.1 : Int) = i))) ∧ St c (Bl t 3 [.int .i64 i] :: F) w' := by
  refine calls_w (vs := [.agg (wcell x).toArray, .pointer (some ⟨t, 0, none⟩)]) Try.func63 rfl rfl rfl ?_ w H
  (repeat' (first
      | (with_reducible refine is_yk ?_; refine yk_auto (k := ?_))
      | (with_reducible refine is_owk0 ?_; refine owk0_auto (k := ?_))
      | (with_reducible refine is_owkc ?_; refine owk_auto (k := fun _ => ?_))
      | refine go1 (k := ?_)
      | (refine go2 (ka := ?_) (kb := ?_) <;> intro _)
      | fail))
  exact x_ret1 rfl rfl (fun w H => ⟨rfl, Sel.st sel_auto H⟩)

set_option maxRecDepth 100000 in
theorem index_f (hl : Szd wcell 257 l) (hn : l.length ≤ 1073741824) (hr : RowFrom wcell 257 cur 0 l) (H : St c (Bl g 111 cur :: Bl t 3 [.int .i64 i] :: F) w) :
    Calls Try.prog 68 #[.slice (some ⟨g, 0, none⟩) l.length cap, delV t] w fun e w' => e = .returned (.int .i64 (firstOf i l)) ∧ St c (Bl g 111 cur :: Bl t 3 [.int .i64 i] :: F) w' := by
  refine calls_w (vs := [.slice (some ⟨g, 0, none⟩) l.length cap, delV t]) Try.func68 rfl rfl rfl ?_ w H
  (repeat' (first
      | (with_reducible refine is_yk ?_; refine yk_auto (k := ?_))
      | (with_reducible refine is_owk0 ?_; refine owk0_auto (k := ?_))
      | (with_reducible refine is_owkc ?_; refine owk_auto (k := fun _ => ?_))
      | refine go1 (k := ?_)
      | (refine go2 (ka := ?_) (kb := ?_) <;> intro _)
      | fail))
  refine w_loop (α := Nat) (fun j => j ≤ l.length ∧ ∀ x ∈ l.take j, (x.1 : Int) ≠ i) (fun j => [(0, .slice (some ⟨g, 0, none⟩) l.length cap), (1, delV t), (7, .int .i64 l.length), (8, .int .i64 (j : Int))])
    (fun _ => _) (fun j => l.length - j) 0 ⟨Nat.zero_le _, by simp⟩ sub_auto sel_all (fun j hj => ?_)
  obtain ⟨hj, hno⟩ := hj
  by_cases hlt : j < l.length
  · (repeat' (first
      | (with_reducible refine is_owkc ?_; first | refine owk_fv1 (caps := [.pointer (some ⟨t, 0, none⟩)]) (ev_tmp rfl) evs_auto (by kernel_rfl) pick_auto rfl (fun w H => del_f l[j] H) ?_)
      | (with_reducible refine is_yk ?_; first | refine yk (y_loadN (ev_tmp rfl) (has_row has_auto hr hl hlt (by omega)) (hl.get hlt)) ?_)
      | (with_reducible refine is_yk ?_; refine yk_auto (k := ?_))
      | (with_reducible refine is_owk0 ?_; refine owk0_auto (k := ?_))
      | (with_reducible refine is_owkc ?_; refine owk_auto (k := fun _ => ?_))
      | refine go1 (k := ?_)
      | (refine go2 (ka := ?_) (kb := ?_) <;> intro _)
      | fail))
    · rename_i hx
      rw [firstOf_hit hlt hno hx]
      exact x_ret1 rfl rfl (fun w H => ⟨rfl, Sel.st sel_auto H⟩)
    · rename_i hx
      exact x_again (j + 1) ⟨hlt, none_succ hlt hno hx⟩ (by omega) sub_auto sel_auto
  · have hall : ∀ x ∈ l, (x.1 : Int) ≠ i := by rwa [List.take_of_length_le (by omega)] at hno
    (repeat' (first
      | (with_reducible refine is_yk ?_; refine yk_auto (k := ?_))
      | (with_reducible refine is_owk0 ?_; refine owk0_auto (k := ?_))
      | (with_reducible refine is_owkc ?_; refine owk_auto (k := fun _ => ?_))
      | refine go1 (k := ?_)
      | (refine go2 (ka := ?_) (kb := ?_) <;> intro _)
      | fail))
    rw [firstOf_miss hall]
    exact x_ret1 rfl rfl (fun w H => ⟨rfl, H⟩)
theorem index_is {m : Int} (hm : firstOf i l = m) (hl : Szd wcell 257 l) (hn : l.length ≤ 1073741824) (hr : RowFrom wcell 257 cur 0 l) (H : St c (Bl g 111 cur :: Bl t 3 [.int .i64 i] :: F) w) :
    Calls Try.prog 68 #[.slice (some ⟨g, 0, none⟩) l.length cap, delV t] w fun e w' => e = .returned (.int .i64 m) ∧ St c (Bl g 111 cur :: Bl t 3 [.int .i64 i] :: F) w' := by
  subst hm; exact index_f hl hn hr H

/-- What DeleteFunc leaves in the block. -/
def Left (cur : List Value) (i : Int) (l : List (Nat × Sec)) (cur' : List Value) : Prop := cur'.length = cur.length ∧ RowFrom wcell 257 cur' 0 (others i l)
set_option maxRecDepth 100000 in
set_option maxHeartbeats 1000000 in
theorem delete_f (hl : Szd wcell 257 l) (hn : l.length ≤ 1073741824) (hr : RowFrom wcell 257 cur 0 l) (hc : l.length ≤ cap) (hcap : cap ≤ 9223372036854775807) (H : St c (Bl g 111 cur :: Bl t 3 [.int .i64 i] :: F) w) :
    Calls Try.prog 62 #[.slice (some ⟨g, 0, none⟩) l.length cap, delV t] w fun e w' => ∃ cur' : { cur' // Left cur i l cur' }, e = .returned (.slice (some ⟨g, 0, none⟩) (others i l).length cap) ∧
      St c (Bl g 111 cur'.1 :: Bl t 3 [.int .i64 i] :: F) w' := by
  refine calls_w (vs := [.slice (some ⟨g, 0, none⟩) l.length cap, delV t]) Try.func62 rfl rfl rfl ?_ w H
  rcases firstOf_cases i l with ⟨h1, h2⟩ | ⟨k, hk, h1, h2, h3⟩
  · have ho := others_all h2
    (repeat' (first
      | (with_reducible refine is_owkc ?_; first | refine owk_c2 evs_auto (by kernel_rfl) pick_auto pick_auto (fun w H => index_is h1 hl hn hr H) ?_)
      | (with_reducible refine is_yk ?_; refine yk_auto (k := ?_))
      | (with_reducible refine is_owk0 ?_; refine owk0_auto (k := ?_))
      | (with_reducible refine is_owkc ?_; refine owk_auto (k := fun _ => ?_))
      | refine go1 (k := ?_)
      | (refine go2 (ka := ?_) (kb := ?_) <;> intro _)
      | fail))
    refine x_ret1 rfl rfl (fun w H => ⟨⟨cur, rfl, by rw [ho]; exact hr⟩, by rw [ho], H⟩)
  · (repeat' (first
      | (with_reducible refine is_owkc ?_; first | refine owk_c2 evs_auto (by kernel_rfl) pick_auto pick_auto (fun w H => index_is h1 hl hn hr H) ?_)
      | (with_reducible refine is_yk ?_; refine yk_auto (k := ?_))
      | (with_reducible refine is_owk0 ?_; refine owk0_auto (k := ?_))
      | (with_reducible refine is_owkc ?_; refine owk_auto (k := fun _ => ?_))
      | refine go1 (k := ?_)
      | (refine go2 (ka := ?_) (kb := ?_) <;> intro _)
      | fail))
    have hk1 : others i (l.take (k + 1)) = l.take k := by
      rw [others_take_hit hk h2, others_all h3]
    have hk2 : (l.take k).length = k := by rw [List.length_take]; omega
    have hd1 : RowFrom wcell 257 cur (k + 1) (l.drop (k + 1)) := by
      rcases hr.drop hl (k + 1) with h | h
      · rwa [Nat.zero_add] at h
      · omega
    refine w_loop (α := Nat × Nat × List Value) (fun x => k < x.1 ∧ x.1 ≤ l.length ∧ x.2.1 = (others i (l.take x.1)).length ∧ x.2.2.length = cur.length ∧ RowFrom wcell 257 x.2.2 0 (others i (l.take x.1)) ∧ RowFrom wcell 257 x.2.2 x.1 (l.drop x.1))
      (fun x => [(0, .slice (some ⟨g, 0, none⟩) l.length cap), (1, delV t), (5, .int .i64 (x.2.1 : Int)), (6, .int .i64 (x.1 : Int))])
      (fun x => Bl g 111 x.2.2 :: Bl t 3 [.int .i64 i] :: F) (fun x => l.length - x.1) (k + 1, k, cur) ⟨by omega, hk, by rw [hk1, hk2], rfl, by rw [hk1]; exact hr.take hl k, hd1⟩ sub_auto sel_auto (fun x hx => ?_)
    obtain ⟨j, m, cu⟩ := x
    obtain ⟨p1, p2, p3, p4, p5, p6⟩ := hx
    dsimp only at p1 p2 p3 p4 p5 p6 ⊢
    have hcl : cap * 0 = 0 := Nat.mul_zero _
    have hmj : m < j := by rw [p3]; exact others_lt hk h2 p1 p2
    have hlen := hr.2
    rw [Nat.zero_add, ← p4] at hlen
    by_cases hlt : j < l.length
    · have hel : (cu.drop (j * 257)).take 257 = wcell l[j] := by
        have := p6.get (hl.drop j) (j := 0) (by rw [List.length_drop]; omega)
        rw [Nat.add_zero, List.getElem_drop] at this
        simpa using this
      have hwl := hl.get hlt
      have hw1 := wcell_one l[j]
      have hfit : m * 257 + 257 ≤ cu.length := by omega
      (repeat' (first
      | (with_reducible refine is_owkc ?_; first | refine owk0 (ow_storeAll (ev_tmp rfl) (ev_tmp rfl) hw1 hwl upd_auto rfl) ?_ | refine owk0 (ow_storeN (ev_tmp rfl) (ev_tmp rfl) hw1 hwl upd_auto (by rw [hwl]; omega)) ?_ | refine owk_fv1 (caps := [.pointer (some ⟨t, 0, none⟩)]) (ev_tmp rfl) evs_auto (by kernel_rfl) pick_auto rfl (fun w H => del_f l[j] H) ?_)
      | (with_reducible refine is_yk ?_; first | refine yk (y_loadN (ev_tmp rfl) (hasCells_bl (o := 0 + j * 257) (cs := wcell l[j]) has_auto (by rw [hwl, Nat.zero_add]; exact hel)) hwl) ?_)
      | (with_reducible refine is_yk ?_; refine yk_auto (k := ?_))
      | (with_reducible refine is_owk0 ?_; refine owk0_auto (k := ?_))
      | (with_reducible refine is_owkc ?_; refine owk_auto (k := fun _ => ?_))
      | refine go1 (k := ?_)
      | (refine go2 (ka := ?_) (kb := ?_) <;> intro _)
      | fail))
      · rename_i b hx
        have hfl : (others i (l.take j)).length = m := p3.symm
        have hA : RowFrom wcell 257 (splice cu (0 + m * 257) (wcell l[j])) 0 (others i (l.take (j + 1))) := by
          rw [others_take_miss hlt hx, Nat.zero_add, ← hfl]
          exact p5.put ((hl.take j).filter _) hwl (by rw [hfl]; omega)
        have hB : RowFrom wcell 257 (splice cu (0 + m * 257) (wcell l[j])) (j + 1) (l.drop (j + 1)) := by
          rw [List.drop_eq_getElem_cons hlt] at p6
          exact (p6.tail hwl).behind (by rw [hwl]; omega)
        exact x_again (j + 1, m + 1, _) ⟨by show k < j + 1; omega, hlt, by show m + 1 = _; rw [others_take_miss hlt hx, List.length_append, hfl]; rfl, by show (splice _ _ _).length = _; rw [splice_length (by rw [hwl]; omega)]; exact p4, hA, hB⟩
          (by show l.length - (j + 1) < l.length - j; omega) sub_auto sel_auto
      · rename_i b hx
        have hx' : (l[j].1 : Int) = i := Classical.not_not.1 hx
        have hA : others i (l.take (j + 1)) = others i (l.take j) := others_take_hit hlt hx'
        have hB : RowFrom wcell 257 cu (j + 1) (l.drop (j + 1)) := by
          rw [List.drop_eq_getElem_cons hlt] at p6
          exact p6.tail hwl
        exact x_again (j + 1, m, cu) ⟨by show k < j + 1; omega, hlt, by show m = _; rw [hA]; exact p3, p4, by show RowFrom _ _ cu 0 (others i (l.take (j + 1))); rw [hA]; exact p5, hB⟩
          (by show l.length - (j + 1) < l.length - j; omega) sub_auto sel_auto
    · have hjl : l.take j = l := List.take_of_length_le (by omega)
      rw [hjl] at p3 p5
      have hz1 : ∀ u ∈ (zeroOf Try.prog 111).cells.toList, u.oneCell' = true := List.all_eq_true.1 (show (zeroOf Try.prog 111).cells.toList.all (·.oneCell') = true by kernel_rfl)
      have hml : m ≤ l.length := by omega
      have hAd : 0 < l.length - m → (if cap = m then some ⟨g, 0, none⟩ else (some (⟨g, 0, none⟩ : Addr)).map (·.add (m * 257))) = some (⟨g, 0 + m * 257, none⟩ : Addr) := fun h => by
        rw [if_neg (by omega), Option.map_some, add_mid]
      (repeat' (first
      | (with_reducible refine is_owkc ?_; first | refine owk (ow_clear (cur := cu) (ev_tmp rfl) hAd hz1 pick_auto (by omega)) (fun zs => ?_))
      | (with_reducible refine is_yk ?_; refine yk_auto (k := ?_))
      | (with_reducible refine is_owk0 ?_; refine owk0_auto (k := ?_))
      | (with_reducible refine is_owkc ?_; refine owk_auto (k := fun _ => ?_))
      | refine go1 (k := ?_)
      | (refine go2 (ka := ?_) (kb := ?_) <;> intro _)
      | fail))
      refine x_ret1 rfl rfl (fun w H => ⟨⟨splice cu (0 + m * 257) zs.1, ?_, ?_⟩, by rw [← p3], H⟩)
      · rw [splice_length (by rw [zs.2]; omega)]; exact p4
      · exact p5.ahead (by rw [← p3]; omega) (by rw [zs.2]; omega)
end
end Go.Proofs.Ytakeilefbcpabaa

/- Somebody writes a sector: what Forge does. -/
namespace Go.Proofs.Ytakeilefbcpabaa
open Go.RowKit
attribute [local irreducible] Y OW YK OWK W WL WP X CV Ev Evs HasCell HasCells Has Met Again Kept

theorem pad_splice (b : List UInt8) : splice (List.replicate 256 (.int .u8 0)) 0 (bvs b) = bvs (pad b) := by
  rw [replicate_bvs, splice, List.take_zero, List.nil_append, Nat.zero_add, bvs_length, pad, bvs_append]
  simp only [bvs, zeros, ← List.map_drop, List.drop_replicate]
/-- The disk's struct, written out. -/
theorem diskCells_is (n s : Nat) (wv : Value) (D : DiskM) {k : Nat} (hk : D.now.length = k) : diskCells n s wv D = [.slice (some ⟨n, 0, none⟩) k k, .slice (some ⟨s, 0, none⟩) k k, wv, .bool D.down, .int .i64 D.acts, .int .i64 D.fuse, .int .u64 D.keep].toArray := by
  subst hk; rfl
theorem forge_wf {D : DiskM} (h : D.WF) (i : Int) (b : List UInt8) : (D.forge i b).WF := by
  unfold DiskM.forge
  split
  · exact h
  · rename_i he
    have hb : b.length ≤ 256 := by
      unfold DiskM.forgeE at he
      split at he
      · omega
      · split at he <;> omega
    have hp := pad_length b hb
    have hset : ∀ (l : List Sec), (∀ s ∈ l, s.length = 256) → ∀ s ∈ l.set i.toNat (pad b), s.length = 256 := fun l hl s hs => by
      rcases List.mem_or_eq_of_mem_set hs with h' | h'
      · exact hl s h'
      · rw [h']; exact hp
    exact ⟨by simpa using h.most, by simpa using h.same, hset _ h.now, hset _ h.safe, fun x hx => by
      have := h.waits x (List.mem_filter.1 hx).1
      simpa using this, h.fuse0, h.fuse1, h.keep0, h.keep1⟩
theorem others_eq (m : Nat) (l : List (Nat × Sec)) : others (m : Int) l = l.filter fun x => x.1 != m := by
  unfold others
  congr 1
  funext x
  by_cases h : x.1 = m
  · simp [h]
  · have : ¬ ((x.1 : Int) = m) := by omega
    simp [h, this]

section
variable {c : Con} {F : List HP} {w : World} {p t : Nat} {D : DiskM} {i : Int}
set_option maxRecDepth 100000 in
theorem index_nil (H : St c F w) : Calls Try.prog 68 #[.slice none 0 0, delV t] w fun e w' => e = .returned (.int .i64 (-1)) ∧ St c F w' := by
  refine calls_w (vs := [.slice none 0 0, delV t]) Try.func68 rfl rfl rfl ?_ w H
  (repeat' (first
      | (with_reducible refine is_yk ?_; refine yk_auto (k := ?_))
      | (with_reducible refine is_owk0 ?_; refine owk0_auto (k := ?_))
      | (with_reducible refine is_owkc ?_; refine owk_auto (k := fun _ => ?_))
      | refine go1 (k := ?_)
      | (refine go2 (ka := ?_) (kb := ?_) <;> intro _)
      | fail))
  refine w_loop (α := Unit) (fun _ => True) (fun _ => [(7, .int .i64 (0 : Nat)), (8, .int .i64 0)]) (fun _ => _) (fun _ => 0) () trivial sub_auto sel_all (fun _ _ => ?_)
  (repeat' (first
      | (with_reducible refine is_yk ?_; refine yk_auto (k := ?_))
      | (with_reducible refine is_owk0 ?_; refine owk0_auto (k := ?_))
      | (with_reducible refine is_owkc ?_; refine owk_auto (k := fun _ => ?_))
      | refine go1 (k := ?_)
      | (refine go2 (ka := ?_) (kb := ?_) <;> intro _)
      | fail))
  exact x_ret1 rfl rfl (fun w H => ⟨rfl, H⟩)
set_option maxRecDepth 100000 in
theorem delete_nil (H : St c F w) : Calls Try.prog 62 #[.slice none 0 0, delV t] w fun e w' => e = .returned (.slice none 0 0) ∧ St c F w' := by
  refine calls_w (vs := [.slice none 0 0, delV t]) Try.func62 rfl rfl rfl ?_ w H
  (repeat' (first
      | (with_reducible refine is_owkc ?_; first | refine owk_c0s evs_auto (by kernel_rfl) (fun w H => index_nil H) ?_)
      | (with_reducible refine is_yk ?_; refine yk_auto (k := ?_))
      | (with_reducible refine is_owk0 ?_; refine owk0_auto (k := ?_))
      | (with_reducible refine is_owkc ?_; refine owk_auto (k := fun _ => ?_))
      | refine go1 (k := ?_)
      | (refine go2 (ka := ?_) (kb := ?_) <;> intro _)
      | fail))
  exact x_ret1 rfl rfl (fun w H => ⟨rfl, H⟩)

set_option maxRecDepth 100000 in
set_option maxHeartbeats 200000 in
theorem disk_forge (i0 : -9223372036854775808 ≤ i) (i1 : i ≤ 9223372036854775807) (v : Value) (b : List UInt8) (hb : ∀ W, St c F W → Reads W v b.length 1 (bvs b)) (hwl : D.waits.length ≤ 1073741824) (H : St c (DiskAt p D :: F) w) :
    Calls Try.prog 41 #[.pointer (some ⟨p, 0, none⟩), .int .i64 i, v] w fun e w' => e = .returned (.int .i64 (D.forgeE i b.length)) ∧ St c (DiskAt p (D.forge i b) :: F) w' := by
  obtain ⟨A, cap, rfl, hcap, hmax⟩ := (hb w H.tail).form
  obtain ⟨hw, n, s, wv, H⟩ := H.openDisk4
  have hm := hw.most
  obtain ⟨k, hk⟩ : ∃ k, D.now.length = k := ⟨_, rfl⟩
  rw [diskCells_is n s wv D hk] at H
  rw [hk] at hm
  by_cases hi : i < 0 ∨ (k : Int) ≤ i
  · have e1 : D.forgeE i b.length = 1 := by unfold DiskM.forgeE; rw [hk, if_pos hi]
    have e2 : D.forge i b = D := by unfold DiskM.forge; rw [e1]; rfl
    rw [e1, e2]
    refine calls_w (vs := [.pointer (some ⟨p, 0, none⟩), .int .i64 i, .slice A b.length cap]) Try.func41 rfl rfl rfl ?_ w H
    (repeat' (first
      | (with_reducible refine is_w ?_; first | refine w_plan (id := 3) [(0, true), (1, true), (2, true), (3, true), (4, true), (5, true), (6, true), (7, true), (8, true), (9, true), (10, true), (11, true)] _ (by kernel_rfl) (by kernel_rfl) sel_all ?_)
      | (with_reducible refine is_yk ?_; refine yk_auto (k := ?_))
      | (with_reducible refine is_owk0 ?_; refine owk0_auto (k := ?_))
      | (with_reducible refine is_owkc ?_; refine owk_auto (k := fun _ => ?_))
      | refine go1 (k := ?_)
      | (refine go2 (ka := ?_) (kb := ?_) <;> intro _)
      | fail))
    all_goals exact x_ret1 rfl rfl (fun w H => ⟨rfl, shut_disk hw (n := n) (s := s) (wv := wv) H (by rw [diskCells_is n s wv D hk]; exact sel_auto)⟩)
  · have h0 : ¬ i < 0 := fun h => hi (.inl h)
    have h1 : ¬ (k : Int) ≤ i := fun h => hi (.inr h)
    clear hi
    by_cases hlb : 256 < b.length
    · have e1 : D.forgeE i b.length = 3 := by unfold DiskM.forgeE; rw [hk, if_neg (by omega), if_pos hlb]
      have e2 : D.forge i b = D := by unfold DiskM.forge; rw [e1]; rfl
      rw [e1, e2]
      refine calls_w (vs := [.pointer (some ⟨p, 0, none⟩), .int .i64 i, .slice A b.length cap]) Try.func41 rfl rfl rfl ?_ w H
      (repeat' (first
      | (with_reducible refine is_w ?_; first | refine w_plan (id := 3) [(0, true), (1, true), (2, true), (3, true), (4, true), (5, true), (6, true), (7, true), (8, true), (9, true), (10, true), (11, true)] _ (by kernel_rfl) (by kernel_rfl) sel_all ?_)
      | (with_reducible refine is_yk ?_; refine yk_auto (k := ?_))
      | (with_reducible refine is_owk0 ?_; refine owk0_auto (k := ?_))
      | (with_reducible refine is_owkc ?_; refine owk_auto (k := fun _ => ?_))
      | refine go1 (k := ?_)
      | (refine go2 (ka := ?_) (kb := ?_) <;> intro _)
      | fail))
      all_goals exact x_ret1 rfl rfl (fun w H => ⟨rfl, shut_disk hw (n := n) (s := s) (wv := wv) H (by rw [diskCells_is n s wv D hk]; exact sel_auto)⟩)
    · obtain ⟨m, rfl⟩ := Int.eq_ofNat_of_zero_le (show 0 ≤ i by omega)
      have hmk : m < k := by omega
      have e1 : D.forgeE m b.length = 0 := by unfold DiskM.forgeE; rw [hk, if_neg (by omega), if_neg hlb]
      have e2 : D.forge m b = { D with now := D.now.set m (pad b), safe := D.safe.set m (pad b), waits := others m D.waits } := by
        unfold DiskM.forge; rw [e1, others_eq]; rfl
      have hwf := forge_wf hw (m : Int) b
      rw [e2] at hwf
      rw [e1, e2]
      have hpl := pad_length b (by omega)
      have hpv : (bvs (pad b)).length = 256 := by rw [bvs_length, hpl]
      have hone := bvs_oneCell (pad b)
      have hnl : (secs D.now).length = k * 256 := by rw [secs_length hw.now, hk]
      have hset1 : splice (secs D.now) (0 + m * 256) (bvs (pad b)) = secs (D.now.set m (pad b)) := by
        rw [Nat.zero_add]; exact (secs_set hw.now m (by omega) hpl).symm
      have hset2 : splice (secs D.safe) (0 + m * 256) (bvs (pad b)) = secs (D.safe.set m (pad b)) := by
        rw [Nat.zero_add]; exact (secs_set hw.safe m (by rw [hw.same]; omega) hpl).symm
      have hsl : (secs D.safe).length = k * 256 := by rw [secs_length hw.safe, hw.same, hk]
      rcases (St.pull3 H).openOwn with ⟨rfl, hq1, hq2, -⟩ | ⟨g, gc, cur, rfl, q1, q2, q3, q4, -, H2⟩
      · have hw0 : D.waits = [] := List.eq_nil_of_length_eq_zero hq1
        refine calls_w (vs := [.pointer (some ⟨p, 0, none⟩), .int .i64 m, .slice A b.length cap]) Try.func41 rfl rfl rfl ?_ w H
        (repeat' (first
      | (with_reducible refine is_owkc ?_; first | refine owk0 (ow_copy (cur := List.replicate 256 (.int .u8 0)) rfl (ev_tmp rfl) (ev_tmp rfl) pick_auto (fun w H => hb w (Sel.st sel_auto H)) (by omega) (by simp; omega) (bvs_oneCell b) (pad_splice b)) ?_ | refine owk0 (ow_storeE (cs := secs D.now) (ev_tmp rfl) (ev_tmp rfl) hone hpv hset1 upd_auto (by rw [hpv]; omega)) ?_ | refine owk0 (ow_storeE (cs := secs D.safe) (ev_tmp rfl) (ev_tmp rfl) hone hpv hset2 upd_auto (by rw [hpv]; omega)) ?_ | refine owk_c0s evs_auto (by kernel_rfl) (fun w H => delete_nil H) ?_)
      | (with_reducible refine is_w ?_; first | refine w_plan (id := 3) [(0, true), (1, true), (2, true), (3, true), (4, true), (5, true), (6, true), (7, true), (8, true), (9, true), (10, true), (11, true)] _ (by kernel_rfl) (by kernel_rfl) sel_all ?_ | refine w_plan (id := 9) [(0, true), (1, true), (2, true), (3, true), (4, true), (5, true), (6, true), (7, true), (8, true), (9, true), (10, true), (11, true), (12, true), (13, false), (14, false), (15, false)] [Bl _ _ _, Bl _ _ _, Pt p _] (by kernel_rfl) (by kernel_rfl) sel_auto ?_)
      | (with_reducible refine is_yk ?_; refine yk_auto (k := ?_))
      | (with_reducible refine is_owk0 ?_; refine owk0_auto (k := ?_))
      | (with_reducible refine is_owkc ?_; refine owk_auto (k := fun _ => ?_))
      | refine go1 (k := ?_)
      | (refine go2 (ka := ?_) (kb := ?_) <;> intro _)
      | fail))
        have ho : others (m : Int) D.waits = D.waits := by rw [hw0]; rfl
        refine x_ret1 rfl rfl (fun w H => ⟨rfl, shut_disk hwf (n := n) (s := s) (wv := .slice none 0 0) H ?_⟩)
        rw [diskCells_is n s _ _ (k := k) (by show (D.now.set m (pad b)).length = k; rw [List.length_set]; exact hk)]
        show Sel _ (_ :: _ :: _ :: OwnP _ _ _ (others (m : Int) D.waits).length (wcells (others (m : Int) D.waits)) :: _)
        rw [ho]
        exact sel_auto
      · have hwz := szd_w fun x hx => (hw.waits x hx).2
        have hrow : RowFrom wcell 257 cur 0 D.waits := rowFrom_of rfl q4 (by rw [q3]; exact Nat.mul_le_mul_right _ q1)
        refine calls_w (vs := [.pointer (some ⟨p, 0, none⟩), .int .i64 m, .slice A b.length cap]) Try.func41 rfl rfl rfl ?_ w H2
        (repeat' (first
      | (with_reducible refine is_owkc ?_; first | refine owk0 (ow_copy (cur := List.replicate 256 (.int .u8 0)) rfl (ev_tmp rfl) (ev_tmp rfl) pick_auto (fun w H => hb w (Sel.st sel_auto H)) (by omega) (by simp; omega) (bvs_oneCell b) (pad_splice b)) ?_ | refine owk0 (ow_storeE (cs := secs D.now) (ev_tmp rfl) (ev_tmp rfl) hone hpv hset1 upd_auto (by rw [hpv]; omega)) ?_ | refine owk0 (ow_storeE (cs := secs D.safe) (ev_tmp rfl) (ev_tmp rfl) hone hpv hset2 upd_auto (by rw [hpv]; omega)) ?_ | refine owk_c2x evs_auto (by kernel_rfl) pick_auto pick_auto (fun w H => delete_f (i := (m : Int)) hwz hwl hrow q1 q2 H) (fun cu => ?_))
      | (with_reducible refine is_w ?_; first | refine w_plan (id := 3) [(0, true), (1, true), (2, true), (3, true), (4, true), (5, true), (6, true), (7, true), (8, true), (9, true), (10, true), (11, true)] _ (by kernel_rfl) (by kernel_rfl) sel_all ?_ | refine w_plan (id := 9) [(0, true), (1, true), (2, true), (3, true), (4, true), (5, true), (6, true), (7, true), (8, true), (9, true), (10, true), (11, true), (12, true), (13, false), (14, false), (15, false)] [Bl _ _ _, Bl _ _ _, Pt p _] (by kernel_rfl) (by kernel_rfl) sel_auto ?_)
      | (with_reducible refine is_yk ?_; refine yk_auto (k := ?_))
      | (with_reducible refine is_owk0 ?_; refine owk0_auto (k := ?_))
      | (with_reducible refine is_owkc ?_; refine owk_auto (k := fun _ => ?_))
      | refine go1 (k := ?_)
      | (refine go2 (ka := ?_) (kb := ?_) <;> intro _)
      | fail))
        refine x_ret1 rfl rfl (fun w H => ⟨rfl, shut_disk hwf (n := n) (s := s) (wv := .slice (some ⟨g, 0, none⟩) (others (m : Int) D.waits).length gc) H ?_⟩)
        rw [diskCells_is n s _ _ (k := k) (by show (D.now.set m (pad b)).length = k; rw [List.length_set]; exact hk)]
        exact Sel.cons pickd_auto (Sel.cons pickd_auto (Sel.cons pickd_auto (Sel.imp (A := Bl g 111 cu.1) pick_auto
          (own_shut (Nat.le_trans (others_le _ _) q1) q2 (by rw [cu.2.1, q3]) cu.2.2.head) sel_auto)))
end
end Go.Proofs.Ytakeilefbcpabaa

/- Forge, as it is asked for by the laws. -/
namespace Go.Proofs.Ytakeilefbcpabaa
open Go.RowKit
section
variable {c : Con} {F : List HP} {w : World} {p : Nat} {D D' : DiskM}
theorem disk_forge_is (i : Int) (i0 : -9223372036854775808 ≤ i) (i1 : i ≤ 9223372036854775807) (v : Value) (b : List UInt8) {E : Int} (hE : D.forgeE i b.length = E) (hD : D.forge i b = D') (hb : ∀ W, St c F W → Reads W v b.length 1 (bvs b)) (hwl : D.waits.length ≤ 1073741824) (H : St c (DiskAt p D :: F) w) :
    Calls Try.prog 41 #[.pointer (some ⟨p, 0, none⟩), .int .i64 i, v] w fun e w' => e = .returned (.int .i64 E) ∧ St c (DiskAt p D' :: F) w' := by
  subst hE hD
  exact disk_forge i0 i1 v b hb hwl H
end
end Go.Proofs.Ytakeilefbcpabaa

/- ChainStops: the walk. -/
namespace Go.Proofs.Ytakeilefbcpabaa
open Go.RowKit
theorem hasR_head {H : World → Prop} {A : Option Addr} {n cap m : Nat} {l : List UInt8} (h : HasR H (.slice A n cap) n (bvs l)) (hm : m ≤ n) : HasR H (.slice A m cap) m (bvs (l.take m)) := fun w hw => by
  obtain ⟨h1, h2⟩ := h w hw
  rw [bvs_length] at h1
  refine ⟨by rw [bvs_length, List.length_take]; omega, ?_⟩
  rcases h2 with ⟨e, hn⟩ | ⟨a, cap', e, h3, h4, h5⟩
  · obtain ⟨rfl, -, rfl⟩ := Value.slice.inj e
    have : m = 0 := by omega
    subst this
    exact .inl ⟨rfl, rfl⟩
  · obtain ⟨rfl, -, rfl⟩ := Value.slice.inj e
    refine .inr ⟨a, cap, rfl, by omega, h4, fun j u hu => h5 j u ?_⟩
    simp only [bvs, List.map_take, List.getElem?_take] at hu
    split at hu
    · exact hu
    · cases hu
/-- A disk on which nothing waits. -/
structure Bare (D : DiskM) (n : Nat) : Prop where
  down : D.down = false
  len : D.now.length = n
  waits : D.waits = []
theorem Bare.forge {D : DiskM} {n : Nat} (h : Bare D n) {i : Int} (hi : 0 ≤ i ∧ i < n) {b : List UInt8} (hb : b.length ≤ 256) : D.forgeE i b.length = 0 ∧ Bare (D.forge i b) n := by
  have hE : D.forgeE i b.length = 0 := by
    unfold DiskM.forgeE
    rw [if_neg (by rw [h.len]; omega), if_neg (by omega)]
  refine ⟨hE, ?_⟩
  unfold DiskM.forge
  rw [if_neg (by rw [hE]; simp)]
  exact ⟨h.down, by simp [h.len], by simp [h.waits]⟩
theorem div_up {n k : Nat} (h : (n + 255) / 256 = k) : ((n : Int) + 255) / 256 = (k : Int) := by omega
attribute [local irreducible] Y OW YK OWK W WL WP X CV Ev Evs HasCell HasCells Has Met Again Kept
set_option maxRecDepth 100000 in
set_option maxHeartbeats 2000000 in
theorem chainStops_walk (A : Option Addr) (len cap : Nat) (zs : List BRow) (epoch : Int) (w : World) (hrow : ElemsOf IsBRow 1 w A len zs) (he : (Lit.int .i64 epoch).wf = true) :
    Calls Try.prog 14 #[.slice A len cap, .int .i64 epoch] w fun e w' => e = .returned (.bool true) ∧ Below w.heap.size w w' := by
  obtain ⟨e0, e1⟩ := wf64 he
  obtain ⟨hzl, hl63, hcell⟩ := hrow
  clear he
  by_cases hg : len ≤ 100 ∧ 0 ≤ epoch
  · obtain ⟨g1, g2⟩ := hg
    have hclip : len = clip (len : Int) := by unfold clip; omega
    have hlen0 := new_length len
    refine calls_w (vs := [.slice A len cap, .int .i64 epoch]) Try.func14 rfl rfl rfl ?_ w (St.start w)
    (repeat' (first
      | ((with_reducible refine at_fn 43 ?_); with_reducible refine owk_c0s evs_auto (by kernel_rfl) (fun w H => alive16 H) ?_)
      | ((with_reducible refine at_fn 21 ?_); with_reducible refine owk_c0x evs_auto (by kernel_rfl) (fun w H => disk_new_is len (by omega) (by omega) hclip H) (fun p => ?_))
      | (with_reducible refine is_yk ?_; refine yk_auto (k := ?_))
      | (with_reducible refine is_owk0 ?_; refine owk0_auto (k := ?_))
      | (with_reducible refine is_owkc ?_; refine owk_auto (k := fun _ => ?_))
      | refine go1 (k := ?_)
      | (refine go2 (ka := ?_) (kb := ?_) <;> intro _)
      | fail))
    refine w_loop (α := Nat × DiskM) (fun x => x.1 ≤ len ∧ Bare x.2 len)
      (fun x => [(26, .int .i64 (x.1 : Int)), (25, .int .i64 (len : Int)), (24, .slice A len cap), (5, .pointer (some ⟨p, 0, none⟩)), (1, .int .i64 epoch)])
      (fun x => [DiskAt p x.2, Old w]) (fun x => len - x.1) (0, DiskM.new len) ⟨Nat.zero_le _, rfl, hlen0, rfl⟩ sub_auto sel_auto (fun x hx => ?_)
    obtain ⟨i, D⟩ := x
    obtain ⟨hi, hD⟩ := hx
    dsimp only at hi hD ⊢
    by_cases hlt : i < len
    · obtain ⟨a, cs, rfl, ⟨hcs, hyl, hyr⟩, -, hca⟩ := hcell i zs[i] (List.getElem?_eq_getElem (by omega))
      generalize zs[i] = y at hcs hyl hyr
      obtain ⟨yA, yn, ycap, yb⟩ := y
      dsimp only at hcs hyl hyr
      obtain ⟨_, _, he', hyc, hycm⟩ := hyr.form
      obtain ⟨rfl, -, rfl⟩ := Value.slice.inj he'
      have c1 : w.cell? (a.add (i * 1)) = some (.slice yA yn ycap) := by have := hca 0 _ (by rw [hcs]; rfl); simpa [Addr.add] using this
      have hmin : min (yn : Int) 256 = ((min yn 256 : Nat) : Int) := by omega
      have hml : (yb.take (min yn 256)).length = min yn 256 := by rw [List.length_take]; omega
      obtain ⟨hE, hD'⟩ := hD.forge (i := (i : Int)) (b := yb.take (min yn 256)) ⟨by omega, by omega⟩ (by omega)
      have hwl : D.waits.length ≤ 1073741824 := by rw [hD.waits]; simp
      obtain ⟨D', hDD⟩ : ∃ D', D.forge (i : Int) (yb.take (min yn 256)) = D' := ⟨_, rfl⟩
      rw [hDD] at hD'
      have hr1 : HasR (St (conOf w) [Old w]) (.slice yA (min yn 256) ycap) (min yn 256) (bvs (yb.take (min yn 256))) := hasR_head (hasR_old hyr) (by omega)
      have hmc : min yn 256 ≤ ycap := by omega
      generalize yb.take (min yn 256) = fb at hml hE hDD hr1
      generalize min yn 256 = m at hmin hml hr1 hmc
      (repeat' (first
      | ((with_reducible refine at_fn 41 ?_); with_reducible refine owk_c1 evs_auto (by kernel_rfl) pick_auto (fun w H => disk_forge_is (i : Int) (by omega) (by omega) _ fb hE hDD (HasR.bytes hr1) hwl H) ?_)
      | (with_reducible refine at_load ?_; first | refine yk (y_load (ev_tmp rfl) (hasCell_tl (hasCell_old c1))) ?_)
      | (with_reducible refine at_call ?_; first | refine yk_eq (y_min (ev_tmp rfl) ev_const) (congrArg _ hmin) ?_)
      | (with_reducible refine at_slice ?_; first | refine yk (y_sliceHi (ev_tmp rfl) (ev_tmp rfl) hmc) ?_)
      | (with_reducible refine is_yk ?_; refine yk_auto (k := ?_))
      | (with_reducible refine is_owk0 ?_; refine owk0_auto (k := ?_))
      | (with_reducible refine is_owkc ?_; refine owk_auto (k := fun _ => ?_))
      | refine go1 (k := ?_)
      | (refine go2 (ka := ?_) (kb := ?_) <;> intro _)
      | fail))
      exact x_again (i + 1, D') ⟨by show i + 1 ≤ len; omega, hD'⟩ (by show len - (i + 1) < len - i; omega) sub_auto sel_auto
    · obtain rfl : i = len := by omega
      obtain ⟨h, hh⟩ : ∃ h, i / 2 = h := ⟨_, rfl⟩
      obtain ⟨A0, hA0⟩ : ∃ A0, halfA i epoch = A0 := ⟨_, rfl⟩
      have hA1 : A0.hi = A0.pos + h ∧ A0.lo = A0.pos ∧ A0.pos + h ≤ i := by
        rw [← hA0]; unfold halfA; rw [hh]
        refine ⟨rfl, rfl, ?_⟩
        have : (epoch % 2).toNat = 0 ∨ (epoch % 2).toNat = 1 := by omega
        rcases this with e | e <;> rw [e] <;> dsimp only <;> omega
      obtain ⟨lo, hi', pos⟩ := A0
      dsimp only at hA1
      obtain ⟨rfl, rfl, hlo⟩ := hA1
      have hDl := hD.len
      have hDd := hD.down
      (repeat' (first
      | ((with_reducible refine at_fn 44 ?_); with_reducible refine owk_c1x evs_auto (by kernel_rfl) pick_auto (fun w H => c_half epoch ⟨e0, e1⟩ hDl (by omega) hA0 H) (fun a => ?_))
      | (with_reducible refine is_yk ?_; refine yk_auto (k := ?_))
      | (with_reducible refine is_owk0 ?_; refine owk0_auto (k := ?_))
      | (with_reducible refine is_owkc ?_; refine owk_auto (k := fun _ => ?_))
      | refine go1 (k := ?_)
      | (refine go2 (ka := ?_) (kb := ?_) <;> intro _)
      | fail))
      refine w_loop (α := Nat) (fun j => j ≤ h) (fun _ => [(8, .pointer (some ⟨a, 0, none⟩))]) (fun j => [AreaAt a p ⟨lo, lo + h, lo + j⟩, DiskAt p D, Old w]) (fun j => h - j) 0 (Nat.zero_le _) sub_auto (.cons .hd (.cons .hd (.cons .hd .nil))) (fun j hj => ?_)
      refine w_disk (.tl .hd) (fun hwf => ?_)
      have hleft : ((lo + h : Nat) : Int) - ((lo + j : Nat) : Int) = (h : Int) - (j : Int) := by omega
      obtain ⟨lim, hlim⟩ : ∃ lim, min (lo + h - (lo + j)) 64 = lim := ⟨_, rfl⟩
      rcases next_split hwf.now (pos := lo + j) (lim := lim) (by omega) with ⟨k, n, f, S⟩ | hno
      · have hlt := S.lt
        have hjk : j + (k + 1) ≤ h := by omega
        have hA' : ({ lo := lo, hi := lo + h, pos := lo + j + k + 1 } : AreaM) = ⟨lo, lo + h, lo + (j + (k + 1))⟩ := by rw [show lo + j + k + 1 = lo + (j + (k + 1)) by omega]
        have hN : ∀ {c : Con} {F : List HP} {w : World}, St c (AreaAt a p ⟨lo, lo + h, lo + j⟩ :: DiskAt p D :: F) w → Calls Try.prog 48 #[.pointer (some ⟨a, 0, none⟩)] w fun e w' => ∃ g : Nat, e = .returned (.tuple #[.slice (some ⟨g, 0, none⟩) n n, .int .i64 0]) ∧ St c (BkP g f :: AreaAt a p ⟨lo, lo + h, lo + (j + (k + 1))⟩ :: DiskAt p D :: F) w' := fun H => c_next_some (A := ⟨lo, lo + h, lo + j⟩) hDd hlim (by rw [hDl]; exact hlo) S.lt S.no S.is S.n0 S.take hA' H
        have hsI := div_up S.secs
        have h0 := S.n0
        have hn16 := S.most
        have ht1 := S.lenM
        have ht2 := S.len
        have hleft2 : ((lo + h : Nat) : Int) - ((lo + (j + (k + 1)) : Nat) : Int) = (h : Int) - (j : Int) - ((k + 1 : Nat) : Int) := by omega
        clear hlim hwf S hlt hA' hclip hcell hzl hl63 hlen0 hD hDl hDd hh hA0
        (repeat' (first
      | ((with_reducible refine at_fn 46 ?_); with_reducible refine owk_c1 evs_auto (by kernel_rfl) pick_auto (fun w H => c_left hleft (by dsimp only; omega) H) ?_)
      | ((with_reducible refine at_fn 46 ?_); with_reducible refine owk_c1 evs_auto (by kernel_rfl) pick_auto (fun w H => c_left hleft2 (by dsimp only; omega) H) ?_)
      | ((with_reducible refine at_fn 48 ?_); with_reducible refine owk_c2x evs_auto (by kernel_rfl) pick_auto pick_auto (fun w H => hN H) (fun g => ?_))
      | ((with_reducible refine at_fn 49 ?_); with_reducible refine owk_c0s evs_auto (by kernel_rfl) (fun w H => ref_length ht1 H) ?_)
      | (with_reducible refine at_conv ?_; first | refine yk (y_str (l := f) (n := n) (ev_tmp rfl) (bkp_hasR ht2 h0 (by omega))) ?_)
      | (with_reducible refine at_bin ?_; first | refine yk_eq (y_quo64 (ev_tmp rfl) ev_const (by omega)) (congrArg _ hsI) ?_)
      | (with_reducible refine is_yk ?_; refine yk_auto (k := ?_))
      | (with_reducible refine is_owk0 ?_; refine owk0_auto (k := ?_))
      | (with_reducible refine is_owkc ?_; refine owk_auto (k := fun _ => ?_))
      | refine go1 (k := ?_)
      | (refine go2 (ka := ?_) (kb := ?_) <;> intro _)
      | fail))
        exact x_again (j + (k + 1)) hjk (by show h - (j + (k + 1)) < h - j; omega) sub_auto sel_auto
      · (repeat' (first
      | ((with_reducible refine at_fn 46 ?_); with_reducible refine owk_c1 evs_auto (by kernel_rfl) pick_auto (fun w H => c_left hleft (by dsimp only; omega) H) ?_)
      | ((with_reducible refine at_fn 48 ?_); with_reducible refine owk_c2 evs_auto (by kernel_rfl) pick_auto pick_auto (fun w H => c_next_none (A := ⟨lo, lo + h, lo + j⟩) hDd hlim (by rw [hDl]; exact hlo) hno H) ?_)
      | (with_reducible refine is_yk ?_; refine yk_auto (k := ?_))
      | (with_reducible refine is_owk0 ?_; refine owk0_auto (k := ?_))
      | (with_reducible refine is_owkc ?_; refine owk_auto (k := fun _ => ?_))
      | refine go1 (k := ?_)
      | (refine go2 (ka := ?_) (kb := ?_) <;> intro _)
      | fail))
        exact x_ret1 rfl rfl (fun w H => ⟨by simp, (Sel.st (T := [Old _]) sel_auto H).toBelow'⟩)
  · refine calls_w (vs := [.slice A len cap, .int .i64 epoch]) Try.func14 rfl rfl rfl ?_ w (St.start w)
    (repeat' (first
      | ((with_reducible refine at_fn 43 ?_); with_reducible refine owk_c0s evs_auto (by kernel_rfl) (fun w H => alive16 H) ?_)
      | (with_reducible refine is_yk ?_; refine yk_auto (k := ?_))
      | (with_reducible refine is_owk0 ?_; refine owk0_auto (k := ?_))
      | (with_reducible refine is_owkc ?_; refine owk_auto (k := fun _ => ?_))
      | refine go1 (k := ?_)
      | (refine go2 (ka := ?_) (kb := ?_) <;> intro _)
      | fail))
    all_goals exact x_ret1 rfl rfl (fun w H => ⟨rfl, (Sel.st (T := [Old _]) sel_auto H).toBelow'⟩)
end Go.Proofs.Ytakeilefbcpabaa

/- ChainBack: the plain law. -/
namespace Go.Proofs.Ytakeilefbcpabaa
open Go.RowKit
def mark (ob : UInt8) (j : Nat) : List UInt8 := [ob, UInt8.ofNat (j % 256)]
/-- The disk behind the first i forged sectors. -/
structure Forged (D : DiskM) (n olo : Nat) (ob : UInt8) (i : Nat) : Prop where
  down : D.down = false
  fuse : D.fuse = 0
  acts : D.acts = 0
  len : D.now.length = n
  waits : D.waits = []
  at_ : ∀ j, j < i → D.now[olo + j]? = some (pad (mark ob j))
  zero : ∀ t, t < n → (t < olo ∨ olo + i ≤ t) → D.now[t]? = some zeroSec
theorem forged_new (n olo : Nat) (ob : UInt8) : Forged (DiskM.new n) n olo ob 0 := ⟨rfl, rfl, rfl, new_length n, rfl, fun j h => by omega, fun t h _ => by simp [DiskM.new, h]⟩
theorem Forged.step {D : DiskM} {n olo i : Nat} {ob : UInt8} (h : Forged D n olo ob i) (hi : olo + i < n) : D.forgeE ((olo + i : Nat) : Int) (mark ob i).length = 0 ∧ Forged (D.forge ((olo + i : Nat) : Int) (mark ob i)) n olo ob (i + 1) := by
  have hE : D.forgeE ((olo + i : Nat) : Int) (mark ob i).length = 0 := by
    unfold DiskM.forgeE
    rw [if_neg (by rw [h.len]; omega), if_neg (by show ¬ 256 < 2; decide)]
  refine ⟨hE, ?_⟩
  unfold DiskM.forge
  rw [if_neg (by rw [hE]; simp), Int.toNat_natCast]
  refine ⟨h.down, h.fuse, h.acts, by simp [h.len], by simp [h.waits], fun j hj => ?_, fun t ht ho => ?_⟩
  · dsimp only
    rw [List.getElem?_set]
    by_cases e : j = i
    · subst e; rw [if_pos rfl, if_pos (by rw [h.len]; omega)]
    · rw [if_neg (by omega)]; exact h.at_ j (by omega)
  · dsimp only
    rw [List.getElem?_set, if_neg (by omega)]
    exact h.zero t ht (by omega)
/-- The disk behind frames. -/
structure Back (D : DiskM) (n h lo olo : Nat) (ob : UInt8) (us : List (List UInt8)) : Prop where
  steady : Steady D n ((sizeS us : Nat) : Int)
  waits : D.waits.length ≤ sizeS us
  laid : LaidAt D.now lo (us.flatMap secsOf)
  size : sizeS us ≤ h
  zero : ∀ t, lo + sizeS us ≤ t → t < lo + h → D.now[t]? = some zeroSec
  other : ∀ j, j < h → D.now[olo + j]? = some (pad (mark ob j))
  n200 : n ≤ 200
  hn : h + h ≤ n
  apart : (lo = 0 ∧ olo = h) ∨ (lo = h ∧ olo = 0)
  fs : ∀ f ∈ us, FrameOk f 4104
theorem Forged.back {D : DiskM} {n h lo olo : Nat} {ob : UInt8} (H : Forged D n olo ob h) (h200 : n ≤ 200) (hn : h + h ≤ n) (ha : (lo = 0 ∧ olo = h) ∨ (lo = h ∧ olo = 0)) : Back D n h lo olo ob [] :=
  ⟨⟨H.down, H.fuse, H.len, H.acts⟩, by rw [H.waits]; exact Nat.zero_le _, LaidAt.nil, Nat.zero_le _, fun t h1 h2 => by rw [sizeS_nil] at h1; exact H.zero t (by omega) (by omega), H.at_, h200, hn, ha, fun f hf => by cases hf⟩
theorem Back.add {D : DiskM} {n h lo olo m : Nat} {ob : UInt8} {us : List (List UInt8)} (H : Back D n h lo olo ob us) {f : List UInt8} (hf : FrameOk f 4104) (hm : (f.length + 255) / 256 = m) (hr : sizeS us + m ≤ h) :
    ∃ D', addM D ⟨lo, lo + h, lo + sizeS us⟩ f = (0, ⟨lo, lo + h, lo + sizeS (us ++ [f])⟩, D') ∧ Back D' n h lo olo ob (us ++ [f]) := by
  have h200 := H.n200
  have hn := H.hn
  have hap := H.apart
  have hlo : lo + h ≤ n := by rcases hap with ⟨rfl, rfl⟩ | ⟨rfl, rfl⟩ <;> omega
  have hsn : sizeS (us ++ [f]) = sizeS us + m := by rw [sizeS_snoc, hm]
  obtain ⟨h1, h2⟩ := addM_ok (A := ⟨lo, lo + h, lo + sizeS us⟩) H.steady hf.ne hf.is hm (by dsimp only; omega) (by dsimp only; omega) (by omega)
  have hl := laid_add (m := m) H.steady H.laid hm (by omega) (by omega)
  have hk := (frame_laid H.steady (pos := lo + sizeS us) hm (by omega) (by omega)).2
  refine ⟨_, by rw [h1, hsn, Nat.add_assoc], ⟨?_, ?_, hl, by omega, fun t t1 t2 => ?_, fun j hj => ?_, h200, hn, hap, fun x hx => ?_⟩⟩
  · have e : ((sizeS (us ++ [f]) : Nat) : Int) = ((sizeS us : Nat) : Int) + (m : Int) := by omega
    rw [e]; exact h2
  · have := wrTo_waits D (lo + sizeS us) (chunks f) m
    have := H.waits
    omega
  · rw [hk t (.inr (by omega))]; exact H.zero t (by omega) t2
  · rw [hk _ (by rcases hap with ⟨rfl, rfl⟩ | ⟨rfl, rfl⟩ <;> omega)]; exact H.other j hj
  · rcases List.mem_append.1 hx with hx | hx
    · exact H.fs x hx
    · rw [List.mem_singleton.1 hx]; exact hf
theorem Back.full {D : DiskM} {n h lo olo m : Nat} {ob : UInt8} {us : List (List UInt8)} (H : Back D n h lo olo ob us) {f : List UInt8} (hf : FrameOk f 4104) (hm : (f.length + 255) / 256 = m) (hr : ¬ sizeS us + m ≤ h) : addM D ⟨lo, lo + h, lo + sizeS us⟩ f = (7, ⟨lo, lo + h, lo + sizeS us⟩, D) :=
  addM_full H.steady hf.ne hf.is (by rw [hm]; dsimp only; omega)
/-- Behind a Sync, and a loss of power, all is there. -/
theorem synced {D : DiskM} {n : Nat} {a : Int} (h : Steady D n a) (k : Int) : D.syncE = 0 ∧ (((D.sync).off k).on).now = D.now ∧ (((D.sync).off k).on).down = false := by
  have hg := h.goes
  have e : D.sync = { D.act with safe := D.act.now, waits := [] } := by unfold DiskM.sync; rw [if_neg (by rw [h.down]; simp), if_neg (by rw [hg]; simp)]
  have ea : D.act.now = D.now ∧ D.act.down = false := by unfold DiskM.act; rw [if_neg (by rw [h.down]; simp)]; exact ⟨rfl, h.down⟩
  refine ⟨by unfold DiskM.syncE; rw [if_neg (by rw [h.down]; simp), if_neg (by rw [hg]; simp)], ?_, rfl⟩
  rw [e]
  unfold DiskM.off
  rw [if_neg (by show ¬ D.act.down = true; rw [ea.2]; simp)]
  show DiskM.kept _ k = D.now
  unfold DiskM.kept keptFrom
  exact ea.1
/-- Noughts have no frame. -/
theorem no_frame {now : List Sec} {pos lim : Nat} (h : ∀ t, pos ≤ t → t < pos + lim → now[t]? = some zeroSec) (hw : ∀ s ∈ now, s.length = 256) : ∀ j, j < lim → lengthM (accB now pos (j + 1)) = 0 := fun j hj => by
  have hL : LaidAt now pos (List.replicate (j + 1) zeroSec) := fun t s e => by
    have ht := (List.getElem?_eq_some_iff.1 e).1
    rw [List.length_replicate] at ht
    rw [List.getElem?_replicate, if_pos ht] at e
    rw [h (pos + t) (by omega) (by omega)]; exact e
  have e := accB_laid hL (k := j + 1) (by simp)
  rw [List.take_of_length_le (by simp)] at e
  have h8 : (accB now pos (j + 1)).take 8 = List.replicate 8 0 := by
    rw [e, List.replicate_succ, List.flatten_cons, List.take_append_of_le_length (by rw [zeroSec_length]; omega)]
    rfl
  have hlen : 8 ≤ (accB now pos (j + 1)).length := by rw [e, List.replicate_succ, List.flatten_cons, List.length_append, zeroSec_length]; omega
  have h0 : leInt ((accB now pos (j + 1)).take 8) = 0 := by rw [h8]; simp [leInt, leN, List.replicate, wrap64]
  unfold lengthM
  rw [if_neg]
  rintro ⟨h1, _⟩
  simp [inOk, h0] at h1
end Go.Proofs.Ytakeilefbcpabaa

/- ChainBack: the walk. -/
namespace Go.Proofs.Ytakeilefbcpabaa
open Go.RowKit
structure BkS where
  D : DiskM
  u : List (List UInt8)
  q : Option Addr × Nat
theorem wrap8_nat (i : Nat) : IntKind.u8.wrap (i : Int) = ((UInt8.ofNat (i % 256)).toNat : Int) := by
  have e : IntKind.u8.wrap (i : Int) = (i : Int) % 256 := rfl
  rw [e, UInt8.toNat_ofNat']; omega
attribute [local irreducible] Y OW YK OWK W WL WP X CV Ev Evs HasCell HasCells Has Met Again Kept
section
variable {c : Con} {F : List HP} {w : World} {p : Nat} {D D' : DiskM}
theorem disk_syncE {E : Int} (hE : D.syncE = E) (hD : D.sync = D') (H : St c (DiskAt p D :: F) w) : Calls Try.prog 32 #[.pointer (some ⟨p, 0, none⟩)] w fun e w' => e = .returned (.int .i64 E) ∧ St c (DiskAt p D' :: F) w' := by subst hE hD; exact disk_sync H
end
set_option maxRecDepth 100000 in
set_option maxHeartbeats 4000000 in
theorem chainBack_walk (n epoch : Int) (A : Option Addr) (la cap : Nat) (ta : List (List UInt8)) (keep : Int) (other : Int) (w : World) (hn : (Lit.int .i64 n).wf = true) (he : (Lit.int .i64 epoch).wf = true) (hra : ElemsOf IsText 1 w A la ta) (hk : (Lit.int .u64 keep).wf = true) (ho : (Lit.int .u8 other).wf = true) :
    Calls Try.prog 15 #[.int .i64 n, .int .i64 epoch, .slice A la cap, .int .u64 keep, .int .u8 other] w fun e w' => e = .returned (.bool true) ∧ Below w.heap.size w w' := by
  obtain ⟨n0, n1⟩ := wf64 hn
  obtain ⟨e0, e1⟩ := wf64 he
  obtain ⟨hal, ha63, hac⟩ := hra
  have hk2 : 0 ≤ keep ∧ keep < 18446744073709551616 := by simp [Lit.wf, IntKind.min, IntKind.max, IntKind.signed, IntKind.bits] at hk; omega
  obtain ⟨ob, rfl⟩ : ∃ ob : UInt8, other = (ob.toNat : Int) := by
    simp [Lit.wf, IntKind.min, IntKind.max, IntKind.signed, IntKind.bits] at ho
    exact ⟨UInt8.ofNat other.toNat, by rw [UInt8.toNat_ofNat']; omega⟩
  clear hn he hk ho
  by_cases hg : (0 ≤ n ∧ n ≤ 200) ∧ 0 ≤ epoch ∧ la ≤ 20
  · obtain ⟨⟨g1, g2⟩, g3, g4⟩ := hg
    obtain ⟨N, rfl⟩ : ∃ N : Nat, n = N := ⟨n.toNat, by omega⟩
    have hclip : N = clip (N : Int) := by unfold clip; omega
    have hlen := new_length N
    obtain ⟨h, hh⟩ : ∃ h, N / 2 = h := ⟨_, rfl⟩
    have q1 : (N : Int) / 2 = (h : Int) := by omega
    obtain ⟨e, lo, olo, he1, hhalf, hap, hmul⟩ : ∃ (e : Int) (lo olo : Nat), epoch % 2 = e ∧ halfA N epoch = ⟨lo, lo + h, lo⟩ ∧ ((lo = 0 ∧ olo = h) ∨ (lo = h ∧ olo = 0)) ∧ (1 - e) * (h : Int) = (olo : Int) := by
      have h01 : epoch % 2 = 0 ∨ epoch % 2 = 1 := by omega
      rcases h01 with h01 | h01
      · exact ⟨0, 0, h, h01, by unfold halfA; rw [hh, h01]; simp, .inl ⟨rfl, rfl⟩, by omega⟩
      · exact ⟨1, h, 0, h01, by unfold halfA; rw [hh, h01]; simp, .inr ⟨rfl, rfl⟩, by omega⟩
    have he2 : 0 ≤ e ∧ e ≤ 1 := by omega
    have hol : olo + h ≤ N := by omega
    refine calls_w (vs := [.int .i64 N, .int .i64 epoch, .slice A la cap, .int .u64 keep, .int .u8 (ob.toNat : Int)]) Try.func15 rfl rfl rfl ?_ w (St.start w)
    (repeat' (first
      | ((with_reducible refine at_fn 43 ?_); with_reducible refine owk_c0s evs_auto (by kernel_rfl) (fun w H => alive16 H) ?_)
      | ((with_reducible refine at_fn 21 ?_); with_reducible refine owk_c0x evs_auto (by kernel_rfl) (fun w H => disk_new_is N n0 n1 hclip H) (fun p => ?_))
      | (with_reducible refine at_bin ?_; first | refine yk_eq (y_quo64 (ev_tmp rfl) ev_const (by omega)) (congrArg _ q1) ?_)
      | (with_reducible refine is_yk ?_; refine yk_auto (k := ?_))
      | (with_reducible refine is_owk0 ?_; refine owk0_auto (k := ?_))
      | (with_reducible refine is_owkc ?_; refine owk_auto (k := fun _ => ?_))
      | refine go1 (k := ?_)
      | (refine go2 (ka := ?_) (kb := ?_) <;> intro _)
      | fail))
    refine w_loop (α := Nat × DiskM) (fun z => z.1 ≤ h ∧ Forged z.2 N olo ob z.1)
      (fun z => [(13, .int .i64 (z.1 : Int)), (12, .int .i64 (h : Int)), (11, .pointer (some ⟨p, 0, none⟩)), (1, .int .i64 epoch), (2, .slice A la cap), (3, .int .u64 keep), (4, .int .u8 (ob.toNat : Int))])
      (fun z => [DiskAt p z.2, Old w]) (fun z => h - z.1) (0, DiskM.new N) ⟨Nat.zero_le _, forged_new N olo ob⟩ sub_auto sel_auto (fun z hz => ?_)
    obtain ⟨i, D⟩ := z
    obtain ⟨hi, hF⟩ := hz
    dsimp only at hi hF ⊢
    by_cases hlt : i < h
    · obtain ⟨hE, hF'⟩ := hF.step (by omega)
      obtain ⟨D', hD'⟩ : ∃ D', D.forge ((olo + i : Nat) : Int) (mark ob i) = D' := ⟨_, rfl⟩
      rw [hD'] at hF'
      have hwl : D.waits.length ≤ 1073741824 := by rw [hF.waits]; simp
      have hw8 := wrap8_nat i
      have hsum : (olo : Int) + (i : Int) = ((olo + i : Nat) : Int) := by omega
      have hmk : ∀ {L : List HP} {q : Nat}, HasR (St (conOf w) (Bl q 5 (List.flatMap vcells [.int .u8 (ob.toNat : Int), .int .u8 ((UInt8.ofNat (i % 256)).toNat : Int)]) :: L)) (.slice (some ⟨q, 0, none⟩) 2 2) 2 (bvs (mark ob i)) := hasR_blAll rfl (by omega) (by omega)
      (repeat' (first
      | ((with_reducible refine at_fn 41 ?_); with_reducible refine owk_c1 evs_auto (by kernel_rfl) pick_auto (fun w H => disk_forge_is _ (by omega) (by omega) _ (mark ob i) hE hD' (HasR.bytes hmk) hwl H) ?_)
      | (with_reducible refine at_bin ?_; first | refine yk_eq (y_rem (ev_tmp rfl) ev_const (by omega)) (congrArg _ he1) ?_ | refine yk_eq (y_mul64 (ev_tmp rfl) (ev_tmp rfl) (by rw [hmul]; omega)) (congrArg _ hmul) ?_ | refine yk_eq (y_add64 (ev_tmp rfl) (ev_tmp rfl) (by omega)) (congrArg _ hsum) ?_)
      | (with_reducible refine at_conv ?_; first | refine yk_eq (y_conv_int (ev_tmp rfl)) (congrArg _ hw8) ?_)
      | (with_reducible refine is_yk ?_; refine yk_auto (k := ?_))
      | (with_reducible refine is_owk0 ?_; refine owk0_auto (k := ?_))
      | (with_reducible refine is_owkc ?_; refine owk_auto (k := fun _ => ?_))
      | refine go1 (k := ?_)
      | (refine go2 (ka := ?_) (kb := ?_) <;> intro _)
      | fail))
      exact x_again (i + 1, D') ⟨by show i + 1 ≤ h; omega, hF'⟩ (by show h - (i + 1) < h - i; omega) sub_auto sel_auto
    · obtain rfl : i = h := by omega
      have hB := hF.back (lo := lo) (by omega) (by omega) hap
      have hDl := hF.len
      clear hF hlt hi
      (repeat' (first
      | ((with_reducible refine at_fn 44 ?_); with_reducible refine owk_c1x evs_auto (by kernel_rfl) pick_auto (fun w H => c_half epoch ⟨e0, e1⟩ hDl (by omega) hhalf H) (fun a => ?_))
      | (with_reducible refine is_yk ?_; refine yk_auto (k := ?_))
      | (with_reducible refine is_owk0 ?_; refine owk0_auto (k := ?_))
      | (with_reducible refine is_owkc ?_; refine owk_auto (k := fun _ => ?_))
      | refine go1 (k := ?_)
      | (refine go2 (ka := ?_) (kb := ?_) <;> intro _)
      | fail))
      refine w_loop (α := Nat × BkS) (fun z => z.1 ≤ la ∧ Back z.2.D N i lo olo ob z.2.u ∧ z.2.u.length ≤ z.1)
        (fun z => [(74, .int .i64 (z.1 : Int)), (73, .int .i64 (la : Int)), (72, .slice A la cap), (15, .slice z.2.q.1 z.2.u.length z.2.q.2), (14, .pointer (some ⟨a, 0, none⟩)), (12, .int .i64 (i : Int)), (11, .pointer (some ⟨p, 0, none⟩)), (1, .int .i64 epoch), (3, .int .u64 keep), (4, .int .u8 (ob.toNat : Int))])
        (fun z => [AreaAt a p ⟨lo, lo + i, lo + sizeS z.2.u⟩, DiskAt p z.2.D, OwnP 9 1 (.slice z.2.q.1 z.2.u.length z.2.q.2) z.2.u.length (z.2.u.map str), Old w]) (fun z => la - z.1) (0, ⟨D, [], (none, 0)⟩)
        ⟨Nat.zero_le _, hB, Nat.le_refl _⟩ sub_auto (.cons .hd (.cons .hd (.own0 sel_all))) (fun z hz => ?_)
      clear hB hDl
      obtain ⟨j, D, u, q1', q2'⟩ := z
      obtain ⟨hj, hB, hul⟩ := hz
      dsimp only at hj hB hul ⊢
      by_cases hjl : j < la
      · obtain ⟨a', cs, rfl, hcs, -, hca⟩ := hac j ta[j] (List.getElem?_eq_getElem (by omega))
        generalize ta[j] = f0 at hcs
        have c1 : w.cell? (a'.add (j * 1)) = some (str f0) := by have := hca 0 _ (by rw [hcs]; rfl); simpa [Addr.add] using this
        by_cases h2 : f0.length ≤ 4096
        · have hfo : FrameOk (frameB f0) 4104 := frame_ok f0 (by omega) (by omega)
          obtain ⟨m, hm⟩ : ∃ m, ((frameB f0).length + 255) / 256 = m := ⟨_, rfl⟩
          have hcat : u.map str ++ List.flatMap vcells [str (frameB f0)] = (u ++ [frameB f0]).map str := by simp [vcells_str]
          have hkk : u.length + 1 = (u ++ [frameB f0]).length := by simp
          have hkb : (u ++ [frameB f0]).length ≤ 21 := by rw [← hkk]; omega
          have hb1 : (List.flatMap vcells [str (frameB f0)]).length = 1 := rfl
          have hone : ∀ v ∈ List.flatMap vcells [str (frameB f0)], v.oneCell' = true := fun v hv => by simp [vcells_str] at hv; rw [hv]; rfl
          have hle := hfo.le
          have hsz := hB.size
          have hhn := hB.hn
          have hwt := hB.waits
          by_cases h3 : sizeS u + m ≤ i
          · obtain ⟨D', hadd, hB'⟩ := hB.add hfo hm h3
            (repeat' (first
      | ((with_reducible refine at_fn 45 ?_); with_reducible refine owk_c0x evs_auto (by kernel_rfl) (fun w H => framed_ref f0 (by omega) rfl H) (fun ⟨⟨q1, q2⟩, hq⟩ => ?_))
      | ((with_reducible refine at_fn 47 ?_); with_reducible refine owk_c2 evs_auto (by kernel_rfl) pick_auto pick_auto (fun w H => c_add hadd rds_auto (by omega) (by dsimp only; omega) (by omega) H) ?_)
      | (with_reducible refine is_owkc ?_; first | refine owk (ow_appendR (ev_tmp rfl) (ev_tmp rfl) (hasR_blAll hb1 (by omega) (by omega)) hone hkk hcat (by omega) pick_auto) (fun ⟨qa1, qa2⟩ => ?_))
      | (with_reducible refine at_load ?_; first | refine yk (y_load (ev_tmp rfl) old_auto) ?_)
      | (with_reducible refine at_conv ?_; first | refine yk (y_str (l := frameB f0) (n := (frameB f0).length) (ev_tmp rfl) rds_auto) ?_)
      | (with_reducible refine is_yk ?_; refine yk_auto (k := ?_))
      | (with_reducible refine is_owk0 ?_; refine owk0_auto (k := ?_))
      | (with_reducible refine is_owkc ?_; refine owk_auto (k := fun _ => ?_))
      | refine go1 (k := ?_)
      | (refine go2 (ka := ?_) (kb := ?_) <;> intro _)
      | fail))
            exact x_again (j + 1, ⟨D', u ++ [frameB f0], (qa1, qa2)⟩) ⟨by show j + 1 ≤ la; omega, hB', by show (u ++ [frameB f0]).length ≤ j + 1; omega⟩ (by show la - (j + 1) < la - j; omega) sub_auto sel_auto
          · have hadd := hB.full hfo hm h3
            (repeat' (first
      | ((with_reducible refine at_fn 45 ?_); with_reducible refine owk_c0x evs_auto (by kernel_rfl) (fun w H => framed_ref f0 (by omega) rfl H) (fun ⟨⟨q1, q2⟩, hq⟩ => ?_))
      | ((with_reducible refine at_fn 47 ?_); with_reducible refine owk_c2 evs_auto (by kernel_rfl) pick_auto pick_auto (fun w H => c_add hadd rds_auto (by omega) (by dsimp only; omega) (by omega) H) ?_)
      | (with_reducible refine at_load ?_; first | refine yk (y_load (ev_tmp rfl) old_auto) ?_)
      | (with_reducible refine is_yk ?_; refine yk_auto (k := ?_))
      | (with_reducible refine is_owk0 ?_; refine owk0_auto (k := ?_))
      | (with_reducible refine is_owkc ?_; refine owk_auto (k := fun _ => ?_))
      | refine go1 (k := ?_)
      | (refine go2 (ka := ?_) (kb := ?_) <;> intro _)
      | fail))
            exact x_again (j + 1, ⟨D, u, (q1', q2')⟩) ⟨by show j + 1 ≤ la; omega, hB, by show u.length ≤ j + 1; omega⟩ (by show la - (j + 1) < la - j; omega) sub_auto sel_auto
        · (repeat' (first
      | (with_reducible refine at_load ?_; first | refine yk (y_load (ev_tmp rfl) old_auto) ?_)
      | (with_reducible refine is_yk ?_; refine yk_auto (k := ?_))
      | (with_reducible refine is_owk0 ?_; refine owk0_auto (k := ?_))
      | (with_reducible refine is_owkc ?_; refine owk_auto (k := fun _ => ?_))
      | refine go1 (k := ?_)
      | (refine go2 (ka := ?_) (kb := ?_) <;> intro _)
      | fail))
          exact x_ret1 rfl rfl (fun w H => ⟨rfl, (Sel.st (T := [Old _]) sel_auto H).toBelow'⟩)
      · have hj0 : ¬ j < la := hjl
        clear hul hac
        obtain ⟨hS, hnow, hdn⟩ := synced hB.steady keep
        obtain ⟨D1, hD1⟩ : ∃ D1, D.sync = D1 := ⟨_, rfl⟩
        obtain ⟨D2, hD2⟩ : ∃ D2, D1.off keep = D2 := ⟨_, rfl⟩
        obtain ⟨D3, hD3⟩ : ∃ D3, D2.on = D3 := ⟨_, rfl⟩
        rw [hD1, hD2, hD3] at hnow hdn
        have hDl : D3.now.length = N := by rw [hnow, hB.steady.len]
        have hdon : ∀ {c : Con} {F : List HP} {w : World}, St c (DiskAt p D2 :: F) w → Calls Try.prog 24 #[.pointer (some ⟨p, 0, none⟩)] w fun e w' => e = .returned (.tuple #[]) ∧ St c (DiskAt p D3 :: F) w' := fun H => by rw [← hD3]; exact disk_on H
        (repeat' (first
      | ((with_reducible refine at_fn 44 ?_); with_reducible refine owk_c1x evs_auto (by kernel_rfl) pick_auto (fun w H => c_half epoch ⟨e0, e1⟩ hDl (by omega) hhalf H) (fun a2 => ?_))
      | ((with_reducible refine at_fn 32 ?_); with_reducible refine owk_c1 evs_auto (by kernel_rfl) pick_auto (fun w H => disk_syncE hS hD1 H) ?_)
      | ((with_reducible refine at_fn 22 ?_); with_reducible refine owk_c1 evs_auto (by kernel_rfl) pick_auto (fun w H => disk_off_is keep hk2.1 hk2.2 hD2 H) ?_)
      | ((with_reducible refine at_fn 24 ?_); with_reducible refine owk_c1 evs_auto (by kernel_rfl) pick_auto (fun w H => hdon H) ?_)
      | (with_reducible refine is_yk ?_; refine yk_auto (k := ?_))
      | (with_reducible refine is_owk0 ?_; refine owk0_auto (k := ?_))
      | (with_reducible refine is_owkc ?_; refine owk_auto (k := fun _ => ?_))
      | refine go1 (k := ?_)
      | (refine go2 (ka := ?_) (kb := ?_) <;> intro _)
      | fail))
        have hsm := hB.size
        have hhn := hB.hn
        have h200 := hB.n200
        have hlohi : lo + i ≤ N := by omega
        refine w_loop (α := Nat) (fun t => t ≤ u.length) (fun t => [(108, .int .i64 (t : Int)), (107, .int .i64 (u.length : Int)), (106, .slice q1' u.length q2'), (20, .pointer (some ⟨a2, 0, none⟩)), (14, .pointer (some ⟨a, 0, none⟩)), (12, .int .i64 (i : Int)), (11, .pointer (some ⟨p, 0, none⟩)), (1, .int .i64 epoch), (4, .int .u8 (ob.toNat : Int))])
          (fun t => [AreaAt a2 p ⟨lo, lo + i, lo + sizeS (u.take t)⟩, DiskAt p D3, AreaAt a p ⟨lo, lo + i, lo + sizeS u⟩, OwnP 9 1 (.slice q1' u.length q2') u.length (u.map str), Old w]) (fun t => u.length - t) 0 (Nat.zero_le _) sub_auto (.cons .hd (.cons .hd (.cons .hd (.cons .hd (.cons .hd .nil))))) (fun t ht => ?_)
        refine w_disk (.tl .hd) (fun hwf => ?_)
        by_cases htl : t < u.length
        · obtain ⟨f, hf⟩ : ∃ f, u[t]? = some f := ⟨_, List.getElem?_eq_getElem htl⟩
          have hfo := hB.fs f (List.mem_of_getElem? hf)
          have hst := sizeS_take hf
          have hle := sizeS_take_le u (t + 1)
          obtain ⟨lim, hlim⟩ : ∃ lim, min (lo + i - (lo + sizeS (u.take t))) 64 = lim := ⟨_, rfl⟩
          have hml := hfo.le
          obtain ⟨k, S, hk⟩ := stands_of hwf.now (pos := lo + sizeS (u.take t)) (lim := lim) (by rw [hnow]; exact laid_nth hB.laid hf) hfo.ne hfo.is (by omega) (by rw [hDl]; omega)
          have hA' : ({ lo := lo, hi := lo + i, pos := lo + sizeS (u.take t) + k + 1 } : AreaM) = ⟨lo, lo + i, lo + sizeS (u.take (t + 1))⟩ := by
            have : lo + sizeS (u.take t) + k + 1 = lo + sizeS (u.take (t + 1)) := by omega
            rw [this]
          have hb1 : lo + i ≤ D3.now.length := by rw [hDl]; omega
          have hN : ∀ {c : Con} {F : List HP} {w : World}, St c (AreaAt a2 p ⟨lo, lo + i, lo + sizeS (u.take t)⟩ :: DiskAt p D3 :: F) w → Calls Try.prog 48 #[.pointer (some ⟨a2, 0, none⟩)] w fun e w' => ∃ g : Nat, e = .returned (.tuple #[.slice (some ⟨g, 0, none⟩) f.length f.length, .int .i64 0]) ∧ St c (BkP g f :: AreaAt a2 p ⟨lo, lo + i, lo + sizeS (u.take (t + 1))⟩ :: DiskAt p D3 :: F) w' := fun H => c_next_some (A := ⟨lo, lo + i, lo + sizeS (u.take t)⟩) hdn hlim hb1 S.lt S.no S.is S.n0 S.take hA' H
          have h0 := S.n0
          clear S hA' hlim hwf hDl
          refine w_openOwn (.tl (.tl (.tl .hd))) (fun _ h2 _ => absurd h2 (by omega)) (fun g cap' cur e1 hc1 hc2 hc3 hc4 => ?_)
          obtain ⟨rfl, -, rfl⟩ := Value.slice.inj e1
          (repeat' (first
      | ((with_reducible refine at_fn 48 ?_); with_reducible refine owk_c2x evs_auto (by kernel_rfl) pick_auto pick_auto (fun w H => hN H) (fun g => ?_))
      | (with_reducible refine at_load ?_; first | refine yk (y_load (ev_tmp rfl) (cell_nth has_auto hc4 rfl hf rfl)) ?_)
      | (with_reducible refine at_conv ?_; first | refine yk (y_str (l := f) (n := f.length) (ev_tmp rfl) (bkp_hasR rfl h0 (by omega))) ?_)
      | (with_reducible refine is_yk ?_; refine yk_auto (k := ?_))
      | (with_reducible refine is_owk0 ?_; refine owk0_auto (k := ?_))
      | (with_reducible refine is_owkc ?_; refine owk_auto (k := fun _ => ?_))
      | refine go1 (k := ?_)
      | (refine go2 (ka := ?_) (kb := ?_) <;> intro _)
      | fail))
          exact x_again (t + 1) (by show t + 1 ≤ _; omega) (by omega) sub_auto (.cons (.tl .hd) (.cons (.tl .hd) (.cons (.tl (.tl .hd)) (.imp (.tl .hd) (shutOwn hc1 hc2 hc3 hc4) (.cons (.tl .hd) .nil)))))
        · obtain rfl : t = u.length := by omega
          have hzer : ∀ s, lo + sizeS u ≤ s → s < lo + sizeS u + min (lo + i - (lo + sizeS u)) 64 → D3.now[s]? = some zeroSec := fun s h1 h2 => by rw [hnow]; exact hB.zero s h1 (by omega)
          have hno := no_frame hzer hwf.now
          obtain ⟨lim, hlim⟩ : ∃ lim, min (lo + i - (lo + sizeS u)) 64 = lim := ⟨_, rfl⟩
          rw [hlim] at hno
          have hb1 : lo + i ≤ D3.now.length := by rw [hDl]; omega
          have hN : ∀ {c : Con} {F : List HP} {w : World}, St c (AreaAt a2 p ⟨lo, lo + i, lo + sizeS u⟩ :: DiskAt p D3 :: F) w → Calls Try.prog 48 #[.pointer (some ⟨a2, 0, none⟩)] w fun e w' => e = .returned (.tuple #[.slice none 0 0, .int .i64 0]) ∧ St c (AreaAt a2 p ⟨lo, lo + i, lo + sizeS u⟩ :: DiskAt p D3 :: F) w' := fun H => c_next_none (A := ⟨lo, lo + i, lo + sizeS u⟩) hdn hlim hb1 hno H
          rw [List.take_of_length_le (Nat.le_refl _)]
          clear hzer hno hlim hwf
          (repeat' (first
      | ((with_reducible refine at_fn 48 ?_); with_reducible refine owk_c2 evs_auto (by kernel_rfl) pick_auto pick_auto (fun w H => hN H) ?_)
      | (with_reducible refine is_yk ?_; refine yk_auto (k := ?_))
      | (with_reducible refine is_owk0 ?_; refine owk0_auto (k := ?_))
      | (with_reducible refine is_owkc ?_; refine owk_auto (k := fun _ => ?_))
      | refine go1 (k := ?_)
      | (refine go2 (ka := ?_) (kb := ?_) <;> intro _)
      | fail))
          refine w_loop (α := Nat) (fun t => t ≤ i) (fun t => [(27, .int .i64 (t : Int)), (25, .slice none 0 0), (26, .int .i64 0), (20, .pointer (some ⟨a2, 0, none⟩)), (14, .pointer (some ⟨a, 0, none⟩)), (12, .int .i64 (i : Int)), (11, .pointer (some ⟨p, 0, none⟩)), (1, .int .i64 epoch), (4, .int .u8 (ob.toNat : Int))])
            (fun _ => [AreaAt a2 p ⟨lo, lo + i, lo + sizeS u⟩, DiskAt p D3, AreaAt a p ⟨lo, lo + i, lo + sizeS u⟩, Old w]) (fun t => i - t) 0 (Nat.zero_le _) sub_auto (.cons .hd (.cons .hd (.cons .hd (.cons (.tl .hd) .nil)))) (fun t ht2 => ?_)
          by_cases hti : t < i
          · have hw8 := wrap8_nat t
            have hoth := hB.other t hti
            rw [← hnow] at hoth
            have hready : D3.ready ((olo + t : Nat) : Int) = 0 := by
              unfold DiskM.ready
              rw [hdn, if_neg (by simp), if_neg (by rw [hDl]; omega)]
            have hgd : D3.now.getD (((olo + t : Nat) : Int)).toNat [] = pad (mark ob t) := by
              rw [Int.toNat_natCast, List.getD_eq_getElem?_getD, hoth]; rfl
            have hsum : (olo : Int) + (t : Int) = ((olo + t : Nat) : Int) := by omega
            have hc0 : ((bvs (pad (mark ob t))).toArray.toList)[0 + (0 : Int).toNat * 1]? = some (.int .u8 (ob.toNat : Int)) := rfl
            have hc1 : ((bvs (pad (mark ob t))).toArray.toList)[0 + (1 : Int).toNat * 1]? = some (.int .u8 ((UInt8.ofNat (t % 256)).toNat : Int)) := rfl
            (repeat' (first
      | ((with_reducible refine at_fn 27 ?_); with_reducible refine owk_c1x evs_auto (by kernel_rfl) pick_auto (fun w H => disk_read_is _ (by omega) hready hgd H) (fun v => ?_))
      | (with_reducible refine at_bin ?_; first | refine yk_eq (y_rem (ev_tmp rfl) ev_const (by omega)) (congrArg _ he1) ?_ | refine yk_eq (y_mul64 (ev_tmp rfl) (ev_tmp rfl) (by rw [hmul]; omega)) (congrArg _ hmul) ?_ | refine yk_eq (y_add64 (ev_tmp rfl) (ev_tmp rfl) (by omega)) (congrArg _ hsum) ?_)
      | (with_reducible refine at_conv ?_; first | refine yk_eq (y_conv_int (ev_tmp rfl)) (congrArg _ hw8) ?_)
      | (with_reducible refine at_load ?_; first | refine yk (y_load (ev_tmp rfl) (hasCell_bl has_auto hc0)) ?_ | refine yk (y_load (ev_tmp rfl) (hasCell_bl has_auto hc1)) ?_)
      | (with_reducible refine is_yk ?_; refine yk_auto (k := ?_))
      | (with_reducible refine is_owk0 ?_; refine owk0_auto (k := ?_))
      | (with_reducible refine is_owkc ?_; refine owk_auto (k := fun _ => ?_))
      | refine go1 (k := ?_)
      | (refine go2 (ka := ?_) (kb := ?_) <;> intro _)
      | fail))
            exact x_again (t + 1) (by show t + 1 ≤ i; omega) (by show i - (t + 1) < i - t; omega) sub_auto sel_auto
          · have hleft : ((lo + i : Nat) : Int) - ((lo + sizeS u : Nat) : Int) = (i : Int) - (sizeS u : Int) := by omega
            (repeat' (first
      | ((with_reducible refine at_fn 46 ?_); with_reducible refine owk_c1 evs_auto (by kernel_rfl) pick_auto (fun w H => c_left hleft (by dsimp only; omega) H) ?_)
      | (with_reducible refine is_yk ?_; refine yk_auto (k := ?_))
      | (with_reducible refine is_owk0 ?_; refine owk0_auto (k := ?_))
      | (with_reducible refine is_owkc ?_; refine owk_auto (k := fun _ => ?_))
      | refine go1 (k := ?_)
      | (refine go2 (ka := ?_) (kb := ?_) <;> intro _)
      | fail))
            exact x_ret1 rfl rfl (fun w H => ⟨by simp, (Sel.st (T := [Old _]) sel_auto H).toBelow'⟩)
  · refine calls_w (vs := [.int .i64 n, .int .i64 epoch, .slice A la cap, .int .u64 keep, .int .u8 (ob.toNat : Int)]) Try.func15 rfl rfl rfl ?_ w (St.start w)
    (repeat' (first
      | ((with_reducible refine at_fn 43 ?_); with_reducible refine owk_c0s evs_auto (by kernel_rfl) (fun w H => alive16 H) ?_)
      | (with_reducible refine is_yk ?_; refine yk_auto (k := ?_))
      | (with_reducible refine is_owk0 ?_; refine owk0_auto (k := ?_))
      | (with_reducible refine is_owkc ?_; refine owk_auto (k := fun _ => ?_))
      | refine go1 (k := ?_)
      | (refine go2 (ka := ?_) (kb := ?_) <;> intro _)
      | fail))
    all_goals exact x_ret1 rfl rfl (fun w H => ⟨rfl, (Sel.st (T := [Old _]) sel_auto H).toBelow'⟩)
end Go.Proofs.Ytakeilefbcpabaa
