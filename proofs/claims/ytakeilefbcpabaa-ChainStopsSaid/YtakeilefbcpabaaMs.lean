/- MeterSpends: the walk. -/
import Derived.Test.YtakeilefbcpabaaMl
namespace Go.Proofs.Ytakeilefbcpabaa
open Go.RowKit

def byteOf (x : Int) : UInt8 := UInt8.ofNat (x % 256).toNat
theorem bv_byteOf (x : Int) : bv (byteOf x) = .int .u8 (IntKind.u8.wrap x) := by
  have h : 0 ≤ x % 256 := Int.emod_nonneg x (by omega)
  have h2 : x % 256 < 256 := Int.emod_lt_of_pos x (by omega)
  have e : (byteOf x).toNat = (x % 256).toNat := by
    rw [byteOf, UInt8.toNat_ofNat']; omega
  rw [bv, e, Int.toNat_of_nonneg h, IntKind.wrap_u8]

theorem byteRoot0 (v : Int) : (#[.int .u8 v, .int .u8 0, .int .u8 0, .int .u8 0, .int .u8 0, .int .u8 0, .int .u8 0, .int .u8 0, .int .u8 0, .int .u8 0, .int .u8 0, .int .u8 0, .int .u8 0, .int .u8 0, .int .u8 0, .int .u8 0, .int .u8 0, .int .u8 0, .int .u8 0, .int .u8 0, .int .u8 0, .int .u8 0, .int .u8 0, .int .u8 0, .int .u8 0, .int .u8 0, .int .u8 0, .int .u8 0, .int .u8 0, .int .u8 0, .int .u8 0, .int .u8 0] : Array Value) = (Value.int .u8 v :: bvs (zeros 31)).toArray := by kernel_rfl
theorem byteRoot (x : Int) : (#[.int .u8 (IntKind.u8.wrap x), .int .u8 0, .int .u8 0, .int .u8 0, .int .u8 0, .int .u8 0, .int .u8 0, .int .u8 0, .int .u8 0, .int .u8 0, .int .u8 0, .int .u8 0, .int .u8 0, .int .u8 0, .int .u8 0, .int .u8 0, .int .u8 0, .int .u8 0, .int .u8 0, .int .u8 0, .int .u8 0, .int .u8 0, .int .u8 0, .int .u8 0, .int .u8 0, .int .u8 0, .int .u8 0, .int .u8 0, .int .u8 0, .int .u8 0, .int .u8 0, .int .u8 0] : Array Value) = (bvs (byteOf x :: zeros 31)).toArray := by
  have e : bvs (byteOf x :: zeros 31) = bv (byteOf x) :: bvs (zeros 31) := rfl
  rw [e, bv_byteOf]; exact byteRoot0 _
theorem nextD_none (M : MeterM) (ep : Int) : M.nextD none ep = none := by unfold MeterM.nextD; split <;> (try split) <;> rfl

/-- A slice of numbers that came in. -/
def RowOf (k : IntKind) (w : World) (A : Option Addr) (len _cap : Nat) (zs : List Int) : Prop :=
  zs.length = len ∧ len ≤ 9223372036854775807 ∧ (∀ j, j < len → ∃ a, A = some a ∧ w.cell? (a.add j) = some (.int k (zs.getD j 0))) ∧ ∀ z ∈ zs, (Lit.int k z).wf = true

section
set_option maxRecDepth 100000 in
set_option maxHeartbeats 1000000 in
theorem meterSpends_out (most : Int) (A : Option Addr) (len cap : Nat) (w : World) (hlen : len ≤ 9223372036854775807) (h : most < 0 ∨ 60 < most ∨ 60 < len) :
    Calls Try.prog 3 #[.int .i64 most, .slice A len cap] w fun e w' => e = .returned (.bool true) ∧ Below w.heap.size w w' := by
  have H := St.start w
  rcases h with h | h
  · go_enter Try.func3, Try.ntmps3
    go_wp2_with (go_at_call 17; refine (alive12 H).mono ?_; rintro e w1 ⟨rfl, H1⟩)
    go_returns
    exact ⟨rfl, H1.toBelow'⟩
  · by_cases h0 : most < 0
    · go_enter Try.func3, Try.ntmps3
      go_wp2_with (go_at_call 17; refine (alive12 H).mono ?_; rintro e w1 ⟨rfl, H1⟩)
      go_returns
      exact ⟨rfl, H1.toBelow'⟩
    · have h0' : 0 ≤ most := by omega
      have hd0 : decide (most < 0) = false := by simpa using h0
      by_cases h1 : 60 < most
      · go_enter Try.func3, Try.ntmps3
        go_wp2_with (go_at_call 17; refine (alive12 H).mono ?_; rintro e w1 ⟨rfl, H1⟩)
        go_returns
        exact ⟨rfl, H1.toBelow'⟩
      · have hd1 : decide (60 < most) = false := by simpa using h1
        have h1' : most ≤ 60 := by omega
        have h2 : 60 < len := by omega
        clear h h0 h1
        go_enter Try.func3, Try.ntmps3
        go_wp2_with (go_at_call 17; refine (alive12 H).mono ?_; rintro e w1 ⟨rfl, H1⟩)
        go_returns
        exact ⟨rfl, H1.toBelow'⟩

set_option maxRecDepth 100000 in
set_option maxHeartbeats 2000000 in
theorem meterSpends_in (most : Int) (A : Option Addr) (len cap : Nat) (zs : List Int) (w : World) (hrow : RowOf .i64 w A len cap zs) (h0 : 0 ≤ most) (h1 : most ≤ 60) (h2 : len ≤ 60) :
    Calls Try.prog 3 #[.int .i64 most, .slice A len cap] w fun e w' => e = .returned (.bool true) ∧ Below w.heap.size w w' := by
  have H := St.start w
  have hd0 : decide (most < 0) = false := by simpa using h0
  have hd1 : decide (60 < most) = false := by simpa using h1
  go_enter Try.func3, Try.ntmps3
  go_wp2_with (first
    | (go_at_call 17; refine (alive12 H).mono ?_; rintro e w1 ⟨rfl, H1⟩)
    | (go_at_call 18; refine (meter_new H1 most (.pointer none) (.inl rfl)).mono ?_; rintro e w2 ⟨m, rfl, H2⟩))
  replace H2 := H2.noDisk.swap
  clear H1 H
  go_loopw [28, 6, 7] (fun i n t wr => ∃ (j : Nat) (k x : Int) (r : List UInt8), j ≤ len ∧ i = .int .i64 j ∧ n = .int .i64 k ∧ t = .int .i64 x ∧ 0 ≤ k ∧ k ≤ most ∧ 0 ≤ x ∧ x ≤ 9223372036854775807 ∧
      St (conOf w) [MeterAt m (.pointer none) ⟨k, x, r, most⟩, DiskV (.pointer none) none, Old w] wr)
    (fun i _ _ _ => len - (intOf i).toNat)
  case atStart =>
    refine ⟨0, 0, 0, zeroRoot, Nat.zero_le _, rfl, rfl, rfl, by omega, h0, by omega, by omega, ?_⟩
    have e : meterOf most = ⟨0, 0, zeroRoot, most⟩ := by simp only [meterOf]; congr 1; omega
    rw [e] at H2; exact H2
  case round =>
    obtain ⟨j, k, x, r, hj, rfl, rfl, rfl, hk0, hk1, hx0, hx1, H3⟩ := hrel
    by_cases hlt : j < len
    · obtain ⟨hzl, hl63, hcell, hwf⟩ := hrow
      obtain ⟨a, rfl, hca⟩ := hcell j hlt
      have hzm : zs.getD j 0 ∈ zs := by
        rw [List.getD_eq_getElem?_getD, List.getElem?_eq_getElem (by omega)]
        exact List.getElem_mem _
      have hzw := hwf _ hzm
      generalize zs.getD j 0 = z at hca hzw
      obtain ⟨hz0, hz1⟩ : -9223372036854775808 ≤ z ∧ z ≤ 9223372036854775807 := by
        simp [Lit.wf, IntKind.min, IntKind.max, IntKind.signed, IntKind.bits] at hzw; omega
      have hca' : wr.cell? (a.add j) = some (.int .i64 z) := by
        rw [← hca]
        exact World.cell?_of_block (H3.pull2.old _ (World.block_lt_of_cell? w _ hca))
      clear hwf hzm hcell hzl
      by_cases hzx : z < x
      · go_wp2_with fail
        refine (meter_next_at H3 z _ (byteOf z :: zeros 31) (byteRoot z) (by rfl) hz1 (E := 1) (M' := ⟨k, x, r, most⟩) (D' := none) (by simp [MeterM.nextE, DiskO.down, hzx]) (by simp [MeterM.next, MeterM.steps, DiskO.down, hzx]) (nextD_none _ _)).mono ?_
        rintro e w4 ⟨rfl, H4⟩
        clear H3
        obtain ⟨_, hm⟩ := meter_cells H4
        have hc0 : w4.cell? ⟨m, 0, none⟩ = some (.int .i64 k) := cell_of_row w4 m 0 _ _ _ hm
        have hc1 : w4.cell? ⟨m, 1, none⟩ = some (.int .i64 x) := cell_of_row w4 m 1 _ _ _ hm
        clear hm hca'
        go_wp2_with (go_at_call 20; refine (meter_left_is H4 (n := most - k) rfl).mono ?_; rintro e w5 ⟨rfl, n5, rfl⟩)
        go_roundw
        case rel => exact ⟨j + 1, k, x, r, by omega, by go_num, rfl, rfl, by omega, by omega, by omega, by omega, H4.drewN _⟩
        case measure => simp [intOf]; omega
      · have hzx' : x ≤ z := by omega
        have hdz : decide (z < x) = false := by simpa using hzx
        by_cases hkm : k = most
        · subst hkm
          go_wp2_with fail
          refine (meter_next_at H3 z _ (byteOf z :: zeros 31) (byteRoot z) (by rfl) hz1 (E := 10) (M' := ⟨k, x, r, k⟩) (D' := none) (by simp [MeterM.nextE, DiskO.down, hzx]) (by simp [MeterM.next, MeterM.steps, DiskO.down]) (nextD_none _ _)).mono ?_
          rintro e w4 ⟨rfl, H4⟩
          clear H3
          obtain ⟨_, hm⟩ := meter_cells H4
          have hc0 : w4.cell? ⟨m, 0, none⟩ = some (.int .i64 k) := cell_of_row w4 m 0 _ _ _ hm
          have hc1 : w4.cell? ⟨m, 1, none⟩ = some (.int .i64 x) := cell_of_row w4 m 1 _ _ _ hm
          clear hm hca'
          go_wp2_with (go_at_call 20; refine (meter_left_is H4 (n := k - k) rfl).mono ?_; rintro e w5 ⟨rfl, n5, rfl⟩)
          go_roundw
          case rel => exact ⟨j + 1, k, x, r, by omega, by go_num, rfl, rfl, by omega, by omega, by omega, by omega, H4.drewN _⟩
          case measure => simp [intOf]; omega
        · have hkm' : (k == most) = false := by simpa using hkm
          have hks : ¬ most - k = 0 := by omega
          have Hks := Lib.hid hks
          clear hks
          go_wp2_with fail
          refine (meter_next_at H3 z _ (byteOf z :: zeros 31) (byteRoot z) (by rfl) hz1 (E := 0) (M' := ⟨k + 1, z, byteOf z :: zeros 31, most⟩) (D' := none) (by simp [MeterM.nextE, DiskO.down, DiskO.goes, hzx, Hks.out]) (by simp [MeterM.next, MeterM.steps, DiskO.down, DiskO.goes, hzx, Hks.out]) (nextD_none _ _)).mono ?_
          rintro e w4 ⟨rfl, H4⟩
          clear H3
          obtain ⟨_, hm⟩ := meter_cells H4
          have hc0 : w4.cell? ⟨m, 0, none⟩ = some (.int .i64 (k + 1)) := cell_of_row w4 m 0 _ _ _ hm
          have hc1 : w4.cell? ⟨m, 1, none⟩ = some (.int .i64 z) := cell_of_row w4 m 1 _ _ _ hm
          clear hm hca'
          go_wp2_with (go_at_call 20; refine (meter_left_is H4 (n := most - (k + 1)) rfl).mono ?_; rintro e w5 ⟨rfl, n5, rfl⟩)
          go_roundw
          case rel => exact ⟨j + 1, k + 1, z, byteOf z :: zeros 31, by omega, by go_num, rfl, rfl, by omega, by omega, by omega, by omega, H4.drewN _⟩
          case measure => simp [intOf]; omega
    · go_wp2
      go_returns
      exact ⟨rfl, H3.pull2.toBelow'⟩
end
end Go.Proofs.Ytakeilefbcpabaa
