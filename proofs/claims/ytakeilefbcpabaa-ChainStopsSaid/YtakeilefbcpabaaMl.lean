/- The laws on the register: what they ask first. -/
import Derived.Test.YtakeilefbcpabaaMn
namespace Go.Proofs.Ytakeilefbcpabaa
open Go.RowKit

section
variable {c : Con} {F : List HP} {w : World} {m : Nat} {M : MeterM} {dv : Value} {D : DiskO}

theorem meter_next_at (H : St c (MeterAt m dv M :: DiskV dv D :: F) w) (ep : Int) (cs : Array Value) (r : List UInt8) (hcs : cs = (bvs r).toArray) (hr : r.length = 32) (he1 : ep ≤ 9223372036854775807) {E : Int} {M' : MeterM} {D' : DiskO}
    (h1 : M.nextE D ep = E) (h2 : M.next D ep r = M') (h3 : M.nextD D ep = D') :
    Calls Try.prog 19 #[.pointer (some ⟨m, 0, none⟩), .int .i64 ep, .agg cs] w fun e w' =>
      e = .returned (.int .i64 E) ∧ St c (MeterAt m dv M' :: DiskV dv D' :: F) w' := by
  subst hcs h1 h2 h3
  exact meter_next H ep r hr he1
theorem meter_left_is (H : St c (MeterAt m dv M :: F) w) {n : Int} (hn : M.most - M.count = n) :
    Calls Try.prog 20 #[.pointer (some ⟨m, 0, none⟩)] w fun e w' => e = .returned (.int .i64 n) ∧ ∃ n, w' = w.drewN n := by
  subst hn; exact meter_left H

set_option maxRecDepth 100000 in
set_option maxHeartbeats 1000000 in
theorem alive12 (H : St c F w) : Calls Try.prog 17 #[] w fun e w' => e = .returned (.bool true) ∧ St c F w' := by
  go_enter Try.func17, Try.ntmps17
  go_wp2_with fail
  refine (meter_new H 1 (.pointer none) (.inl rfl)).mono ?_
  rintro e w1 ⟨m, rfl, H1⟩
  replace H1 := H1.noDisk.swap
  go_wp2_with fail
  refine (meter_left_is H1 (n := 1) (by rfl)).mono ?_
  rintro e w2 ⟨rfl, n2, rfl⟩
  have H2 := H1.drewN n2
  go_wp2_with fail
  refine (meter_next_at H2 0 _ (7 :: zeros 31) (by kernel_rfl) (by rfl) (by omega) (E := 0) (M' := ⟨1, 0, 7 :: zeros 31, 1⟩) (D' := none) (by rfl) (by rfl) (by rfl)).mono ?_
  rintro e w3 ⟨rfl, H3⟩
  clear H1 H2 H
  go_wp2_with fail
  refine (meter_next_at H3 0 _ (zeros 32) (by kernel_rfl) (by rfl) (by omega) (E := 10) (M' := ⟨1, 0, 7 :: zeros 31, 1⟩) (D' := none) (by rfl) (by rfl) (by rfl)).mono ?_
  rintro e w4 ⟨rfl, H4⟩
  clear H3
  obtain ⟨_, hm⟩ := meter_cells H4
  have hc0 : w4.cell? ⟨m, 0, none⟩ = some (.int .i64 1) := cell_of_row w4 m 0 _ _ _ hm
  have hc2 : w4.cell? ⟨m, 2, none⟩ = some (.int .u8 7) := cell_of_row w4 m 2 _ _ _ hm
  clear hm
  go_wp2
  go_returns
  exact ⟨rfl, H4.tail.tail⟩
end
end Go.Proofs.Ytakeilefbcpabaa
