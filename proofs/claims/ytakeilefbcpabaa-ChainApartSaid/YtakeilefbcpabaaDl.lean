/- The laws on the disk: what they ask first. -/
import Derived.Test.YtakeilefbcpabaaDi
namespace Go.Proofs.Ytakeilefbcpabaa
open Go.RowKit
attribute [local irreducible] Y OW YK OWK W WL WP X CV Ev Evs HasCell HasCells Has Met Again Kept

section
variable {c : Con} {F : List HP} {w : World} {p : Nat} {D D' : DiskM}
theorem disk_write_is (i : Int) (hi0 : -9223372036854775808 ≤ i) (hi1 : i ≤ 9223372036854775807) (v : Value) (b : List UInt8) {E : Int} (hE : D.writeE i b.length = E) (hD : D.write i b = D')
    (hb : ∀ W, St c F W → Reads W v b.length 1 (bvs b)) (hwl : D.waits.length ≤ 1073741824) (H : St c (DiskAt p D :: F) w) :
    Calls Try.prog 30 #[.pointer (some ⟨p, 0, none⟩), .int .i64 i, v] w fun e w' => e = .returned (.int .i64 E) ∧ St c (DiskAt p D' :: F) w' := by
  subst hE hD
  exact disk_write H i hi0 hi1 v b hb hwl
theorem disk_read_is (i : Int) (hi1 : i ≤ 9223372036854775807) (hr : D.ready i = 0) {s : Sec} (hs : D.now.getD i.toNat [] = s) (H : St c (DiskAt p D :: F) w) :
    Calls Try.prog 27 #[.pointer (some ⟨p, 0, none⟩), .int .i64 i] w fun e w' => ∃ v, e = .returned (.tuple #[.slice (some ⟨v, 0, none⟩) 256 256, .int .i64 0]) ∧
      St c (Bl v 109 (bvs s) :: DiskAt p D :: F) w' := by
  subst hs
  exact disk_read H i hi1 hr
theorem disk_new_is (n : Int) (h1 : -9223372036854775808 ≤ n) (h2 : n ≤ 9223372036854775807) {k : Nat} (hk : k = clip n) (H : St c F w) :
    Calls Try.prog 21 #[.int .i64 n] w fun e w' => ∃ p, e = .returned (.pointer (some ⟨p, 0, none⟩)) ∧ St c (DiskAt p (DiskM.new k) :: F) w' := by
  subst hk; exact disk_new H n h1 h2
theorem disk_size_is {n : Nat} (hn : D.now.length = n) (H : St c (DiskAt p D :: F) w) :
    Calls Try.prog 28 #[.pointer (some ⟨p, 0, none⟩)] w fun e w' => e = .returned (.int .i64 n) ∧ w = w' := by
  subst hn; exact disk_size H
theorem disk_image_is {n : Nat} (hn : 256 * D.now.length = n) (H : St c (DiskAt p D :: F) w) :
    Calls Try.prog 29 #[.pointer (some ⟨p, 0, none⟩)] w fun e w' => ∃ q : Option Addr × Nat, e = .returned (.slice q.1 n q.2) ∧ St c (OwnP 5 1 (.slice q.1 n q.2) n (bvs D.image) :: DiskAt p D :: F) w' := by
  subst hn; exact disk_image H
theorem disk_read_bad_is (i : Int) (hi0 : -9223372036854775808 ≤ i) (hi1 : i ≤ 9223372036854775807) {E : Int} (hE : D.ready i = E) (h0 : E ≠ 0) (H : St c (DiskAt p D :: F) w) :
    Calls Try.prog 27 #[.pointer (some ⟨p, 0, none⟩), .int .i64 i] w fun e w' => e = .returned (.tuple #[.slice none 0 0, .int .i64 E]) ∧ w = w' := by
  subst hE; exact disk_read_bad H i hi0 hi1 h0
theorem disk_off_is (k : Int) (hk0 : 0 ≤ k) (hk1 : k < 18446744073709551616) (hD : D.off k = D') (H : St c (DiskAt p D :: F) w) :
    Calls Try.prog 22 #[.pointer (some ⟨p, 0, none⟩), .int .u64 k] w fun e w' => e = .returned (.tuple #[]) ∧ St c (DiskAt p D' :: F) w' := by
  subst hD
  exact disk_off H k hk0 hk1

def aD0 : DiskM := DiskM.new 3
def aD1 : DiskM := aD0.write 0 [120]
def aD2 : DiskM := aD1.write 1 [121]
def aD3 : DiskM := aD2.off 2
set_option maxRecDepth 100000 in
theorem alive11 (H : St c F w) : Calls Try.prog 26 #[] w fun e w' => e = .returned (.bool true) ∧ St c F w' := by
  refine calls_w (vs := []) Try.func26 rfl rfl rfl ?_ w H
  (repeat' (first
      | ((with_reducible refine at_fn 21 ?_); with_reducible refine owk_c0x (f := 21) evs_auto (by kernel_rfl) (fun w H => disk_new H 3 (by omega) (by omega)) (fun p => ?_))
      | ((with_reducible refine at_fn 30 ?_); with_reducible refine owk_c1 (f := 30) evs_auto (by kernel_rfl) pick_auto (fun w H => disk_write_is (D := DiskM.new (clip 3)) 0 (by omega) (by omega) _ [120] (E := 0) (D' := aD1) (by kernel_rfl) (by kernel_rfl) (reads_has (hasCells_bl has_auto rfl) rfl (by decide) (by decide)) (by decide) H) ?_)
      | ((with_reducible refine at_fn 30 ?_); with_reducible refine owk_c1 (f := 30) evs_auto (by kernel_rfl) pick_auto (fun w H => disk_write_is (D := aD1) 1 (by omega) (by omega) _ [121] (E := 0) (D' := aD2) (by kernel_rfl) (by kernel_rfl) (reads_has (hasCells_bl has_auto rfl) rfl (by decide) (by decide)) (by decide) H) ?_)
      | ((with_reducible refine at_fn 22 ?_); with_reducible refine owk_c1 (f := 22) evs_auto (by kernel_rfl) pick_auto (fun w H => disk_off_is (D := aD2) 2 (by omega) (by omega) (D' := aD3) rfl H) ?_)
      | ((with_reducible refine at_fn 24 ?_); with_reducible refine owk_c1 (f := 24) evs_auto (by kernel_rfl) pick_auto (fun w H => disk_on H) ?_)
      | ((with_reducible refine at_fn 27 ?_); with_reducible refine owk_c1x (f := 27) evs_auto (by kernel_rfl) pick_auto (fun w H => disk_read_is (D := aD3.on) 0 (by omega) (by kernel_rfl) (s := zeroSec) (by kernel_rfl) H) (fun p => ?_))
      | ((with_reducible refine at_fn 27 ?_); with_reducible refine owk_c1x (f := 27) evs_auto (by kernel_rfl) pick_auto (fun w H => disk_read_is (D := aD3.on) 1 (by omega) (by kernel_rfl) (s := 121 :: zeros 255) (by kernel_rfl) H) (fun p => ?_))
      | (with_reducible refine is_yk ?_; refine yk_auto (k := ?_))
      | (with_reducible refine is_owk0 ?_; refine owk0_auto (k := ?_))
      | (with_reducible refine is_owkc ?_; refine owk_auto (k := fun _ => ?_))
      | refine go1 (k := ?_)
      | (refine go2 (ka := ?_) (kb := ?_) <;> intro _)
      | fail))
  refine x_ret1 rfl rfl (fun w H => ⟨rfl, Sel.st sel_auto H⟩)
end
end Go.Proofs.Ytakeilefbcpabaa
