/- Sizes of a disk kept by each call; Write, said of what reads as bytes. -/
import Derived.Test.YtakeilefbcpabaaRf
import Derived.Test.YtakeilefbcpabaaRo
namespace Go.Proofs.Ytakeilefbcpabaa
open Go.RowKit

def Fit (k j : Nat) (D : DiskM) : Prop := D.now.length = k ∧ D.safe.length = k ∧ D.waits.length ≤ j
theorem fit_new (k : Nat) : Fit k 0 (DiskM.new k) := ⟨by simp [DiskM.new], by simp [DiskM.new], by simp [DiskM.new]⟩
theorem fit_mono {k j j' : Nat} {D : DiskM} (h : Fit k j D) (hj : j ≤ j') : Fit k j' D := ⟨h.1, h.2.1, by have := h.2.2; omega⟩
theorem fit_act {k j : Nat} {D : DiskM} (h : Fit k j D) : Fit k j D.act := by unfold DiskM.act; split <;> exact h
theorem fit_put {k j : Nat} {D : DiskM} (h : Fit k j D) (i : Nat) (s : Sec) : Fit k (j + 1) (D.put i s) := ⟨by simp [DiskM.put, h.1], h.2.1, by have := h.2.2; simp [DiskM.put]; omega⟩
theorem fit_off {k j : Nat} {D : DiskM} (h : Fit k j D) (K : Int) : Fit k j (D.off K) := by
  unfold DiskM.off
  split
  · exact h
  · exact ⟨by simp [DiskM.kept, keptFrom_length, h.2.1], by simp [DiskM.kept, keptFrom_length, h.2.1], by simp⟩
theorem fit_on {k j : Nat} {D : DiskM} (h : Fit k j D) : Fit k j D.on := h
theorem fit_arm {k j : Nat} {D : DiskM} (h : Fit k j D) (n K : Int) : Fit k j (D.arm n K) := h
theorem fit_write {k j : Nat} {D : DiskM} (h : Fit k j D) (i : Int) (b : List UInt8) : Fit k (j + 1) (D.write i b) := by
  have h1 : Fit k (j + 1) D := fit_mono h (by omega)
  unfold DiskM.write
  split
  · exact h1
  · split
    · exact h1
    · split
      · exact fit_off (fit_put (fit_act h) _ _) _
      · exact fit_put (fit_act h) _ _
theorem fit_sync {k j : Nat} {D : DiskM} (h : Fit k j D) : Fit k j D.sync := by
  unfold DiskM.sync
  split
  · exact h
  · split
    · exact fit_off (fit_act h) _
    · exact ⟨(fit_act h).1, (fit_act h).1, by simp⟩
theorem fit_forge {k j : Nat} {D : DiskM} (h : Fit k j D) (i : Int) (b : List UInt8) : Fit k j (D.forge i b) := by
  unfold DiskM.forge
  split
  · exact h
  · exact ⟨by simp [h.1], by simp [h.2.1], Nat.le_trans (List.length_filter_le _ _) h.2.2⟩
theorem new_image (k : Nat) : (DiskM.new k).image = zeros (256 * k) := by
  show (List.replicate k (List.replicate 256 (0 : UInt8))).flatten = List.replicate (256 * k) 0
  rw [List.flatten_replicate_replicate, Nat.mul_comm]
attribute [local irreducible] Y OW YK OWK W WL WP X CV Ev Evs HasCell HasCells Has Met Again Kept
section
variable {c : Con} {F : List HP} {w : World} {p : Nat} {D D' : DiskM}
theorem disk_write_to (i : Int) (hi0 : -9223372036854775808 ≤ i) (hi1 : i ≤ 9223372036854775807) (v : Value) (b : List UInt8) {n : Nat} (hb : HasR (St c F) v n (bvs b)) (hwl : D.waits.length ≤ 1073741824) (H : St c (DiskAt p D :: F) w) :
    Calls Try.prog 30 #[.pointer (some ⟨p, 0, none⟩), .int .i64 i, v] w fun e w' => e = .returned (.int .i64 (D.writeE i b.length)) ∧ St c (DiskAt p (D.write i b) :: F) w' := disk_write H i hi0 hi1 v b hb.bytes hwl
end
end Go.Proofs.Ytakeilefbcpabaa
