/- The disk's small functions: what each call does. -/
import Derived.Test.YtakeilefbcpabaaProg
import Derived.Test.YtakeilefbcpabaaDm
namespace Go.Proofs.Ytakeilefbcpabaa
open Go.RowKit

section
variable {c : Con} {F : List HP} {w : World} {p : Nat} {D : DiskM}

/-- Acts. -/
theorem disk_acts (H : St c (DiskAt p D :: F) w) :
    Calls Try.prog 39 #[.pointer (some ⟨p, 0, none⟩)] w fun e w' => e = .returned (.int .i64 D.acts) ∧ w = w' := by
  obtain ⟨_, n, s, wv, H⟩ := H.openDisk
  have h0 := H.pt
  have hc : ∀ j, w.cell? ⟨p, j, none⟩ = (diskCells n s wv D)[j]? := fun j => cell_of_row w p j _ _ _ h0
  unfold diskCells at hc
  clear h0
  go_enter Try.func39, Try.ntmps39
  go_wp2
  go_ret
  exact ⟨rfl, rfl⟩
/-- Down. -/
theorem disk_down (H : St c (DiskAt p D :: F) w) :
    Calls Try.prog 40 #[.pointer (some ⟨p, 0, none⟩)] w fun e w' => e = .returned (.bool D.down) ∧ w = w' := by
  obtain ⟨_, n, s, wv, H⟩ := H.openDisk
  have h0 := H.pt
  have hc : ∀ j, w.cell? ⟨p, j, none⟩ = (diskCells n s wv D)[j]? := fun j => cell_of_row w p j _ _ _ h0
  unfold diskCells at hc
  clear h0
  go_enter Try.func40, Try.ntmps40
  go_wp2
  go_ret
  exact ⟨rfl, rfl⟩
theorem disk_down_nil (w : World) :
    Calls Try.prog 40 #[.pointer none] w fun e w' => e = .returned (.bool false) ∧ w = w' := by
  go_enter Try.func40, Try.ntmps40
  go_wp2
  go_ret
  exact ⟨rfl, rfl⟩
/-- Size. -/
theorem disk_size (H : St c (DiskAt p D :: F) w) :
    Calls Try.prog 28 #[.pointer (some ⟨p, 0, none⟩)] w fun e w' => e = .returned (.int .i64 D.now.length) ∧ w = w' := by
  obtain ⟨_, n, s, wv, H⟩ := H.openDisk
  have h0 := H.pt
  have hc : ∀ j, w.cell? ⟨p, j, none⟩ = (diskCells n s wv D)[j]? := fun j => cell_of_row w p j _ _ _ h0
  unfold diskCells at hc
  clear h0
  go_enter Try.func28, Try.ntmps28
  go_wp2
  go_ret
  exact ⟨rfl, rfl⟩
/-- ready. -/
theorem disk_ready (H : St c (DiskAt p D :: F) w) (i : Int) (hi0 : -9223372036854775808 ≤ i) (hi1 : i ≤ 9223372036854775807) :
    Calls Try.prog 58 #[.pointer (some ⟨p, 0, none⟩), .int .i64 i] w fun e w' => e = .returned (.int .i64 (D.ready i)) ∧ w = w' := by
  obtain ⟨hw, n, s, wv, H⟩ := H.openDisk
  have h0 := H.pt
  have hc : ∀ j, w.cell? ⟨p, j, none⟩ = (diskCells n s wv D)[j]? := fun j => cell_of_row w p j _ _ _ h0
  have hm := hw.most
  unfold diskCells at hc
  clear h0 hw
  obtain ⟨now, safe, waits, down, acts, fuse, keep⟩ := D
  dsimp only at hc hm
  have hr : (DiskM.mk now safe waits down acts fuse keep).ready i = if down then 8 else if i < 0 ∨ (now.length : Int) ≤ i then 1 else 0 := rfl
  cases down
  · by_cases h1 : i < 0
    · have hr' : (DiskM.mk now safe waits false acts fuse keep).ready i = 1 := by rw [hr]; simp [h1]
      rw [hr']; clear hr hr'
      go_enter Try.func58, Try.ntmps58
      go_wp2
      go_ret
      exact ⟨rfl, rfl⟩
    · have h1' : 0 ≤ i := by omega
      have hd : decide (i < 0) = false := by simpa using h1
      by_cases h2 : (now.length : Int) ≤ i
      · have hr' : (DiskM.mk now safe waits false acts fuse keep).ready i = 1 := by rw [hr]; simp [h2]
        rw [hr']; clear hr hr'
        go_enter Try.func58, Try.ntmps58
        go_wp2
        go_ret
        exact ⟨rfl, rfl⟩
      · have hr' : (DiskM.mk now safe waits false acts fuse keep).ready i = 0 := by rw [hr]; simp [h1, h2]
        rw [hr']; clear hr hr'
        have h2' : i < (now.length : Int) := by omega
        have hd2 : decide ((now.length : Int) ≤ i) = false := by simpa using h2'
        go_enter Try.func58, Try.ntmps58
        go_wp2
        go_ret
        exact ⟨rfl, rfl⟩
  · rw [hr]; clear hr
    go_enter Try.func58, Try.ntmps58
    go_wp2
    go_ret
    exact ⟨rfl, rfl⟩
end
end Go.Proofs.Ytakeilefbcpabaa
