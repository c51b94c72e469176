/- The disk's acts, its switch and its fuse: what each call does. -/
import Derived.Test.YtakeilefbcpabaaDa
namespace Go.Proofs.Ytakeilefbcpabaa
open Go.RowKit

section
variable {c : Con} {F : List HP} {w : World} {p : Nat} {D : DiskM}

/-- Behind stores into the struct alone. -/
theorem St.diskCells {n s : Nat} {wv : Value} {D' : DiskM} {w' : World} (H : St c (Pt p (.cells (diskCells n s wv D') 107 (0, 0)) :: Pt n (.cells (secs D.now).toArray 109 (0, 0)) ::
      Pt s (.cells (secs D.safe).toArray 109 (0, 0)) :: OwnP 111 257 wv D.waits.length (wcells D.waits) :: F) w')
    (h : D'.WF) (h1 : D'.now = D.now) (h2 : D'.safe = D.safe) (h3 : D'.waits = D.waits) : St c (DiskAt p D' :: F) w' := by
  refine St.shutDisk (n := n) (s := s) (wv := wv) h ?_
  show St c (_ :: _ :: _ :: _ :: F) w'
  rw [h1, h2, h3]
  exact H

/-- On. -/
theorem disk_on (H : St c (DiskAt p D :: F) w) :
    Calls Try.prog 24 #[.pointer (some ⟨p, 0, none⟩)] w fun e w' => e = .returned (.tuple #[]) ∧ St c (DiskAt p D.on :: F) w' := by
  obtain ⟨hw, n, s, wv, H⟩ := H.openDisk
  have h0 := H.pt
  have hc : ∀ j, w.cell? ⟨p, j, none⟩ = (Go.Proofs.Ytakeilefbcpabaa.diskCells n s wv D)[j]? := fun j => cell_of_row w p j _ _ _ h0
  have hf : ∀ j, w.frozen? ⟨p, j, none⟩ = false := fun j => frozen_of_row w p j _ _ h0
  unfold Go.Proofs.Ytakeilefbcpabaa.diskCells at hc
  clear h0
  have HF : ∀ b w', St c (DiskParts p n s wv D ++ F) w → w' = w.setCell ⟨p, 3, none⟩ (.bool b) → b = false → St c (DiskAt p D.on :: F) w' := by
    rintro b w' H rfl rfl
    exact St.diskCells (D := D) (D' := D.on) (H.setPt 3 (.bool false)) hw.on rfl rfl rfl
  go_enter Try.func24, Try.ntmps24
  go_wp2
  go_end0
  exact ⟨rfl, HF _ _ H rfl rfl⟩
/-- Arm. -/
theorem disk_arm (H : St c (DiskAt p D :: F) w) (i k : Int) (h1 : -9223372036854775808 ≤ i) (h2 : i ≤ 9223372036854775807) (h3 : 0 ≤ k) (h4 : k < 18446744073709551616) :
    Calls Try.prog 23 #[.pointer (some ⟨p, 0, none⟩), .int .i64 i, .int .u64 k] w fun e w' => e = .returned (.tuple #[]) ∧ St c (DiskAt p (D.arm i k) :: F) w' := by
  obtain ⟨hw, n, s, wv, H⟩ := H.openDisk
  have h0 := H.pt
  have hc : ∀ j, w.cell? ⟨p, j, none⟩ = (Go.Proofs.Ytakeilefbcpabaa.diskCells n s wv D)[j]? := fun j => cell_of_row w p j _ _ _ h0
  have hf : ∀ j, w.frozen? ⟨p, j, none⟩ = false := fun j => frozen_of_row w p j _ _ h0
  unfold Go.Proofs.Ytakeilefbcpabaa.diskCells at hc
  clear h0
  have HF : ∀ m w', St c (DiskParts p n s wv D ++ F) w → w' = (w.setCell ⟨p, 5, none⟩ (.int .i64 m)).setCell ⟨p, 6, none⟩ (.int .u64 k) → m = max i 0 → St c (DiskAt p (D.arm i k) :: F) w' := by
    rintro m w' H rfl rfl
    exact St.diskCells (D := D) (D' := D.arm i k) ((H.setPt 5 (.int .i64 (max i 0))).setPt 6 (.int .u64 k)) (hw.arm h2 h3 h4) rfl rfl rfl
  go_enter Try.func23, Try.ntmps23
  go_wp2
  · go_end0
    exact ⟨rfl, HF _ _ H rfl (by omega)⟩
  · go_end0
    exact ⟨rfl, HF _ _ H rfl (by omega)⟩
/-- Act. -/
theorem disk_act (H : St c (DiskAt p D :: F) w) :
    Calls Try.prog 57 #[.pointer (some ⟨p, 0, none⟩)] w fun e w' => e = .returned (.tuple #[.bool D.goes, .int .u64 D.keeps]) ∧ St c (DiskAt p D.act :: F) w' := by
  obtain ⟨hw, n, s, wv, H⟩ := H.openDisk
  have h0 := H.pt
  have hc : ∀ j, w.cell? ⟨p, j, none⟩ = (Go.Proofs.Ytakeilefbcpabaa.diskCells n s wv D)[j]? := fun j => cell_of_row w p j _ _ _ h0
  have hf : ∀ j, w.frozen? ⟨p, j, none⟩ = false := fun j => frozen_of_row w p j _ _ h0
  unfold Go.Proofs.Ytakeilefbcpabaa.diskCells at hc
  clear h0
  have f0 := hw.fuse0
  have f1 := hw.fuse1
  obtain ⟨now, safe, waits, down, acts, fuse, keep⟩ := D
  dsimp only at hc f0 f1
  cases down
  · by_cases e0 : fuse = 0
    · subst e0
      have HF : ∀ w' : World, St c (DiskParts p n s wv ⟨now, safe, waits, false, acts, 0, keep⟩ ++ F) w → w' = w.setCell ⟨p, 4, none⟩ (.int .i64 (wrap64 (acts + 1))) → St c (DiskAt p (DiskM.act ⟨now, safe, waits, false, acts, 0, keep⟩) :: F) w' := by
        rintro w' H rfl
        exact St.diskCells (D := ⟨now, safe, waits, false, acts, 0, keep⟩) (H.setPt 4 (.int .i64 (wrap64 (acts + 1)))) hw.act rfl rfl rfl
      go_enter Try.func57, Try.ntmps57
      go_wp2
      go_ret2
      exact ⟨rfl, HF _ H rfl⟩
    · have hd : (fuse == 0) = false := by simpa using e0
      have e0' : 1 ≤ fuse := by omega
      by_cases e1 : fuse = 1
      · subst e1
        clear e0
        have HF : ∀ (w' : World) (nq : Nat), St c (DiskParts p n s wv ⟨now, safe, waits, false, acts, 1, keep⟩ ++ F) w → w' = ((w.setCell ⟨p, 4, none⟩ (.int .i64 (wrap64 (acts + 1)))).setCell ⟨p, 5, none⟩ (.int .i64 0)).drewN nq → St c (DiskAt p (DiskM.act ⟨now, safe, waits, false, acts, 1, keep⟩) :: F) w' := by
          rintro w' nq H rfl
          exact St.diskCells (D := ⟨now, safe, waits, false, acts, 1, keep⟩) (((H.setPt 4 (.int .i64 (wrap64 (acts + 1)))).setPt 5 (.int .i64 0)).drewN nq) hw.act rfl rfl rfl
        go_enter Try.func57, Try.ntmps57
        go_wp2
        go_quiet (fail)
        go_wp2
        go_ret2
        exact ⟨rfl, HF _ _ H rfl⟩
      · have hg : DiskM.goes ⟨now, safe, waits, false, acts, fuse, keep⟩ = false := by simp [DiskM.goes, e1]
        have hk : DiskM.keeps ⟨now, safe, waits, false, acts, fuse, keep⟩ = 0 := by simp [DiskM.keeps, hg]
        rw [hg, hk]; clear hg hk
        have e1' : 1 < fuse := by omega
        clear e1
        have ha : DiskM.act ⟨now, safe, waits, false, acts, fuse, keep⟩ = ⟨now, safe, waits, false, wrap64 (acts + 1), fuse - 1, keep⟩ := by simp [DiskM.act, e0]
        have hwa := hw.act
        rw [ha] at hwa ⊢; clear ha e0
        have HF : ∀ w' : World, St c (DiskParts p n s wv ⟨now, safe, waits, false, acts, fuse, keep⟩ ++ F) w → w' = (w.setCell ⟨p, 4, none⟩ (.int .i64 (wrap64 (acts + 1)))).setCell ⟨p, 5, none⟩ (.int .i64 (fuse - 1)) → St c (DiskAt p ⟨now, safe, waits, false, wrap64 (acts + 1), fuse - 1, keep⟩ :: F) w' := by
          rintro w' H rfl
          exact St.diskCells (D := ⟨now, safe, waits, false, acts, fuse, keep⟩) ((H.setPt 4 (.int .i64 (wrap64 (acts + 1)))).setPt 5 (.int .i64 (fuse - 1))) hwa rfl rfl rfl
        go_enter Try.func57, Try.ntmps57
        go_wp2
        go_ret2
        exact ⟨rfl, HF _ H rfl⟩
  · have HF : ∀ w' : World, St c (DiskParts p n s wv ⟨now, safe, waits, true, acts, fuse, keep⟩ ++ F) w → w' = w → St c (DiskAt p (DiskM.act ⟨now, safe, waits, true, acts, fuse, keep⟩) :: F) w' := by
      rintro w' H rfl
      exact St.shutDisk hw H
    go_enter Try.func57, Try.ntmps57
    go_wp2
    go_ret2
    exact ⟨rfl, HF _ H rfl⟩
theorem disk_act_nil (w : World) :
    Calls Try.prog 57 #[.pointer none] w fun e w' => e = .returned (.tuple #[.bool false, .int .u64 0]) ∧ w = w' := by
  go_enter Try.func57, Try.ntmps57
  go_wp2
  go_ret2
  exact ⟨rfl, rfl⟩
end
end Go.Proofs.Ytakeilefbcpabaa
