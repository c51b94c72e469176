/- DiskSizes: the walk. -/
import Derived.Test.YtakeilefbcpabaaDl
namespace Go.Proofs.Ytakeilefbcpabaa
open Go.RowKit
attribute [local irreducible] Y OW YK OWK W WL WP X CV Ev Evs HasCell HasCells Has Met Again Kept

theorem wf64 {n : Int} (h : (Lit.int .i64 n).wf = true) : -9223372036854775808 ≤ n ∧ n ≤ 9223372036854775807 := by
  simp [Lit.wf, IntKind.min, IntKind.max, IntKind.bits, IntKind.signed] at h
  omega
theorem new_length (n : Nat) : (DiskM.new n).now.length = n := by simp [DiskM.new]
theorem image_length {D : DiskM} (h : D.WF) : D.image.length = 256 * D.now.length := by
  have := secs_length h.now
  rw [secs, bvs_length] at this
  unfold DiskM.image; omega
set_option maxRecDepth 100000 in
set_option maxHeartbeats 2000000 in
theorem diskSizes_walk (n i : Int) (w : World) (hn : (Lit.int .i64 n).wf = true) (hi : (Lit.int .i64 i).wf = true) :
    Calls Try.prog 5 #[.int .i64 n, .int .i64 i] w fun e w' => e = .returned (.bool true) ∧ Below w.heap.size w w' := by
  obtain ⟨n0, n1⟩ := wf64 hn
  obtain ⟨i0, i1⟩ := wf64 hi
  clear hn hi
  have hl := new_length (clip n)
  obtain ⟨k, hk⟩ : ∃ k, k = clip n := ⟨_, rfl⟩
  have hk' : (k : Int) = if n < 0 then 0 else if 4096 < n then 4096 else n := by rw [hk]; unfold clip; split <;> (try split) <;> omega
  rw [← hk] at hl
  have hd : (DiskM.new k).down = false := rfl
  by_cases hr : (DiskM.new k).ready i = 0
  · obtain ⟨-, q1, q2⟩ := DiskM.ready_zero hr
    rw [hl] at q2
    refine calls_w (vs := [.int .i64 n, .int .i64 i]) Try.func5 rfl rfl rfl ?_ w (St.start w)
    (repeat' (first
      | ((with_reducible refine at_fn 26 ?_); with_reducible refine owk_c0s (f := 26) evs_auto (by kernel_rfl) (fun w H => alive11 H) ?_)
      | ((with_reducible refine at_fn 21 ?_); with_reducible refine owk_c0x (f := 21) evs_auto (by kernel_rfl) (fun w H => disk_new_is n n0 n1 hk H) (fun p => ?_))
      | ((with_reducible refine at_fn 27 ?_); with_reducible refine owk_c1x (f := 27) evs_auto (by kernel_rfl) pick_auto (fun w H => disk_read_is (D := DiskM.new k) i i1 hr rfl H) (fun p => ?_))
      | ((with_reducible refine at_fn 28 ?_); with_reducible refine owk_c1q (f := 28) evs_auto (by kernel_rfl) pick_auto (fun w H => disk_size_is hl H) ?_)
      | ((with_reducible refine at_fn 29 ?_); with_reducible refine owk_c1x (f := 29) evs_auto (by kernel_rfl) pick_auto (fun w H => disk_image_is (n := 256 * k) (by rw [hl]) H) (fun q => ?_))
      | (with_reducible refine is_yk ?_; refine yk_auto (k := ?_))
      | (with_reducible refine is_owk0 ?_; refine owk0_auto (k := ?_))
      | (with_reducible refine is_owkc ?_; refine owk_auto (k := fun _ => ?_))
      | refine go1 (k := ?_)
      | (refine go2 (ka := ?_) (kb := ?_) <;> intro _)
      | fail))
    all_goals exact x_ret1 rfl rfl (fun w H => ⟨rfl, (Sel.st (T := [Old _]) sel_auto H).toBelow'⟩)
  · have hE : (DiskM.new k).ready i = 1 := by
      unfold DiskM.ready at hr ⊢
      rw [hd] at hr ⊢
      simp only [Bool.false_eq_true, if_false] at hr ⊢
      by_cases h : i < 0 ∨ ((DiskM.new k).now.length : Int) ≤ i
      · rw [if_pos h]
      · rw [if_neg h] at hr; omega
    have q : i < 0 ∨ (k : Int) ≤ i := by
      unfold DiskM.ready at hE
      rw [hd, hl] at hE
      simp only [Bool.false_eq_true, if_false] at hE
      by_cases h : i < 0 ∨ (k : Int) ≤ i
      · exact h
      · rw [if_neg h] at hE; omega
    clear hr
    refine calls_w (vs := [.int .i64 n, .int .i64 i]) Try.func5 rfl rfl rfl ?_ w (St.start w)
    (repeat' (first
      | ((with_reducible refine at_fn 26 ?_); with_reducible refine owk_c0s (f := 26) evs_auto (by kernel_rfl) (fun w H => alive11 H) ?_)
      | ((with_reducible refine at_fn 21 ?_); with_reducible refine owk_c0x (f := 21) evs_auto (by kernel_rfl) (fun w H => disk_new_is n n0 n1 hk H) (fun p => ?_))
      | ((with_reducible refine at_fn 27 ?_); with_reducible refine owk_c1q (f := 27) evs_auto (by kernel_rfl) pick_auto (fun w H => disk_read_bad_is (D := DiskM.new k) i i0 i1 hE (by omega) H) ?_)
      | ((with_reducible refine at_fn 28 ?_); with_reducible refine owk_c1q (f := 28) evs_auto (by kernel_rfl) pick_auto (fun w H => disk_size_is hl H) ?_)
      | ((with_reducible refine at_fn 29 ?_); with_reducible refine owk_c1x (f := 29) evs_auto (by kernel_rfl) pick_auto (fun w H => disk_image_is (n := 256 * k) (by rw [hl]) H) (fun q => ?_))
      | (with_reducible refine is_yk ?_; refine yk_auto (k := ?_))
      | (with_reducible refine is_owk0 ?_; refine owk0_auto (k := ?_))
      | (with_reducible refine is_owkc ?_; refine owk_auto (k := fun _ => ?_))
      | refine go1 (k := ?_)
      | (refine go2 (ka := ?_) (kb := ?_) <;> intro _)
      | fail))
    all_goals exact x_ret1 rfl rfl (fun w H => ⟨rfl, (Sel.st (T := [Old _]) sel_auto H).toBelow'⟩)
end Go.Proofs.Ytakeilefbcpabaa
