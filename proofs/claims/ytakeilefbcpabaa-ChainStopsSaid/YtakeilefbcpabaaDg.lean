/- Somebody writes a sector: what Forge does. -/
import Derived.Test.YtakeilefbcpabaaDf
namespace Go.Proofs.Ytakeilefbcpabaa
open Go.RowKit
attribute [local irreducible] Y OW YK OWK W WL WP X CV Ev Evs HasCell HasCells Has Met Again Kept

theorem pad_splice (b : List UInt8) : splice (List.replicate 256 (.int .u8 0)) 0 (bvs b) = bvs (pad b) := by
  rw [replicate_bvs, splice, List.take_zero, List.nil_append, Nat.zero_add, bvs_length, pad, bvs_append]
  simp only [bvs, zeros, ← List.map_drop, List.drop_replicate]
/-- The disk's struct, written out. -/
theorem diskCells_is (n s : Nat) (wv : Value) (D : DiskM) {k : Nat} (hk : D.now.length = k) : diskCells n s wv D = [.slice (some ⟨n, 0, none⟩) k k, .slice (some ⟨s, 0, none⟩) k k, wv, .bool D.down, .int .i64 D.acts, .int .i64 D.fuse, .int .u64 D.keep].toArray := by
  subst hk; rfl
theorem forge_wf {D : DiskM} (h : D.WF) (i : Int) (b : List UInt8) : (D.forge i b).WF := by
  unfold DiskM.forge
  split
  · exact h
  · rename_i he
    have hb : b.length ≤ 256 := by
      unfold DiskM.forgeE at he
      split at he
      · omega
      · split at he <;> omega
    have hp := pad_length b hb
    have hset : ∀ (l : List Sec), (∀ s ∈ l, s.length = 256) → ∀ s ∈ l.set i.toNat (pad b), s.length = 256 := fun l hl s hs => by
      rcases List.mem_or_eq_of_mem_set hs with h' | h'
      · exact hl s h'
      · rw [h']; exact hp
    exact ⟨by simpa using h.most, by simpa using h.same, hset _ h.now, hset _ h.safe, fun x hx => by
      have := h.waits x (List.mem_filter.1 hx).1
      simpa using this, h.fuse0, h.fuse1, h.keep0, h.keep1⟩
theorem others_eq (m : Nat) (l : List (Nat × Sec)) : others (m : Int) l = l.filter fun x => x.1 != m := by
  unfold others
  congr 1
  funext x
  by_cases h : x.1 = m
  · simp [h]
  · have : ¬ ((x.1 : Int) = m) := by omega
    simp [h, this]

section
variable {c : Con} {F : List HP} {w : World} {p t : Nat} {D : DiskM} {i : Int}
set_option maxRecDepth 100000 in
theorem index_nil (H : St c F w) : Calls Try.prog 68 #[.slice none 0 0, delV t] w fun e w' => e = .returned (.int .i64 (-1)) ∧ St c F w' := by
  refine calls_w (vs := [.slice none 0 0, delV t]) Try.func68 rfl rfl rfl ?_ w H
  (repeat' (first
      | (with_reducible refine is_yk ?_; refine yk_auto (k := ?_))
      | (with_reducible refine is_owk0 ?_; refine owk0_auto (k := ?_))
      | (with_reducible refine is_owkc ?_; refine owk_auto (k := fun _ => ?_))
      | refine go1 (k := ?_)
      | (refine go2 (ka := ?_) (kb := ?_) <;> intro _)
      | fail))
  refine w_loop (α := Unit) (fun _ => True) (fun _ => [(7, .int .i64 (0 : Nat)), (8, .int .i64 0)]) (fun _ => _) (fun _ => 0) () trivial sub_auto sel_all (fun _ _ => ?_)
  (repeat' (first
      | (with_reducible refine is_yk ?_; refine yk_auto (k := ?_))
      | (with_reducible refine is_owk0 ?_; refine owk0_auto (k := ?_))
      | (with_reducible refine is_owkc ?_; refine owk_auto (k := fun _ => ?_))
      | refine go1 (k := ?_)
      | (refine go2 (ka := ?_) (kb := ?_) <;> intro _)
      | fail))
  exact x_ret1 rfl rfl (fun w H => ⟨rfl, H⟩)
set_option maxRecDepth 100000 in
theorem delete_nil (H : St c F w) : Calls Try.prog 62 #[.slice none 0 0, delV t] w fun e w' => e = .returned (.slice none 0 0) ∧ St c F w' := by
  refine calls_w (vs := [.slice none 0 0, delV t]) Try.func62 rfl rfl rfl ?_ w H
  (repeat' (first
      | (with_reducible refine is_owkc ?_; first | refine owk_c0s evs_auto (by kernel_rfl) (fun w H => index_nil H) ?_)
      | (with_reducible refine is_yk ?_; refine yk_auto (k := ?_))
      | (with_reducible refine is_owk0 ?_; refine owk0_auto (k := ?_))
      | (with_reducible refine is_owkc ?_; refine owk_auto (k := fun _ => ?_))
      | refine go1 (k := ?_)
      | (refine go2 (ka := ?_) (kb := ?_) <;> intro _)
      | fail))
  exact x_ret1 rfl rfl (fun w H => ⟨rfl, H⟩)

set_option maxRecDepth 100000 in
set_option maxHeartbeats 200000 in
theorem disk_forge (i0 : -9223372036854775808 ≤ i) (i1 : i ≤ 9223372036854775807) (v : Value) (b : List UInt8) (hb : ∀ W, St c F W → Reads W v b.length 1 (bvs b)) (hwl : D.waits.length ≤ 1073741824) (H : St c (DiskAt p D :: F) w) :
    Calls Try.prog 41 #[.pointer (some ⟨p, 0, none⟩), .int .i64 i, v] w fun e w' => e = .returned (.int .i64 (D.forgeE i b.length)) ∧ St c (DiskAt p (D.forge i b) :: F) w' := by
  obtain ⟨A, cap, rfl, hcap, hmax⟩ := (hb w H.tail).form
  obtain ⟨hw, n, s, wv, H⟩ := H.openDisk4
  have hm := hw.most
  obtain ⟨k, hk⟩ : ∃ k, D.now.length = k := ⟨_, rfl⟩
  rw [diskCells_is n s wv D hk] at H
  rw [hk] at hm
  by_cases hi : i < 0 ∨ (k : Int) ≤ i
  · have e1 : D.forgeE i b.length = 1 := by unfold DiskM.forgeE; rw [hk, if_pos hi]
    have e2 : D.forge i b = D := by unfold DiskM.forge; rw [e1]; rfl
    rw [e1, e2]
    refine calls_w (vs := [.pointer (some ⟨p, 0, none⟩), .int .i64 i, .slice A b.length cap]) Try.func41 rfl rfl rfl ?_ w H
    (repeat' (first
      | (with_reducible refine is_w ?_; first | refine w_plan (id := 3) [(0, true), (1, true), (2, true), (3, true), (4, true), (5, true), (6, true), (7, true), (8, true), (9, true), (10, true), (11, true)] _ (by kernel_rfl) (by kernel_rfl) sel_all ?_)
      | (with_reducible refine is_yk ?_; refine yk_auto (k := ?_))
      | (with_reducible refine is_owk0 ?_; refine owk0_auto (k := ?_))
      | (with_reducible refine is_owkc ?_; refine owk_auto (k := fun _ => ?_))
      | refine go1 (k := ?_)
      | (refine go2 (ka := ?_) (kb := ?_) <;> intro _)
      | fail))
    all_goals exact x_ret1 rfl rfl (fun w H => ⟨rfl, shut_disk hw (n := n) (s := s) (wv := wv) H (by rw [diskCells_is n s wv D hk]; exact sel_auto)⟩)
  · have h0 : ¬ i < 0 := fun h => hi (.inl h)
    have h1 : ¬ (k : Int) ≤ i := fun h => hi (.inr h)
    clear hi
    by_cases hlb : 256 < b.length
    · have e1 : D.forgeE i b.length = 3 := by unfold DiskM.forgeE; rw [hk, if_neg (by omega), if_pos hlb]
      have e2 : D.forge i b = D := by unfold DiskM.forge; rw [e1]; rfl
      rw [e1, e2]
      refine calls_w (vs := [.pointer (some ⟨p, 0, none⟩), .int .i64 i, .slice A b.length cap]) Try.func41 rfl rfl rfl ?_ w H
      (repeat' (first
      | (with_reducible refine is_w ?_; first | refine w_plan (id := 3) [(0, true), (1, true), (2, true), (3, true), (4, true), (5, true), (6, true), (7, true), (8, true), (9, true), (10, true), (11, true)] _ (by kernel_rfl) (by kernel_rfl) sel_all ?_)
      | (with_reducible refine is_yk ?_; refine yk_auto (k := ?_))
      | (with_reducible refine is_owk0 ?_; refine owk0_auto (k := ?_))
      | (with_reducible refine is_owkc ?_; refine owk_auto (k := fun _ => ?_))
      | refine go1 (k := ?_)
      | (refine go2 (ka := ?_) (kb := ?_) <;> intro _)
      | fail))
      all_goals exact x_ret1 rfl rfl (fun w H => ⟨rfl, shut_disk hw (n := n) (s := s) (wv := wv) H (by rw [diskCells_is n s wv D hk]; exact sel_auto)⟩)
    · obtain ⟨m, rfl⟩ := Int.eq_ofNat_of_zero_le (show 0 ≤ i by omega)
      have hmk : m < k := by omega
      have e1 : D.forgeE m b.length = 0 := by unfold DiskM.forgeE; rw [hk, if_neg (by omega), if_neg hlb]
      have e2 : D.forge m b = { D with now := D.now.set m (pad b), safe := D.safe.set m (pad b), waits := others m D.waits } := by
        unfold DiskM.forge; rw [e1, others_eq]; rfl
      have hwf := forge_wf hw (m : Int) b
      rw [e2] at hwf
      rw [e1, e2]
      have hpl := pad_length b (by omega)
      have hpv : (bvs (pad b)).length = 256 := by rw [bvs_length, hpl]
      have hone := bvs_oneCell (pad b)
      have hnl : (secs D.now).length = k * 256 := by rw [secs_length hw.now, hk]
      have hset1 : splice (secs D.now) (0 + m * 256) (bvs (pad b)) = secs (D.now.set m (pad b)) := by
        rw [Nat.zero_add]; exact (secs_set hw.now m (by omega) hpl).symm
      have hset2 : splice (secs D.safe) (0 + m * 256) (bvs (pad b)) = secs (D.safe.set m (pad b)) := by
        rw [Nat.zero_add]; exact (secs_set hw.safe m (by rw [hw.same]; omega) hpl).symm
      have hsl : (secs D.safe).length = k * 256 := by rw [secs_length hw.safe, hw.same, hk]
      rcases (St.pull3 H).openOwn with ⟨rfl, hq1, hq2, -⟩ | ⟨g, gc, cur, rfl, q1, q2, q3, q4, -, H2⟩
      · have hw0 : D.waits = [] := List.eq_nil_of_length_eq_zero hq1
        refine calls_w (vs := [.pointer (some ⟨p, 0, none⟩), .int .i64 m, .slice A b.length cap]) Try.func41 rfl rfl rfl ?_ w H
        (repeat' (first
      | (with_reducible refine is_owkc ?_; first | refine owk0 (ow_copy (cur := List.replicate 256 (.int .u8 0)) rfl (ev_tmp rfl) (ev_tmp rfl) pick_auto (fun w H => hb w (Sel.st sel_auto H)) (by omega) (by simp; omega) (bvs_oneCell b) (pad_splice b)) ?_ | refine owk0 (ow_storeE (cs := secs D.now) (ev_tmp rfl) (ev_tmp rfl) hone hpv hset1 upd_auto (by rw [hpv]; omega)) ?_ | refine owk0 (ow_storeE (cs := secs D.safe) (ev_tmp rfl) (ev_tmp rfl) hone hpv hset2 upd_auto (by rw [hpv]; omega)) ?_ | refine owk_c0s evs_auto (by kernel_rfl) (fun w H => delete_nil H) ?_)
      | (with_reducible refine is_w ?_; first | refine w_plan (id := 3) [(0, true), (1, true), (2, true), (3, true), (4, true), (5, true), (6, true), (7, true), (8, true), (9, true), (10, true), (11, true)] _ (by kernel_rfl) (by kernel_rfl) sel_all ?_ | refine w_plan (id := 9) [(0, true), (1, true), (2, true), (3, true), (4, true), (5, true), (6, true), (7, true), (8, true), (9, true), (10, true), (11, true), (12, true), (13, false), (14, false), (15, false)] [Bl _ _ _, Bl _ _ _, Pt p _] (by kernel_rfl) (by kernel_rfl) sel_auto ?_)
      | (with_reducible refine is_yk ?_; refine yk_auto (k := ?_))
      | (with_reducible refine is_owk0 ?_; refine owk0_auto (k := ?_))
      | (with_reducible refine is_owkc ?_; refine owk_auto (k := fun _ => ?_))
      | refine go1 (k := ?_)
      | (refine go2 (ka := ?_) (kb := ?_) <;> intro _)
      | fail))
        have ho : others (m : Int) D.waits = D.waits := by rw [hw0]; rfl
        refine x_ret1 rfl rfl (fun w H => ⟨rfl, shut_disk hwf (n := n) (s := s) (wv := .slice none 0 0) H ?_⟩)
        rw [diskCells_is n s _ _ (k := k) (by show (D.now.set m (pad b)).length = k; rw [List.length_set]; exact hk)]
        show Sel _ (_ :: _ :: _ :: OwnP _ _ _ (others (m : Int) D.waits).length (wcells (others (m : Int) D.waits)) :: _)
        rw [ho]
        exact sel_auto
      · have hwz := szd_w fun x hx => (hw.waits x hx).2
        have hrow : RowFrom wcell 257 cur 0 D.waits := rowFrom_of rfl q4 (by rw [q3]; exact Nat.mul_le_mul_right _ q1)
        refine calls_w (vs := [.pointer (some ⟨p, 0, none⟩), .int .i64 m, .slice A b.length cap]) Try.func41 rfl rfl rfl ?_ w H2
        (repeat' (first
      | (with_reducible refine is_owkc ?_; first | refine owk0 (ow_copy (cur := List.replicate 256 (.int .u8 0)) rfl (ev_tmp rfl) (ev_tmp rfl) pick_auto (fun w H => hb w (Sel.st sel_auto H)) (by omega) (by simp; omega) (bvs_oneCell b) (pad_splice b)) ?_ | refine owk0 (ow_storeE (cs := secs D.now) (ev_tmp rfl) (ev_tmp rfl) hone hpv hset1 upd_auto (by rw [hpv]; omega)) ?_ | refine owk0 (ow_storeE (cs := secs D.safe) (ev_tmp rfl) (ev_tmp rfl) hone hpv hset2 upd_auto (by rw [hpv]; omega)) ?_ | refine owk_c2x evs_auto (by kernel_rfl) pick_auto pick_auto (fun w H => delete_f (i := (m : Int)) hwz hwl hrow q1 q2 H) (fun cu => ?_))
      | (with_reducible refine is_w ?_; first | refine w_plan (id := 3) [(0, true), (1, true), (2, true), (3, true), (4, true), (5, true), (6, true), (7, true), (8, true), (9, true), (10, true), (11, true)] _ (by kernel_rfl) (by kernel_rfl) sel_all ?_ | refine w_plan (id := 9) [(0, true), (1, true), (2, true), (3, true), (4, true), (5, true), (6, true), (7, true), (8, true), (9, true), (10, true), (11, true), (12, true), (13, false), (14, false), (15, false)] [Bl _ _ _, Bl _ _ _, Pt p _] (by kernel_rfl) (by kernel_rfl) sel_auto ?_)
      | (with_reducible refine is_yk ?_; refine yk_auto (k := ?_))
      | (with_reducible refine is_owk0 ?_; refine owk0_auto (k := ?_))
      | (with_reducible refine is_owkc ?_; refine owk_auto (k := fun _ => ?_))
      | refine go1 (k := ?_)
      | (refine go2 (ka := ?_) (kb := ?_) <;> intro _)
      | fail))
        refine x_ret1 rfl rfl (fun w H => ⟨rfl, shut_disk hwf (n := n) (s := s) (wv := .slice (some ⟨g, 0, none⟩) (others (m : Int) D.waits).length gc) H ?_⟩)
        rw [diskCells_is n s _ _ (k := k) (by show (D.now.set m (pad b)).length = k; rw [List.length_set]; exact hk)]
        exact Sel.cons pickd_auto (Sel.cons pickd_auto (Sel.cons pickd_auto (Sel.imp (A := Bl g 111 cu.1) pick_auto
          (own_shut (Nat.le_trans (others_le _ _) q1) q2 (by rw [cu.2.1, q3]) cu.2.2.head) sel_auto)))
end
end Go.Proofs.Ytakeilefbcpabaa
