/- Package chain: Next. -/
import Derived.Test.YtakeilefbcpabaaCo
namespace Go.Proofs.Ytakeilefbcpabaa
open Go.RowKit
/-- The first k sectors from pos on. -/
def accB (now : List Sec) (pos k : Nat) : List UInt8 := ((now.drop pos).take k).flatten
theorem accB_zero (now : List Sec) (pos : Nat) : accB now pos 0 = [] := by simp [accB]
theorem accB_succ {now : List Sec} {pos k : Nat} (h : pos + k < now.length) : accB now pos (k + 1) = accB now pos k ++ now[pos + k] := by
  unfold accB
  rw [List.take_succ_eq_append_getElem (by simp; omega), List.flatten_append]
  simp
theorem accB_length {now : List Sec} (hw : ∀ s ∈ now, s.length = 256) {pos : Nat} : ∀ {k : Nat}, pos + k ≤ now.length → (accB now pos k).length = 256 * k
  | 0, _ => by simp [accB]
  | k + 1, h => by rw [accB_succ (by omega), List.length_append, accB_length hw (by omega), hw _ (List.getElem_mem _)]; omega
theorem lengthM_nonneg (b : List UInt8) : 0 ≤ lengthM b ∧ lengthM b ≤ b.length := by
  unfold lengthM
  split
  · rename_i h
    refine ⟨?_, h.2⟩
    have := h.1
    simp [inOk] at this; omega
  · omega
attribute [local irreducible] Y OW YK OWK W WL WP X CV Ev Evs HasCell HasCells Has Met Again Kept
section
variable {c : Con} {F : List HP} {w : World} {p b : Nat} {D D' : DiskM} {A A' : AreaM}
theorem c_next_down (hd : D.down = true) (H : St c (AreaAt b p A :: DiskAt p D :: F) w) : Calls Try.prog 48 #[.pointer (some ⟨b, 0, none⟩)] w fun e w' =>
    e = .returned (.tuple #[.slice none 0 0, .int .i64 8]) ∧ St c (AreaAt b p A :: DiskAt p D :: F) w' := by
  refine calls_w (vs := [.pointer (some ⟨b, 0, none⟩)]) Try.func48 rfl rfl rfl ?_ w H
  (repeat' (first
      | ((with_reducible refine at_fn 40 ?_); with_reducible refine owk_c1q evs_auto (by kernel_rfl) pick_auto (fun w H => disk_downE hd H) ?_)
      | (with_reducible refine is_yk ?_; refine yk_auto (k := ?_))
      | (with_reducible refine is_owk0 ?_; refine owk0_auto (k := ?_))
      | (with_reducible refine is_owkc ?_; refine owk_auto (k := fun _ => ?_))
      | refine go1 (k := ?_)
      | (refine go2 (ka := ?_) (kb := ?_) <;> intro _)
      | fail))
  exact x_ret2 rfl rfl rfl (fun w H => ⟨rfl, H⟩)
set_option maxRecDepth 100000 in
set_option maxHeartbeats 2000000 in
theorem c_next {k lim : Nat} (hd : D.down = false) (hlim : min (A.hi - A.pos) 64 = lim) (hb : A.hi ≤ D.now.length) (hk : k ≤ lim) (hno : ∀ j, j < k → lengthM (accB D.now A.pos (j + 1)) = 0) (hend : k < lim → 0 < lengthM (accB D.now A.pos (k + 1)))
    (H : St c (AreaAt b p A :: DiskAt p D :: F) w) : Calls Try.prog 48 #[.pointer (some ⟨b, 0, none⟩)] w fun e w' =>
    (k < lim ∧ ∃ g : Nat, e = .returned (.tuple #[.slice (some ⟨g, 0, none⟩) (lengthM (accB D.now A.pos (k + 1))).toNat (lengthM (accB D.now A.pos (k + 1))).toNat, .int .i64 0]) ∧
      St c (BkP g ((accB D.now A.pos (k + 1)).take (lengthM (accB D.now A.pos (k + 1))).toNat) :: AreaAt b p { A with pos := A.pos + k + 1 } :: DiskAt p D :: F) w') ∨
    (k = lim ∧ e = .returned (.tuple #[.slice none 0 0, .int .i64 0]) ∧ St c (AreaAt b p A :: DiskAt p D :: F) w') := by
  have hwf := (St.openDisk (Sel.st (.cons (.tl .hd) (.cons .hd sel_all)) H)).1
  have hmost := hwf.most
  obtain ⟨n, hn⟩ : ∃ n, D.now.length = n := ⟨_, rfl⟩
  rw [hn] at hb hmost
  refine calls_w (vs := [.pointer (some ⟨b, 0, none⟩)]) Try.func48 rfl rfl rfl ?_ w H
  (repeat' (first
      | ((with_reducible refine at_fn 40 ?_); with_reducible refine owk_c1q evs_auto (by kernel_rfl) pick_auto (fun w H => disk_downE hd H) ?_)
      | (with_reducible refine is_yk ?_; refine yk_auto (k := ?_))
      | (with_reducible refine is_owk0 ?_; refine owk0_auto (k := ?_))
      | (with_reducible refine is_owkc ?_; refine owk_auto (k := fun _ => ?_))
      | refine go1 (k := ?_)
      | (refine go2 (ka := ?_) (kb := ?_) <;> intro _)
      | fail))
  refine w_loop (α := Nat × Option Addr × Nat) (fun x => x.1 ≤ k)
    (fun x => [(5, .int .i64 ((A.pos + x.1 : Nat) : Int)), (4, .slice x.2.1 (256 * x.1) x.2.2), (0, .pointer (some ⟨b, 0, none⟩))])
    (fun x => OwnP 5 1 (.slice x.2.1 (256 * x.1) x.2.2) (256 * x.1) (bvs (accB D.now A.pos x.1)) :: AreaAt b p A :: DiskAt p D :: F) (fun x => k - x.1) (0, none, 0) (Nat.zero_le _) sub_auto (.own0 sel_all) (fun x hx => ?_)
  obtain ⟨i, S, cap⟩ := x
  dsimp only at hx ⊢
  by_cases hil : i < lim
  · have hin : A.pos + i < n := by omega
    have hacc := accB_succ (now := D.now) (pos := A.pos) (k := i) (by omega)
    have hlen := accB_length hwf.now (pos := A.pos) (k := i) (by omega)
    have hlen' := accB_length hwf.now (pos := A.pos) (k := i + 1) (by omega)
    have hsl : (D.now[A.pos + i]'(by omega)).length = 256 := hwf.now _ (List.getElem_mem _)
    have hgd : D.now.getD (((A.pos + i : Nat) : Int)).toNat [] = D.now[A.pos + i]'(by omega) := by
      rw [Int.toNat_natCast, List.getD_eq_getElem?_getD, List.getElem?_eq_getElem (by omega)]; rfl
    have hready : D.ready ((A.pos + i : Nat) : Int) = 0 := by
      unfold DiskM.ready
      rw [hd, if_neg (by simp), if_neg (by omega)]
    generalize D.now[A.pos + i]'(by omega) = s at hacc hsl hgd
    have hbl : (bvs s).length = 256 := by rw [bvs_length, hsl]
    have hone := bvs_oneCell s
    have hcat : bvs (accB D.now A.pos i) ++ bvs s = bvs (accB D.now A.pos (i + 1)) := by rw [hacc, bvs_append]
    obtain ⟨m, hm⟩ : ∃ m, 256 * (i + 1) = m := ⟨_, rfl⟩
    have hmm : 256 * i + 256 = m := by omega
    have hm0 : 0 < m ∧ m ≤ 16384 := by omega
    obtain ⟨f, hf⟩ : ∃ f, accB D.now A.pos (i + 1) = f := ⟨_, rfl⟩
    rw [hf] at hcat hlen'
    rw [hm] at hlen'
    have hsucc : ((A.pos + i : Nat) : Int) + 1 = ((A.pos + (i + 1) : Nat) : Int) := by omega
    by_cases hik : i < k
    · have hL := hno i hik
      rw [hf] at hL
      (repeat' (first
      | ((with_reducible refine at_fn 27 ?_); with_reducible refine owk_c1x evs_auto (by kernel_rfl) pick_auto (fun w H => disk_read_is _ (by omega) hready hgd H) (fun v => ?_))
      | ((with_reducible refine at_fn 65 ?_); with_reducible refine owk_c0s evs_auto (by kernel_rfl) (fun w H => seg_length rfl hL q.hasR (by omega) H) ?_)
      | (with_reducible refine is_owkc ?_; first | refine owk (ow_opened hm0.1 (ow_appendR (ev_tmp rfl) (ev_tmp rfl) rds_auto hone hmm hcat (by omega) pick_auto)) (fun q => ?_))
      | (with_reducible refine at_bin ?_; first | refine yk_eq (y_add64 (ev_tmp rfl) ev_const (by omega)) (congrArg _ hsucc) ?_)
      | (with_reducible refine is_yk ?_; refine yk_auto (k := ?_))
      | (with_reducible refine is_owk0 ?_; refine owk0_auto (k := ?_))
      | (with_reducible refine is_owkc ?_; refine owk_auto (k := fun _ => ?_))
      | refine go1 (k := ?_)
      | (refine go2 (ka := ?_) (kb := ?_) <;> intro _)
      | fail))
      exact x_again (i + 1, some ⟨q.g, 0, none⟩, q.cap) (by show i + 1 ≤ k; omega) (by show k - (i + 1) < k - i; omega) (by dsimp only; rw [hm]; exact sub_auto)
        (by dsimp only; rw [hm, hf]; exact .imp .hd q.shut (.cons (.tl (.tl .hd)) (.cons (.tl .hd) (.tl sel_all))))
    · obtain rfl : i = k := by omega
      obtain ⟨L0, hL0⟩ : ∃ L0, lengthM f = L0 := ⟨_, rfl⟩
      have hL1 := hend hil
      have hL2 := (lengthM_nonneg f).2
      rw [hf, hL0] at hL1
      rw [hL0, hlen'] at hL2
      obtain ⟨n0, rfl⟩ : ∃ n0 : Nat, L0 = n0 := ⟨L0.toNat, by omega⟩
      have hpos : ((A.pos + i : Nat) : Int) + 1 = ((A.pos + i + 1 : Nat) : Int) := by omega
      have hn0m : n0 ≤ m := by omega
      (repeat' (first
      | ((with_reducible refine at_fn 27 ?_); with_reducible refine owk_c1x evs_auto (by kernel_rfl) pick_auto (fun w H => disk_read_is _ (by omega) hready hgd H) (fun v => ?_))
      | ((with_reducible refine at_fn 65 ?_); with_reducible refine owk_c0s evs_auto (by kernel_rfl) (fun w H => seg_length rfl hL0 q.hasR (by omega) H) ?_)
      | (with_reducible refine is_owkc ?_; first | refine owk (ow_opened hm0.1 (ow_appendR (ev_tmp rfl) (ev_tmp rfl) rds_auto hone hmm hcat (by omega) pick_auto)) (fun q => ?_))
      | (with_reducible refine at_bin ?_; first | refine yk_eq (y_add64 (ev_tmp rfl) ev_const (by omega)) (congrArg _ hpos) ?_)
      | (with_reducible refine at_slice ?_; first | refine yk (y_slice3h (ev_tmp rfl) (ev_tmp rfl) (ev_tmp rfl) (OB.le q hn0m)) ?_)
      | (with_reducible refine is_yk ?_; refine yk_auto (k := ?_))
      | (with_reducible refine is_owk0 ?_; refine owk0_auto (k := ?_))
      | (with_reducible refine is_owkc ?_; refine owk_auto (k := fun _ => ?_))
      | refine go1 (k := ?_)
      | (refine go2 (ka := ?_) (kb := ?_) <;> intro _)
      | fail))

      refine x_ret2 rfl rfl rfl (fun w H => .inl ⟨hil, q.g, ?_, ?_⟩)
      · rw [hf, hL0]; rfl
      · refine Sel.st (.imp .hd (fun h hb => .inr ⟨_, _, _, hb, ?_⟩) (.cons (.tl (.tl .hd)) (.cons (.tl .hd) (.tl sel_all)))) H
        rw [hf, hL0, Int.toNat_natCast, List.length_take, hlen', Nat.min_eq_left hn0m]
        have h1 := congrArg (List.take n0) q.take1
        rw [List.take_take, Nat.min_eq_left hn0m] at h1
        have h2 : List.take n0 (bvs f) = bvs (f.take n0) := by simp [bvs, List.map_take]
        rw [h2] at h1
        exact h1
  · obtain rfl : i = k := by omega
    obtain rfl : i = lim := by omega
    by_cases h64 : A.pos + i < A.hi
    · have h65 : ¬ (((A.pos + i : Nat) : Int) - A.pos < 64) := by omega
      (repeat' (first
      | (with_reducible refine is_yk ?_; refine yk_auto (k := ?_))
      | (with_reducible refine is_owk0 ?_; refine owk0_auto (k := ?_))
      | (with_reducible refine is_owkc ?_; refine owk_auto (k := fun _ => ?_))
      | refine go1 (k := ?_)
      | (refine go2 (ka := ?_) (kb := ?_) <;> intro _)
      | fail))
      exact x_ret2 rfl rfl rfl (fun w H => .inr ⟨rfl, rfl, Sel.st (.tl sel_all) H⟩)
    · (repeat' (first
      | (with_reducible refine is_yk ?_; refine yk_auto (k := ?_))
      | (with_reducible refine is_owk0 ?_; refine owk0_auto (k := ?_))
      | (with_reducible refine is_owkc ?_; refine owk_auto (k := fun _ => ?_))
      | refine go1 (k := ?_)
      | (refine go2 (ka := ?_) (kb := ?_) <;> intro _)
      | fail))
      exact x_ret2 rfl rfl rfl (fun w H => .inr ⟨rfl, rfl, Sel.st (.tl sel_all) H⟩)
end
end Go.Proofs.Ytakeilefbcpabaa
