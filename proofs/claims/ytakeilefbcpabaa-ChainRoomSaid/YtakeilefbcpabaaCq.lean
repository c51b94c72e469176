/- ChainRoom: the walk. -/
import Derived.Test.YtakeilefbcpabaaCo
namespace Go.Proofs.Ytakeilefbcpabaa
open Go.RowKit
attribute [local irreducible] Y OW YK OWK W WL WP X CV Ev Evs HasCell HasCells Has Met Again Kept
set_option maxRecDepth 100000 in
set_option maxHeartbeats 2000000 in
theorem chainRoom_walk (n epoch size : Int) (w : World) (hn : (Lit.int .i64 n).wf = true) (he : (Lit.int .i64 epoch).wf = true) (hs : (Lit.int .i64 size).wf = true) :
    Calls Try.prog 12 #[.int .i64 n, .int .i64 epoch, .int .i64 size] w fun e w' => e = .returned (.bool true) ∧ Below w.heap.size w w' := by
  obtain ⟨n0, n1⟩ := wf64 hn
  obtain ⟨e0, e1⟩ := wf64 he
  obtain ⟨s0, s1⟩ := wf64 hs
  clear hn he hs
  by_cases hg : (0 ≤ n ∧ n ≤ 60) ∧ 0 ≤ epoch ∧ 0 ≤ size ∧ size ≤ 4096
  · obtain ⟨⟨g1, g2⟩, g3, g4, g5⟩ := hg
    obtain ⟨N, rfl⟩ : ∃ N : Nat, n = N := ⟨n.toNat, by omega⟩
    obtain ⟨S, rfl⟩ : ∃ S : Nat, size = S := ⟨size.toNat, by omega⟩
    have hclip : N = clip (N : Int) := by unfold clip; omega
    have hlen := new_length N
    obtain ⟨f, hf⟩ : ∃ f, frameB (zeros S) = f := ⟨_, rfl⟩
    have hfl : f.length = max S 40 + 8 := by rw [← hf, frameB_length, zeros_length]
    have hfne : f ≠ [] := by rw [← hf]; exact frame_ne _
    have hfM : lengthM f = f.length := by rw [← hf]; exact lengthM_frame _ (by rw [zeros_length]; omega)
    obtain ⟨fl, hfl0⟩ : ∃ fl, f.length = fl := ⟨_, rfl⟩
    rw [hfl0] at hfl hfM
    obtain ⟨k, hk⟩ : ∃ k, (fl + 255) / 256 = k := ⟨_, rfl⟩
    have hk1 : 1 ≤ k ∧ k ≤ 100 := by omega
    obtain ⟨h, hh⟩ : ∃ h, N / 2 = h := ⟨_, rfl⟩
    obtain ⟨A0, hA0⟩ : ∃ A0, halfA N epoch = A0 := ⟨_, rfl⟩
    have hA1 : A0.hi = A0.lo + h ∧ A0.pos = A0.lo ∧ A0.lo + h ≤ N := by
      rw [← hA0]; unfold halfA; rw [hh]
      refine ⟨rfl, rfl, ?_⟩
      have : (epoch % 2).toNat = 0 ∨ (epoch % 2).toNat = 1 := by omega
      rcases this with e | e <;> rw [e] <;> dsimp only <;> omega
    obtain ⟨lo, hi, pos⟩ := A0
    dsimp only at hA1
    obtain ⟨rfl, rfl, hlo⟩ := hA1
    have q1 : (N : Int) / 2 = (h : Int) := by omega
    have q2 : (h : Int) / (k : Int) = ((h / k : Nat) : Int) := by rw [Int.natCast_ediv]
    have q3 : ((fl : Int) + 255) / 256 = (k : Int) := by omega
    have hz : zeros S = List.replicate S 0 := rfl
    refine calls_w (vs := [.int .i64 N, .int .i64 epoch, .int .i64 S]) Try.func12 rfl rfl rfl ?_ w (St.start w)
    (repeat' (first
      | ((with_reducible refine at_fn 43 ?_); with_reducible refine owk_c0s evs_auto (by kernel_rfl) (fun w H => alive16 H) ?_)
      | ((with_reducible refine at_fn 21 ?_); with_reducible refine owk_c0x evs_auto (by kernel_rfl) (fun w H => disk_new_is N n0 n1 hclip H) (fun p => ?_))
      | ((with_reducible refine at_fn 44 ?_); with_reducible refine owk_c1x evs_auto (by kernel_rfl) pick_auto (fun w H => c_half epoch ⟨e0, e1⟩ hlen (by omega) hA0 H) (fun a => ?_))
      | ((with_reducible refine at_fn 45 ?_); with_reducible refine owk_c0x evs_auto (by kernel_rfl) (fun w H => by have := framed_ref (zeros S) (by rw [zeros_length]; omega) rfl H; rw [hf, hfl0] at this; exact this) (fun q => ?_))
      | (with_reducible refine at_conv ?_; first | refine yk (y_str (l := zeros S) (n := S) (ev_tmp rfl) (hasR_blZ S)) ?_)
      | (with_reducible refine at_bin ?_; first | refine yk_eq (y_quo64 (ev_tmp rfl) ev_const (by omega)) (congrArg _ q3) ?_)
      | (with_reducible refine is_yk ?_; refine yk_auto (k := ?_))
      | (with_reducible refine is_owk0 ?_; refine owk0_auto (k := ?_))
      | (with_reducible refine is_owkc ?_; refine owk_auto (k := fun _ => ?_))
      | refine go1 (k := ?_)
      | (refine go2 (ka := ?_) (kb := ?_) <;> intro _)
      | fail))
    obtain ⟨⟨q, cap⟩, hcap⟩ := q
    dsimp only at hcap ⊢
    refine w_loop (α := Nat × DiskM) (fun x => k * x.1 ≤ h ∧ Steady x.2 N ((k * x.1 : Nat) : Int) ∧ x.2.waits.length ≤ k * x.1)
      (fun x => [(11, .int .i64 (x.1 : Int)), (0, .int .i64 (N : Int)), (10, .int .i64 (k : Int)), (7, .pointer (some ⟨p, 0, none⟩)), (8, .pointer (some ⟨a, 0, none⟩)), (9, .slice (some ⟨q, 0, none⟩) fl cap)])
      (fun x => [BytesP q cap 5 f, AreaAt a p ⟨pos, pos + h, pos + k * x.1⟩, DiskAt p x.2, Old w]) (fun x => h - x.1) (0, DiskM.new N)
      ⟨Nat.zero_le _, new_calm N, Nat.zero_le _⟩ sub_auto (.cons .hd (.cons (.tl .hd) (.cons (.tl .hd) (.cons (.tl .hd) .nil)))) (fun x hx => ?_)
    obtain ⟨i, D⟩ := x
    obtain ⟨hi, hD, hwl⟩ := hx
    dsimp only at hi hD hwl ⊢
    have hmul : (i : Int) * (k : Int) = ((k * i : Nat) : Int) := by rw [Int.natCast_mul, Int.mul_comm]
    have hleft : ((pos + h : Nat) : Int) - ((pos + k * i : Nat) : Int) = (h : Int) - ((k * i : Nat) : Int) := by omega
    by_cases hlt : i < h / k
    · have hik : k * (i + 1) ≤ h := by
        have := (Nat.le_div_iff_mul_le (by omega : 0 < k)).1 (show i + 1 ≤ h / k from hlt)
        rwa [Nat.mul_comm] at this
      have hks : k * (i + 1) = k * i + k := Nat.mul_succ k i
      have hib : i + 1 ≤ h := Nat.le_trans (Nat.le_mul_of_pos_left _ (by omega)) hik
      have hadd := addM_ok (m := k) (A := ⟨pos, pos + h, pos + k * i⟩) hD hfne (by rw [hfl0]; exact hfM) (by rw [hfl0]; exact hk) (by dsimp only; omega) (by dsimp only; omega) (by omega)
      have hw' := wrTo_waits D (pos + k * i) (chunks f) k
      dsimp only at hadd
      generalize wrTo D (pos + k * i) (chunks f) k = D' at hadd hw'
      obtain ⟨hadd, hD'⟩ := hadd
      have hge : k * i < h := by omega
      generalize hki : k * i = ki at *
      (repeat' (first
      | ((with_reducible refine at_fn 46 ?_); with_reducible refine owk_c1 evs_auto (by kernel_rfl) pick_auto (fun w H => c_left hleft (by dsimp only; omega) H) ?_)
      | ((with_reducible refine at_fn 47 ?_); with_reducible refine owk_c2 evs_auto (by kernel_rfl) pick_auto pick_auto (fun w H => c_add hadd (hasR_bytesN hfl0 hcap) (by omega) (by dsimp only; omega) (by omega) H) ?_)
      | (with_reducible refine at_bin ?_; first | refine yk_eq (y_mul64 (ev_tmp rfl) (ev_tmp rfl) (by rw [hmul]; omega)) (congrArg _ hmul) ?_ | refine yk_eq (y_quo64 (ev_tmp rfl) ev_const (by omega)) (congrArg _ q1) ?_ | refine yk_eq (y_quo64 (ev_tmp rfl) (ev_tmp rfl) (by omega)) (congrArg _ q2) ?_)
      | (with_reducible refine is_yk ?_; refine yk_auto (k := ?_))
      | (with_reducible refine is_owk0 ?_; refine owk0_auto (k := ?_))
      | (with_reducible refine is_owkc ?_; refine owk_auto (k := fun _ => ?_))
      | refine go1 (k := ?_)
      | (refine go2 (ka := ?_) (kb := ?_) <;> intro _)
      | fail))
      have e1 : pos + k * (i + 1) = pos + ki + k := by omega
      refine x_again (i + 1, D') ⟨hik, by dsimp only; rw [hks, Int.natCast_add]; exact hD', by dsimp only; omega⟩ (by show h - (i + 1) < h - i; omega) sub_auto (by dsimp only; rw [e1]; exact sel_auto)
    · have hki1 : k * (h / k) ≤ h := Nat.mul_div_le h k
      have hki2 : h < k * (h / k + 1) := by rw [Nat.mul_succ]; have := Nat.div_add_mod h k; have := Nat.mod_lt h (show 0 < k by omega); omega
      have hie : i = h / k := by
        have : i ≤ h / k := (Nat.le_div_iff_mul_le (by omega : 0 < k)).2 (by rw [Nat.mul_comm]; exact hi)
        omega
      rw [← hie] at q2 hki1 hki2
      rw [Nat.mul_succ] at hki2
      have hfull := addM_full (A := ⟨pos, pos + h, pos + k * i⟩) hD hfne (by rw [hfl0]; exact hfM) (by rw [hfl0, hk]; dsimp only; omega)
      have hacts := hD.acts
      rw [← hie] at hlt
      generalize hki : k * i = ki at *
      (repeat' (first
      | ((with_reducible refine at_fn 46 ?_); with_reducible refine owk_c1 evs_auto (by kernel_rfl) pick_auto (fun w H => c_left hleft (by dsimp only; omega) H) ?_)
      | ((with_reducible refine at_fn 47 ?_); with_reducible refine owk_c2 evs_auto (by kernel_rfl) pick_auto pick_auto (fun w H => c_add hfull (hasR_bytesN hfl0 hcap) (by omega) (by dsimp only; omega) (by omega) H) ?_)
      | ((with_reducible refine at_fn 39 ?_); with_reducible refine owk_c1q evs_auto (by kernel_rfl) pick_auto (fun w H => disk_actsE hacts H) ?_)
      | (with_reducible refine at_bin ?_; first | refine yk_eq (y_mul64 (ev_tmp rfl) (ev_tmp rfl) (by rw [hmul]; omega)) (congrArg _ hmul) ?_ | refine yk_eq (y_quo64 (ev_tmp rfl) ev_const (by omega)) (congrArg _ q1) ?_ | refine yk_eq (y_quo64 (ev_tmp rfl) (ev_tmp rfl) (by omega)) (congrArg _ q2) ?_)
      | (with_reducible refine is_yk ?_; refine yk_auto (k := ?_))
      | (with_reducible refine is_owk0 ?_; refine owk0_auto (k := ?_))
      | (with_reducible refine is_owkc ?_; refine owk_auto (k := fun _ => ?_))
      | refine go1 (k := ?_)
      | (refine go2 (ka := ?_) (kb := ?_) <;> intro _)
      | fail))
      exact x_ret1 rfl rfl (fun w H => ⟨by simp, (Sel.st (T := [Old _]) sel_auto H).toBelow'⟩)
  · refine calls_w (vs := [.int .i64 n, .int .i64 epoch, .int .i64 size]) Try.func12 rfl rfl rfl ?_ w (St.start w)
    (repeat' (first
      | ((with_reducible refine at_fn 43 ?_); with_reducible refine owk_c0s evs_auto (by kernel_rfl) (fun w H => alive16 H) ?_)
      | (with_reducible refine is_yk ?_; refine yk_auto (k := ?_))
      | (with_reducible refine is_owk0 ?_; refine owk0_auto (k := ?_))
      | (with_reducible refine is_owkc ?_; refine owk_auto (k := fun _ => ?_))
      | refine go1 (k := ?_)
      | (refine go2 (ka := ?_) (kb := ?_) <;> intro _)
      | fail))
    all_goals exact x_ret1 rfl rfl (fun w H => ⟨rfl, (Sel.st (T := [Old _]) sel_auto H).toBelow'⟩)
end Go.Proofs.Ytakeilefbcpabaa
