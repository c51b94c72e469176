/- Part 5 of what the statement rests on: each piece below begins with its own remark. -/
import Derived.Test.YtakeilefbcpabaaPart4
import Derived.DeepKeys
/- The reference disk: Sync, Image, Forge. -/
namespace Go.Proofs.Ytakeilefbcpabaa
open Go.RowKit
theorem hasCells_one {H : World → Prop} {ad : Addr} {v : Value} (h : HasCells H ad [v]) : HasCell H ad v := h 0 v rfl
attribute [local irreducible] Y OW YK OWK W WL WP X CV Ev Evs HasCell HasCells Has Met Again Kept
section
variable {c : Con} {F : List HP} {w : World} {p : Nat} {D D' : DiskM}
set_option maxRecDepth 100000 in
theorem ref_sync {E : Int} (hE : D.syncE = E) (hD : D.sync = D') (H : St c (RefAt p D :: F) w) :
    Calls Try.prog 54 #[.pointer (some ⟨p, 0, none⟩)] w fun e w' => e = .returned (.int .i64 E) ∧ St c (RefAt p D' :: F) w' := by
  subst hE hD
  have hw := H.openRef.1
  refine calls_w (vs := [.pointer (some ⟨p, 0, none⟩)]) Try.func54 rfl rfl rfl ?_ w H
  cases hd : D.down
  · obtain ⟨D1, hD1⟩ : ∃ D1, D.act = D1 := ⟨_, rfl⟩
    have hw1 : D1.WF := hD1 ▸ hw.act
    have hkeep : D1.keep = D.keep := by rw [← hD1]; unfold DiskM.act; split <;> rfl
    have hdn : D1.down = false := by rw [← hD1]; unfold DiskM.act; split <;> exact hd
    have hl0 : HasCell (St c (RefAt p D :: F)) ⟨p, 0 + 3, none⟩ (.bool false) := hd ▸ ref_down
    cases hg : D.goes
    · have h1 : D.syncE = 0 := by simp [DiskM.syncE, hd, hg]
      have h2 : D.sync = { D1 with safe := D1.now, waits := [] } := by rw [← hD1]; simp [DiskM.sync, hd, hg]
      rw [h1, h2]
      (repeat' (first
      | ((with_reducible refine at_fn 59 ?_); with_reducible refine owk_c1 evs_auto (by kernel_rfl) pick_auto (fun w H => ref_act_is hD1 hg H) ?_)
      | ((with_reducible refine at_storeO ?_); with_reducible refine owk0 (ow_store (ev_tmp rfl) (ev_tmp rfl) (q.2.now.one) upd_auto (by simp)) ?_)
      | (with_reducible refine at_load ?_; first | refine yk (y_load (ev_tmp rfl) hl0) ?_)
      | (with_reducible refine is_w ?_; first | refine w_ex (x := .seq (.region 6 _ _) _) (β := RefO D1) (fun w H => ref_opened H) (fun q => ?_))
      | (with_reducible refine is_yk ?_; refine yk_auto (k := ?_))
      | (with_reducible refine is_owk0 ?_; refine owk0_auto (k := ?_))
      | (with_reducible refine is_owkc ?_; refine owk_auto (k := fun _ => ?_))
      | refine go1 (k := ?_)
      | (refine go2 (ka := ?_) (kb := ?_) <;> intro _)
      | fail))
      refine x_ret1 rfl rfl (fun w H => ⟨rfl, ?_⟩)
      have hmost := hw1.most
      exact St.shutRef (D := { D1 with safe := D1.now, waits := [] }) ⟨hw1.most, rfl, hw1.now, hw1.now, (fun x hx => by cases hx), hw1.fuse0, hw1.fuse1, hw1.keep0, hw1.keep1⟩ ⟨q.2.now, q.2.now, InBag.nil _ _⟩ H
    · have h1 : D.syncE = 8 := by simp [DiskM.syncE, hd, hg]
      have h2 : D.sync = D1.off D1.keep := by rw [hkeep, ← hD1]; simp [DiskM.sync, hd, hg]
      rw [h1, h2]
      (repeat' (first
      | ((with_reducible refine at_fn 59 ?_); with_reducible refine owk_c1 evs_auto (by kernel_rfl) pick_auto (fun w H => ref_act_is hD1 hg H) ?_)
      | ((with_reducible refine at_fn 36 ?_); with_reducible refine owk_c1 evs_auto (by kernel_rfl) pick_auto (fun w H => ref_lose D1.keep hw1.keep0 hw1.keep1 H) ?_)
      | (with_reducible refine at_load ?_; first | refine yk (y_load (ev_tmp rfl) hl0) ?_ | refine yk (y_load (ev_tmp rfl) ref_keep) ?_)
      | (with_reducible refine is_yk ?_; refine yk_auto (k := ?_))
      | (with_reducible refine is_owk0 ?_; refine owk0_auto (k := ?_))
      | (with_reducible refine is_owkc ?_; refine owk_auto (k := fun _ => ?_))
      | refine go1 (k := ?_)
      | (refine go2 (ka := ?_) (kb := ?_) <;> intro _)
      | fail))
      exact x_ret1 rfl rfl (fun w H => ⟨rfl, H⟩)
  · have hl0 : HasCell (St c (RefAt p D :: F)) ⟨p, 0 + 3, none⟩ (.bool true) := hd ▸ ref_down
    have h1 : D.syncE = 8 := by simp [DiskM.syncE, hd]
    have h2 : D.sync = D := by simp [DiskM.sync, hd]
    rw [h1, h2]
    (repeat' (first
      | (with_reducible refine at_load ?_; first | refine yk (y_load (ev_tmp rfl) hl0) ?_)
      | (with_reducible refine is_yk ?_; refine yk_auto (k := ?_))
      | (with_reducible refine is_owk0 ?_; refine owk0_auto (k := ?_))
      | (with_reducible refine is_owkc ?_; refine owk_auto (k := fun _ => ?_))
      | refine go1 (k := ?_)
      | (refine go2 (ka := ?_) (kb := ?_) <;> intro _)
      | fail))
    exact x_ret1 rfl rfl (fun w H => ⟨rfl, H⟩)
theorem take_flat (l : List Sec) {j : Nat} {s : Sec} (h : l[j]? = some s) : (l.take j).flatten ++ s = (l.take (j + 1)).flatten := by
  obtain ⟨hj, rfl⟩ := List.getElem?_eq_some_iff.1 h
  rw [List.take_succ_eq_append_getElem hj, List.flatten_append]; simp
set_option maxRecDepth 100000 in
theorem ref_image {l : List UInt8} (hl : D.image = l) (H : St c (RefAt p D :: F) w) : Calls Try.prog 56 #[.pointer (some ⟨p, 0, none⟩)] w fun e w' => e = .returned (str l) ∧ St c (RefAt p D :: F) w' := by
  subst hl
  obtain ⟨hw, m, sN, sS, sW, hin, H⟩ := H.openRef
  obtain ⟨A, cap, e, hcap⟩ := hin.now.form
  obtain ⟨n, hn⟩ : ∃ n, D.now.length = n := ⟨_, rfl⟩
  have hmost := hw.most
  have hN := hin.now
  rw [hn] at e hcap hmost hN
  subst e
  have hlen : ∀ k, k ≤ n → ((D.now.take k).flatten).length = 256 * k := fun k hk => by
    rw [List.length_flatten]
    have h1 : ∀ x ∈ (D.now.take k).map List.length, x = 256 := fun x hx => by
      obtain ⟨s, hs, rfl⟩ := List.mem_map.1 hx
      exact hw.now s (List.mem_of_mem_take hs)
    have h2 : (D.now.take k).map List.length = List.replicate k 256 := List.eq_replicate_iff.2 ⟨by simp; omega, h1⟩
    rw [h2]; simp; omega
  replace H : St c (Bl p 67 [.slice A n cap, sS, sW, .bool D.down, .int .i64 D.acts, .int .i64 D.fuse, .int .u64 D.keep] :: Bag m :: F) w := H
  refine calls_w (vs := [.pointer (some ⟨p, 0, none⟩)]) Try.func56 rfl rfl rfl ?_ w H
  (repeat' (first
      | (with_reducible refine is_yk ?_; refine yk_auto (k := ?_))
      | (with_reducible refine is_owk0 ?_; refine owk0_auto (k := ?_))
      | (with_reducible refine is_owkc ?_; refine owk_auto (k := fun _ => ?_))
      | refine go1 (k := ?_)
      | (refine go2 (ka := ?_) (kb := ?_) <;> intro _)
      | fail))
  refine w_loop (α := Nat) (fun j => j ≤ n) (fun j => [(11, .int .i64 (j : Int)), (10, .int .i64 (n : Int)), (9, .slice A n cap), (3, str ((D.now.take j).flatten))]) (fun _ => Bl p 67 [.slice A n cap, sS, sW, .bool D.down, .int .i64 D.acts, .int .i64 D.fuse, .int .u64 D.keep] :: Bag m :: F) (fun j => n - j) 0 (Nat.zero_le _) sub_auto sel_auto (fun j hj => ?_)
  by_cases hlt : j < n
  · obtain ⟨s, hs⟩ : ∃ s, D.now[j]? = some s := ⟨_, List.getElem?_eq_getElem (by omega)⟩
    have hy : ((D.now.map str).drop (j * 1)).take 1 = [str s] := by
      rw [Nat.mul_one, ← List.map_drop, List.drop_eq_getElem_cons (by omega)]
      obtain ⟨_, e⟩ := List.getElem?_eq_some_iff.1 hs
      simp [e]
    obtain ⟨ad, cap', e, hcell⟩ := hN.at hlt hy rfl
    obtain ⟨rfl, -, rfl⟩ := Value.slice.inj e
    have hc : ∀ (c : Con) (F : List HP), HasCell (St c (Bag m :: F)) (ad.add (j * 1)) (str s) := fun c F => hasCells_one (hcell c F)
    have hsl := hw.now s (List.mem_of_getElem? hs)
    have hl1 := hlen j (by omega)
    have hcat := congrArg str (take_flat D.now hs)
    have hsz : (D.now.take j).flatten.length + s.length ≤ 9223372036854775807 := by omega
    generalize (D.now.take j).flatten = acc at hcat hsz
    (repeat' (first
      | (with_reducible refine at_load ?_; first | refine yk (y_load (ev_tmp rfl) (hasCell_tl (hc _ _))) ?_)
      | (with_reducible refine at_bin ?_; first | refine yk_eq (y_add_s (ev_tmp rfl) (ev_tmp rfl) hsz) hcat ?_)
      | (with_reducible refine is_yk ?_; refine yk_auto (k := ?_))
      | (with_reducible refine is_owk0 ?_; refine owk0_auto (k := ?_))
      | (with_reducible refine is_owkc ?_; refine owk_auto (k := fun _ => ?_))
      | refine go1 (k := ?_)
      | (refine go2 (ka := ?_) (kb := ?_) <;> intro _)
      | fail))
    exact x_again (j + 1) (by show j + 1 ≤ n; omega) (by show n - (j + 1) < n - j; omega) sub_auto sel_auto
  · obtain rfl : j = n := by omega
    have e : (D.now.take j).flatten = D.image := by rw [List.take_of_length_le (by omega)]; rfl
    rw [e]
    (repeat' (first
      | (with_reducible refine is_yk ?_; refine yk_auto (k := ?_))
      | (with_reducible refine is_owk0 ?_; refine owk0_auto (k := ?_))
      | (with_reducible refine is_owkc ?_; refine owk_auto (k := fun _ => ?_))
      | refine go1 (k := ?_)
      | (refine go2 (ka := ?_) (kb := ?_) <;> intro _)
      | fail))
    exact x_ret1 rfl rfl (fun w H => ⟨rfl, St.shutRef hw hin (by rw [refCells]; exact H)⟩)
theorem filter_next {l : List (Nat × Sec)} {j k : Nat} {x : Nat × Sec} (h : l[j]? = some x) : (l.take (j + 1)).filter (fun x => x.1 != k) = (l.take j).filter (fun x => x.1 != k) ++ (if x.1 = k then [] else [x]) := by
  obtain ⟨hj, rfl⟩ := List.getElem?_eq_some_iff.1 h
  rw [List.take_succ_eq_append_getElem hj, List.filter_append]
  congr 1
  by_cases e : l[j].1 = k
  · rw [if_pos e]; simp [e]
  · rw [if_neg e]; simp [e]
/-- Shut again behind a forgery. -/
theorem ref_forged {m m1 m2 : Blocks} {sN sS sW v1 v2 v : Value} {k n : Nat} {b : List UInt8} (hw : D.WF) (hb : b.length ≤ 256) (hin : RefIn m sN sS sW D) (hk : k < D.now.length) (h1 : InBag m1 1 v1 D.now.length ((D.now.set k (pad b)).map str)) (h2 : InBag m2 1 v2 D.safe.length ((D.safe.set k (pad b)).map str)) (hm : ∀ x ∈ m1, x ∈ m2)
    (hn : (D.waits.filter fun x => x.1 != k).length = n)
    (H : St c (OwnP 114 2 v n (rwcells (D.waits.filter fun x => x.1 != k)) :: Bag m2 :: Bl p 67 [v1, v2, v, .bool D.down, .int .i64 D.acts, .int .i64 D.fuse, .int .u64 D.keep] :: F) w) : St c (RefAt p (D.forge (k : Int) b) :: F) w := by
  subst hn
  obtain ⟨m3, h3, h4, H2⟩ := H.ownBag
  have hE : D.forgeE (k : Int) b.length = 0 := by unfold DiskM.forgeE; rw [if_neg (by omega), if_neg (by omega)]
  have e : D.forge (k : Int) b = { D with now := D.now.set k (pad b), safe := D.safe.set k (pad b), waits := D.waits.filter fun x => x.1 != k } := by
    unfold DiskM.forge; rw [if_neg (by rw [hE]; simp), Int.toNat_natCast]
  have hwf := forge_wf hw (k : Int) b
  rw [e] at hwf ⊢
  refine St.shutRef (m := m3) (sN := v1) (sS := v2) (sW := v) hwf ⟨?_, ?_, h3⟩ H2.swap
  · dsimp only; rw [List.length_set]; exact h1.mono fun x hx => h4 x (hm x hx)
  · dsimp only; rw [List.length_set]; exact h2.mono h4
set_option maxRecDepth 100000 in
set_option maxHeartbeats 1000000 in
theorem ref_forge {E : Int} (i : Int) (b : List UInt8) (hE : D.forgeE i b.length = E) (hD : D.forge i b = D') (hwl : D.waits.length ≤ 1073741824) (H : St c (RefAt p D :: F) w) :
    Calls Try.prog 55 #[.pointer (some ⟨p, 0, none⟩), .int .i64 i, str b] w fun e w' => e = .returned (.int .i64 E) ∧ St c (RefAt p D' :: F) w' := by
  obtain ⟨hw, m, sN, sS, sW, hin, H⟩ := H.openRef
  obtain ⟨A, cap, e, hcap⟩ := hin.now.form
  obtain ⟨n, hn⟩ : ∃ n, D.now.length = n := ⟨_, rfl⟩
  have hmost := hw.most
  have hN := hin.now
  have hnE : D.forgeE i b.length = if i < 0 ∨ (n : Int) ≤ i then 1 else if 256 < b.length then 3 else 0 := by unfold DiskM.forgeE; rw [hn]
  rw [hn] at e hcap hmost hN
  subst e
  have hHq : St c (Bl p 67 [.slice A n cap, sS, sW, .bool D.down, .int .i64 D.acts, .int .i64 D.fuse, .int .u64 D.keep] :: Bag m :: F) w := H
  have hshut : ∀ {w : World}, St c (Bl p 67 [.slice A n cap, sS, sW, .bool D.down, .int .i64 D.acts, .int .i64 D.fuse, .int .u64 D.keep] :: Bag m :: F) w → St c (RefAt p D :: F) w := fun H => St.shutRef hw hin (by rw [refCells]; exact H)
  by_cases hbad : i < 0 ∨ (n : Int) ≤ i
  · rw [if_pos hbad] at hnE
    have hDD : D' = D := by rw [← hD]; unfold DiskM.forge; rw [if_pos (by rw [hnE]; decide)]
    rw [hnE] at hE
    subst hE hDD
    refine calls_w (vs := [.pointer (some ⟨p, 0, none⟩), .int .i64 i, str b]) Try.func55 rfl rfl rfl ?_ w hHq
    by_cases h0 : i < 0
    · (repeat' (first
      | (with_reducible refine is_yk ?_; refine yk_auto (k := ?_))
      | (with_reducible refine is_owk0 ?_; refine owk0_auto (k := ?_))
      | (with_reducible refine is_owkc ?_; refine owk_auto (k := fun _ => ?_))
      | refine go1 (k := ?_)
      | (refine go2 (ka := ?_) (kb := ?_) <;> intro _)
      | fail))
      exact x_ret1 rfl rfl (fun w H => ⟨rfl, hshut H⟩)
    · have h1 : (n : Int) ≤ i := by omega
      (repeat' (first
      | (with_reducible refine is_yk ?_; refine yk_auto (k := ?_))
      | (with_reducible refine is_owk0 ?_; refine owk0_auto (k := ?_))
      | (with_reducible refine is_owkc ?_; refine owk_auto (k := fun _ => ?_))
      | refine go1 (k := ?_)
      | (refine go2 (ka := ?_) (kb := ?_) <;> intro _)
      | fail))
      exact x_ret1 rfl rfl (fun w H => ⟨rfl, hshut H⟩)
  · rw [if_neg hbad] at hnE
    obtain ⟨k, rfl⟩ : ∃ k : Nat, i = k := ⟨i.toNat, by omega⟩
    have hk : k < n := by omega
    by_cases hb : 256 < b.length
    · rw [if_pos hb] at hnE
      have hDD : D' = D := by rw [← hD]; unfold DiskM.forge; rw [if_pos (by rw [hnE]; decide)]
      rw [hnE] at hE
      subst hE hDD
      refine calls_w (vs := [.pointer (some ⟨p, 0, none⟩), .int .i64 (k : Int), str b]) Try.func55 rfl rfl rfl ?_ w hHq
      (repeat' (first
      | (with_reducible refine is_yk ?_; refine yk_auto (k := ?_))
      | (with_reducible refine is_owk0 ?_; refine owk0_auto (k := ?_))
      | (with_reducible refine is_owkc ?_; refine owk_auto (k := fun _ => ?_))
      | refine go1 (k := ?_)
      | (refine go2 (ka := ?_) (kb := ?_) <;> intro _)
      | fail))
      exact x_ret1 rfl rfl (fun w H => ⟨rfl, hshut H⟩)
    · rw [if_neg hb] at hnE
      rw [hnE] at hE
      subst hE hD
      have hb' : b.length ≤ 256 := by omega
      have hsafe : D.safe.length = n := by rw [hw.same, hn]
      have hS := hin.safe
      rw [hsafe] at hS
      refine calls_w (vs := [.pointer (some ⟨p, 0, none⟩), .int .i64 (k : Int), str b]) Try.func55 rfl rfl rfl ?_ w hHq
      (repeat' (first
      | ((with_reducible refine at_fn 31 ?_); with_reducible refine owk_c0s evs_auto (by kernel_rfl) (fun w H => ref_full b hb' H) ?_)
      | ((with_reducible refine at_fn 60 ?_); with_reducible refine owk_c1x evs_auto (by kernel_rfl) pick_auto (fun w H => ref_put (pad b) hn hN hk hmost H) (fun q => ?_))
      | ((with_reducible refine at_storeO ?_); with_reducible refine owk0 (ow_store (ev_tmp rfl) (ev_tmp rfl) (q.2.1.one) upd_auto (by simp)) ?_)
      | (with_reducible refine is_w ?_; first | refine w_plan (id := 5) [(0, true), (1, true), (2, true), (3, true), (4, true), (5, true), (6, true), (7, false), (8, false), (9, false), (10, false), (11, false)] [Bl p 67 [.slice A n cap, sS, sW, .bool D.down, .int .i64 D.acts, .int .i64 D.fuse, .int .u64 D.keep]] (by kernel_rfl) (by kernel_rfl) sel_auto ?_ | refine w_stopR (id := 6) ?_)
      | (with_reducible refine is_yk ?_; refine yk_auto (k := ?_))
      | (with_reducible refine is_owk0 ?_; refine owk0_auto (k := ?_))
      | (with_reducible refine is_owkc ?_; refine owk_auto (k := fun _ => ?_))
      | refine go1 (k := ?_)
      | (refine go2 (ka := ?_) (kb := ?_) <;> intro _)
      | fail))
      unfold Stop
      rename_i q
      obtain ⟨⟨m1, v1⟩, hq1, hm1⟩ := q
      dsimp only at hq1 hm1 ⊢
      have hS1 := hS.mono hm1
      refine W.weak (L' := Bag m1 :: Bl p 67 [v1, sS, sW, .bool D.down, .int .i64 D.acts, .int .i64 D.fuse, .int .u64 D.keep] :: F) ?_ sub_refl (.cons .hd (.cons .hd sel_all))
      (repeat' (first
      | ((with_reducible refine at_fn 31 ?_); with_reducible refine owk_c0s evs_auto (by kernel_rfl) (fun w H => ref_full b hb' H) ?_)
      | ((with_reducible refine at_fn 60 ?_); with_reducible refine owk_c1x evs_auto (by kernel_rfl) pick_auto (fun w H => ref_put (pad b) hsafe hS1 hk hmost H) (fun q => ?_))
      | ((with_reducible refine at_storeO ?_); with_reducible refine owk0 (ow_store (ev_tmp rfl) (ev_tmp rfl) (q.2.1.one) upd_auto (by simp)) ?_)
      | (with_reducible refine is_w ?_; first | refine w_plan (id := 6) [(0, true), (1, true), (2, true), (3, true), (4, true), (5, true), (6, true), (7, false), (8, false), (9, false), (10, false), (11, false)] [Bl p 67 [v1, sS, sW, .bool D.down, .int .i64 D.acts, .int .i64 D.fuse, .int .u64 D.keep]] (by kernel_rfl) (by kernel_rfl) sel_auto ?_ | refine w_stopR (id := 7) ?_)
      | (with_reducible refine is_yk ?_; refine yk_auto (k := ?_))
      | (with_reducible refine is_owk0 ?_; refine owk0_auto (k := ?_))
      | (with_reducible refine is_owkc ?_; refine owk_auto (k := fun _ => ?_))
      | refine go1 (k := ?_)
      | (refine go2 (ka := ?_) (kb := ?_) <;> intro _)
      | fail))
      unfold Stop
      rename_i q
      obtain ⟨⟨m2, v2⟩, hq2, hm2⟩ := q
      dsimp only at hq2 hm2 ⊢
      obtain ⟨A2, cap2, e2, hcap2⟩ := hin.waits.form
      have hW := hin.waits.mono fun x hx => hm2 x (hm1 x hx)
      obtain ⟨nw, hnw⟩ : ∃ nw, D.waits.length = nw := ⟨_, rfl⟩
      rw [hnw] at e2 hcap2 hW hwl
      subst e2
      refine W.weak (L' := Bag m2 :: Bl p 67 [v1, v2, .slice A2 nw cap2, .bool D.down, .int .i64 D.acts, .int .i64 D.fuse, .int .u64 D.keep] :: F) ?_ sub_refl (.cons .hd (.cons .hd sel_all))
      (repeat' (first
      | (with_reducible refine is_yk ?_; refine yk_auto (k := ?_))
      | (with_reducible refine is_owk0 ?_; refine owk0_auto (k := ?_))
      | (with_reducible refine is_owkc ?_; refine owk_auto (k := fun _ => ?_))
      | refine go1 (k := ?_)
      | (refine go2 (ka := ?_) (kb := ?_) <;> intro _)
      | fail))
      obtain ⟨Lf, hLf⟩ : ∃ Lf : Nat → List (Nat × Sec), Lf = fun j => (D.waits.take j).filter (fun x => x.1 != k) := ⟨_, rfl⟩
      have hLl : ∀ j, (Lf j).length ≤ nw := fun j => by
        rw [hLf]
        have h1 := List.length_filter_le (fun x : Nat × Sec => x.1 != k) (D.waits.take j)
        rw [List.length_take] at h1
        dsimp only; omega
      have hL0 : Lf 0 = [] := by rw [hLf]; rfl
      refine w_loop (α := Nat × Option Addr × Nat) (fun x => x.1 ≤ nw) (fun x => [(51, .int .i64 (x.1 : Int)), (50, .int .i64 (nw : Int)), (49, .slice A2 nw cap2), (0, .pointer (some ⟨p, 0, none⟩)), (1, .int .i64 (k : Int)), (7, .slice x.2.1 (Lf x.1).length x.2.2)])
        (fun x => OwnP 114 2 (.slice x.2.1 (Lf x.1).length x.2.2) (Lf x.1).length (rwcells (Lf x.1)) :: Bag m2 :: Bl p 67 [v1, v2, .slice A2 nw cap2, .bool D.down, .int .i64 D.acts, .int .i64 D.fuse, .int .u64 D.keep] :: F) (fun x => nw - x.1) (0, none, 0)
        (Nat.zero_le _) (by dsimp only; rw [hL0]; exact sub_auto) (by dsimp only; rw [hL0]; exact .own0 sel_all) (fun x hx => ?_)
      obtain ⟨j, S, capo⟩ := x
      dsimp only at hx ⊢
      by_cases hlt : j < nw
      · obtain ⟨x, hxx⟩ : ∃ x, D.waits[j]? = some x := ⟨_, List.getElem?_eq_getElem (by omega)⟩
        have hnx : Lf (j + 1) = Lf j ++ (if x.1 = k then [] else [x]) := by rw [hLf]; exact filter_next hxx
        have hll := hLl j
        obtain ⟨ad, cap', e, hcell⟩ := hW.at hlt (rwcells_at hxx) rfl
        obtain ⟨rfl, -, rfl⟩ := Value.slice.inj e
        have hxw := (hw.waits x (List.mem_of_getElem? hxx)).1
        have hl2 : [Value.int .i64 (x.1 : Int), str x.2].length = 2 := rfl
        have hl2' : [Value.int .i64 (x.1 : Int), str x.2].length = 1 * 2 := rfl
        have hz2 : [Value.int .i64 0, str []].length = 2 := rfl
        have hone := ref_one x
        obtain ⟨Lj', hLj'⟩ : ∃ Lj', Lf (j + 1) = Lj' := ⟨_, rfl⟩
        have hll' := hLl (j + 1)
        rw [hLj'] at hnx hll'
        generalize Lf j = Lj at hnx hll
        have hc2 : ∀ (c : Con) (F : List HP), HasCells (St c (Bag m2 :: F)) (ad.add (j * 2)) [.int .i64 (x.1 : Int), str x.2] := hcell
        by_cases hxk : x.1 = k
        · rw [if_pos hxk, List.append_nil] at hnx
          subst hnx
          have hxI : (x.1 : Int) = (k : Int) := by rw [hxk]
          (repeat' (first
      | ((with_reducible refine at_storeO ?_); with_reducible refine owk0 (ow_storeAll (ev_tmp rfl) (ev_tmp rfl) hone hl2 upd_auto hz2) ?_)
      | (with_reducible refine at_load ?_; first | refine yk (y_loadN (ev_tmp rfl) (hasCells_tl (hc2 _ _)) hl2) ?_)
      | (with_reducible refine is_yk ?_; refine yk_auto (k := ?_))
      | (with_reducible refine is_owk0 ?_; refine owk0_auto (k := ?_))
      | (with_reducible refine is_owkc ?_; refine owk_auto (k := fun _ => ?_))
      | refine go1 (k := ?_)
      | (refine go2 (ka := ?_) (kb := ?_) <;> intro _)
      | fail))
          exact x_again (j + 1, S, capo) (by show j + 1 ≤ nw; omega) (by show nw - (j + 1) < nw - j; omega) (by dsimp only; rw [hLj']; exact sub_auto) (by dsimp only; rw [hLj']; exact sel_auto)
        · rw [if_neg hxk] at hnx
          have hlen : Lj.length + 1 = Lj'.length := by rw [hnx]; simp
          have hcat : rwcells Lj ++ [Value.int .i64 (x.1 : Int), str x.2] = rwcells Lj' := by rw [hnx, rwcells_append]; rfl
          have hxI : ¬ (x.1 : Int) = (k : Int) := by omega
          have hb2 : Lj'.length ≤ 9223372036854775807 ∧ Lj'.length * 24 ≤ 140737488355328 := by omega
          clear hLf hLl hL0 hnx
          (repeat' (first
      | ((with_reducible refine at_storeO ?_); with_reducible refine owk0 (ow_storeAll (ev_tmp rfl) (ev_tmp rfl) hone hl2 upd_auto hz2) ?_)
      | ((with_reducible refine at_buildSliceO ?_); with_reducible refine owk (ow_buildAgg (cs := [.int .i64 (x.1 : Int), str x.2]) (ev_tmp rfl) hl2 (by decide) (by decide)) (fun bb => ?_))
      | ((with_reducible refine at_builtinO (b := .append) ?_); with_reducible refine owk (ow_append (xs := rwcells Lj) (m := 1) (news := [.int .i64 (x.1 : Int), str x.2]) (ev_tmp rfl) (ev_tmp rfl) (src_has Try.underlying65 (hasCells_all has_auto) hl2' (Nat.le_refl _) (by decide) hone) hlen hcat hb2 pick_auto) (fun ⟨r1, r2⟩ => ?_))
      | (with_reducible refine at_load ?_; first | refine yk (y_loadN (ev_tmp rfl) (hasCells_tl (hc2 _ _)) hl2) ?_ | refine yk (y_loadN (ev_tmp rfl) (hasCells_all has_auto) hl2) ?_)
      | (with_reducible refine is_yk ?_; refine yk_auto (k := ?_))
      | (with_reducible refine is_owk0 ?_; refine owk0_auto (k := ?_))
      | (with_reducible refine is_owkc ?_; refine owk_auto (k := fun _ => ?_))
      | refine go1 (k := ?_)
      | (refine go2 (ka := ?_) (kb := ?_) <;> intro _)
      | fail))
          exact x_again (j + 1, r1, r2) (by show j + 1 ≤ nw; omega) (by show nw - (j + 1) < nw - j; omega) (by dsimp only; rw [hLj']; exact sub_auto) (by dsimp only; rw [hLj']; exact sel_auto)
      · obtain rfl : j = nw := by omega
        have hLj : Lf j = D.waits.filter (fun x => x.1 != k) := by rw [hLf]; dsimp only; rw [List.take_of_length_le (by omega)]
        rw [hLj]
        (repeat' (first
      | (with_reducible refine is_yk ?_; refine yk_auto (k := ?_))
      | (with_reducible refine is_owk0 ?_; refine owk0_auto (k := ?_))
      | (with_reducible refine is_owkc ?_; refine owk_auto (k := fun _ => ?_))
      | refine go1 (k := ?_)
      | (refine go2 (ka := ?_) (kb := ?_) <;> intro _)
      | fail))
        exact x_ret1 rfl rfl (fun w H => ⟨rfl, ref_forged hw hb' hin (by omega) (by rw [hn]; exact hq1) (by rw [hsafe]; exact hq2) hm2 rfl H⟩)
end
end Go.Proofs.Ytakeilefbcpabaa

/- The reference areas: Half, Add, Next. -/
namespace Go.Proofs.Ytakeilefbcpabaa
open Go.RowKit
abbrev RAreaAt (b e : Nat) (A : AreaM) : HP := Bl b 98 [.pointer (some ⟨e, 0, none⟩), .int .i64 A.hi, .int .i64 A.pos]
theorem chunk_take {f : List UInt8} {j n : Nat} (hn : n = min 256 (f.length - 256 * j)) : (f.drop (256 * j)).take n = chunkB f j := by
  subst hn
  unfold chunkB
  rw [List.drop_take, show 256 * j + min 256 (f.length - 256 * j) - 256 * j = min 256 (f.length - 256 * j) by omega]
theorem chunk_drop {f : List UInt8} {j n : Nat} (hn : n = min 256 (f.length - 256 * j)) (hj : 256 * j < f.length) : (f.drop (256 * j)).drop n = f.drop (256 * (j + 1)) := by
  subst hn
  rw [List.drop_drop]
  by_cases h : 256 * (j + 1) ≤ f.length
  · rw [show 256 * j + min 256 (f.length - 256 * j) = 256 * (j + 1) by omega]
  · rw [List.drop_of_length_le (by omega), List.drop_of_length_le (by omega)]
attribute [local irreducible] Y OW YK OWK W WL WP X CV Ev Evs HasCell HasCells Has Met Again Kept
section
variable {c : Con} {F : List HP} {w : World} {p b : Nat} {D D' : DiskM} {A A' : AreaM}
theorem ref_writeE {E : Int} {i : Int} {f : List UInt8} (hE : D.writeE i f.length = E) (hD : D.write i f = D') (hwl : D.waits.length ≤ 1073741824) (H : St c (RefAt p D :: F) w) :
    Calls Try.prog 38 #[.pointer (some ⟨p, 0, none⟩), .int .i64 i, str f] w fun e w' => e = .returned (.int .i64 E) ∧ St c (RefAt p D' :: F) w' := by
  subst hE hD; exact ref_write i f hwl H
set_option maxRecDepth 100000 in
set_option maxHeartbeats 1000000 in
theorem r_add {f : List UInt8} {E : Int} (hA : addM D A f = (E, A', D')) (hn : f.length ≤ 1073741824) (hb : A.hi ≤ 1073741824 ∧ A.pos ≤ 1073741824) (hwl : D.waits.length ≤ 536870912) (H : St c (RAreaAt b p A :: RefAt p D :: F) w) :
    Calls Try.prog 52 #[.pointer (some ⟨b, 0, none⟩), str f] w fun e w' => e = .returned (.int .i64 E) ∧ St c (RAreaAt b p A' :: RefAt p D' :: F) w' := by
  obtain ⟨n, hfl⟩ : ∃ n, f.length = n := ⟨_, rfl⟩
  obtain ⟨m, hm⟩ : ∃ m, (n + 255) / 256 = m := ⟨_, rfl⟩
  have hbad : (f = [] ∨ lengthM f ≠ f.length) → E = 1 ∧ A' = A ∧ D' = D := fun h => by
    rw [addM, if_pos h] at hA; obtain ⟨rfl, h2⟩ := Prod.mk.inj hA; obtain ⟨rfl, rfl⟩ := Prod.mk.inj h2; exact ⟨rfl, rfl, rfl⟩
  have hdown : f ≠ [] → lengthM f = f.length → D.down = true → E = 8 ∧ A' = A ∧ D' = D := fun h1 h2 h3 => by
    rw [addM, if_neg (by simp [h1, h2]), if_pos h3] at hA; obtain ⟨rfl, h2⟩ := Prod.mk.inj hA; obtain ⟨rfl, rfl⟩ := Prod.mk.inj h2; exact ⟨rfl, rfl, rfl⟩
  have hfull : f ≠ [] → lengthM f = f.length → D.down = false → (A.hi : Int) - A.pos < m → E = 7 ∧ A' = A ∧ D' = D := fun h1 h2 h3 h4 => by
    rw [addM, if_neg (by simp [h1, h2]), if_neg (by simp [h3]), hfl, hm, if_pos h4] at hA; obtain ⟨rfl, h2⟩ := Prod.mk.inj hA; obtain ⟨rfl, rfl⟩ := Prod.mk.inj h2; exact ⟨rfl, rfl, rfl⟩
  have hgo : f ≠ [] → lengthM f = f.length → D.down = false → ¬ (A.hi : Int) - A.pos < m → E = (writes D A.pos (chunks f)).1 ∧ A' = (if (writes D A.pos (chunks f)).1 = 0 then { A with pos := A.pos + m } else A) ∧ D' = (writes D A.pos (chunks f)).2 := fun h1 h2 h3 h4 => by
    rw [addM, if_neg (by simp [h1, h2]), if_neg (by simp [h3]), hfl, hm, if_neg h4] at hA; obtain ⟨rfl, h2⟩ := Prod.mk.inj hA; obtain ⟨rfl, rfl⟩ := Prod.mk.inj h2; exact ⟨rfl, rfl, rfl⟩
  clear hA
  obtain ⟨L0, hL0⟩ : ∃ L0, lengthM f = L0 := ⟨_, rfl⟩
  have hf0 : f = [] ↔ n = 0 := by rw [← hfl]; exact List.length_eq_zero_iff.symm
  obtain ⟨dn, hdn⟩ : ∃ dn, D.down = dn := ⟨_, rfl⟩
  rw [hfl, hL0, hdn] at hdown hfull hgo
  rw [hfl, hL0] at hbad
  have hl0 : ∀ {L : List HP}, HasCell (St c (RefAt p D :: L)) ⟨p, 0 + 3, none⟩ (.bool dn) := hdn ▸ ref_down
  have hs0 : Value.string ⟨#[]⟩ = str [] := rfl
  have hfn : f ≠ [] → ¬ f = [] := fun h => h
  refine calls_w (vs := [.pointer (some ⟨b, 0, none⟩), str f]) Try.func52 rfl rfl rfl ?_ w H
  by_cases h0 : f = []
  · obtain ⟨rfl, rfl, rfl⟩ := hbad (.inl h0)
    (repeat' (first
      | (with_reducible refine at_bin ?_; first | refine yk (y_eql_s (ev_tmp rfl) ev_const) ?_)
      | (with_reducible refine is_yk ?_; refine yk_auto (k := ?_))
      | (with_reducible refine is_owk0 ?_; refine owk0_auto (k := ?_))
      | (with_reducible refine is_owkc ?_; refine owk_auto (k := fun _ => ?_))
      | refine go1 (k := ?_)
      | (refine go2 (ka := ?_) (kb := ?_) <;> intro _)
      | fail))
    exact x_ret1 rfl rfl (fun w H => ⟨rfl, H⟩)
  · by_cases h1 : L0 = (n : Int)
    · (repeat' (first
      | ((with_reducible refine at_fn 49 ?_); with_reducible refine owk_c0s evs_auto (by kernel_rfl) (fun w H => ref_length hL0 H) ?_)
      | (with_reducible refine at_bin ?_; first | refine yk (y_eql_s (ev_tmp rfl) ev_const) ?_)
      | (with_reducible refine at_load ?_; first | refine yk (y_load (ev_tmp rfl) (hasCell_tl hl0)) ?_)
      | (with_reducible refine is_w ?_; first | refine w_plan (id := 5) [(0, true), (1, true), (2, true), (3, true), (4, true), (5, true), (6, true), (7, true), (8, true), (9, true), (10, true), (11, true), (12, true)] _ (by kernel_rfl) (by kernel_rfl) sel_all ?_)
      | (with_reducible refine is_yk ?_; refine yk_auto (k := ?_))
      | (with_reducible refine is_owk0 ?_; refine owk0_auto (k := ?_))
      | (with_reducible refine is_owkc ?_; refine owk_auto (k := fun _ => ?_))
      | refine go1 (k := ?_)
      | (refine go2 (ka := ?_) (kb := ?_) <;> intro _)
      | fail))
      · rename_i k
        obtain ⟨rfl, rfl, rfl⟩ := hdown h0 h1 k
        exact x_ret1 rfl rfl (fun w H => ⟨rfl, H⟩)
      · rename_i k1 k2
        obtain ⟨rfl, rfl, rfl⟩ := hfull h0 h1 k1 (by omega)
        exact x_ret1 rfl rfl (fun w H => ⟨rfl, H⟩)
      rename_i k1 k2
      have hgo := hgo h0 h1 k1 (by omega)
      have hcl : (chunks f).length = m := by rw [chunks_length, hfl, hm]
      have hcg : ∀ j, j < m → (chunks f).getD j [] = chunkB f j := fun j hj => chunks_get f (by rw [hfl, hm]; exact hj)
      generalize chunks f = cs at hgo hcl hcg
      refine w_loop (α := Nat) (fun j => j ≤ m ∧ ∀ i, i < j → wrE D A.pos cs i = 0) (fun j => [(1, str (f.drop (256 * j))), (5, .int .i64 ((A.pos + j : Nat) : Int)), (0, .pointer (some ⟨b, 0, none⟩))])
        (fun j => RAreaAt b p A :: RefAt p (wrTo D A.pos cs j) :: F) (fun j => m - j) 0 ⟨Nat.zero_le _, fun i hi => by omega⟩ sub_auto sel_auto (fun j hj => ?_)
      obtain ⟨hjm, hok⟩ := hj
      by_cases hlt : j < m
      · have hjn : 256 * j < f.length := by omega
        obtain ⟨k, hk⟩ : ∃ k, k = min 256 (f.length - 256 * j) := ⟨_, rfl⟩
        have hdl : (f.drop (256 * j)).length = n - 256 * j := by rw [List.length_drop, hfl]
        have hct := chunk_take hk
        have hcd := chunk_drop hk hjn
        have hkl : k ≤ (f.drop (256 * j)).length := by omega
        have hcl' : (chunkB f j).length = k := by rw [chunkB_length, hk]
        have hEi : (wrTo D A.pos cs j).writeE ((A.pos + j : Nat) : Int) (cs.getD j []).length = wrE D A.pos cs j := rfl
        have hDi : (wrTo D A.pos cs j).write ((A.pos + j : Nat) : Int) (cs.getD j []) = wrTo D A.pos cs (j + 1) := rfl
        have hwi := wrTo_waits D A.pos cs j
        rw [hcg j hlt] at hEi hDi
        obtain ⟨Ei, hEi'⟩ : ∃ Ei, wrE D A.pos cs j = Ei := ⟨_, rfl⟩
        rw [hEi'] at hEi
        have hsum : ((A.pos + j : Nat) : Int) + 1 = ((A.pos + (j + 1) : Nat) : Int) := by omega
        generalize hdd : f.drop (256 * j) = fd at hdl hct hcd hkl
        by_cases hbig : 256 < n - 256 * j
        · have hkI : (256 : Int) = (k : Int) := by omega
          have hbigI : 256 < (fd.length : Int) := by omega
          (repeat' (first
      | ((with_reducible refine at_fn 38 ?_); with_reducible refine owk_c1 evs_auto (by kernel_rfl) pick_auto (fun w H => ref_writeE hEi hDi (by omega) H) ?_)
      | (with_reducible refine at_slice ?_; first | refine yk (y_strHi (ev_tmp rfl) (ev_tmp rfl) hkI hkl hct) ?_ | refine yk (y_strLo (ev_tmp rfl) (ev_tmp rfl) hkI hkl hcd) ?_)
      | (with_reducible refine at_bin ?_; first | refine yk_eq (y_add64 (ev_tmp rfl) ev_const (by omega)) (congrArg _ hsum) ?_)
      | (with_reducible refine is_w ?_; first | refine w_plan (id := 12) [(0, true), (1, true), (2, true), (3, true), (4, true), (5, true), (6, true), (7, true), (8, false), (9, false)] [RAreaAt b p A] (by kernel_rfl) (by kernel_rfl) sel_auto ?_)
      | (with_reducible refine is_yk ?_; refine yk_auto (k := ?_))
      | (with_reducible refine is_owk0 ?_; refine owk0_auto (k := ?_))
      | (with_reducible refine is_owkc ?_; refine owk_auto (k := fun _ => ?_))
      | refine go1 (k := ?_)
      | (refine go2 (ka := ?_) (kb := ?_) <;> intro _)
      | fail))
          · rename_i kk
            have hw := writes_bad cs D A.pos j (by omega) hok (by rw [hEi']; exact kk)
            rw [hEi'] at hw
            rw [hw, if_neg kk] at hgo
            obtain ⟨rfl, rfl, rfl⟩ := hgo
            exact x_ret1 rfl rfl (fun w H => ⟨rfl, H.swap⟩)
          · rename_i kk
            exact x_again (j + 1) ⟨by show j + 1 ≤ m; omega, fun i hi => by
              rcases Nat.lt_or_eq_of_le (Nat.lt_succ_iff.1 hi) with h1 | rfl
              · exact hok i h1
              · rw [hEi']; omega⟩ (by show m - (j + 1) < m - j; omega) sub_auto sel_auto
        · have hkI : (fd.length : Int) = (k : Int) := by omega
          have hbigI : ¬ 256 < (fd.length : Int) := by omega
          have hpos : 0 < (fd.length : Int) := by omega
          (repeat' (first
      | ((with_reducible refine at_fn 38 ?_); with_reducible refine owk_c1 evs_auto (by kernel_rfl) pick_auto (fun w H => ref_writeE hEi hDi (by omega) H) ?_)
      | (with_reducible refine at_slice ?_; first | refine yk (y_strHi (ev_tmp rfl) (ev_tmp rfl) hkI hkl hct) ?_ | refine yk (y_strLo (ev_tmp rfl) (ev_tmp rfl) hkI hkl hcd) ?_)
      | (with_reducible refine at_bin ?_; first | refine yk_eq (y_add64 (ev_tmp rfl) ev_const (by omega)) (congrArg _ hsum) ?_)
      | (with_reducible refine is_w ?_; first | refine w_plan (id := 12) [(0, true), (1, true), (2, true), (3, true), (4, true), (5, true), (6, true), (7, true), (8, false), (9, false)] [RAreaAt b p A] (by kernel_rfl) (by kernel_rfl) sel_auto ?_)
      | (with_reducible refine is_yk ?_; refine yk_auto (k := ?_))
      | (with_reducible refine is_owk0 ?_; refine owk0_auto (k := ?_))
      | (with_reducible refine is_owkc ?_; refine owk_auto (k := fun _ => ?_))
      | refine go1 (k := ?_)
      | (refine go2 (ka := ?_) (kb := ?_) <;> intro _)
      | fail))
          · rename_i kk
            have hw := writes_bad cs D A.pos j (by omega) hok (by rw [hEi']; exact kk)
            rw [hEi'] at hw
            rw [hw, if_neg kk] at hgo
            obtain ⟨rfl, rfl, rfl⟩ := hgo
            exact x_ret1 rfl rfl (fun w H => ⟨rfl, H.swap⟩)
          · rename_i kk
            exact x_again (j + 1) ⟨by show j + 1 ≤ m; omega, fun i hi => by
              rcases Nat.lt_or_eq_of_le (Nat.lt_succ_iff.1 hi) with h1 | rfl
              · exact hok i h1
              · rw [hEi']; omega⟩ (by show m - (j + 1) < m - j; omega) sub_auto sel_auto
      · obtain rfl : j = m := by omega
        have hnil : f.drop (256 * j) = [] := List.drop_of_length_le (by omega)
        have hw := writes_ok cs D A.pos (by rw [hcl]; exact hok)
        rw [hcl] at hw
        rw [hw, if_pos rfl] at hgo
        obtain ⟨rfl, rfl, rfl⟩ := hgo
        rw [hnil]
        (repeat' (first
      | (with_reducible refine is_yk ?_; refine yk_auto (k := ?_))
      | (with_reducible refine is_owk0 ?_; refine owk0_auto (k := ?_))
      | (with_reducible refine is_owkc ?_; refine owk_auto (k := fun _ => ?_))
      | refine go1 (k := ?_)
      | (refine go2 (ka := ?_) (kb := ?_) <;> intro _)
      | fail))
        exact x_ret1 rfl rfl (fun w H => ⟨rfl, H⟩)
    · obtain ⟨rfl, rfl, rfl⟩ := hbad (.inr h1)
      (repeat' (first
      | ((with_reducible refine at_fn 49 ?_); with_reducible refine owk_c0s evs_auto (by kernel_rfl) (fun w H => ref_length hL0 H) ?_)
      | (with_reducible refine at_bin ?_; first | refine yk (y_eql_s (ev_tmp rfl) ev_const) ?_)
      | (with_reducible refine is_yk ?_; refine yk_auto (k := ?_))
      | (with_reducible refine is_owk0 ?_; refine owk0_auto (k := ?_))
      | (with_reducible refine is_owkc ?_; refine owk_auto (k := fun _ => ?_))
      | refine go1 (k := ?_)
      | (refine go2 (ka := ?_) (kb := ?_) <;> intro _)
      | fail))
      exact x_ret1 rfl rfl (fun w H => ⟨rfl, H⟩)
theorem St.openRefN (H : St c (RefAt p D :: F) w) : D.WF ∧ ∃ q : { q : RefO D × Option Addr × Nat // q.1.1.2.1 = .slice q.2.1 D.now.length q.2.2 ∧ D.now.length ≤ q.2.2 ∧ q.2.2 ≤ 9223372036854775807 }, St c (Bl p 67 [.slice q.1.2.1 D.now.length q.1.2.2, q.1.1.1.2.2.1, q.1.1.1.2.2.2, .bool D.down, .int .i64 D.acts, .int .i64 D.fuse, .int .u64 D.keep] :: Bag q.1.1.1.1 :: F) w := by
  obtain ⟨hw, m, sN, sS, sW, hin, H⟩ := H.openRef
  obtain ⟨A, cap, e, hcap⟩ := hin.now.form
  have H' : St c (Bl p 67 [.slice A D.now.length cap, sS, sW, .bool D.down, .int .i64 D.acts, .int .i64 D.fuse, .int .u64 D.keep] :: Bag m :: F) w := by rw [← e]; exact H
  exact ⟨hw, ⟨⟨⟨(m, sN, sS, sW), hin⟩, A, cap⟩, e, hcap⟩, H'⟩
set_option maxRecDepth 100000 in
theorem r_half {n : Nat} {R : AreaM} (epoch : Int) (he : 0 ≤ epoch ∧ epoch ≤ 9223372036854775807) (hn : D.now.length = n) (hR : halfA n epoch = R) (H : St c (RefAt p D :: F) w) : Calls Try.prog 51 #[.pointer (some ⟨p, 0, none⟩), .int .i64 epoch] w fun e w' =>
    ∃ b, e = .returned (.pointer (some ⟨b, 0, none⟩)) ∧ St c (RAreaAt b p R :: RefAt p D :: F) w' := by
  subst hR
  obtain ⟨hw, ⟨⟨⟨⟨m, sN, sS, sW⟩, hin⟩, A, cap⟩, hq⟩, H⟩ := H.openRefN
  dsimp only at hq H
  rw [hn] at hq H
  have hmost := hw.most
  rw [hn] at hmost
  have hshut : ∀ {F : List HP} {w : World}, St c (Bl p 67 [.slice A n cap, sS, sW, .bool D.down, .int .i64 D.acts, .int .i64 D.fuse, .int .u64 D.keep] :: Bag m :: F) w → St c (RefAt p D :: F) w := fun H => St.shutRef hw hin (by rw [refCells, hq.1]; exact H)
  obtain ⟨h, hh⟩ : ∃ h, n / 2 = h := ⟨_, rfl⟩
  have q1 : (n : Int) / 2 = (h : Int) := by omega
  have q2 : 2 * (h : Int) = ((2 * h : Nat) : Int) := by omega
  refine calls_w (vs := [.pointer (some ⟨p, 0, none⟩), .int .i64 epoch]) Try.func51 rfl rfl rfl ?_ w H
  by_cases h0 : epoch % 2 = 0
  · have hR : halfA n epoch = ⟨0, h, 0⟩ := by unfold halfA; rw [hh, h0]; simp
    rw [hR]
    have hb : Value.agg (([.pointer none, .int .i64 0, .int .i64 0].set 0 (.pointer (some ⟨p, 0, none⟩))).set 1 (.int .i64 (h : Int))).toArray = .agg [.pointer (some ⟨p, 0, none⟩), .int .i64 (h : Int), .int .i64 0].toArray := rfl
    (repeat' (first
      | (with_reducible refine at_bin ?_; first | refine yk_eq (y_quo64 (ev_tmp rfl) ev_const (by omega)) (congrArg _ q1) ?_ | refine yk_eq (y_rem (ev_tmp rfl) ev_const (by omega)) (congrArg _ h0) ?_)
      | (with_reducible refine at_build ?_; first | refine yk_eq (y_build lay_auto) hb ?_)
      | (with_reducible refine is_yk ?_; refine yk_auto (k := ?_))
      | (with_reducible refine is_owk0 ?_; refine owk0_auto (k := ?_))
      | (with_reducible refine is_owkc ?_; refine owk_auto (k := fun _ => ?_))
      | refine go1 (k := ?_)
      | (refine go2 (ka := ?_) (kb := ?_) <;> intro _)
      | fail))
    exact x_ret1 rfl rfl (fun w H => ⟨_, rfl, (hshut H.push2).swap⟩)
  · have h1 : epoch % 2 = 1 := by omega
    have hR : halfA n epoch = ⟨h, 2 * h, h⟩ := by unfold halfA; rw [hh, h1, show 2 * h = h + h by omega]; simp
    rw [hR]
    have hb : Value.agg ((([.pointer none, .int .i64 0, .int .i64 0].set 0 (.pointer (some ⟨p, 0, none⟩))).set 2 (.int .i64 (h : Int))).set 1 (.int .i64 ((2 * h : Nat) : Int))).toArray = .agg [.pointer (some ⟨p, 0, none⟩), .int .i64 ((2 * h : Nat) : Int), .int .i64 (h : Int)].toArray := rfl
    (repeat' (first
      | (with_reducible refine at_bin ?_; first | refine yk_eq (y_quo64 (ev_tmp rfl) ev_const (by omega)) (congrArg _ q1) ?_ | refine yk_eq (y_rem (ev_tmp rfl) ev_const (by omega)) (congrArg _ h1) ?_ | refine yk_eq (y_mul64 ev_const (ev_tmp rfl) (by omega)) (congrArg _ q2) ?_)
      | (with_reducible refine at_build ?_; first | refine yk_eq (y_build lay_auto) hb ?_)
      | (with_reducible refine is_yk ?_; refine yk_auto (k := ?_))
      | (with_reducible refine is_owk0 ?_; refine owk0_auto (k := ?_))
      | (with_reducible refine is_owkc ?_; refine owk_auto (k := fun _ => ?_))
      | refine go1 (k := ?_)
      | (refine go2 (ka := ?_) (kb := ?_) <;> intro _)
      | fail))
    exact x_ret1 rfl rfl (fun w H => ⟨_, rfl, (hshut H.push2).swap⟩)
end
end Go.Proofs.Ytakeilefbcpabaa

/- The reference areas: Next. -/
namespace Go.Proofs.Ytakeilefbcpabaa
open Go.RowKit
attribute [local irreducible] Y OW YK OWK W WL WP X CV Ev Evs HasCell HasCells Has Met Again Kept
section
variable {c : Con} {F : List HP} {w : World} {p b : Nat} {D D' : DiskM} {A A' : AreaM}
theorem r_next_down (hd : D.down = true) (H : St c (RAreaAt b p A :: RefAt p D :: F) w) : Calls Try.prog 53 #[.pointer (some ⟨b, 0, none⟩)] w fun e w' =>
    e = .returned (.tuple #[str [], .int .i64 8]) ∧ St c (RAreaAt b p A :: RefAt p D :: F) w' := by
  have hl0 : ∀ {L : List HP}, HasCell (St c (RefAt p D :: L)) ⟨p, 0 + 3, none⟩ (.bool true) := hd ▸ ref_down
  have hs0 : Value.string ⟨#[]⟩ = str [] := rfl
  refine calls_w (vs := [.pointer (some ⟨b, 0, none⟩)]) Try.func53 rfl rfl rfl ?_ w H
  (repeat' (first
      | (with_reducible refine at_load ?_; first | refine yk (y_load (ev_tmp rfl) (hasCell_tl hl0)) ?_)
      | (with_reducible refine is_yk ?_; refine yk_auto (k := ?_))
      | (with_reducible refine is_owk0 ?_; refine owk0_auto (k := ?_))
      | (with_reducible refine is_owkc ?_; refine owk_auto (k := fun _ => ?_))
      | refine go1 (k := ?_)
      | (refine go2 (ka := ?_) (kb := ?_) <;> intro _)
      | fail))
  exact x_ret2 rfl rfl rfl (fun w H => ⟨rfl, H⟩)
set_option maxRecDepth 100000 in
set_option maxHeartbeats 2000000 in
theorem r_next {k lim : Nat} (hpb : A.pos ≤ 1073741824) (hd : D.down = false) (hlim : min (A.hi - A.pos) 64 = lim) (hb : A.hi ≤ D.now.length) (hk : k ≤ lim) (hno : ∀ j, j < k → lengthM (accB D.now A.pos (j + 1)) = 0) (hend : k < lim → 0 < lengthM (accB D.now A.pos (k + 1)))
    (H : St c (RAreaAt b p A :: RefAt p D :: F) w) : Calls Try.prog 53 #[.pointer (some ⟨b, 0, none⟩)] w fun e w' =>
    (k < lim ∧ e = .returned (.tuple #[str ((accB D.now A.pos (k + 1)).take (lengthM (accB D.now A.pos (k + 1))).toNat), .int .i64 0]) ∧ St c (RAreaAt b p { A with pos := A.pos + k + 1 } :: RefAt p D :: F) w') ∨
    (k = lim ∧ e = .returned (.tuple #[str [], .int .i64 0]) ∧ St c (RAreaAt b p A :: RefAt p D :: F) w') := by
  obtain ⟨hwf, ⟨⟨⟨⟨m, sN, sS, sW⟩, hin⟩, S, cap⟩, hq⟩, H⟩ := H.swap.openRefN
  dsimp only at hq H
  obtain ⟨n, hn⟩ : ∃ n, D.now.length = n := ⟨_, rfl⟩
  have hmost := hwf.most
  have hN := hin.now
  rw [hq.1] at hN
  rw [hn] at hq H hb hmost hN
  rw [hd] at H
  have hshut : ∀ {A' : AreaM} {w : World}, St c (RAreaAt b p A' :: Bl p 67 [.slice S n cap, sS, sW, .bool false, .int .i64 D.acts, .int .i64 D.fuse, .int .u64 D.keep] :: Bag m :: F) w → St c (RAreaAt b p A' :: RefAt p D :: F) w := fun H => St.swap (St.shutRef (sN := sN) (sS := sS) (sW := sW) hwf hin (by rw [refCells, hq.1, hd]; exact H.push2))
  have hs0 : Value.string ⟨#[]⟩ = str [] := rfl
  replace H := H.pull2
  refine calls_w (vs := [.pointer (some ⟨b, 0, none⟩)]) Try.func53 rfl rfl rfl ?_ w H
  (repeat' (first
      | (with_reducible refine is_yk ?_; refine yk_auto (k := ?_))
      | (with_reducible refine is_owk0 ?_; refine owk0_auto (k := ?_))
      | (with_reducible refine is_owkc ?_; refine owk_auto (k := fun _ => ?_))
      | refine go1 (k := ?_)
      | (refine go2 (ka := ?_) (kb := ?_) <;> intro _)
      | fail))
  refine w_loop (α := Nat) (fun i => i ≤ k) (fun i => [(5, .int .i64 (i : Int)), (4, str (accB D.now A.pos i)), (0, .pointer (some ⟨b, 0, none⟩))])
    (fun _ => RAreaAt b p A :: Bl p 67 [.slice S n cap, sS, sW, .bool false, .int .i64 D.acts, .int .i64 D.fuse, .int .u64 D.keep] :: Bag m :: F) (fun i => k - i) 0 (Nat.zero_le _) sub_auto sel_auto (fun i hx => ?_)
  by_cases hil : i < lim
  · have hin' : A.pos + i < n := by omega
    have hi64 : i < 64 := by omega
    have hih : A.pos + i < A.hi := by omega
    obtain ⟨s, hs⟩ : ∃ s, D.now[A.pos + i]? = some s := ⟨_, List.getElem?_eq_getElem (by omega)⟩
    have hacc := accB_succ (now := D.now) (pos := A.pos) (k := i) (by omega)
    have hlen := accB_length hwf.now (pos := A.pos) (k := i) (by omega)
    have hlen' := accB_length hwf.now (pos := A.pos) (k := i + 1) (by omega)
    have hsl := hwf.now s (List.mem_of_getElem? hs)
    have hse : D.now[A.pos + i]'(by omega) = s := (List.getElem?_eq_some_iff.1 hs).2
    rw [hse] at hacc
    have hy : ((D.now.map str).drop ((A.pos + i) * 1)).take 1 = [str s] := by
      rw [Nat.mul_one, ← List.map_drop, List.drop_eq_getElem_cons (by omega), hse]; rfl
    obtain ⟨ad, cap', e, hcell⟩ := hN.at hin' hy rfl
    obtain ⟨rfl, -, rfl⟩ := Value.slice.inj e
    have hc : ∀ (c : Con) (F : List HP), HasCell (St c (Bag m :: F)) (ad.add ((A.pos + i) * 1)) (str s) := fun c F => hasCells_one (hcell c F)
    have hsum : (A.pos : Int) + (i : Int) = ((A.pos + i : Nat) : Int) := by omega
    have hcat : str (accB D.now A.pos i ++ s) = str (accB D.now A.pos (i + 1)) := by rw [hacc]
    have hsz : (accB D.now A.pos i).length + s.length ≤ 9223372036854775807 := by omega
    obtain ⟨f, hf⟩ : ∃ f, accB D.now A.pos (i + 1) = f := ⟨_, rfl⟩
    rw [hf] at hcat hlen'
    by_cases hik : i < k
    · have hL := hno i hik
      rw [hf] at hL
      clear hno hend hcell hacc
      (repeat' (first
      | ((with_reducible refine at_fn 49 ?_); with_reducible refine owk_c0s evs_auto (by kernel_rfl) (fun w H => ref_length hL H) ?_)
      | (with_reducible refine at_load ?_; first | refine yk (y_load (ev_tmp rfl) (hasCell_tl (hasCell_tl (hc _ _)))) ?_)
      | (with_reducible refine at_bin ?_; first | refine yk_eq (y_add64 (ev_tmp rfl) (ev_tmp rfl) (by omega)) (congrArg _ hsum) ?_ | refine yk_eq (y_add_s (ev_tmp rfl) (ev_tmp rfl) hsz) hcat ?_)
      | (with_reducible refine is_w ?_; first | refine w_plan (id := 5) [(0, true), (1, true), (2, true), (3, true), (4, true), (5, true), (6, true), (7, true), (8, true), (9, true), (10, true), (11, true), (12, true), (13, true), (14, true)] _ (by kernel_rfl) (by kernel_rfl) sel_all ?_ | refine w_plan (id := 7) [(0, true), (1, true), (2, true), (3, true), (4, true), (5, true), (6, true), (7, true), (8, true), (9, true), (10, true), (11, true), (12, true), (13, true), (14, true), (15, true), (16, true), (17, true)] _ (by kernel_rfl) (by kernel_rfl) sel_all ?_)
      | (with_reducible refine is_yk ?_; refine yk_auto (k := ?_))
      | (with_reducible refine is_owk0 ?_; refine owk0_auto (k := ?_))
      | (with_reducible refine is_owkc ?_; refine owk_auto (k := fun _ => ?_))
      | refine go1 (k := ?_)
      | (refine go2 (ka := ?_) (kb := ?_) <;> intro _)
      | fail))
      exact x_again (i + 1) (by show i + 1 ≤ k; omega) (by show k - (i + 1) < k - i; omega) (by rw [hf]; exact sub_auto) sel_auto
    · obtain rfl : i = k := by omega
      obtain ⟨L0, hL0⟩ : ∃ L0, lengthM f = L0 := ⟨_, rfl⟩
      have hL1 := hend hil
      have hL2 := (lengthM_nonneg f).2
      rw [hf, hL0] at hL1
      rw [hL0] at hL2
      obtain ⟨n0, rfl⟩ : ∃ n0 : Nat, L0 = n0 := ⟨L0.toNat, by omega⟩
      have hpos : ((A.pos + i : Nat) : Int) + 1 = ((A.pos + i + 1 : Nat) : Int) := by omega
      have hn0 : n0 ≤ f.length := by omega
      clear hno hend hcell hacc
      (repeat' (first
      | ((with_reducible refine at_fn 49 ?_); with_reducible refine owk_c0s evs_auto (by kernel_rfl) (fun w H => ref_length hL0 H) ?_)
      | (with_reducible refine at_load ?_; first | refine yk (y_load (ev_tmp rfl) (hasCell_tl (hasCell_tl (hc _ _)))) ?_)
      | (with_reducible refine at_bin ?_; first | refine yk_eq (y_add64 (ev_tmp rfl) (ev_tmp rfl) (by omega)) (congrArg _ hsum) ?_ | refine yk_eq (y_add_s (ev_tmp rfl) (ev_tmp rfl) hsz) hcat ?_ | refine yk_eq (y_add64 (ev_tmp rfl) ev_const (by omega)) (congrArg _ hpos) ?_)
      | (with_reducible refine at_slice ?_; first | refine yk (y_strHi (ev_tmp rfl) (ev_tmp rfl) rfl hn0 rfl) ?_)
      | (with_reducible refine is_w ?_; first | refine w_plan (id := 5) [(0, true), (1, true), (2, true), (3, true), (4, true), (5, true), (6, true), (7, true), (8, true), (9, true), (10, true), (11, true), (12, true), (13, true), (14, true)] _ (by kernel_rfl) (by kernel_rfl) sel_all ?_ | refine w_plan (id := 7) [(0, true), (1, true), (2, true), (3, true), (4, true), (5, true), (6, true), (7, true), (8, true), (9, true), (10, true), (11, true), (12, true), (13, true), (14, true), (15, true), (16, true), (17, true)] _ (by kernel_rfl) (by kernel_rfl) sel_all ?_)
      | (with_reducible refine is_yk ?_; refine yk_auto (k := ?_))
      | (with_reducible refine is_owk0 ?_; refine owk0_auto (k := ?_))
      | (with_reducible refine is_owkc ?_; refine owk_auto (k := fun _ => ?_))
      | refine go1 (k := ?_)
      | (refine go2 (ka := ?_) (kb := ?_) <;> intro _)
      | fail))
      refine x_ret2 rfl rfl rfl (fun w H => .inl ⟨hil, ?_, ?_⟩)
      · rw [hf, hL0]; rfl
      · exact hshut (A' := ⟨A.lo, A.hi, A.pos + i + 1⟩) H
  · obtain rfl : i = k := by omega
    obtain rfl : i = lim := by omega
    have hsum : (A.pos : Int) + (i : Int) = ((A.pos + i : Nat) : Int) := by omega
    by_cases h64 : i < 64
    · have hih : ¬ ((A.pos + i : Nat) : Int) < (A.hi : Int) := by omega
      (repeat' (first
      | (with_reducible refine at_bin ?_; first | refine yk_eq (y_add64 (ev_tmp rfl) (ev_tmp rfl) (by omega)) (congrArg _ hsum) ?_)
      | (with_reducible refine is_w ?_; first | refine w_plan (id := 5) [(0, true), (1, true), (2, true), (3, true), (4, true), (5, true), (6, true), (7, true), (8, true), (9, true), (10, true), (11, true), (12, true), (13, true), (14, true)] _ (by kernel_rfl) (by kernel_rfl) sel_all ?_ | refine w_plan (id := 7) [(0, true), (1, true), (2, true), (3, true), (4, true), (5, true), (6, true), (7, true), (8, true), (9, true), (10, true), (11, true), (12, true), (13, true), (14, true), (15, true), (16, true), (17, true)] _ (by kernel_rfl) (by kernel_rfl) sel_all ?_)
      | (with_reducible refine is_yk ?_; refine yk_auto (k := ?_))
      | (with_reducible refine is_owk0 ?_; refine owk0_auto (k := ?_))
      | (with_reducible refine is_owkc ?_; refine owk_auto (k := fun _ => ?_))
      | refine go1 (k := ?_)
      | (refine go2 (ka := ?_) (kb := ?_) <;> intro _)
      | fail))
      exact x_ret2 rfl rfl rfl (fun w H => .inr ⟨rfl, rfl, hshut H⟩)
    · (repeat' (first
      | (with_reducible refine is_w ?_; first | refine w_plan (id := 5) [(0, true), (1, true), (2, true), (3, true), (4, true), (5, true), (6, true), (7, true), (8, true), (9, true), (10, true), (11, true), (12, true), (13, true), (14, true)] _ (by kernel_rfl) (by kernel_rfl) sel_all ?_ | refine w_plan (id := 7) [(0, true), (1, true), (2, true), (3, true), (4, true), (5, true), (6, true), (7, true), (8, true), (9, true), (10, true), (11, true), (12, true), (13, true), (14, true), (15, true), (16, true), (17, true)] _ (by kernel_rfl) (by kernel_rfl) sel_all ?_)
      | (with_reducible refine is_yk ?_; refine yk_auto (k := ?_))
      | (with_reducible refine is_owk0 ?_; refine owk0_auto (k := ?_))
      | (with_reducible refine is_owkc ?_; refine owk_auto (k := fun _ => ?_))
      | refine go1 (k := ?_)
      | (refine go2 (ka := ?_) (kb := ?_) <;> intro _)
      | fail))
      exact x_ret2 rfl rfl rfl (fun w H => .inr ⟨rfl, rfl, hshut H⟩)
theorem r_next_some {k lim n : Nat} {f : List UInt8} (hpb : A.pos ≤ 1073741824) (hd : D.down = false) (hlim : min (A.hi - A.pos) 64 = lim) (hb : A.hi ≤ D.now.length) (S : Stands D.now A.pos lim k n f) (hA : { A with pos := A.pos + k + 1 } = A')
    (H : St c (RAreaAt b p A :: RefAt p D :: F) w) : Calls Try.prog 53 #[.pointer (some ⟨b, 0, none⟩)] w fun e w' =>
    e = .returned (.tuple #[str f, .int .i64 0]) ∧ St c (RAreaAt b p A' :: RefAt p D :: F) w' := by
  subst hA
  refine (r_next hpb hd hlim hb (Nat.le_of_lt S.lt) S.no (fun _ => by rw [S.is]; have := S.n0; omega) H).mono fun e w' h => ?_
  rcases h with ⟨_, h1, h2⟩ | ⟨h1, _⟩
  · rw [S.is, Int.toNat_natCast, S.take] at h1
    exact ⟨h1, h2⟩
  · have := S.lt; omega
theorem r_next_none {lim : Nat} (hpb : A.pos ≤ 1073741824) (hd : D.down = false) (hlim : min (A.hi - A.pos) 64 = lim) (hb : A.hi ≤ D.now.length) (hno : ∀ j, j < lim → lengthM (accB D.now A.pos (j + 1)) = 0)
    (H : St c (RAreaAt b p A :: RefAt p D :: F) w) : Calls Try.prog 53 #[.pointer (some ⟨b, 0, none⟩)] w fun e w' =>
    e = .returned (.tuple #[str [], .int .i64 0]) ∧ St c (RAreaAt b p A :: RefAt p D :: F) w' := by
  refine (r_next hpb hd hlim hb (Nat.le_refl _) hno (fun h => by omega) H).mono fun e w' h => ?_
  rcases h with ⟨h1, _⟩ | ⟨_, h1⟩
  · omega
  · exact h1
end
end Go.Proofs.Ytakeilefbcpabaa

/- The register with a disk: its calls said of the disk itself; comparisons of values. -/
namespace Go.Proofs.Ytakeilefbcpabaa
open Go.RowKit

section
variable {c : Con} {F : List HP} {w : World} {m p : Nat} {M : MeterM} {D : DiskM}

theorem St.toV (H : St c (DiskAt p D :: F) w) : St c (DiskV (.pointer (some ⟨p, 0, none⟩)) (some D) :: F) w := H.toDisk
theorem St.ofV (H : St c (DiskV (.pointer (some ⟨p, 0, none⟩)) (some D) :: F) w) : St c (DiskAt p D :: F) w := by
  obtain ⟨q, e, H2⟩ := H.someDisk
  cases e
  exact H2
def MeterM.nextDm (M : MeterM) (D : DiskM) (ep : Int) : DiskM := if M.steps (some D) ep then (if D.goes then D.act.off D.keeps else D.act) else D
theorem nextD_some (M : MeterM) (D : DiskM) (ep : Int) : M.nextD (some D) ep = some (M.nextDm D ep) := by
  unfold MeterM.nextD MeterM.nextDm
  split
  · show (if D.goes = true then _ else _) = _
    split <;> rfl
  · rfl
theorem meter_next_d (H : St c (MeterAt m (.pointer (some ⟨p, 0, none⟩)) M :: DiskAt p D :: F) w) (ep : Int) (cs : Array Value) (r : List UInt8) (hcs : cs = (bvs r).toArray) (hr : r.length = 32) (he1 : ep ≤ 9223372036854775807) {E : Int} {M' : MeterM} {D' : DiskM}
    (h1 : M.nextE (some D) ep = E) (h2 : M.next (some D) ep r = M') (h3 : M.nextDm D ep = D') :
    Calls Try.prog 19 #[.pointer (some ⟨m, 0, none⟩), .int .i64 ep, .agg cs] w fun e w' =>
      e = .returned (.int .i64 E) ∧ St c (MeterAt m (.pointer (some ⟨p, 0, none⟩)) M' :: DiskAt p D' :: F) w' := by
  subst hcs h1 h2 h3
  refine (meter_next (D := some D) H.swap.toV.swap ep r hr he1).mono ?_
  rintro e w' ⟨h1, h2⟩
  rw [nextD_some] at h2
  exact ⟨h1, h2.swap.ofV.swap⟩
theorem meter_get_d (hd : D.down = false) (H : St c (MeterAt m (.pointer (some ⟨p, 0, none⟩)) M :: DiskAt p D :: F) w) :
    Calls Try.prog 25 #[.pointer (some ⟨m, 0, none⟩)] w fun e w' =>
      e = .returned (.tuple #[.agg (valueCells M.count M.epoch M.root), .int .i64 0]) ∧ St c (MeterAt m (.pointer (some ⟨p, 0, none⟩)) M :: DiskAt p D :: F) w' := by
  refine (meter_get (D := some D) (Lib.hid hd) H.swap.toV.swap).mono ?_
  rintro e w' ⟨h1, h2⟩
  exact ⟨h1, h2.swap.ofV.swap⟩
theorem meter_get_down_d (hd : D.down = true) (H : St c (MeterAt m (.pointer (some ⟨p, 0, none⟩)) M :: DiskAt p D :: F) w) :
    Calls Try.prog 25 #[.pointer (some ⟨m, 0, none⟩)] w fun e w' =>
      e = .returned (.tuple #[.agg (valueCells 0 0 zeroRoot), .int .i64 8]) ∧ St c (MeterAt m (.pointer (some ⟨p, 0, none⟩)) M :: DiskAt p D :: F) w' := by
  refine (meter_get_down (D := some D) (Lib.hid hd) H.swap.toV.swap).mono ?_
  rintro e w' ⟨h1, h2⟩
  exact ⟨h1, h2.swap.ofV.swap⟩
end

/-! ### Values held against one another -/
section
variable {P : Program} {op : Oper} {a : Act} {w : World} {K : Act → World → Prop} {Q : Exit → Act → World → Prop}
theorem mapM_all {α β : Type} {f : α → Option β} {g : α → β} : ∀ (l : List α), (∀ i ∈ l, f i = some (g i)) → l.mapM f = some (l.map g)
  | [], _ => rfl
  | x :: l, h => by
    rw [List.mapM_cons, h x List.mem_cons_self, mapM_all l fun i hi => h i (List.mem_cons_of_mem _ hi)]; rfl
theorem flatten_ones {α β : Type} (h : α → β) : ∀ l : List α, (l.map fun i => [h i]).flatten = l.map h
  | [] => rfl
  | x :: l => by rw [List.map_cons, List.flatten_cons, flatten_ones h l]; rfl
theorem lits_bytes {t e : TypeId} {k d : Nat} (ht : P.underlying t = some (.array k e)) (he : P.underlying e = some (.int .u8)) (hc : P.cellsOf e = 1) (hk : P.cellsOf t = k) {r : List UInt8} (hr : r.length = k) :
    P.keyLits (d + 2) t (bvs r) = some (r.map fun b => Lit.int .u8 (b.toNat : Int)) := by
  have hb : ∀ b : UInt8, P.keyLits (d + 1) e [bv b] = some [Lit.int .u8 (b.toNat : Int)] := by
    intro b
    have h1 := b.toNat_lt
    have hw : (Lit.int .u8 (b.toNat : Int)).wf = true := by
      simp [Lit.wf, IntKind.min, IntKind.max, IntKind.signed, IntKind.bits]; omega
    simp [Program.keyLits, he, bv, hw]
  have hm : (List.range k).mapM (fun i => P.keyLits (d + 1) e (((bvs r).drop (i * P.cellsOf e)).take (P.cellsOf e))) = some ((List.range k).map fun i => [Lit.int .u8 ((r.getD i 0).toNat : Int)]) := by
    refine mapM_all _ fun i hi => ?_
    have hi' : i < r.length := by rw [hr]; exact List.mem_range.1 hi
    rw [hc, Nat.mul_one, List.drop_eq_getElem_cons (by rw [bvs, List.length_map]; exact hi'), List.take_succ_cons, List.take_zero]
    have e : (bvs r)[i]'(by rw [bvs, List.length_map]; exact hi') = bv (r.getD i 0) := by
      rw [List.getD_eq_getElem?_getD, List.getElem?_eq_getElem hi']; simp [bvs]
    rw [e, hb]
  unfold Program.keyLits
  rw [ht]
  simp only
  rw [if_pos (by rw [bvs, List.length_map, hr, hk]), hm, Option.map_some, flatten_ones]
  congr 1
  apply List.ext_getElem
  · simp [hr]
  · intro i h1 h2
    have hi : i < r.length := by simpa using h2
    simp [List.getElem?_eq_getElem hi]
/-- '!=' of two arrays, two structs that are told by their lits. -/
theorem run_neq_lits {t : TypeId} {m D : Nat} {xs ys : Array Value} {L M : List Lit} (hk : P.keyTypeAt m t = true) (hm : m ≤ 10000)
    (hx : P.keyLits D t xs.toList = some L) (hy : P.keyLits D t ys.toList = some M) (fx : (Value.agg xs).formed P t = true) (fy : (Value.agg ys).formed P t = true) :
    ∃ r, (binOp .neq t (.agg xs) (.agg ys)).run P w = .ok (.bool r) w ∧ (r = false ↔ L = M) := by
  have h := run_equalIn_deep (P := P) (10000 - m) m t hk
  rw [Nat.sub_add_cancel hm] at h
  obtain ⟨r, h1, h2⟩ := h w D D (.agg xs) (.agg ys) L M fx fy hx hy
  refine ⟨!r, ?_, ?_⟩
  · rw [run_neq_struct, h1]; rfl
  · rw [← h2]; cases r <;> simp
theorem run_eql_lits {t : TypeId} {m D : Nat} {xs ys : Array Value} {L M : List Lit} (hk : P.keyTypeAt m t = true) (hm : m ≤ 10000)
    (hx : P.keyLits D t xs.toList = some L) (hy : P.keyLits D t ys.toList = some M) (fx : (Value.agg xs).formed P t = true) (fy : (Value.agg ys).formed P t = true) :
    ∃ r, (binOp .eql t (.agg xs) (.agg ys)).run P w = .ok (.bool r) w ∧ (r = true ↔ L = M) := by
  have h := run_equalIn_deep (P := P) (10000 - m) m t hk
  rw [Nat.sub_add_cancel hm] at h
  obtain ⟨r, h1, h2⟩ := h w D D (.agg xs) (.agg ys) L M fx fy hx hy
  refine ⟨r, ?_, h2⟩
  rw [run_eql_struct, h1]; rfl
/-- The operation: what it leaves. -/
theorem op_cmp (bo : BinOp) (t : TypeId) (x y : Operand) (t' : TypeId) (ho : op.op = .binOp bo t x y t') (xs ys : Array Value) (r : Bool) (hx : a.eval x = .agg xs) (hy : a.eval y = .agg ys)
    (hg : P.eqGuardType P.depth t = false) (hr : (binOp bo t (.agg xs) (.agg ys)).run P w = .ok (.bool r) w) (h : K (a.put op.dst (.bool r)) w) : op.wp P a w K Q := by
  unfold Oper.wp execOp
  simp only [ho, hx, hy, Sem.run_bind, run_eqGuard_agg w bo t x y xs ys hg, hr, Result.andThen_ok, Sem.run_pure]
  exact h
end
end Go.Proofs.Ytakeilefbcpabaa

/- The register's values held against one another. -/
namespace Go.Proofs.Ytakeilefbcpabaa
open Go.RowKit

theorem keyOk_value : Try.prog.keyTypeAt 5 31 = true := by kernel_rfl
theorem guard_value : Try.prog.eqGuardType Try.prog.depth 31 = false := by kernel_rfl
theorem lits_int {d : Nat} {z : Int} (h : -9223372036854775808 ≤ z ∧ z ≤ 9223372036854775807) : Try.prog.keyLits (d + 1) 3 [.int .i64 z] = some [Lit.int .i64 z] := by
  have hw : (Lit.int .i64 z).wf = true := by simp [Lit.wf, IntKind.min, IntKind.max, IntKind.signed, IntKind.bits]; omega
  simp [Program.keyLits, Try.underlying3, hw]
theorem lits_value {c e : Int} {r : List UInt8} (hc : -9223372036854775808 ≤ c ∧ c ≤ 9223372036854775807) (he : -9223372036854775808 ≤ e ∧ e ≤ 9223372036854775807) (hr : r.length = 32) :
    Try.prog.keyLits 5 31 (valueCells c e r).toList = some (Lit.int .i64 c :: Lit.int .i64 e :: r.map fun b => Lit.int .u8 (b.toNat : Int)) := by
  have h1 : Try.prog.cellsOf 31 = 34 := by kernel_rfl
  have h2 : Try.prog.cellsOf 3 = 1 := by kernel_rfl
  have h3 : Try.prog.cellsOf 28 = 32 := by kernel_rfl
  have h4 : Try.prog.cellsOf 5 = 1 := by kernel_rfl
  have hb := lits_bytes (P := Try.prog) (d := 2) Try.underlying28 Try.underlying5 h4 h3 hr
  have hl : (valueCells c e r).toList.length = 34 := by rw [Array.length_toList]; exact valueCells_size c e hr
  have i1 := lits_int (d := 3) hc
  have i2 := lits_int (d := 3) he
  unfold Program.keyLits
  rw [Try.underlying31]
  simp only
  rw [if_pos ⟨by rw [hl, h1], by kernel_rfl⟩]
  have d0 : ((valueCells c e r).toList.drop 0).take 1 = [.int .i64 c] := rfl
  have d1 : ((valueCells c e r).toList.drop 1).take 1 = [.int .i64 e] := rfl
  have d2 : ((valueCells c e r).toList.drop 2).take 32 = bvs r := by
    show (bvs r).take 32 = bvs r
    exact List.take_of_length_le (by rw [bvs, List.length_map, hr]; omega)
  simp only [List.mapM_cons, List.mapM_nil, h2, h3, d0, d1, d2, i1, i2, hb]
  simp
theorem value_neq {c e c' e' : Int} {r r' : List UInt8} (hc : -9223372036854775808 ≤ c ∧ c ≤ 9223372036854775807) (he : -9223372036854775808 ≤ e ∧ e ≤ 9223372036854775807) (hr : r.length = 32)
    (hc' : -9223372036854775808 ≤ c' ∧ c' ≤ 9223372036854775807) (he' : -9223372036854775808 ≤ e' ∧ e' ≤ 9223372036854775807) (hr' : r'.length = 32) (w : World) :
    ∃ b, (binOp .neq 31 (.agg (valueCells c e r)) (.agg (valueCells c' e' r'))).run Try.prog w = .ok (.bool b) w ∧ (b = false ↔ c = c' ∧ e = e' ∧ r = r') := by
  have hf : ∀ {c e : Int} {r : List UInt8}, r.length = 32 → (Value.agg (valueCells c e r)).formed Try.prog 31 = true := by
    intro c e r hr
    have h1 : Try.prog.cellsOf 31 = 34 := by kernel_rfl
    simp only [Value.formed, Try.underlying31, valueCells_size c e hr, h1]
    rfl
  obtain ⟨b, h1, h2⟩ := run_neq_lits (P := Try.prog) (w := w) keyOk_value (by omega) (lits_value hc he hr) (lits_value hc' he' hr') (hf hr) (hf hr')
  refine ⟨b, h1, h2.trans ⟨fun h => ?_, fun ⟨h1, h2, h3⟩ => by rw [h1, h2, h3]⟩⟩
  simp only [List.cons.injEq, Lit.int.injEq, true_and] at h
  refine ⟨h.1, h.2.1, ?_⟩
  refine (List.map_inj_right ?_).1 h.2.2
  intro x y hxy
  simp only [Lit.int.injEq, true_and] at hxy
  exact UInt8.toNat_inj.1 (by omega)
theorem value_same {c e : Int} {r : List UInt8} (hc : -9223372036854775808 ≤ c ∧ c ≤ 9223372036854775807) (he : -9223372036854775808 ≤ e ∧ e ≤ 9223372036854775807) (hr : r.length = 32) (w : World) :
    (binOp .neq 31 (.agg (valueCells c e r)) (.agg (valueCells c e r))).run Try.prog w = .ok (.bool false) w := by
  obtain ⟨b, h1, h2⟩ := value_neq hc he hr hc he hr w
  rw [h1, h2.2 ⟨rfl, rfl, rfl⟩]

/-! ### A call of the scripts -/
structure MCall where
  kind : Int
  epoch : Int
  root : List UInt8
  keep : Int
structure MCall.WF (x : MCall) : Prop where
  k0 : -9223372036854775808 ≤ x.kind
  k1 : x.kind ≤ 9223372036854775807
  e0 : -9223372036854775808 ≤ x.epoch
  e1 : x.epoch ≤ 9223372036854775807
  root : x.root.length = 32
  p0 : 0 ≤ x.keep
  p1 : x.keep < 18446744073709551616
def mcallCells (x : MCall) : List Value := .int .i64 x.kind :: .int .i64 x.epoch :: (bvs x.root ++ [.int .u64 x.keep])
def IsMCall (_ : World) (x : MCall) (cs : List Value) : Prop := x.WF ∧ cs = mcallCells x
theorem mcall_length {x : MCall} (h : x.root.length = 32) : (mcallCells x).length = 35 := by simp [mcallCells, bvs, h]
theorem mcall_keep {x : MCall} (h : x.root.length = 32) : (mcallCells x)[34]? = some (.int .u64 x.keep) := by
  have e : (bvs x.root).length = 32 := by rw [bvs, List.length_map, h]
  simp only [mcallCells, List.getElem?_cons_succ]
  rw [List.getElem?_append_right (by omega), e]; rfl
theorem mcall_root {x : MCall} (h : x.root.length = 32) : (mcallCells x).toArray.extract 2 (2 + 32) = (bvs x.root).toArray := by
  have e : (bvs x.root).length = 32 := by rw [bvs, List.length_map, h]
  apply Array.ext'
  rw [Array.toList_extract, List.extract_eq_take_drop, mcallCells, List.toList_toArray, List.toList_toArray]
  show List.take 32 (bvs x.root ++ _) = _
  rw [List.take_left' e]
theorem mcall_all (x : MCall) : (mcallCells x).toArray.all (·.oneCell') = true := all_oneCell_toArray (by
  intro v hv
  simp only [mcallCells, List.mem_cons, List.mem_append, List.not_mem_nil, or_false] at hv
  rcases hv with rfl | rfl | hv | rfl
  · rfl
  · rfl
  · exact bvs_oneCell _ v hv
  · rfl)
/-- What the walk asks of a copy of a call at block v. -/
theorem mcall_facts {c : Con} {F : List HP} {w : World} {v : Nat} {x : MCall} {T : TypeId} (hx : x.root.length = 32) (H : St c (Pt v (.cells (mcallCells x).toArray T (0, 0)) :: F) w) :
    w.cell? ⟨v, 0, none⟩ = some (.int .i64 x.kind) ∧ w.cell? ⟨v, 1, none⟩ = some (.int .i64 x.epoch) ∧ w.cell? ⟨v, 34, none⟩ = some (.int .u64 x.keep) := by
  have h := H.pt
  exact ⟨cell_of_row w v 0 _ _ _ h, cell_of_row w v 1 _ _ _ h, by rw [cell_of_row w v 34 _ _ _ h, List.getElem?_toArray]; exact mcall_keep hx⟩
end Go.Proofs.Ytakeilefbcpabaa

/- MeterShares: the walk. -/
namespace Go.Proofs.Ytakeilefbcpabaa
open Go.RowKit

theorem y_aggCmp {P : Program} {H : World → Prop} {E : Env} {d : Option Nat} {ty : TypeId} {pos : String} {aft : Array Edge} {g : Option (Nat × Bool)} {bo : BinOp} {t t' : TypeId} {x y : Operand} {xs ys : List Value} {r : Bool} (hx : Ev E x (.agg xs.toArray)) (hy : Ev E y (.agg ys.toArray))
    (hg : P.eqGuardType P.depth t = false) (hr : ∀ w, (binOp bo t (.agg xs.toArray) (.agg ys.toArray)).run P w = .ok (.bool r) w) : Y P H E (Oper.mk d (.binOp bo t x y t') ty pos aft g) (.bool r) := fun N a w hf _ => by
  unfold execOp
  simp only [hx N a hf, hy N a hf, Sem.run_bind, run_eqGuard_agg w bo t x y xs.toArray ys.toArray hg, hr, Result.andThen_ok, Sem.run_pure]
theorem y_build0 {P : Program} {H : World → Prop} {E : Env} {d : Option Nat} {ty : TypeId} {pos : String} {aft : Array Edge} {g : Option (Nat × Bool)} {t len e s : Nat} {z : List Value} [ha : TArr P t len e s] [hz : TZero P t z] : Y P H E (Oper.mk d (.build t #[]) ty pos aft g) (.agg z.toArray) := fun N a w _ _ => by
  have hi := hz.i
  have hi' := ha.i
  cases hq : P.info? t with
  | none => simp [hq] at hi
  | some i =>
    have h0 : i.zero = some (.agg z.toArray) := by simpa [hq] using hi
    cases hq' : P.info? e with
    | none => simp [hq'] at hi'
    | some i' =>
      unfold execOp
      simp [Instr.build, zeroValue, sizeOf, typeInfo, program, Sem.run, hq, hq', h0, run_underlying ha.u, Value.cells, Instr.fill]
def valueL (c e : Int) (r : List UInt8) : List Value := .int .i64 c :: .int .i64 e :: bvs r
theorem valueL_length (c e : Int) {r : List UInt8} (hr : r.length = 32) : (valueL c e r).length = 34 := by simp [valueL, bvs_length, hr]
theorem valueL_one (c e : Int) (r : List UInt8) : ∀ v ∈ valueL c e r, v.oneCell' = true := by
  intro v hv
  rcases List.mem_cons.1 hv with rfl | hv
  · rfl
  · rcases List.mem_cons.1 hv with rfl | hv
    · rfl
    · exact bvs_oneCell _ v hv
theorem y_build_value {H : World → Prop} {E : Env} {d : Option Nat} {ty : TypeId} {pos : String} {aft : Array Edge} {g : Option (Nat × Bool)} {x0 x1 x2 : Operand} {a b : Int} {r : List UInt8} (h0 : Ev E x0 (.int .i64 a)) (h1 : Ev E x1 (.int .i64 b)) (h2 : Ev E x2 (.agg (bvs r).toArray)) (hr : r.length = 32) :
    Y Try.prog H E (Oper.mk d (.build 31 #[(0, x0), (1, x1), (2, x2)]) ty pos aft g) (.agg (valueL a b r).toArray) := fun N ac w hf _ =>
  run_build3 31 0 1 2 x0 x1 x2 rfl _ _ _ _ (h0 N ac hf) (h1 N ac hf) (h2 N ac hf) (build_value a b r hr w)

/-- What is known of the disk ahead of a round. -/
def ShareD (D : DiskM) : Prop := D.down = false ∧ D.fuse = 0 ∧ D.now.length = 1 ∧ D.safe.length = 1 ∧ D.waits = []
theorem share_write {D : DiskM} (h : ShareD D) {r : List UInt8} (hr : r.length = 32) : D.writeE 0 r.length = 0 ∧ (D.write 0 r).down = false ∧ (D.write 0 r).goes = false ∧ (D.write 0 r).fuse = 0 ∧ (D.write 0 r).now.length = 1 ∧ (D.write 0 r).safe.length = 1 := by
  obtain ⟨h1, h2, h3, h4, _⟩ := h
  have hrd : D.ready 0 = 0 := by simp [DiskM.ready, h1, h3]
  have hg : D.goes = false := by simp [DiskM.goes, h2]
  have e : D.write 0 r = D.act.put 0 (pad r) := by simp [DiskM.write, hrd, hr, hg]
  refine ⟨by simp [DiskM.writeE, hrd, hr, hg], ?_, ?_, ?_, ?_, ?_⟩ <;> rw [e] <;> simp [DiskM.put, DiskM.act, DiskM.goes, h1, h2, h3, h4]
theorem share_off {D : DiskM} (h1 : D.down = false) (h4 : D.safe.length = 1) (k : Int) : (D.act.off k).down = true ∧ ShareD (D.act.off k).on := by
  have ha : D.act.down = false := by simp [DiskM.act, h1]
  have hl : (D.act.kept k).length = 1 := by simp [DiskM.kept, keptFrom_length, DiskM.act, h1, h4]
  simp [DiskM.off, ha, ShareD, DiskM.on, hl]
theorem share_next {M : MeterM} {D : DiskM} (hd : D.down = false) (hg : D.goes = false) {ep : Int} (he : M.epoch ≤ ep) (hm : M.most - M.count ≠ 0) (r : List UInt8) :
    M.nextE (some D) ep = 0 ∧ M.next (some D) ep r = { M with count := M.count + 1, epoch := ep, root := r } ∧ M.nextDm D ep = D.act := by
  have h1 : ¬ ep < M.epoch := by omega
  have hd' : DiskO.down (some D) = false := hd
  have hg' : DiskO.goes (some D) = false := hg
  have hs : M.steps (some D) ep = true := by simp [MeterM.steps, hd', h1, hm]
  exact ⟨by simp [MeterM.nextE, hd', hg', h1, hm], by simp [MeterM.next, hs, hg'], by simp [MeterM.nextDm, hs, hg]⟩
theorem share_down {M : MeterM} {D : DiskM} (hd : D.down = true) (ep : Int) (r : List UInt8) : M.nextE (some D) ep = 8 ∧ M.next (some D) ep r = M ∧ M.nextDm D ep = D := by
  have hd' : DiskO.down (some D) = true := hd
  exact ⟨by simp [MeterM.nextE, hd'], by simp [MeterM.next, MeterM.steps, hd'], by simp [MeterM.nextDm, MeterM.steps, hd']⟩
def IsRoot (_ : World) (r : List UInt8) (cs : List Value) : Prop := cs = bvs r ∧ r.length = 32
theorem meter_left_w {c : Con} {F : List HP} {w : World} {m : Nat} {dv : Value} {M : MeterM} {n : Int} (hn : M.most - M.count = n) (H : St c (MeterAt m dv M :: F) w) :
    Calls Try.prog 20 #[.pointer (some ⟨m, 0, none⟩)] w fun e w' => e = .returned (.int .i64 n) ∧ St c (MeterAt m dv M :: F) w' :=
  (meter_left_is H hn).mono fun _ _ ⟨h1, k, h2⟩ => ⟨h1, h2 ▸ H.drewN k⟩
theorem meter_get_e {c : Con} {F : List HP} {w : World} {m p : Nat} {M : MeterM} {D : DiskM} (hd : D.down = false) {cn e : Int} {r : List UInt8} (h1 : M.count = cn) (h2 : M.epoch = e) (h3 : M.root = r) (H : St c (MeterAt m (.pointer (some ⟨p, 0, none⟩)) M :: DiskAt p D :: F) w) :
    Calls Try.prog 25 #[.pointer (some ⟨m, 0, none⟩)] w fun ee w' => ee = .returned (.tuple #[.agg (valueL cn e r).toArray, .int .i64 0]) ∧ St c (MeterAt m (.pointer (some ⟨p, 0, none⟩)) M :: DiskAt p D :: F) w' := by
  subst h1 h2 h3; exact meter_get_d hd H
theorem meter_get_x {c : Con} {F : List HP} {w : World} {m p : Nat} {M : MeterM} {D : DiskM} (hd : D.down = true) (H : St c (MeterAt m (.pointer (some ⟨p, 0, none⟩)) M :: DiskAt p D :: F) w) :
    Calls Try.prog 25 #[.pointer (some ⟨m, 0, none⟩)] w fun ee w' => ee = .returned (.tuple #[.agg (valueL 0 0 zeroRoot).toArray, .int .i64 8]) ∧ St c (MeterAt m (.pointer (some ⟨p, 0, none⟩)) M :: DiskAt p D :: F) w' := meter_get_down_d hd H
theorem zero_root_cells : List.replicate 32 (Value.int .u8 0) = bvs zeroRoot := replicate_bvs 32

section
variable {H : Type} {enc : TypeId × Value → H} {W : World}
theorem elem_root (n : Nat) (cs : List Value) (x : DataW H × List MemPlace) (_hc : cs.length = 32) (h : DataW.trod enc Try.prog W 0 (fun _ => true) true n 28 cs = some x) : ∃ y : List UInt8, IsRoot W y cs :=
  elem_bytes Try.underlying28 Try.underlying5 (by kernel_rfl) (by kernel_rfl) h
theorem open_roots {a : Option Addr} {len cap : Nat} {d : DataW H} {ps : List MemPlace}
    (h : DataW.Trod enc Try.prog W 0 (fun _ => true) true 59 (.slice a len cap) d ps) : ∃ zs, ElemsOf IsRoot 32 W a len zs := by
  obtain ⟨fuel, hf⟩ := h
  obtain ⟨a', len', cap', hcs, _, _, _, ys, hy⟩ := open_elems Try.underlying59 (by kernel_rfl) elem_root hf
  simp [Value.cells] at hcs
  obtain ⟨rfl, rfl, rfl⟩ := hcs
  exact ⟨ys, hy⟩
end

attribute [local irreducible] Y OW YK OWK W WL WP X CV Ev Evs HasCell HasCells Has Met Again Kept
set_option maxRecDepth 100000 in
set_option maxHeartbeats 2000000 in
theorem meterShares_walk (A : Option Addr) (len cap : Nat) (zs : List (List UInt8)) (keep : Int) (w : World) (hrow : ElemsOf IsRoot 32 w A len zs) (hk : (Lit.int .u64 keep).wf = true) :
    Calls Try.prog 7 #[.slice A len cap, .int .u64 keep] w fun e w' => e = .returned (.bool true) ∧ Below w.heap.size w w' := by
  obtain ⟨k0, k1⟩ : 0 ≤ keep ∧ keep < 18446744073709551616 := by simp [Lit.wf, IntKind.min, IntKind.max, IntKind.bits, IntKind.signed] at hk; omega
  obtain ⟨hzl, hl63, hcell⟩ := hrow
  refine calls_w (vs := [.slice A len cap, .int .u64 keep]) Try.func7 rfl rfl rfl ?_ w (St.start w)
  (repeat' (first
      | ((with_reducible refine at_fn 17 ?_); with_reducible refine owk_c0s evs_auto (by kernel_rfl) (fun w H => alive12 H) ?_)
      | ((with_reducible refine at_fn 21 ?_); with_reducible refine owk_c0x evs_auto (by kernel_rfl) (fun w H => disk_new_is 1 (by omega) (by omega) (k := 1) rfl H) (fun p => ?_))
      | ((with_reducible refine at_fn 18 ?_); with_reducible refine owk_c0x evs_auto (by kernel_rfl) (fun w H => meter_new H 100 _ (.inr ⟨_, rfl⟩)) (fun m => ?_))
      | (with_reducible refine is_yk ?_; refine yk_auto (k := ?_))
      | (with_reducible refine is_owk0 ?_; refine owk0_auto (k := ?_))
      | (with_reducible refine is_owkc ?_; refine owk_auto (k := fun _ => ?_))
      | refine go1 (k := ?_)
      | (refine go2 (ka := ?_) (kb := ?_) <;> intro _)
      | fail))
  · exact x_ret1 rfl rfl (fun w H => ⟨rfl, H.toBelow'⟩)
  · rename_i hlen
    refine w_loop (α := Nat × MeterM × DiskM) (fun x => x.1 ≤ len ∧ ShareD x.2.2 ∧ x.2.1.count = x.1 ∧ x.2.1.most = 100 ∧ x.2.1.epoch ≤ x.1)
      (fun x => [(0, .slice A len cap), (1, .int .u64 keep), (5, .pointer (some ⟨p, 0, none⟩)), (6, .pointer (some ⟨m, 0, none⟩)), (21, .slice A len cap), (22, .int .i64 len), (23, .int .i64 (x.1 : Int))])
      (fun x => [MeterAt m (.pointer (some ⟨p, 0, none⟩)) x.2.1, DiskAt p x.2.2, Old w]) (fun x => len - x.1) (0, meterOf 100, DiskM.new 1)
      ⟨Nat.zero_le _, ⟨rfl, rfl, rfl, rfl, rfl⟩, rfl, by decide, by decide⟩ sub_auto sel_auto (fun x hx => ?_)
    obtain ⟨j, M, D⟩ := x
    obtain ⟨hj, hD, hc, hmo, hep⟩ := hx
    dsimp only at hj hD hc hmo hep ⊢
    by_cases hlt : j < len
    · obtain ⟨a, cs, rfl, ⟨rfl, hr⟩, -, hca⟩ := hcell j zs[j] (List.getElem?_eq_getElem (by omega))
      generalize zs[j] = r at hr hca
      have hca' : ∀ i u, (bvs r)[i]? = some u → w.cell? ((a.add (j * 32)).add i) = some u := hca
      have hr32 : (bvs r).length = 32 := by rw [bvs_length, hr]
      have hz32 : (bvs zeroRoot).length = 32 := by rw [bvs_length, zeroRoot_length]
      obtain ⟨e1, d1, g1, f1, n1, s1⟩ := share_write hD hr
      have hw0 : D.waits.length ≤ 1073741824 := by rw [hD.2.2.2.2]; decide
      generalize hD1 : D.write 0 r = D1 at d1 g1 f1 n1 s1
      obtain ⟨e2, e3, e4⟩ := share_next (M := M) d1 g1 hep (by rw [hmo, hc]; omega) r
      obtain ⟨b1, b2⟩ := share_off d1 s1 keep
      generalize hD3 : D1.act.off keep = D3 at b1 b2
      have b3 := b2.1
      obtain ⟨M1, hM1⟩ : ∃ M1 : MeterM, M1 = { M with count := M.count + 1, epoch := (j : Int), root := r } := ⟨_, rfl⟩
      rw [← hM1] at e3
      have q1 : M1.count = (j : Int) + 1 := by rw [hM1, ← hc]
      have q2 : M1.epoch = (j : Int) := by rw [hM1]
      have q3 : M1.root = r := by rw [hM1]
      have q4 : M1.most = 100 := by rw [hM1]; exact hmo
      obtain ⟨e5, e6, e7⟩ := share_down (M := M1) b1 j zeroRoot
      have hzc : (List.replicate 32 (Value.int .u8 0)).toArray = (bvs zeroRoot).toArray := by rw [zero_root_cells]
      have hsame := fun w => value_same (c := (j : Int) + 1) (e := (j : Int)) (r := r) ⟨by omega, by omega⟩ ⟨by omega, by omega⟩ hr w
      (repeat' (first
      | ((with_reducible refine at_fn 30 ?_); with_reducible refine owk_c1 evs_auto (by kernel_rfl) pick_auto (fun w H => disk_write_is (D := D) 0 (by omega) (by omega) _ r (E := 0) (D' := D1) e1 hD1 (reads_len hr (reads_has (hasCells_all has_auto) hr32 (by decide) (by decide))) hw0 H) ?_)
      | ((with_reducible refine at_fn 19 ?_); with_reducible refine owk_c2 evs_auto (by kernel_rfl) pick_auto pick_auto (fun w H => meter_next_d H j _ r rfl hr (by omega) e2 e3 e4) ?_)
      | ((with_reducible refine at_fn 22 ?_); with_reducible refine owk_c1 evs_auto (by kernel_rfl) pick_auto (fun w H => disk_off_is (D := D1.act) keep k0 k1 hD3 H) ?_)
      | ((with_reducible refine at_fn 25 ?_); with_reducible refine owk_c2 evs_auto (by kernel_rfl) pick_auto pick_auto (fun w H => meter_get_x (D := D3) b1 H) ?_)
      | ((with_reducible refine at_fn 19 ?_); with_reducible refine owk_c2 evs_auto (by kernel_rfl) pick_auto pick_auto (fun w H => meter_next_d H j _ zeroRoot hzc zeroRoot_length (by omega) e5 e6 e7) ?_)
      | ((with_reducible refine at_fn 24 ?_); with_reducible refine owk_c1 evs_auto (by kernel_rfl) pick_auto (fun w H => disk_on H) ?_)
      | ((with_reducible refine at_fn 25 ?_); with_reducible refine owk_c2 evs_auto (by kernel_rfl) pick_auto pick_auto (fun w H => meter_get_e (D := D3.on) b3 q1 q2 q3 H) ?_)
      | ((with_reducible refine at_storeO ?_); with_reducible refine owk0 (ow_storeAll (ev_tmp rfl) (ev_tmp rfl) (bvs_oneCell r) hr32 upd_auto rfl) ?_)
      | ((with_reducible refine at_storeO ?_); with_reducible refine owk0 (ow_storeAll (ev_tmp rfl) (ev_tmp rfl) (valueL_one 0 0 zeroRoot) (valueL_length _ _ zeroRoot_length) upd_auto rfl) ?_)
      | ((with_reducible refine at_storeO ?_); with_reducible refine owk0 (ow_storeAll (ev_tmp rfl) (ev_tmp rfl) (valueL_one _ _ r) (valueL_length _ _ hr) upd_auto rfl) ?_)
      | (with_reducible refine at_load ?_; first | refine yk (y_loadN (ev_tmp rfl) (by (repeat (first | exact hasCells_old hca' | refine hasCells_tl ?_)); (first | done | fail)) hr32) ?_ | refine yk (y_loadN (ev_tmp rfl) (hasCells_all (cs := bvs r) has_auto) hr32) ?_ | refine yk (y_loadN (ev_tmp rfl) (hasCells_all (cs := valueL ((j : Int) + 1) j r) has_auto) (valueL_length _ _ hr)) ?_)
      | (with_reducible refine at_build ?_; first | refine yk y_build0 ?_ | refine yk (y_build_value (ev_tmp rfl) (ev_tmp rfl) (ev_tmp rfl) hr) ?_)
      | (with_reducible refine at_bin ?_; first | refine yk (y_aggCmp (ev_tmp rfl) (ev_tmp rfl) guard_value hsame) ?_)
      | (with_reducible refine is_yk ?_; refine yk_auto (k := ?_))
      | (with_reducible refine is_owk0 ?_; refine owk0_auto (k := ?_))
      | (with_reducible refine is_owkc ?_; refine owk_auto (k := fun _ => ?_))
      | refine go1 (k := ?_)
      | (refine go2 (ka := ?_) (kb := ?_) <;> intro _)
      | fail))
      exact x_again (j + 1, M1, D3.on) ⟨hlt, b2, q1, q4, by show M1.epoch ≤ ((j + 1 : Nat) : Int); omega⟩ (show len - (j + 1) < len - j by omega) sub_auto sel_auto
    · (repeat' (first
      | ((with_reducible refine at_fn 20 ?_); with_reducible refine owk_c1 evs_auto (by kernel_rfl) pick_auto (fun w H => meter_left_w (n := 100 - (j : Int)) (by rw [hmo, hc]) H) ?_)
      | (with_reducible refine is_yk ?_; refine yk_auto (k := ?_))
      | (with_reducible refine is_owk0 ?_; refine owk0_auto (k := ?_))
      | (with_reducible refine is_owkc ?_; refine owk_auto (k := fun _ => ?_))
      | refine go1 (k := ?_)
      | (refine go2 (ka := ?_) (kb := ?_) <;> intro _)
      | fail))
      exact x_ret1 rfl rfl (fun w H => ⟨by rw [decide_eq_true (by omega)], (Sel.st (T := [Old _]) sel_auto H).toBelow'⟩)
end Go.Proofs.Ytakeilefbcpabaa

/- The reference register (coffretref12): New, Next. -/
namespace Go.Proofs.Ytakeilefbcpabaa
open Go.RowKit
def rmCells (dv : Value) (M : MeterM) : List Value := .int .i64 M.count :: .int .i64 M.epoch :: (bvs M.root ++ [.int .i64 M.most, dv])
def RMeterAt (q : Nat) (dv : Value) (M : MeterM) : HP := Pure M.WF (Bl q 70 (rmCells dv M))
theorem rm_most {dv : Value} {M : MeterM} (h : M.root.length = 32) : ((rmCells dv M).toArray).toList[0 + 34]? = some (.int .i64 M.most) := by
  show (bvs M.root ++ [.int .i64 M.most, dv])[32]? = _
  rw [List.getElem?_append_right (by rw [bvs_length]; omega), bvs_length, h]; rfl
theorem rm_disk {dv : Value} {M : MeterM} (h : M.root.length = 32) : ((rmCells dv M).toArray).toList[0 + 35]? = some dv := by
  show (bvs M.root ++ [.int .i64 M.most, dv])[33]? = _
  rw [List.getElem?_append_right (by rw [bvs_length]; omega), bvs_length, h]; rfl
theorem rm_length {dv : Value} {M : MeterM} (h : M.root.length = 32) : (rmCells dv M).length = 36 := by
  simp [rmCells, bvs_length, h]
theorem rm_root {dv : Value} {M : MeterM} (h : M.root.length = 32) {r : List UInt8} (hr : r.length = 32) : splice (rmCells dv M) (0 + 2) (bvs r) = rmCells dv { M with root := r } := by
  have e1 : (bvs M.root).length = 32 := by rw [bvs_length, h]
  have e2 : (bvs r).length = 32 := by rw [bvs_length, hr]
  unfold splice rmCells
  rw [e2]
  show _ :: _ :: (bvs r ++ (bvs M.root ++ [.int .i64 M.most, dv]).drop 32) = _
  rw [← e1, List.drop_left]
theorem next_arg {M : MeterM} {D : DiskM} {ep : Int} (r : List UInt8) (hd : D.down = false) (he : ep < M.epoch) : M.nextE (some D) ep = 1 ∧ M.next (some D) ep r = M ∧ M.nextDm D ep = D := by
  have hd' : DiskO.down (some D) = false := hd
  exact ⟨by simp [MeterM.nextE, hd', he], by simp [MeterM.next, MeterM.steps, hd', he], by simp [MeterM.nextDm, MeterM.steps, hd', he]⟩
theorem next_spent {M : MeterM} {D : DiskM} {ep : Int} (r : List UInt8) (hd : D.down = false) (he : ¬ ep < M.epoch) (hs : M.most - M.count = 0) : M.nextE (some D) ep = 10 ∧ M.next (some D) ep r = M ∧ M.nextDm D ep = D := by
  have hd' : DiskO.down (some D) = false := hd
  exact ⟨by simp [MeterM.nextE, hd', he, hs], by simp [MeterM.next, MeterM.steps, hd', he, hs], by simp [MeterM.nextDm, MeterM.steps, hd', he, hs]⟩
theorem next_goes {M : MeterM} {D : DiskM} {ep : Int} (r : List UInt8) (hd : D.down = false) (he : ¬ ep < M.epoch) (hs : ¬ M.most - M.count = 0) (hg : D.goes = true) :
    M.nextE (some D) ep = 8 ∧ M.next (some D) ep r = (if 9223372036854775808 ≤ D.keep then { M with count := M.count + 1, epoch := ep, root := r } else M) ∧ M.nextDm D ep = D.act.off D.keep := by
  have hd' : DiskO.down (some D) = false := hd
  have hg' : DiskO.goes (some D) = true := hg
  have hk : D.keeps = D.keep := by simp [DiskM.keeps, hg]
  have hk' : DiskO.keeps (some D) = D.keep := hk
  have hst : M.steps (some D) ep = true := by simp [MeterM.steps, hd', he, hs]
  exact ⟨by simp [MeterM.nextE, hd', hg', he, hs], by simp [MeterM.next, hst, hg', hk'], by simp [MeterM.nextDm, hst, hg, hk]⟩
theorem next_stays {M : MeterM} {D : DiskM} {ep : Int} (r : List UInt8) (hd : D.down = false) (he : ¬ ep < M.epoch) (hs : ¬ M.most - M.count = 0) (hg : D.goes = false) :
    M.nextE (some D) ep = 0 ∧ M.next (some D) ep r = { M with count := M.count + 1, epoch := ep, root := r } ∧ M.nextDm D ep = D.act := by
  have hd' : DiskO.down (some D) = false := hd
  have hg' : DiskO.goes (some D) = false := hg
  have hst : M.steps (some D) ep = true := by simp [MeterM.steps, hd', he, hs]
  exact ⟨by simp [MeterM.nextE, hd', hg', he, hs], by simp [MeterM.next, hst, hg'], by simp [MeterM.nextDm, hst, hg]⟩
section
variable {c : Con} {L F : List HP} {w : World} {q p : Nat} {M : MeterM} {D : DiskM} {dv : Value}
theorem St.openRM (H : St c (RMeterAt q dv M :: F) w) : M.WF ∧ St c (Bl q 70 (rmCells dv M) :: F) w := H.pure
theorem St.shutRM (h : M.WF) (H : St c (Bl q 70 (rmCells dv M) :: F) w) : St c (RMeterAt q dv M :: F) w := H.toPure h
theorem shutRM (h : M.WF) : ∀ h', Bl q 70 (rmCells dv M) h' → RMeterAt q dv M h' := fun _ a => ⟨h, a⟩
end
theorem y_buildRM {H : World → Prop} {E : Env} {d : Option Nat} {ty : TypeId} {pos : String} {aft : Array Edge} {g : Option (Nat × Bool)} {x y : Operand} {n : Int} {p : Nat} {M : MeterM} (hx : Ev E x (.int .i64 n)) (hy : Ev E y (.pointer (some ⟨p, 0, none⟩))) (hM : M = ⟨0, 0, zeroRoot, n⟩) :
    Y Try.prog H E (Oper.mk d (.build 70 #[(3, x), (4, y)]) ty pos aft g) (.agg (rmCells (.pointer (some ⟨p, 0, none⟩)) M).toArray) := by
  have hl : Lay E [(0, 1), (1, 1), (2, 32), (34, 1), (35, 1)] ([.int .i64 0, .int .i64 0] ++ (List.replicate 32 (.int .u8 0) ++ ([.int .i64 0, .pointer none]))) [(3, x), (4, y)] _ :=
    .cons hx rfl rfl (by decide) (.cons hy rfl rfl (Nat.le_of_ble_eq_true rfl) .nil)
  have h := y_build (P := Try.prog) (H := H) (d := d) (ty := ty) (pos := pos) (aft := aft) (g := g) (t := 70) hl
  subst hM
  exact h
attribute [local irreducible] Y OW YK OWK W WL WP X CV Ev Evs HasCell HasCells Has Met Again Kept
section
variable {c : Con} {F : List HP} {w : World} {q p : Nat} {M : MeterM} {D : DiskM} {dv : Value}
set_option maxRecDepth 100000 in
theorem rm_new (most : Int) (H : St c F w) :
    Calls Try.prog 34 #[.int .i64 most, .pointer (some ⟨p, 0, none⟩)] w fun e w' => ∃ q, e = .returned (.pointer (some ⟨q, 0, none⟩)) ∧ St c (RMeterAt q (.pointer (some ⟨p, 0, none⟩)) (meterOf most) :: F) w' := by
  have e1 : most < 0 → meterOf most = ⟨0, 0, zeroRoot, 0⟩ := fun h => by simp only [meterOf]; congr 1; omega
  have e2 : ¬ most < 0 → 1099511627776 < most → meterOf most = ⟨0, 0, zeroRoot, 1099511627776⟩ := fun h h' => by simp only [meterOf]; congr 1; omega
  have e3 : ¬ most < 0 → ¬ 1099511627776 < most → meterOf most = ⟨0, 0, zeroRoot, most⟩ := fun h h' => by simp only [meterOf]; congr 1; omega
  refine calls_w (vs := [.int .i64 most, .pointer (some ⟨p, 0, none⟩)]) Try.func34 rfl rfl rfl ?_ w H
  (repeat' (first
      | (with_reducible refine at_build ?_; first | refine yk (y_buildRM (M := meterOf most) (ev_tmp rfl) (ev_tmp rfl) (by first | exact e1 (by assumption) | exact e2 (by assumption) (by assumption) | exact e3 (by assumption) (by assumption))) ?_)
      | (with_reducible refine is_yk ?_; refine yk_auto (k := ?_))
      | (with_reducible refine is_owk0 ?_; refine owk0_auto (k := ?_))
      | (with_reducible refine is_owkc ?_; refine owk_auto (k := fun _ => ?_))
      | refine go1 (k := ?_)
      | (refine go2 (ka := ?_) (kb := ?_) <;> intro _)
      | fail))
  all_goals exact x_ret1 rfl rfl (fun w H => ⟨_, rfl, H.shutRM (meterOf_wf most)⟩)
set_option maxRecDepth 100000 in
set_option maxHeartbeats 1000000 in
theorem rm_next (ep : Int) (r : List UInt8) (cs : Array Value) (hcs : cs = (bvs r).toArray) (hr : r.length = 32) (he1 : ep ≤ 9223372036854775807) (H : St c (RMeterAt q (.pointer (some ⟨p, 0, none⟩)) M :: RefAt p D :: F) w) :
    Calls Try.prog 35 #[.pointer (some ⟨q, 0, none⟩), .int .i64 ep, .agg cs] w fun e w' =>
      e = .returned (.int .i64 (M.nextE (some D) ep)) ∧ St c (RMeterAt q (.pointer (some ⟨p, 0, none⟩)) (M.next (some D) ep r) :: RefAt p (M.nextDm D ep) :: F) w' := by
  subst hcs
  have hDw : D.act.WF := H.tail.openRef.1.act
  obtain ⟨hw, H⟩ := H.openRM
  have hm := rm_most (dv := .pointer (some ⟨p, 0, none⟩)) hw.root
  have hd := rm_disk (dv := .pointer (some ⟨p, 0, none⟩)) hw.root
  have hc0 := hw.count0
  have hc1 := hw.count1
  have hc2 := hw.most
  have hr32 : (bvs r).length = 32 := by rw [bvs_length, hr]
  obtain ⟨g, hg⟩ : ∃ g, D.goes = g := ⟨_, rfl⟩
  have hK0 := hDw.keep0
  have hK1 := hDw.keep1
  have hkeep : D.act.keep = D.keep := by unfold DiskM.act; split <;> rfl
  obtain ⟨M1, hM1⟩ : ∃ M1 : MeterM, M1 = { M with count := M.count + 1, epoch := ep, root := r } := ⟨_, rfl⟩
  have hM1r : M1.root.length = 32 := by rw [hM1]; exact hr
  have hd1 := rm_disk (dv := .pointer (some ⟨p, 0, none⟩)) hM1r
  have hl0 : 0 + 0 < (rmCells (.pointer (some ⟨p, 0, none⟩)) M).length := by rw [rm_length hw.root]; omega
  have hl1 : 0 + 1 < ((rmCells (.pointer (some ⟨p, 0, none⟩)) M).set (0 + 0) (.int .i64 (M.count + 1))).length := by rw [List.length_set, rm_length hw.root]; omega
  have hl2 : 0 + 2 + (bvs r).length ≤ (((rmCells (.pointer (some ⟨p, 0, none⟩)) M).set (0 + 0) (.int .i64 (M.count + 1))).set (0 + 1) (.int .i64 ep)).length := by rw [List.length_set, List.length_set, rm_length hw.root, hr32]; omega
  have hsp : splice (((rmCells (.pointer (some ⟨p, 0, none⟩)) M).set (0 + 0) (.int .i64 (M.count + 1))).set (0 + 1) (.int .i64 ep)) (0 + 2) (bvs r) = rmCells (.pointer (some ⟨p, 0, none⟩)) M1 := by
    rw [hM1]
    exact rm_root (M := { M with count := M.count + 1, epoch := ep }) hw.root hr
  have hf1 : ∀ h, RefAt p D.act h → Fld p (0 + 6) (.int .u64 D.act.keep) h := ref_fld fun _ _ _ => rfl
  have hf2 : ∀ h, RefAt p (D.act.off D.act.keep) h → Fld p (0 + 6) (.int .u64 D.act.keep) h := ref_fld fun _ _ _ => by have e := off_keep D.act D.act.keep; show some (Value.int .u64 (D.act.off D.act.keep).keep) = _; rw [e]
  refine calls_w (vs := [.pointer (some ⟨q, 0, none⟩), .int .i64 ep, .agg (bvs r).toArray]) Try.func35 rfl rfl rfl ?_ w H
  (repeat' (first
      | ((with_reducible refine at_fn 59 ?_); with_reducible refine owk_c1 evs_auto (by kernel_rfl) pick_auto (fun w H => ref_act_is rfl hg H) ?_)
      | ((with_reducible refine at_fn 36 ?_); with_reducible refine owk_c1 evs_auto (by kernel_rfl) pick_auto (fun w H => ref_lose _ hK0 hK1 H) ?_)
      | ((with_reducible refine at_storeO ?_); with_reducible refine owk0 (ow_store (ev_tmp rfl) (ev_tmp rfl) rfl upd_auto hl0) ?_)
      | ((with_reducible refine at_storeO ?_); with_reducible refine owk0 (ow_store (ev_tmp rfl) (ev_tmp rfl) rfl upd_auto hl1) ?_)
      | ((with_reducible refine at_storeO ?_); with_reducible refine owk0 (ow_storeE (ev_tmp rfl) (ev_tmp rfl) (bvs_oneCell r) hr32 hsp upd_auto hl2) ?_)
      | (with_reducible refine at_load ?_; first | refine yk (y_load (ev_tmp rfl) (hasCell_bl has_auto hm)) ?_ | refine yk (y_load (ev_tmp rfl) (hasCell_bl has_auto hd)) ?_ | refine yk (y_load (ev_tmp rfl) (hasCell_bl has_auto hd1)) ?_ | refine yk (y_load (ev_tmp rfl) (hasCell_tl (hasCell_tl ref_down))) ?_ | refine yk (y_load (ev_tmp rfl) ref_keep) ?_ | refine yk (y_loadN (ev_tmp rfl) (hasCells_all has_auto) hr32) ?_ | refine yk (y_load (ev_tmp rfl) hasCell_fld) ?_)
      | (with_reducible refine is_w ?_; first | refine w_plan (id := 5) [(0, true), (1, true), (2, true), (3, true), (4, true), (5, true), (6, true), (7, true), (8, true)] _ (by kernel_rfl) (by kernel_rfl) sel_all ?_ | refine w_plan (id := 13) [(0, true), (1, true), (2, true), (3, true), (4, true), (5, true), (6, true), (7, true), (8, true), (9, true), (10, true), (11, false)] [Fld p (0 + 6) (.int .u64 D.act.keep), Bl q 70 _] (by kernel_rfl) (by kernel_rfl) (.imp pick_auto hf1 sel_auto) ?_)
      | (with_reducible refine is_kept ?_; first | refine kept_same (.imp pick_auto hf2 sel_auto) ?_)
      | (with_reducible refine is_yk ?_; refine yk_auto (k := ?_))
      | (with_reducible refine is_owk0 ?_; refine owk0_auto (k := ?_))
      | (with_reducible refine is_owkc ?_; refine owk_auto (k := fun _ => ?_))
      | refine go1 (k := ?_)
      | (refine go2 (ka := ?_) (kb := ?_) <;> intro _)
      | fail))
  · rename_i h1
    obtain ⟨e1, e2, e3⟩ := share_down (M := M) h1 ep r
    rw [e1, e2, e3]
    exact x_ret1 rfl rfl (fun w H => ⟨rfl, Sel.st (.imp (.tl .hd) (shutRM hw) (.cons (.tl .hd) (.tl sel_all))) H⟩)
  · rename_i h1 h2
    obtain ⟨e1, e2, e3⟩ := next_arg (M := M) r h1 h2
    rw [e1, e2, e3]
    exact x_ret1 rfl rfl (fun w H => ⟨rfl, Sel.st (.imp (.tl .hd) (shutRM hw) (.cons (.tl .hd) (.tl sel_all))) H⟩)
  · rename_i h1 h2 h3
    obtain ⟨e1, e2, e3⟩ := next_spent (M := M) r h1 h2 (by omega)
    rw [e1, e2, e3]
    exact x_ret1 rfl rfl (fun w H => ⟨rfl, Sel.st (.imp (.tl .hd) (shutRM hw) (.cons (.tl .hd) (.tl sel_all))) H⟩)
  · rename_i h4 h5
    rw [h5] at h4; cases h4
  · rename_i h1 h2 h3 h4 h5
    obtain ⟨e1, e2, e3⟩ := next_stays (M := M) r h1 h2 (by omega) (hg.trans h5)
    have hwn := hw.next (some D) ep r hr he1
    rw [e2, ← hM1] at hwn
    rw [e1, e2, e3, ← hM1]
    exact x_ret1 rfl rfl (fun w H => ⟨rfl, Sel.st (.imp (.tl (.tl .hd)) (shutRM hwn) (.cons .hd (.tl sel_all))) H⟩)
  · rename_i h1 h2 h3 h4 h5 h6
    obtain ⟨e1, e2, e3⟩ := next_goes (M := M) r h1 h2 (by omega) (hg.trans h6)
    rw [if_pos (by omega), ← hM1] at e2
    have hwn := hw.next (some D) ep r hr he1
    rw [e2] at hwn
    rw [e1, e2, e3, ← hkeep]
    exact x_ret1 rfl rfl (fun w H => ⟨rfl, Sel.st (.imp (.tl (.tl .hd)) (shutRM hwn) (.cons .hd (.tl sel_all))) H⟩)
  · rename_i h4 h5 h6
    rw [h6] at h4; cases h4
  · rename_i h1 h2 h3 h4 h5 h6
    obtain ⟨e1, e2, e3⟩ := next_goes (M := M) r h1 h2 (by omega) (hg.trans h6)
    rw [if_neg (by omega)] at e2
    rw [e1, e2, e3, ← hkeep]
    exact x_ret1 rfl rfl (fun w H => ⟨rfl, Sel.st (.imp (.tl (.tl .hd)) (shutRM hw) (.cons .hd (.tl sel_all))) H⟩)
  · rename_i h4 h5 h6
    rw [h6] at h4; cases h4
end
end Go.Proofs.Ytakeilefbcpabaa

/- The calls of the laws on the register, opened. -/
namespace Go.Proofs.Ytakeilefbcpabaa
open Go.ChangeShapes Go.WideShapes Go.ChangeAt Go.RowKit Go.Deep

section
variable {H : Type} {enc : TypeId × Value → H} {W : World}
theorem elem_mcall (n : Nat) (cs : List Value) (x : DataW H × List MemPlace) (hc : cs.length = 35) (h : DataW.trod enc Try.prog W 0 (fun _ => true) true n 40 cs = some x) : ∃ y : MCall, IsMCall W y cs := by
  obtain ⟨y0, y1, y2, y3, n, _, _, h0, h1, h2, h3⟩ := Go.Joins.trod_struct4 Try.underlying40 h
  obtain ⟨k, e0, k0, k1⟩ := elem_int Try.underlying3 h0
  obtain ⟨e, e1, e0', e1'⟩ := elem_int Try.underlying3 h1
  obtain ⟨r, e2, hr⟩ := elem_bytes Try.underlying28 Try.underlying5 (by kernel_rfl) (by kernel_rfl) h2
  obtain ⟨p, e3, p0, p1⟩ := elem_u64 Try.underlying38 h3
  refine ⟨⟨k, e, r, p⟩, ⟨k0, k1, e0', e1', hr, p0, p1⟩, ?_⟩
  have q0 : (cs.drop 0).take 1 = [.int .i64 k] := (congrArg (fun n => (cs.drop 0).take n) (show 1 = Try.prog.cellsOf 3 by kernel_rfl)).trans e0
  have q1 : (cs.drop 1).take 1 = [.int .i64 e] := (congrArg (fun n => (cs.drop 1).take n) (show 1 = Try.prog.cellsOf 3 by kernel_rfl)).trans e1
  have q2 : (cs.drop 2).take 32 = bvs r := (congrArg (fun n => (cs.drop 2).take n) (show 32 = Try.prog.cellsOf 28 by kernel_rfl)).trans e2
  have q3 : (cs.drop 34).take 1 = [.int .u64 p] := (congrArg (fun n => (cs.drop 34).take n) (show 1 = Try.prog.cellsOf 38 by kernel_rfl)).trans e3
  have t3 : cs.drop 34 = [.int .u64 p] := by rw [← q3, List.take_of_length_le (by simp; omega)]
  have t2 : cs.drop 2 = bvs r ++ [.int .u64 p] := by
    rw [← List.take_append_drop 32 (cs.drop 2), q2, List.drop_drop, t3]
  have t1 : cs.drop 1 = .int .i64 e :: (bvs r ++ [.int .u64 p]) := by
    rw [← List.take_append_drop 1 (cs.drop 1), q1, List.drop_drop, t2]; rfl
  show cs = .int .i64 k :: .int .i64 e :: (bvs r ++ [.int .u64 p])
  rw [← List.take_append_drop 1 cs, t1]
  rw [List.drop_zero] at q0
  rw [q0]; rfl
theorem open_mcalls {a : Option Addr} {len cap : Nat} {d : DataW H} {ps : List MemPlace}
    (h : DataW.Trod enc Try.prog W 0 (fun _ => true) true 36 (.slice a len cap) d ps) : ∃ zs, ElemsOf IsMCall 35 W a len zs := by
  obtain ⟨fuel, hf⟩ := h
  obtain ⟨a', len', cap', hcs, _, _, _, ys, hy⟩ := open_elems Try.underlying36 (by kernel_rfl) elem_mcall hf
  simp [Value.cells] at hcs
  obtain ⟨rfl, rfl, rfl⟩ := hcs
  exact ⟨ys, hy⟩
end
end Go.Proofs.Ytakeilefbcpabaa

/- MeterDoes: the walk. -/
namespace Go.Proofs.Ytakeilefbcpabaa
open Go.RowKit
section
variable {P : Program} {N : Nat} {c : Con} {Q : Exit → Act → World → Prop} {E : Env} {L F : List HP} {w : World} {p : Nat} {D : DiskM}
theorem ref_down_is {b : Bool} (hd : D.down = b) : HasCell (St c (RefAt p D :: L)) ⟨p, 0 + 3, none⟩ (.bool b) := by subst hd; exact ref_down
theorem openRM' {q : Nat} {dv : Value} {M : MeterM} : ∀ h, RMeterAt q dv M h → Bl q 70 (rmCells dv M) h := fun _ a => a.2
theorem w_rm {q : Nat} {dv : Value} {M : MeterM} {x : Code} (hp : Pick L (RMeterAt q dv M) F) (h : M.WF → W P N c Q x E (Bl q 70 (rmCells dv M) :: F)) : W P N c Q x E L := fun a w hf H =>
  h (hp.st H).openRM.1 a w hf (hp.st H).openRM.2
theorem HasR.of_cells {H : World → Prop} {ad : Addr} {n cap : Nat} {cs : List Value} (hc : HasCells H ad cs) (hl : cs.length = n) (h1 : n ≤ cap) (h2 : cap ≤ 9223372036854775807) : HasR H (.slice (some ad) n cap) n cs := reads_has hc (by omega) h1 h2
theorem disk_down_is {b : Bool} (hd : D.down = b) (H : St c (DiskAt p D :: F) w) : Calls Try.prog 40 #[.pointer (some ⟨p, 0, none⟩)] w fun e w' => e = .returned (.bool b) ∧ w = w' := by subst hd; exact disk_down H
theorem fit_nextDm {k j : Nat} {M : MeterM} (h : Fit k j D) (ep : Int) : Fit k j (M.nextDm D ep) := by
  unfold MeterM.nextDm
  split
  · split
    · exact fit_off (fit_act h) _
    · exact fit_act h
  · exact h
theorem mcall_root' {x : MCall} (h : x.root.length = 32) : (((mcallCells x).toArray).toList.drop (0 + 2)).take (bvs x.root).length = bvs x.root := by
  show (bvs x.root ++ [Value.int .u64 x.keep]).take (bvs x.root).length = bvs x.root
  exact List.take_left
theorem mcall_keep' {x : MCall} (h : x.root.length = 32) : ((mcallCells x).toArray).toList[0 + 34]? = some (.int .u64 x.keep) := by
  show (bvs x.root ++ [Value.int .u64 x.keep])[32]? = _
  rw [List.getElem?_append_right (by rw [bvs_length]; omega), bvs_length, h]; rfl
theorem rm_root' {dv : Value} {M : MeterM} : (((rmCells dv M).toArray).toList.drop (0 + 2)).take (bvs M.root).length = bvs M.root := by
  show (bvs M.root ++ [Value.int .i64 M.most, dv]).take (bvs M.root).length = bvs M.root
  exact List.take_left
theorem mcall_one (x : MCall) : ∀ v ∈ mcallCells x, v.oneCell' = true := by
  intro v hv
  simp only [mcallCells, List.mem_cons, List.mem_append, List.not_mem_nil, or_false] at hv
  rcases hv with rfl | rfl | hv | rfl
  · rfl
  · rfl
  · exact bvs_oneCell _ v hv
  · rfl
theorem x_retCT {fn : Func} {R : Ending → World → Prop} {t u ty T b n : Nat} {cs : List Value} {v : Value} [hrow : TRow P ty n] (hr : fn.results = #[.cell t ty, .tmp u]) (hl : look E t = some (.pointer (some ⟨b, 0, none⟩))) (hu : look E u = some v) (hb : Has (St c L) b (.cells cs.toArray T (0, 0))) (hn : cs.length = n)
    (h : ∀ w, St c L w → R (.returned (.tuple #[.agg cs.toArray, v])) w) : X N c (bodyPost P fn R) .ret E L := fun a w hf H => by
  have hd := hrow.u
  cases hq : P.underlying ty with
  | none => rw [hq] at hd; cases hd
  | some ds =>
    rw [hq] at hd
    have hd' : ds.isRow = true := by simpa using hd
    refine bodyPost_ret (v := .tuple #[.agg cs.toArray, v]) ?_ hf.defers (h w H)
    have e := results_ct hr a.tmps w b T cs.toArray (0, 0) ds (hf.get t _ hl) (hb w H) hq hd' (by rw [hrow.i, ← hn]; simp)
    rw [hf.get u v hu] at e
    exact e
end
attribute [local irreducible] Y OW YK OWK W WL WP X CV Ev Evs HasCell HasCells Has Met Again Kept
section
variable {c : Con} {F : List HP} {w : World}
set_option maxRecDepth 100000 in
theorem meter_get_nil (H : St c F w) : Calls Try.prog 25 #[.pointer none] w fun e w' => e = .returned (.tuple #[.agg (valueL 0 0 zeroRoot).toArray, .int .i64 2]) ∧ St c F w' := by
  have hz : Value.agg (([Value.int .i64 0, .int .i64 0] ++ List.replicate 32 (Value.int .u8 0))).toArray = .agg (valueL 0 0 zeroRoot).toArray := by rfl
  have hl : ([Value.int .i64 0, .int .i64 0] ++ List.replicate 32 (Value.int .u8 0)).length = 34 := by rfl
  refine calls_w (vs := [.pointer none]) Try.func25 rfl rfl rfl ?_ w H
  (repeat' (first
      | ((with_reducible refine at_storeO ?_); with_reducible refine owk0 (ow_storeAll (ev_tmp rfl) (ev_tmp rfl) (valueL_one 0 0 zeroRoot) (valueL_length _ _ zeroRoot_length) upd_auto hl) ?_)
      | (with_reducible refine at_build ?_; first | refine yk_eq y_buildZero hz ?_)
      | (with_reducible refine is_yk ?_; refine yk_auto (k := ?_))
      | (with_reducible refine is_owk0 ?_; refine owk0_auto (k := ?_))
      | (with_reducible refine is_owkc ?_; refine owk_auto (k := fun _ => ?_))
      | refine go1 (k := ?_)
      | (refine go2 (ka := ?_) (kb := ?_) <;> intro _)
      | fail))
  exact x_retCT rfl rfl rfl has_hd (valueL_length _ _ zeroRoot_length) (fun w H => ⟨rfl, H.tail⟩)
set_option maxRecDepth 100000 in
theorem meter_next_nil (ep : Int) (r : List UInt8) (H : St c F w) : Calls Try.prog 19 #[.pointer none, .int .i64 ep, .agg (bvs r).toArray] w fun e w' => e = .returned (.int .i64 2) ∧ St c F w' := by
  refine calls_w (vs := [.pointer none, .int .i64 ep, .agg (bvs r).toArray]) Try.func19 rfl rfl rfl ?_ w H
  (repeat' (first
      | (with_reducible refine is_yk ?_; refine yk_auto (k := ?_))
      | (with_reducible refine is_owk0 ?_; refine owk0_auto (k := ?_))
      | (with_reducible refine is_owkc ?_; refine owk_auto (k := fun _ => ?_))
      | refine go1 (k := ?_)
      | (refine go2 (ka := ?_) (kb := ?_) <;> intro _)
      | fail))
  exact x_ret1 rfl rfl (fun w H => ⟨rfl, H.tail⟩)
theorem meter_left_nil' (H : St c F w) : Calls Try.prog 20 #[.pointer none] w fun e w' => e = .returned (.int .i64 0) ∧ St c F w' :=
  (meter_left_nil w).mono fun _ _ h => ⟨h.1, h.2 ▸ H⟩
end
set_option maxRecDepth 100000 in
set_option maxHeartbeats 4000000 in
theorem meterDoes_walk (most : Int) (A : Option Addr) (len cap : Nat) (zs : List MCall) (w : World) (_hm : (Lit.int .i64 most).wf = true) (hrow : ElemsOf IsMCall 35 w A len zs) :
    Calls Try.prog 8 #[.int .i64 most, .slice A len cap] w fun e w' => e = .returned (.bool true) ∧ Below w.heap.size w w' := by
  obtain ⟨hzl, hl63, hcell⟩ := hrow
  refine calls_w (vs := [.int .i64 most, .slice A len cap]) Try.func8 rfl rfl rfl ?_ w (St.start w)
  have hk2 : 2 = clip 2 := by decide
  (repeat' (first
      | ((with_reducible refine at_fn 17 ?_); with_reducible refine owk_c0s evs_auto (by kernel_rfl) (fun w H => alive12 H) ?_)
      | ((with_reducible refine at_fn 21 ?_); with_reducible refine owk_c0x evs_auto (by kernel_rfl) (fun w H => disk_new_is 2 (by omega) (by omega) hk2 H) (fun p => ?_))
      | ((with_reducible refine at_fn 33 ?_); with_reducible refine owk_c0x evs_auto (by kernel_rfl) (fun w H => ref_new 2 H) (fun e => ?_))
      | ((with_reducible refine at_fn 18 ?_); with_reducible refine owk_c0x evs_auto (by kernel_rfl) (fun w H => meter_new H most _ (.inr ⟨_, rfl⟩)) (fun m => ?_))
      | ((with_reducible refine at_fn 34 ?_); with_reducible refine owk_c0x evs_auto (by kernel_rfl) (fun w H => rm_new most H) (fun o => ?_))
      | (with_reducible refine is_yk ?_; refine yk_auto (k := ?_))
      | (with_reducible refine is_owk0 ?_; refine owk0_auto (k := ?_))
      | (with_reducible refine is_owkc ?_; refine owk_auto (k := fun _ => ?_))
      | refine go1 (k := ?_)
      | (refine go2 (ka := ?_) (kb := ?_) <;> intro _)
      | fail))
  · exact x_ret1 rfl rfl (fun w H => ⟨rfl, H.toBelow'⟩)
  rename_i hlen
  rw [← hk2]
  have hl34 : ([Value.int .i64 0, .int .i64 0] ++ List.replicate 32 (Value.int .u8 0)).length = 34 := by rfl
  refine w_loop (α := Nat × MeterM × DiskM) (fun x => x.1 ≤ len ∧ Fit 2 x.1 x.2.2 ∧ x.2.1.WF)
    (fun x => [(5, .pointer (some ⟨p, 0, none⟩)), (6, .pointer (some ⟨e, 0, none⟩)), (7, .pointer (some ⟨m, 0, none⟩)), (8, .pointer (some ⟨o, 0, none⟩)), (30, .slice A len cap), (31, .int .i64 len), (32, .int .i64 (x.1 : Int))])
    (fun x => [MeterAt m (.pointer (some ⟨p, 0, none⟩)) x.2.1, DiskAt p x.2.2, RMeterAt o (.pointer (some ⟨e, 0, none⟩)) x.2.1, RefAt e x.2.2, Old w]) (fun x => len - x.1) (0, meterOf most, DiskM.new 2)
    ⟨Nat.zero_le _, fit_new 2, meterOf_wf most⟩ sub_auto sel_auto (fun x hx => ?_)
  obtain ⟨j, M, D⟩ := x
  obtain ⟨hj, hD, hM⟩ := hx
  dsimp only at hj hD hM ⊢
  by_cases hlt : j < len
  · obtain ⟨a, cs, rfl, ⟨⟨y1, y2, y3, y4, hyr, y5, y6⟩, rfl⟩, -, hca⟩ := hcell j zs[j] (List.getElem?_eq_getElem (by omega))
    generalize zs[j] = y at y1 y2 y3 y4 hyr y5 y6 hca
    have hca' : ∀ i u, (mcallCells y)[i]? = some u → w.cell? ((a.add (j * 35)).add i) = some u := hca
    have hy35 := mcall_length hyr
    have hroot := mcall_root' hyr
    have hkp := mcall_keep' hyr
    have hr32 : (bvs y.root).length = 32 := by rw [bvs_length, hyr]
    have hz35 : ([Value.int .i64 0, .int .i64 0] ++ (List.replicate 32 (Value.int .u8 0) ++ ([Value.int .u64 0]))).length = 35 := by rfl
    have hwl : D.waits.length ≤ 1073741824 := by have := hD.2.2; omega
    have hD1 := fit_mono hD (by omega : j ≤ j + 1)
    (repeat' (first
      | ((with_reducible refine at_fn 19 ?_); with_reducible refine owk_c2 evs_auto (by kernel_rfl) pick_auto pick_auto (fun w H => meter_next_d H y.epoch _ y.root rfl hyr y4 rfl rfl rfl) ?_)
      | ((with_reducible refine at_fn 35 ?_); with_reducible refine owk_c2 evs_auto (by kernel_rfl) pick_auto pick_auto (fun w H => rm_next y.epoch y.root _ rfl hyr y4 H) ?_)
      | ((with_reducible refine at_fn 22 ?_); with_reducible refine owk_c1 evs_auto (by kernel_rfl) pick_auto (fun w H => disk_off_is (D := D) y.keep y5 y6 rfl H) ?_)
      | ((with_reducible refine at_fn 36 ?_); with_reducible refine owk_c1 evs_auto (by kernel_rfl) pick_auto (fun w H => ref_lose (D := D) y.keep y5 y6 H) ?_)
      | ((with_reducible refine at_fn 24 ?_); with_reducible refine owk_c1 evs_auto (by kernel_rfl) pick_auto (fun w H => disk_on H) ?_)
      | ((with_reducible refine at_fn 23 ?_); with_reducible refine owk_c1 evs_auto (by kernel_rfl) pick_auto (fun w H => disk_arm H y.epoch y.keep y3 y4 y5 y6) ?_)
      | ((with_reducible refine at_fn 37 ?_); with_reducible refine owk_c1 evs_auto (by kernel_rfl) pick_auto (fun w H => ref_arm y.epoch y.keep y4 y5 y6 H) ?_)
      | ((with_reducible refine at_fn 30 ?_); with_reducible refine owk_c1 evs_auto (by kernel_rfl) pick_auto (fun w H => disk_write_to (D := D) 0 (by omega) (by omega) _ y.root (n := 32) (HasR.of_cells (hasCells_bl has_auto hroot) hr32 (by omega) (by omega)) hwl H) ?_)
      | ((with_reducible refine at_fn 38 ?_); with_reducible refine owk_c1 evs_auto (by kernel_rfl) pick_auto (fun w H => ref_write (D := D) 0 y.root hwl H) ?_)
      | ((with_reducible refine at_storeO ?_); with_reducible refine owk0 (ow_storeAll (ev_tmp rfl) (ev_tmp rfl) (mcall_one y) hy35 upd_auto hz35) ?_)
      | (with_reducible refine is_owkc ?_; first | refine owk0 (ow_ref_on (ev_tmp rfl) ev_const pick_auto) ?_)
      | (with_reducible refine at_load ?_; first | refine yk (y_loadN (ev_tmp rfl) (by (repeat (first | exact hasCells_old hca' | refine hasCells_tl ?_)); (first | done | fail)) hy35) ?_ | refine yk (y_load (ev_tmp rfl) (hasCell_bl has_auto hkp)) ?_ | refine yk (y_loadN (ev_tmp rfl) (hasCells_bl has_auto hroot) hr32) ?_)
      | (with_reducible refine at_conv ?_; first | refine yk (y_str (n := 32) (l := y.root) (ev_tmp rfl) (HasR.of_cells (hasCells_bl has_auto hroot) hr32 (by omega) (by omega))) ?_)
      | (with_reducible refine is_w ?_; first | refine w_meet (x := .seq (.region 10 _ _) _) (α := MeterM × DiskM) (fun x => Fit 2 (j + 1) x.2 ∧ x.1.WF) (fun _ => [(5, .pointer (some ⟨p, 0, none⟩)), (6, .pointer (some ⟨e, 0, none⟩)), (7, .pointer (some ⟨m, 0, none⟩)), (8, .pointer (some ⟨o, 0, none⟩)), (30, .slice (some a) len cap), (31, .int .i64 len), (32, .int .i64 (j : Int))]) (fun x => [MeterAt m (.pointer (some ⟨p, 0, none⟩)) x.1, DiskAt p x.2, Bl o 70 (rmCells (.pointer (some ⟨e, 0, none⟩)) x.1), RefAt e x.2, Old w]) ?_ (fun x hx => ?_) | refine w_plan (id := 12) [(0, true), (1, true), (2, true), (3, true), (4, true), (6, true), (7, true), (8, true), (9, true), (10, true), (5, false), (11, false), (12, false)] [Bl _ 40 (mcallCells y)] (by kernel_rfl) (by kernel_rfl) sel_auto ?_ | refine w_plan (id := 24) [(0, true), (1, true), (2, true), (4, true), (5, true), (6, true), (7, true), (3, false), (8, false), (9, false)] [Bl _ 40 (mcallCells y)] (by kernel_rfl) (by kernel_rfl) sel_auto ?_)
      | (with_reducible refine is_yk ?_; refine yk_auto (k := ?_))
      | (with_reducible refine is_owk0 ?_; refine owk0_auto (k := ?_))
      | (with_reducible refine is_owkc ?_; refine owk_auto (k := fun _ => ?_))
      | refine go1 (k := ?_)
      | (refine go2 (ka := ?_) (kb := ?_) <;> intro _)
      | fail))
    · exact x_met (M.next (some D) y.epoch y.root, M.nextDm D y.epoch) ⟨fit_nextDm hD1 _, hM.next (some D) y.epoch y.root hyr y4⟩ sub_auto (.cons pick_auto (.cons pick_auto (.imp pick_auto openRM' (.cons pick_auto (.cons pick_auto .nil)))))
    · exact x_met (M, D.off y.keep) ⟨fit_off hD1 _, hM⟩ sub_auto (.cons pick_auto (.cons pick_auto (.imp pick_auto openRM' (.cons pick_auto (.cons pick_auto .nil)))))
    · exact x_met (M, D.on) ⟨fit_on hD1, hM⟩ sub_auto (.cons pick_auto (.cons pick_auto (.imp pick_auto openRM' (.cons pick_auto (.cons pick_auto .nil)))))
    · exact x_met (M, D.arm y.epoch y.keep) ⟨fit_arm hD1 _ _, hM⟩ sub_auto (.cons pick_auto (.cons pick_auto (.imp pick_auto openRM' (.cons pick_auto (.cons pick_auto .nil)))))
    · exact x_met (M, D.write 0 y.root) ⟨fit_write hD _ _, hM⟩ sub_auto (.cons pick_auto (.cons pick_auto (.imp pick_auto openRM' (.cons pick_auto (.cons pick_auto .nil)))))
    · exact x_met (M, D) ⟨hD1, hM⟩ sub_auto (.cons pick_auto (.cons pick_auto (.imp pick_auto openRM' (.cons pick_auto (.cons pick_auto .nil)))))
    · clear hD hM hD1 hwl
      obtain ⟨M, D⟩ := x
      obtain ⟨hD, hM⟩ := hx
      dsimp only at hD hM ⊢
      have hMr : (bvs M.root).length = 32 := by rw [bvs_length, hM.root]
      have hro := rm_root' (dv := .pointer (some ⟨e, 0, none⟩)) (M := M)
      have hmost := rm_most (dv := .pointer (some ⟨e, 0, none⟩)) hM.root
      have hv34 := valueL_length M.count M.epoch hM.root
      have hz34 := valueL_length 0 0 zeroRoot_length
      have hl34 : ([Value.int .i64 0, .int .i64 0] ++ List.replicate 32 (Value.int .u8 0)).length = 34 := by rfl
      have hz : Value.agg (([Value.int .i64 0, .int .i64 0] ++ List.replicate 32 (Value.int .u8 0))).toArray = .agg (valueL 0 0 zeroRoot).toArray := by rfl
      have b1 := hM.count0
      have b2 := hM.count1
      have b3 := hM.most
      have b4 := hM.epoch0
      have b5 := hM.epoch1
      have hsame := fun w => value_same (c := M.count) (e := M.epoch) (r := M.root) ⟨by omega, by omega⟩ ⟨by omega, by omega⟩ hM.root w
      have hsame0 := fun w => value_same (c := 0) (e := 0) (r := zeroRoot) ⟨by omega, by omega⟩ ⟨by omega, by omega⟩ zeroRoot_length w
      cases hd : D.down
      · (repeat' (first
      | ((with_reducible refine at_fn 25 ?_); with_reducible refine owk_c2 evs_auto (by kernel_rfl) pick_auto pick_auto (fun w H => meter_get_e (D := D) hd rfl rfl rfl H) ?_)
      | ((with_reducible refine at_fn 20 ?_); with_reducible refine owk_c1 evs_auto (by kernel_rfl) pick_auto (fun w H => meter_left_w (M := M) rfl H) ?_)
      | ((with_reducible refine at_fn 39 ?_); with_reducible refine owk_c1q evs_auto (by kernel_rfl) pick_auto (fun w H => disk_acts H) ?_)
      | ((with_reducible refine at_fn 40 ?_); with_reducible refine owk_c1q evs_auto (by kernel_rfl) pick_auto (fun w H => disk_down_is hd H) ?_)
      | ((with_reducible refine at_storeO ?_); with_reducible refine owk0 (ow_storeAll (ev_tmp rfl) (ev_tmp rfl) (valueL_one _ _ _) hv34 upd_auto hl34) ?_)
      | ((with_reducible refine at_storeO ?_); with_reducible refine owk0 (ow_storeAll (ev_tmp rfl) (ev_tmp rfl) (valueL_one 0 0 zeroRoot) hz34 upd_auto hl34) ?_)
      | ((with_reducible refine at_storeO ?_); with_reducible refine owk0 (ow_storeAll (ev_tmp rfl) (ev_tmp rfl) (valueL_one 0 0 zeroRoot) hz34 upd_auto hv34) ?_)
      | (with_reducible refine at_load ?_; first | refine yk (y_loadN (ev_tmp rfl) (hasCells_bl has_auto hro) hMr) ?_ | refine yk (y_load (ev_tmp rfl) (hasCell_bl has_auto hmost)) ?_ | refine yk (y_loadN (ev_tmp rfl) (hasCells_all (cs := valueL _ _ _) has_auto) (by first | exact hv34 | exact hz34)) ?_ | refine yk (y_load (ev_tmp rfl) (hasCell_tl (hasCell_tl (hasCell_tl (ref_down_is hd))))) ?_ | refine yk (y_load (ev_tmp rfl) (hasCell_tl (hasCell_tl (hasCell_tl (hasCell_tl (ref_down_is hd)))))) ?_ | refine yk (y_load (ev_tmp rfl) (hasCell_tl (hasCell_tl (hasCell_tl (hasCell_tl (hasCell_tl (ref_down_is hd))))))) ?_ | refine yk (y_load (ev_tmp rfl) (hasCell_tl (hasCell_tl (hasCell_tl (hasCell_tl (hasCell_tl (hasCell_tl (ref_down_is hd)))))))) ?_ | refine yk (y_load (ev_tmp rfl) (hasCell_tl (hasCell_tl (hasCell_tl ref_acts)))) ?_ | refine yk (y_load (ev_tmp rfl) (hasCell_tl (hasCell_tl (hasCell_tl (hasCell_tl ref_acts))))) ?_ | refine yk (y_load (ev_tmp rfl) (hasCell_tl (hasCell_tl (hasCell_tl (hasCell_tl (hasCell_tl ref_acts)))))) ?_ | refine yk (y_load (ev_tmp rfl) (hasCell_tl (hasCell_tl (hasCell_tl (hasCell_tl (hasCell_tl (hasCell_tl ref_acts))))))) ?_)
      | (with_reducible refine at_build ?_; first | refine yk (y_build_value (ev_tmp rfl) (ev_tmp rfl) (ev_tmp rfl) hM.root) ?_ | refine yk_eq y_buildZero hz ?_)
      | (with_reducible refine at_bin ?_; first | refine yk (y_aggCmp (ev_tmp rfl) (ev_tmp rfl) guard_value hsame) ?_)
      | (with_reducible refine is_w ?_; first | refine w_plan (id := 27) [(0, true), (1, true), (2, true), (3, true), (4, true), (5, true), (6, true), (7, true), (8, true), (9, true), (10, true), (11, true), (12, true), (13, false), (14, false)] _ (by kernel_rfl) (by kernel_rfl) sel_all ?_ | refine w_plan (id := 30) [(0, true), (1, true), (2, true), (3, true), (4, true), (5, true), (6, true), (7, true), (8, true), (9, true), (10, true), (11, true), (12, true), (13, true), (14, true), (15, true), (16, true), (17, true), (18, true), (19, true), (20, true), (21, true), (23, true), (24, true), (25, true), (26, true), (27, true), (28, true), (29, true), (30, true), (31, true), (22, false), (32, false), (33, false), (34, false), (35, true), (37, true), (38, true), (39, true), (40, true), (36, false), (41, false), (42, false), (43, false), (44, true), (46, true), (47, true), (48, true), (49, true), (45, false), (50, false), (51, false)] _ (by kernel_rfl) (by kernel_rfl) sel_all ?_)
      | (with_reducible refine is_yk ?_; refine yk_auto (k := ?_))
      | (with_reducible refine is_owk0 ?_; refine owk0_auto (k := ?_))
      | (with_reducible refine is_owkc ?_; refine owk_auto (k := fun _ => ?_))
      | refine go1 (k := ?_)
      | (refine go2 (ka := ?_) (kb := ?_) <;> intro _)
      | fail))
        exact x_again (j + 1, M, D) ⟨hlt, hD, hM⟩ (show len - (j + 1) < len - j by omega) sub_auto (.cons pick_auto (.cons pick_auto (.imp pick_auto (shutRM hM) (.cons pick_auto (.cons pick_auto .nil)))))
      · (repeat' (first
      | ((with_reducible refine at_fn 25 ?_); with_reducible refine owk_c2 evs_auto (by kernel_rfl) pick_auto pick_auto (fun w H => meter_get_x (D := D) hd H) ?_)
      | ((with_reducible refine at_fn 20 ?_); with_reducible refine owk_c1 evs_auto (by kernel_rfl) pick_auto (fun w H => meter_left_w (M := M) rfl H) ?_)
      | ((with_reducible refine at_fn 39 ?_); with_reducible refine owk_c1q evs_auto (by kernel_rfl) pick_auto (fun w H => disk_acts H) ?_)
      | ((with_reducible refine at_fn 40 ?_); with_reducible refine owk_c1q evs_auto (by kernel_rfl) pick_auto (fun w H => disk_down_is hd H) ?_)
      | ((with_reducible refine at_storeO ?_); with_reducible refine owk0 (ow_storeAll (ev_tmp rfl) (ev_tmp rfl) (valueL_one _ _ _) hv34 upd_auto hl34) ?_)
      | ((with_reducible refine at_storeO ?_); with_reducible refine owk0 (ow_storeAll (ev_tmp rfl) (ev_tmp rfl) (valueL_one 0 0 zeroRoot) hz34 upd_auto hl34) ?_)
      | ((with_reducible refine at_storeO ?_); with_reducible refine owk0 (ow_storeAll (ev_tmp rfl) (ev_tmp rfl) (valueL_one 0 0 zeroRoot) hz34 upd_auto hv34) ?_)
      | (with_reducible refine at_load ?_; first | refine yk (y_loadN (ev_tmp rfl) (hasCells_bl has_auto hro) hMr) ?_ | refine yk (y_load (ev_tmp rfl) (hasCell_bl has_auto hmost)) ?_ | refine yk (y_loadN (ev_tmp rfl) (hasCells_all (cs := valueL _ _ _) has_auto) (by first | exact hv34 | exact hz34)) ?_ | refine yk (y_load (ev_tmp rfl) (hasCell_tl (hasCell_tl (hasCell_tl (ref_down_is hd))))) ?_ | refine yk (y_load (ev_tmp rfl) (hasCell_tl (hasCell_tl (hasCell_tl (hasCell_tl (ref_down_is hd)))))) ?_ | refine yk (y_load (ev_tmp rfl) (hasCell_tl (hasCell_tl (hasCell_tl (hasCell_tl (hasCell_tl (ref_down_is hd))))))) ?_ | refine yk (y_load (ev_tmp rfl) (hasCell_tl (hasCell_tl (hasCell_tl (hasCell_tl (hasCell_tl (hasCell_tl (ref_down_is hd)))))))) ?_ | refine yk (y_load (ev_tmp rfl) (hasCell_tl (hasCell_tl (hasCell_tl ref_acts)))) ?_ | refine yk (y_load (ev_tmp rfl) (hasCell_tl (hasCell_tl (hasCell_tl (hasCell_tl ref_acts))))) ?_ | refine yk (y_load (ev_tmp rfl) (hasCell_tl (hasCell_tl (hasCell_tl (hasCell_tl (hasCell_tl ref_acts)))))) ?_ | refine yk (y_load (ev_tmp rfl) (hasCell_tl (hasCell_tl (hasCell_tl (hasCell_tl (hasCell_tl (hasCell_tl ref_acts))))))) ?_)
      | (with_reducible refine at_build ?_; first | refine yk (y_build_value (ev_tmp rfl) (ev_tmp rfl) (ev_tmp rfl) hM.root) ?_ | refine yk_eq y_buildZero hz ?_)
      | (with_reducible refine at_bin ?_; first | refine yk (y_aggCmp (ev_tmp rfl) (ev_tmp rfl) guard_value hsame0) ?_)
      | (with_reducible refine is_w ?_; first | refine w_plan (id := 27) [(0, true), (1, true), (2, true), (3, true), (4, true), (5, true), (6, true), (7, true), (8, true), (9, true), (10, true), (11, true), (12, true), (13, false), (14, false)] _ (by kernel_rfl) (by kernel_rfl) sel_all ?_ | refine w_plan (id := 30) [(0, true), (1, true), (2, true), (3, true), (4, true), (5, true), (6, true), (7, true), (8, true), (9, true), (10, true), (11, true), (12, true), (13, true), (14, true), (15, true), (16, true), (17, true), (18, true), (19, true), (20, true), (21, true), (23, true), (24, true), (25, true), (26, true), (27, true), (28, true), (29, true), (30, true), (31, true), (22, false), (32, false), (33, false), (34, false), (35, true), (37, true), (38, true), (39, true), (40, true), (36, false), (41, false), (42, false), (43, false), (44, true), (46, true), (47, true), (48, true), (49, true), (45, false), (50, false), (51, false)] _ (by kernel_rfl) (by kernel_rfl) sel_all ?_)
      | (with_reducible refine is_yk ?_; refine yk_auto (k := ?_))
      | (with_reducible refine is_owk0 ?_; refine owk0_auto (k := ?_))
      | (with_reducible refine is_owkc ?_; refine owk_auto (k := fun _ => ?_))
      | refine go1 (k := ?_)
      | (refine go2 (ka := ?_) (kb := ?_) <;> intro _)
      | fail))
        exact x_again (j + 1, M, D) ⟨hlt, hD, hM⟩ (show len - (j + 1) < len - j by omega) sub_auto (.cons pick_auto (.cons pick_auto (.imp pick_auto (shutRM hM) (.cons pick_auto (.cons pick_auto .nil)))))
  · (repeat' (first
      | ((with_reducible refine at_fn 25 ?_); with_reducible refine owk_c0s evs_auto (by kernel_rfl) (fun w H => meter_get_nil H) ?_)
      | ((with_reducible refine at_fn 19 ?_); with_reducible refine owk_c0s evs_auto (by kernel_rfl) (fun w H => meter_next_nil 0 zeroRoot H) ?_)
      | ((with_reducible refine at_fn 20 ?_); with_reducible refine owk_c0s evs_auto (by kernel_rfl) (fun w H => meter_left_nil' H) ?_)
      | ((with_reducible refine at_storeO ?_); with_reducible refine owk0 (ow_storeAll (ev_tmp rfl) (ev_tmp rfl) (valueL_one 0 0 zeroRoot) (valueL_length _ _ zeroRoot_length) upd_auto hl34) ?_)
      | (with_reducible refine at_build ?_; first | refine yk y_build0 ?_)
      | (with_reducible refine is_yk ?_; refine yk_auto (k := ?_))
      | (with_reducible refine is_owk0 ?_; refine owk0_auto (k := ?_))
      | (with_reducible refine is_owkc ?_; refine owk_auto (k := fun _ => ?_))
      | refine go1 (k := ?_)
      | (refine go2 (ka := ?_) (kb := ?_) <;> intro _)
      | fail))
    exact x_ret1 rfl rfl (fun w H => ⟨rfl, (Sel.st (T := [Old _]) sel_auto H).toBelow'⟩)
end Go.Proofs.Ytakeilefbcpabaa

/- ChainDoes: a nil area; Next of both sides at once; what an area may be. -/
namespace Go.Proofs.Ytakeilefbcpabaa
open Go.RowKit
/-- An area of a disk of N sectors. -/
structure AreaIn (N : Nat) (A : AreaM) : Prop where
  hi : A.hi ≤ N
  pos : A.pos ≤ A.hi
theorem half_in (n : Nat) (e : Int) : AreaIn n (halfA n e) := by
  have h : (e % 2).toNat * (n / 2) ≤ n / 2 := by
    have : (e % 2).toNat ≤ 1 := by omega
    calc (e % 2).toNat * (n / 2) ≤ 1 * (n / 2) := Nat.mul_le_mul_right _ this
      _ = n / 2 := Nat.one_mul _
  exact ⟨by show (e % 2).toNat * (n / 2) + n / 2 ≤ n; omega, by show (e % 2).toNat * (n / 2) ≤ (e % 2).toNat * (n / 2) + n / 2; omega⟩
theorem fit_wrTo {k j : Nat} {D : DiskM} (h : Fit k j D) (pos : Nat) (cs : List (List UInt8)) : ∀ i, Fit k (j + i) (wrTo D pos cs i)
  | 0 => h
  | i + 1 => fit_write (fit_wrTo h pos cs i) _ _
theorem fit_addM {N j : Nat} {D : DiskM} {A : AreaM} (f : List UInt8) (h : Fit N j D) (ha : AreaIn N A) : Fit N (j + N) (addM D A f).2.2 ∧ AreaIn N (addM D A f).2.1 := by
  have h0 : Fit N (j + N) D := fit_mono h (by omega)
  unfold addM
  split
  · exact ⟨h0, ha⟩
  split
  · exact ⟨h0, ha⟩
  split
  · exact ⟨h0, ha⟩
  rename_i h1 h2 h3
  have h4 := ha.hi
  have h5 := ha.pos
  have hc := chunks_length f
  constructor
  · have key : ∃ i, i ≤ (chunks f).length ∧ (writes D A.pos (chunks f)).2 = wrTo D A.pos (chunks f) i := by
      by_cases hall : ∀ i, i < (chunks f).length → wrE D A.pos (chunks f) i = 0
      · exact ⟨_, Nat.le_refl _, by rw [writes_ok _ _ _ hall]⟩
      · obtain ⟨k, h6, h7, h8⟩ := first_or_none (fun i => wrE D A.pos (chunks f) i ≠ 0) (chunks f).length
        by_cases hk : k < (chunks f).length
        · exact ⟨k + 1, hk, by rw [writes_bad _ _ _ k hk (fun i hi => Classical.not_not.1 (h7 i hi)) (h8 hk)]⟩
        · exact absurd (fun i hi => Classical.not_not.1 (h7 i (by omega))) hall
    obtain ⟨i, h6, h7⟩ := key
    rw [h7]
    exact fit_mono (fit_wrTo h _ _ _) (by omega)
  · dsimp only
    split
    · exact ⟨h4, by show A.pos + _ ≤ A.hi; omega⟩
    · exact ha
attribute [local irreducible] Y OW YK OWK W WL WP X CV Ev Evs HasCell HasCells Has Met Again Kept
section
variable {c : Con} {F : List HP} {w : World} {p b : Nat} {D D' : DiskM} {A A' : AreaM}
set_option maxRecDepth 100000 in
theorem c_left_nil (H : St c F w) : Calls Try.prog 46 #[.pointer none] w fun e w' => e = .returned (.int .i64 0) ∧ St c F w' := by
  refine calls_w (vs := [.pointer none]) Try.func46 rfl rfl rfl ?_ w H
  (repeat' (first
      | (with_reducible refine is_yk ?_; refine yk_auto (k := ?_))
      | (with_reducible refine is_owk0 ?_; refine owk0_auto (k := ?_))
      | (with_reducible refine is_owkc ?_; refine owk_auto (k := fun _ => ?_))
      | refine go1 (k := ?_)
      | (refine go2 (ka := ?_) (kb := ?_) <;> intro _)
      | fail))
  exact x_ret1 rfl rfl (fun w H => ⟨rfl, H⟩)
set_option maxRecDepth 100000 in
theorem c_next_nil (H : St c F w) : Calls Try.prog 48 #[.pointer none] w fun e w' => e = .returned (.tuple #[.slice none 0 0, .int .i64 2]) ∧ St c F w' := by
  refine calls_w (vs := [.pointer none]) Try.func48 rfl rfl rfl ?_ w H
  (repeat' (first
      | (with_reducible refine is_yk ?_; refine yk_auto (k := ?_))
      | (with_reducible refine is_owk0 ?_; refine owk0_auto (k := ?_))
      | (with_reducible refine is_owkc ?_; refine owk_auto (k := fun _ => ?_))
      | refine go1 (k := ?_)
      | (refine go2 (ka := ?_) (kb := ?_) <;> intro _)
      | fail))
  exact x_ret2 rfl rfl rfl (fun w H => ⟨rfl, H⟩)
/-- What Next answers: the bytes f (a slice of a block, or none). -/
theorem next_all {N : Nat} (hwf : D.WF) (hN : D.now.length = N) (ha : AreaIn N A) (hN2 : N ≤ 1073741824) : ∃ (f : List UInt8) (E : Int) (A' : AreaM), AreaIn N A' ∧
    (∀ {c : Con} {F : List HP} {w : World} {b p : Nat}, St c (AreaAt b p A :: DiskAt p D :: F) w → Calls Try.prog 48 #[.pointer (some ⟨b, 0, none⟩)] w fun e w' =>
      ∃ q : { q : Option Addr × Nat // f.length ≤ 16384 ∧ ∀ (c : Con) (L : List HP), HasR (St c (BkP q.2 f :: L)) (.slice q.1 f.length f.length) f.length (bvs f) }, e = .returned (.tuple #[.slice q.1.1 f.length f.length, .int .i64 E]) ∧ St c (BkP q.1.2 f :: AreaAt b p A' :: DiskAt p D :: F) w') ∧
    (∀ {c : Con} {F : List HP} {w : World} {b p : Nat}, St c (RAreaAt b p A :: RefAt p D :: F) w → Calls Try.prog 53 #[.pointer (some ⟨b, 0, none⟩)] w fun e w' =>
      e = .returned (.tuple #[str f, .int .i64 E]) ∧ St c (RAreaAt b p A' :: RefAt p D :: F) w') := by
  have h1 := ha.hi
  have h2 := ha.pos
  have hnil : ∀ (c : Con) (L : List HP), HasR (St c (BkP 0 [] :: L)) (.slice none 0 0) 0 (bvs []) := fun c L w _ => ⟨rfl, .inl ⟨rfl, rfl⟩⟩
  have hadd : ∀ {c : Con} {L : List HP} {w : World}, St c L w → St c (BkP 0 [] :: L) w := fun H => St.new H _ (BkP 0 []) rfl (fun _ _ => rfl) (.inl rfl)
  by_cases hd : D.down = true
  · exact ⟨[], 8, A, ha, fun H => (c_next_down hd H).mono fun e w' h => ⟨⟨(none, 0), by decide, hnil⟩, h.1, hadd h.2⟩, fun H => r_next_down hd H⟩
  · have hd : D.down = false := by simpa using hd
    obtain ⟨lim, hlim⟩ : ∃ lim, min (A.hi - A.pos) 64 = lim := ⟨_, rfl⟩
    rcases next_split hwf.now (pos := A.pos) (lim := lim) (by rw [hN]; omega) with ⟨k, n, f, S⟩ | hno
    · have hn := S.len
      subst hn
      have hlt := S.lt
      refine ⟨f, 0, { A with pos := A.pos + k + 1 }, ⟨h1, by show A.pos + k + 1 ≤ A.hi; omega⟩, fun H => (c_next_some hd hlim (by omega) S.lt S.no S.is S.n0 S.take rfl H).mono fun e w' h => ?_, fun H => r_next_some (by omega) hd hlim (by omega) S rfl H⟩
      obtain ⟨g, h3, h4⟩ := h
      exact ⟨⟨(some ⟨g, 0, none⟩, g), S.most, fun c L => bkp_hasR rfl S.n0 (by have := S.most; omega)⟩, h3, h4⟩
    · exact ⟨[], 0, A, ha, fun H => (c_next_none hd hlim (by omega) hno H).mono fun e w' h => ⟨⟨(none, 0), by decide, hnil⟩, h.1, hadd h.2⟩, fun H => r_next_none (by omega) hd hlim (by omega) hno H⟩
end
end Go.Proofs.Ytakeilefbcpabaa

/- Add at a nil area. -/
namespace Go.Proofs.Ytakeilefbcpabaa
open Go.RowKit
attribute [local irreducible] Y OW YK OWK W WL WP X CV WG XG CVG Ev Evs HasCell HasCells Has Met Again Kept
section
variable {c : Con} {F : List HP} {w : World}
set_option maxRecDepth 100000 in
theorem c_add_nil (H : St c F w) : Calls Try.prog 47 #[.pointer none, .slice none 0 0] w fun e w' => e = .returned (.int .i64 2) ∧ St c F w' := by
  refine calls_wM (vs := [.pointer none, .slice none 0 0]) Try.func47 rfl rfl rfl ?_ w H
  (repeat' (first
      | (with_reducible refine is_yk ?_; refine yk_auto (k := ?_))
      | (with_reducible refine is_owk0 ?_; refine owk0_auto (k := ?_))
      | (with_reducible refine is_owkc ?_; refine owk_auto (k := fun _ => ?_))
      | refine go1 (k := ?_)
      | (refine go2 (ka := ?_) (kb := ?_) <;> intro _)
      | refine gg1 (k := ?_)
      | (refine gg2 (ka := ?_) (kb := ?_) <;> intro _)
      | fail))
  exact x_retM (x_retC1 rfl rfl (hasCell_bl has_auto rfl) (fun w H => ⟨rfl, H.tail.tail⟩))
end
end Go.Proofs.Ytakeilefbcpabaa

/- ChainDoes: the walk. -/
namespace Go.Proofs.Ytakeilefbcpabaa
open Go.RowKit
section
variable {P : Program} {H : World → Prop} {E : Env} {d : Option Nat} {ty : TypeId} {pos : String} {aft : Array Edge} {g : Option (Nat × Bool)}
theorem y_eql_same {k : IntKind} {x y : Operand} {t t' : TypeId} {m : Int} (hx : Ev E x (.int k m)) (hy : Ev E y (.int k m)) : Y P H E (Oper.mk d (.binOp .eql t x y t') ty pos aft g) (.bool true) := by
  have h := y_eql (P := P) (H := H) (d := d) (ty := ty) (pos := pos) (aft := aft) (g := g) (t := t) (t' := t') hx hy
  rwa [decide_eq_true rfl] at h
theorem y_neq_same {k : IntKind} {x y : Operand} {t t' : TypeId} {m : Int} (hx : Ev E x (.int k m)) (hy : Ev E y (.int k m)) : Y P H E (Oper.mk d (.binOp .neq t x y t') ty pos aft g) (.bool false) := by
  have h := y_neq (P := P) (H := H) (d := d) (ty := ty) (pos := pos) (aft := aft) (g := g) (t := t) (t' := t') hx hy
  rwa [decide_eq_false (by simp)] at h
theorem y_eql_sames {x y : Operand} {t t' : TypeId} {l : List UInt8} (hx : Ev E x (str l)) (hy : Ev E y (str l)) : Y P H E (Oper.mk d (.binOp .eql t x y t') ty pos aft g) (.bool true) := by
  have h := y_eql_s (P := P) (H := H) (d := d) (ty := ty) (pos := pos) (aft := aft) (g := g) (t := t) (t' := t') hx hy
  rwa [decide_eq_true rfl] at h
theorem y_neq_sames {x y : Operand} {t t' : TypeId} {l : List UInt8} (hx : Ev E x (str l)) (hy : Ev E y (str l)) : Y P H E (Oper.mk d (.binOp .neq t x y t') ty pos aft g) (.bool false) := by
  have h := y_neq_s (P := P) (H := H) (d := d) (ty := ty) (pos := pos) (aft := aft) (g := g) (t := t) (t' := t') hx hy
  rwa [decide_eq_false (by simp)] at h
end
theorem ex3 {α β γ : Type} (x : α × β × γ) : ∃ a b c, x = (a, b, c) := ⟨x.1, x.2.1, x.2.2, rfl⟩
attribute [local irreducible] Y OW YK OWK W WL WP X CV Ev Evs HasCell HasCells Has Met Again Kept
section
variable {c : Con} {F : List HP} {w : World} {p b : Nat} {D D' : DiskM}
theorem ref_new_is (n : Int) {k : Nat} (hk : k = clip n) (H : St c F w) :
    Calls Try.prog 33 #[.int .i64 n] w fun e w' => ∃ p, e = .returned (.pointer (some ⟨p, 0, none⟩)) ∧ St c (RefAt p (DiskM.new k) :: F) w' := by subst hk; exact ref_new n H
end
set_option maxRecDepth 100000 in
set_option maxHeartbeats 4000000 in
theorem chainDoes_walk (n epoch : Int) (A : Option Addr) (len cap : Nat) (zs : List CCall) (w : World) (hn : (Lit.int .i64 n).wf = true) (he : (Lit.int .i64 epoch).wf = true) (hrow : ElemsOf IsCCall 4 w A len zs) :
    Calls Try.prog 16 #[.int .i64 n, .int .i64 epoch, .slice A len cap] w fun e w' => e = .returned (.bool true) ∧ Below w.heap.size w w' := by
  obtain ⟨n0, n1⟩ : -9223372036854775808 ≤ n ∧ n ≤ 9223372036854775807 := by simp [Lit.wf, IntKind.min, IntKind.max, IntKind.bits, IntKind.signed] at hn; omega
  obtain ⟨e0, e1⟩ : -9223372036854775808 ≤ epoch ∧ epoch ≤ 9223372036854775807 := by simp [Lit.wf, IntKind.min, IntKind.max, IntKind.bits, IntKind.signed] at he; omega
  clear hn he
  have hrow' := hrow
  obtain ⟨hzl, hl63, hcell⟩ := hrow
  obtain ⟨N, hk⟩ : ∃ k, k = clip n := ⟨_, rfl⟩
  have hN60 : n ≤ 60 → N ≤ 60 := by intro h; rw [hk]; unfold clip; omega
  have hnl := (fit_new N).1
  refine calls_w (vs := [.int .i64 n, .int .i64 epoch, .slice A len cap]) Try.func16 rfl rfl rfl ?_ w (St.start w)
  (repeat' (first
      | ((with_reducible refine at_fn 43 ?_); with_reducible refine owk_c0s evs_auto (by kernel_rfl) (fun w H => alive16 H) ?_)
      | ((with_reducible refine at_fn 50 ?_); with_reducible refine owk_c1x evs_auto (by kernel_rfl) pick_auto (fun w H => great16 hrow' H) (fun g => ?_))
      | ((with_reducible refine at_fn 21 ?_); with_reducible refine owk_c0x evs_auto (by kernel_rfl) (fun w H => disk_new_is n n0 n1 hk H) (fun p => ?_))
      | ((with_reducible refine at_fn 33 ?_); with_reducible refine owk_c0x evs_auto (by kernel_rfl) (fun w H => ref_new_is n hk H) (fun e => ?_))
      | (with_reducible refine is_w ?_; first | refine w_stopR (id := 6) ?_)
      | (with_reducible refine is_yk ?_; refine yk_auto (k := ?_))
      | (with_reducible refine is_owk0 ?_; refine owk0_auto (k := ?_))
      | (with_reducible refine is_owkc ?_; refine owk_auto (k := fun _ => ?_))
      | refine go1 (k := ?_)
      | (refine go2 (ka := ?_) (kb := ?_) <;> intro _)
      | fail))
  all_goals first
    | exact x_ret1 rfl rfl (fun w H => ⟨rfl, (Sel.st (T := [Old _]) sel_auto H).toBelow'⟩)
    | skip
  rename_i hg0 hn60 he0
  obtain ⟨hlen, hsl⟩ := g.2 hg0
  have hN := hN60 (by omega)
  unfold Stop
  clear hN60 hn60 hg0 hk n0 n1
  obtain ⟨A0, hA0⟩ : ∃ A0, halfA N epoch = A0 := ⟨_, rfl⟩
  have hin0 : AreaIn N A0 := hA0 ▸ half_in N epoch
  (repeat' (first
      | ((with_reducible refine at_fn 44 ?_); with_reducible refine owk_c1x evs_auto (by kernel_rfl) pick_auto (fun w H => c_half epoch ⟨by omega, e1⟩ hnl (by omega) hA0 H) (fun a => ?_))
      | ((with_reducible refine at_fn 51 ?_); with_reducible refine owk_c1x evs_auto (by kernel_rfl) pick_auto (fun w H => r_half epoch ⟨by omega, e1⟩ hnl hA0 H) (fun m => ?_))
      | (with_reducible refine is_yk ?_; refine yk_auto (k := ?_))
      | (with_reducible refine is_owk0 ?_; refine owk0_auto (k := ?_))
      | (with_reducible refine is_owkc ?_; refine owk_auto (k := fun _ => ?_))
      | refine go1 (k := ?_)
      | (refine go2 (ka := ?_) (kb := ?_) <;> intro _)
      | fail))
  clear hnl
  refine w_loop (α := Nat × DiskM × AreaM × Nat × Nat) (fun x => x.1 ≤ len ∧ Fit N (N * x.1) x.2.1 ∧ AreaIn N x.2.2.1)
    (fun x => [(46, .int .i64 (x.1 : Int)), (45, .int .i64 (len : Int)), (44, .slice A len cap), (10, .pointer (some ⟨x.2.2.2.2, 0, none⟩)), (9, .pointer (some ⟨x.2.2.2.1, 0, none⟩)), (8, .pointer (some ⟨e, 0, none⟩)), (7, .pointer (some ⟨p, 0, none⟩)), (1, .int .i64 epoch)])
    (fun x => [AreaAt x.2.2.2.1 p x.2.2.1, DiskAt p x.2.1, RAreaAt x.2.2.2.2 e x.2.2.1, RefAt e x.2.1, Old w]) (fun x => len - x.1) (0, DiskM.new N, A0, a, m)
    ⟨Nat.zero_le _, fit_new N, hin0⟩ sub_auto sel_auto (fun x hx => ?_)
  clear hin0 hA0
  obtain ⟨j, D, A1, a, m⟩ := x
  obtain ⟨hj, hD, hA1⟩ := hx
  dsimp only at hj hD hA1 ⊢
  by_cases hlt : j < len
  · obtain ⟨a', cs, rfl, ⟨⟨i0, i1, K0, K1, -⟩, rfl⟩, -, hca⟩ := hcell j zs[j] (List.getElem?_eq_getElem (by omega))
    have hsj : zs[j].s.length ≤ 16384 := by have h := hsl j hlt; rw [List.getElem?_eq_getElem (by omega)] at h; exact h
    generalize zs[j] = y at i0 i1 K0 K1 hca hsj
    have hca' : ∀ i u, (ccells y)[i]? = some u → w.cell? ((a'.add (j * 4)).add i) = some u := hca
    have hy4 := ccells_length y
    clear hcell hsl hca hrow' hzl
    have hNj : N * (j + 1) = N * j + N := by rw [Nat.mul_add, Nat.mul_one]
    have hNb : N * j ≤ 60 * 40 := Nat.mul_le_mul hN (by omega)
    have hDn := hD.1
    have hDm : Fit N (N * (j + 1)) D := fit_mono hD (by omega)
    have hwl := hD.2.2
    have hAh := hA1.hi
    have hAp := hA1.pos
    have hfb : (frameB y.s).length ≤ 1073741824 := by rw [frameB_length]; omega
    obtain ⟨E0, B0, D0, h0⟩ : ∃ E B D', addM D A1 (frameB y.s) = (E, B, D') := ex3 _
    have hf0 := fit_addM (frameB y.s) hD hA1
    obtain ⟨E1, B1, D1, h1⟩ : ∃ E B D', addM D A1 y.s = (E, B, D') := ex3 _
    have hf1 := fit_addM y.s hD hA1
    rw [h0, ← hNj] at hf0
    rw [h1, ← hNj] at hf1
    obtain ⟨D4, hD4⟩ : ∃ D4, (D.off y.K).on = D4 := ⟨_, rfl⟩
    have hf4 : Fit N (N * (j + 1)) D4 := hD4 ▸ fit_on (fit_off hDm _)
    obtain ⟨A4, hA4⟩ : ∃ A4, halfA N epoch = A4 := ⟨_, rfl⟩
    have hin4 : AreaIn N A4 := hA4 ▸ half_in N epoch
    refine w_disk (.tl .hd) (fun hwf => ?_)
    obtain ⟨f, E2, A2, hA2, hc2, hr2⟩ := next_all hwf hDn hA1 (by omega)
    have hdon : ∀ {c : Con} {F : List HP} {w : World}, St c (DiskAt p (D.off y.K) :: F) w → Calls Try.prog 24 #[.pointer (some ⟨p, 0, none⟩)] w fun e w' => e = .returned (.tuple #[]) ∧ St c (DiskAt p D4 :: F) w' := fun H => by rw [← hD4]; exact disk_on H
    have h4n := hf4.1
    (repeat' (first
      | ((with_reducible refine at_storeO ?_); with_reducible refine owk0 (ow_storeAll (ev_tmp rfl) (ev_tmp rfl) (ccells_one y) hy4 upd_auto rfl) ?_)
      | (with_reducible refine at_load ?_; first | refine yk (y_loadN (ev_tmp rfl) (by (repeat (first | exact hasCells_old hca' | refine hasCells_tl ?_)); (first | done | fail)) hy4) ?_ | refine yk (y_load (ev_tmp rfl) (hasCell_bl (cs := ccells y) has_auto rfl)) ?_)
      | (with_reducible refine is_w ?_; first | refine w_meetS (id := 11) (α := DiskM × AreaM × Nat × Nat) (fun x => Fit N (N * (j + 1)) x.1 ∧ AreaIn N x.2.1) (fun x => [(13, .bool true), (46, .int .i64 (j : Int)), (45, .int .i64 (len : Int)), (44, .slice (some a') len cap), (10, .pointer (some ⟨x.2.2.2, 0, none⟩)), (9, .pointer (some ⟨x.2.2.1, 0, none⟩)), (8, .pointer (some ⟨e, 0, none⟩)), (7, .pointer (some ⟨p, 0, none⟩)), (1, .int .i64 epoch)]) (fun x => [AreaAt x.2.2.1 p x.2.1, DiskAt p x.1, RAreaAt x.2.2.2 e x.2.1, RefAt e x.1, Old w]) ?_ ?_)
      | (with_reducible refine is_yk ?_; refine yk_auto (k := ?_))
      | (with_reducible refine is_owk0 ?_; refine owk0_auto (k := ?_))
      | (with_reducible refine is_owkc ?_; refine owk_auto (k := fun _ => ?_))
      | refine go1 (k := ?_)
      | (refine go2 (ka := ?_) (kb := ?_) <;> intro _)
      | fail))
    · unfold Stop
      as_aux_lemma =>
        (repeat' (first
      | ((with_reducible refine at_fn 45 ?_); with_reducible refine owk_c0x evs_auto (by kernel_rfl) (fun w H => framed_ref y.s (by omega) rfl H) (fun ⟨⟨q1, q2⟩, hq⟩ => ?_))
      | ((with_reducible refine at_fn 47 ?_); with_reducible refine owk_c2 evs_auto (by kernel_rfl) pick_auto pick_auto (fun w H => c_add h0 rds_auto hfb (by omega) (by omega) H) ?_)
      | ((with_reducible refine at_fn 52 ?_); with_reducible refine owk_c2 evs_auto (by kernel_rfl) pick_auto pick_auto (fun w H => r_add h0 hfb (by omega) (by omega) H) ?_)
      | (with_reducible refine at_load ?_; first | refine yk (y_load (ev_tmp rfl) (hasCell_bl (cs := ccells y) has_auto rfl)) ?_)
      | (with_reducible refine at_bin ?_; first | refine yk (y_eql_same (ev_tmp rfl) (ev_tmp rfl)) ?_ | refine yk (y_eql_sames (ev_tmp rfl) (ev_tmp rfl)) ?_)
      | (with_reducible refine at_conv ?_; first | refine yk (y_str (l := frameB y.s) (n := (frameB y.s).length) (ev_tmp rfl) rds_auto) ?_ | refine yk (y_str (l := f) (n := f.length) (ev_tmp rfl) (by (repeat (first | exact q.2.2 _ _ | refine hasR_tl ?_)); (first | done | fail))) ?_)
      | (with_reducible refine is_w ?_; first | refine w_plan (id := 14) [(0, true), (1, true), (3, true), (4, true), (5, true), (2, false), (6, false), (7, false), (8, false)] [BytesP _ _ _ (frameB y.s)] (by kernel_rfl) (by decide +kernel) sel_auto ?_ | refine w_stopR (id := 15) ?_)
      | (with_reducible refine is_yk ?_; refine yk_auto (k := ?_))
      | (with_reducible refine is_owk0 ?_; refine owk0_auto (k := ?_))
      | (with_reducible refine is_owkc ?_; refine owk_auto (k := fun _ => ?_))
      | refine go1 (k := ?_)
      | (refine go2 (ka := ?_) (kb := ?_) <;> intro _)
      | fail))
        · exact x_met (D0, B0, a, m) ⟨hf0.1, hf0.2⟩ sub_auto sel_auto
        unfold Stop
        as_aux_lemma =>
          (repeat' (first
      | ((with_reducible refine at_fn 47 ?_); with_reducible refine owk_c2 evs_auto (by kernel_rfl) pick_auto pick_auto (fun w H => c_add h1 rds_auto (by omega) (by omega) (by omega) H) ?_)
      | ((with_reducible refine at_fn 52 ?_); with_reducible refine owk_c2 evs_auto (by kernel_rfl) pick_auto pick_auto (fun w H => r_add h1 (by omega) (by omega) (by omega) H) ?_)
      | (with_reducible refine at_load ?_; first | refine yk (y_load (ev_tmp rfl) (hasCell_bl (cs := ccells y) has_auto rfl)) ?_)
      | (with_reducible refine at_bin ?_; first | refine yk (y_eql_same (ev_tmp rfl) (ev_tmp rfl)) ?_ | refine yk (y_eql_sames (ev_tmp rfl) (ev_tmp rfl)) ?_)
      | (with_reducible refine at_conv ?_; first | refine yk (y_str (l := frameB y.s) (n := (frameB y.s).length) (ev_tmp rfl) rds_auto) ?_ | refine yk (y_str (l := f) (n := f.length) (ev_tmp rfl) (by (repeat (first | exact q.2.2 _ _ | refine hasR_tl ?_)); (first | done | fail))) ?_)
      | (with_reducible refine is_w ?_; first | refine w_plan (id := 16) [(0, true), (1, true), (2, true), (5, true), (6, true), (7, true), (3, false), (4, false), (8, false), (9, false), (10, false)] [Bl _ 93 (ccells y)] (by kernel_rfl) (by decide +kernel) sel_auto ?_ | refine w_stopR (id := 17) ?_)
      | (with_reducible refine is_yk ?_; refine yk_auto (k := ?_))
      | (with_reducible refine is_owk0 ?_; refine owk0_auto (k := ?_))
      | (with_reducible refine is_owkc ?_; refine owk_auto (k := fun _ => ?_))
      | refine go1 (k := ?_)
      | (refine go2 (ka := ?_) (kb := ?_) <;> intro _)
      | fail))
          · exact x_met (D1, B1, a, m) ⟨hf1.1, hf1.2⟩ sub_auto sel_auto
          unfold Stop
          as_aux_lemma =>
            (repeat' (first
      | ((with_reducible refine at_fn 48 ?_); with_reducible refine owk_c2x evs_auto (by kernel_rfl) pick_auto pick_auto (fun w H => hc2 H) (fun q => ?_))
      | ((with_reducible refine at_fn 53 ?_); with_reducible refine owk_c2 evs_auto (by kernel_rfl) pick_auto pick_auto (fun w H => hr2 H) ?_)
      | (with_reducible refine at_load ?_; first | refine yk (y_load (ev_tmp rfl) (hasCell_bl (cs := ccells y) has_auto rfl)) ?_)
      | (with_reducible refine at_bin ?_; first | refine yk (y_eql_same (ev_tmp rfl) (ev_tmp rfl)) ?_ | refine yk (y_eql_sames (ev_tmp rfl) (ev_tmp rfl)) ?_)
      | (with_reducible refine at_conv ?_; first | refine yk (y_str (l := frameB y.s) (n := (frameB y.s).length) (ev_tmp rfl) rds_auto) ?_ | refine yk (y_str (l := f) (n := f.length) (ev_tmp rfl) (by (repeat (first | exact q.2.2 _ _ | refine hasR_tl ?_)); (first | done | fail))) ?_)
      | (with_reducible refine is_w ?_; first | refine w_stopR (id := 21) ?_)
      | (with_reducible refine is_yk ?_; refine yk_auto (k := ?_))
      | (with_reducible refine is_owk0 ?_; refine owk0_auto (k := ?_))
      | (with_reducible refine is_owkc ?_; refine owk_auto (k := fun _ => ?_))
      | refine go1 (k := ?_)
      | (refine go2 (ka := ?_) (kb := ?_) <;> intro _)
      | fail))
            · exact x_met (D, A2, a, m) ⟨hDm, hA2⟩ sub_auto sel_auto
            unfold Stop
            as_aux_lemma =>
              (repeat' (first
      | ((with_reducible refine at_fn 32 ?_); with_reducible refine owk_c1 evs_auto (by kernel_rfl) pick_auto (fun w H => disk_syncE (D := D) rfl rfl H) ?_)
      | ((with_reducible refine at_fn 54 ?_); with_reducible refine owk_c1 evs_auto (by kernel_rfl) pick_auto (fun w H => ref_sync (D := D) rfl rfl H) ?_)
      | (with_reducible refine at_load ?_; first | refine yk (y_load (ev_tmp rfl) (hasCell_bl (cs := ccells y) has_auto rfl)) ?_)
      | (with_reducible refine at_bin ?_; first | refine yk (y_eql_same (ev_tmp rfl) (ev_tmp rfl)) ?_ | refine yk (y_eql_sames (ev_tmp rfl) (ev_tmp rfl)) ?_)
      | (with_reducible refine at_conv ?_; first | refine yk (y_str (l := frameB y.s) (n := (frameB y.s).length) (ev_tmp rfl) rds_auto) ?_ | refine yk (y_str (l := f) (n := f.length) (ev_tmp rfl) (by (repeat (first | exact q.2.2 _ _ | refine hasR_tl ?_)); (first | done | fail))) ?_)
      | (with_reducible refine is_w ?_; first | refine w_stopR (id := 23) ?_)
      | (with_reducible refine is_yk ?_; refine yk_auto (k := ?_))
      | (with_reducible refine is_owk0 ?_; refine owk0_auto (k := ?_))
      | (with_reducible refine is_owkc ?_; refine owk_auto (k := fun _ => ?_))
      | refine go1 (k := ?_)
      | (refine go2 (ka := ?_) (kb := ?_) <;> intro _)
      | fail))
              · exact x_met (D.sync, A1, a, m) ⟨fit_sync hDm, hA1⟩ sub_auto sel_auto
              unfold Stop
              as_aux_lemma =>
                (repeat' (first
      | ((with_reducible refine at_fn 22 ?_); with_reducible refine owk_c1 evs_auto (by kernel_rfl) pick_auto (fun w H => disk_off_is (D := D) y.K K0 K1 rfl H) ?_)
      | ((with_reducible refine at_fn 36 ?_); with_reducible refine owk_c1 evs_auto (by kernel_rfl) pick_auto (fun w H => ref_lose (D := D) y.K K0 K1 H) ?_)
      | ((with_reducible refine at_fn 24 ?_); with_reducible refine owk_c1 evs_auto (by kernel_rfl) pick_auto (fun w H => hdon H) ?_)
      | ((with_reducible refine at_fn 44 ?_); with_reducible refine owk_c1x evs_auto (by kernel_rfl) pick_auto (fun w H => c_half epoch ⟨by omega, e1⟩ h4n (by omega) hA4 H) (fun ax => ?_))
      | ((with_reducible refine at_fn 51 ?_); with_reducible refine owk_c1x evs_auto (by kernel_rfl) pick_auto (fun w H => r_half epoch ⟨by omega, e1⟩ h4n hA4 H) (fun mx => ?_))
      | (with_reducible refine is_owkc ?_; first | refine owk0 (ow_ref_on (ev_tmp rfl) ev_const pick_auto) ?_; rw [hD4])
      | (with_reducible refine at_load ?_; first | refine yk (y_load (ev_tmp rfl) (hasCell_bl (cs := ccells y) has_auto rfl)) ?_)
      | (with_reducible refine at_bin ?_; first | refine yk (y_eql_same (ev_tmp rfl) (ev_tmp rfl)) ?_ | refine yk (y_eql_sames (ev_tmp rfl) (ev_tmp rfl)) ?_)
      | (with_reducible refine at_conv ?_; first | refine yk (y_str (l := frameB y.s) (n := (frameB y.s).length) (ev_tmp rfl) rds_auto) ?_ | refine yk (y_str (l := f) (n := f.length) (ev_tmp rfl) (by (repeat (first | exact q.2.2 _ _ | refine hasR_tl ?_)); (first | done | fail))) ?_)
      | (with_reducible refine is_w ?_; first | refine w_stopR (id := 29) ?_)
      | (with_reducible refine is_yk ?_; refine yk_auto (k := ?_))
      | (with_reducible refine is_owk0 ?_; refine owk0_auto (k := ?_))
      | (with_reducible refine is_owkc ?_; refine owk_auto (k := fun _ => ?_))
      | refine go1 (k := ?_)
      | (refine go2 (ka := ?_) (kb := ?_) <;> intro _)
      | fail))
                · exact x_met (D4, A4, ax, mx) ⟨hf4, hin4⟩ sub_auto sel_auto
                unfold Stop
                as_aux_lemma =>
                  (repeat' (first
      | ((with_reducible refine at_fn 23 ?_); with_reducible refine owk_c1 evs_auto (by kernel_rfl) pick_auto (fun w H => disk_arm H y.i y.K i0 i1 K0 K1) ?_)
      | ((with_reducible refine at_fn 37 ?_); with_reducible refine owk_c1 evs_auto (by kernel_rfl) pick_auto (fun w H => ref_arm y.i y.K i1 K0 K1 H) ?_)
      | (with_reducible refine at_load ?_; first | refine yk (y_load (ev_tmp rfl) (hasCell_bl (cs := ccells y) has_auto rfl)) ?_)
      | (with_reducible refine at_bin ?_; first | refine yk (y_eql_same (ev_tmp rfl) (ev_tmp rfl)) ?_ | refine yk (y_eql_sames (ev_tmp rfl) (ev_tmp rfl)) ?_)
      | (with_reducible refine at_conv ?_; first | refine yk (y_str (l := frameB y.s) (n := (frameB y.s).length) (ev_tmp rfl) rds_auto) ?_ | refine yk (y_str (l := f) (n := f.length) (ev_tmp rfl) (by (repeat (first | exact q.2.2 _ _ | refine hasR_tl ?_)); (first | done | fail))) ?_)
      | (with_reducible refine is_w ?_; first | refine w_stopR (id := 32) ?_)
      | (with_reducible refine is_yk ?_; refine yk_auto (k := ?_))
      | (with_reducible refine is_owk0 ?_; refine owk0_auto (k := ?_))
      | (with_reducible refine is_owkc ?_; refine owk_auto (k := fun _ => ?_))
      | refine go1 (k := ?_)
      | (refine go2 (ka := ?_) (kb := ?_) <;> intro _)
      | fail))
                  · exact x_met (D.arm y.i y.K, A1, a, m) ⟨fit_arm hDm _ _, hA1⟩ sub_auto sel_auto
                  unfold Stop
                  as_aux_lemma =>
                    (repeat' (first
      | ((with_reducible refine at_fn 41 ?_); with_reducible refine owk_c1 evs_auto (by kernel_rfl) pick_auto (fun w H => disk_forge_is (D := D) y.i i0 i1 _ y.s rfl rfl (HasR.bytes rds_auto) (by omega) H) ?_)
      | ((with_reducible refine at_fn 55 ?_); with_reducible refine owk_c1 evs_auto (by kernel_rfl) pick_auto (fun w H => ref_forge (D := D) y.i y.s rfl rfl (by omega) H) ?_)
      | (with_reducible refine at_load ?_; first | refine yk (y_load (ev_tmp rfl) (hasCell_bl (cs := ccells y) has_auto rfl)) ?_)
      | (with_reducible refine at_bin ?_; first | refine yk (y_eql_same (ev_tmp rfl) (ev_tmp rfl)) ?_ | refine yk (y_eql_sames (ev_tmp rfl) (ev_tmp rfl)) ?_)
      | (with_reducible refine at_conv ?_; first | refine yk (y_str (l := frameB y.s) (n := (frameB y.s).length) (ev_tmp rfl) rds_auto) ?_ | refine yk (y_str (l := f) (n := f.length) (ev_tmp rfl) (by (repeat (first | exact q.2.2 _ _ | refine hasR_tl ?_)); (first | done | fail))) ?_)
      | (with_reducible refine is_w ?_; first | refine w_plan (id := 33) [(0, true), (1, true), (2, true), (3, true), (4, true), (5, true), (6, true), (7, true), (8, true), (9, true), (12, true), (13, true), (14, true), (15, true), (16, true), (10, false), (11, false), (17, false), (18, false), (19, false), (20, false)] [Bl _ 93 (ccells y)] (by kernel_rfl) (by decide +kernel) sel_auto ?_)
      | (with_reducible refine is_yk ?_; refine yk_auto (k := ?_))
      | (with_reducible refine is_owk0 ?_; refine owk0_auto (k := ?_))
      | (with_reducible refine is_owkc ?_; refine owk_auto (k := fun _ => ?_))
      | refine go1 (k := ?_)
      | (refine go2 (ka := ?_) (kb := ?_) <;> intro _)
      | fail))
                    · exact x_met (D, A1, a, m) ⟨hDm, hA1⟩ sub_auto sel_auto
                    · exact x_met (D.forge y.i y.s, A1, a, m) ⟨fit_forge hDm _ _, hA1⟩ sub_auto sel_auto
                    · exact x_met (D, A1, a, m) ⟨hDm, hA1⟩ sub_auto sel_auto
    · intro x hx
      obtain ⟨D2, A2, a, m⟩ := x
      obtain ⟨hD2, hin2⟩ := hx
      dsimp only at hD2 hin2 ⊢
      have him : 256 * D2.now.length = 256 * N := by rw [hD2.1]
      have hAh2 := hin2.hi
      have hAp2 := hin2.pos
      as_aux_lemma =>
        (repeat' (first
      | ((with_reducible refine at_fn 29 ?_); with_reducible refine owk_c1x evs_auto (by kernel_rfl) pick_auto (fun w H => disk_image_is (D := D2) him H) (fun q => ?_))
      | ((with_reducible refine at_fn 56 ?_); with_reducible refine owk_c1 evs_auto (by kernel_rfl) pick_auto (fun w H => ref_image (D := D2) rfl H) ?_)
      | ((with_reducible refine at_fn 39 ?_); with_reducible refine owk_c1q evs_auto (by kernel_rfl) pick_auto (fun w H => disk_acts H) ?_)
      | ((with_reducible refine at_fn 46 ?_); with_reducible refine owk_c1 evs_auto (by kernel_rfl) pick_auto (fun w H => c_left (A := A2) rfl (by omega) H) ?_)
      | (with_reducible refine at_bin ?_; first | refine yk (y_neq_same (ev_tmp rfl) (ev_tmp rfl)) ?_ | refine yk (y_neq_sames (ev_tmp rfl) (ev_tmp rfl)) ?_)
      | (with_reducible refine at_load ?_; first | refine yk (y_load (ev_tmp rfl) (hasCell_tl ref_acts)) ?_)
      | (with_reducible refine at_conv ?_; first | refine yk (y_str (n := 256 * N) (l := D2.image) (ev_tmp rfl) rds_auto) ?_)
      | (with_reducible refine is_w ?_; first | refine w_plan (id := 34) [(0, true), (1, true), (2, true), (3, true), (5, true), (6, true), (7, true), (8, true), (9, true), (10, true), (11, true), (12, true), (13, true), (4, false), (14, false), (15, false), (16, false), (17, true), (19, true), (20, true), (21, true), (22, true), (18, false), (23, false), (24, false), (25, false), (26, true), (29, true), (27, false), (28, true), (30, false), (31, false), (32, false)] [RAreaAt _ _ A2, RefAt _ D2] (by kernel_rfl) (by decide +kernel) sel_auto ?_)
      | (with_reducible refine is_kept ?_; first | refine kept_more [OwnP 5 1 (.slice q.1 (256 * N) q.2) (256 * N) (bvs D2.image), RAreaAt m e A2, RefAt e D2] (.tl sel_all) sel_auto ?_)
      | (with_reducible refine is_yk ?_; refine yk_auto (k := ?_))
      | (with_reducible refine is_owk0 ?_; refine owk0_auto (k := ?_))
      | (with_reducible refine is_owkc ?_; refine owk_auto (k := fun _ => ?_))
      | refine go1 (k := ?_)
      | (refine go2 (ka := ?_) (kb := ?_) <;> intro _)
      | fail))
        exact x_again (j + 1, D2, A2, a, m) ⟨hlt, hD2, hin2⟩ (show len - (j + 1) < len - j by omega) sub_auto sel_auto
  · (repeat' (first
      | ((with_reducible refine at_fn 46 ?_); with_reducible refine owk_c0s evs_auto (by kernel_rfl) (fun w H => c_left_nil H) ?_)
      | ((with_reducible refine at_fn 47 ?_); with_reducible refine owk_c0s evs_auto (by kernel_rfl) (fun w H => c_add_nil H) ?_)
      | ((with_reducible refine at_fn 48 ?_); with_reducible refine owk_c0s evs_auto (by kernel_rfl) (fun w H => c_next_nil H) ?_)
      | (with_reducible refine is_yk ?_; refine yk_auto (k := ?_))
      | (with_reducible refine is_owk0 ?_; refine owk0_auto (k := ?_))
      | (with_reducible refine is_owkc ?_; refine owk_auto (k := fun _ => ?_))
      | refine go1 (k := ?_)
      | (refine go2 (ka := ?_) (kb := ?_) <;> intro _)
      | fail))
    exact x_ret1 rfl rfl (fun w H => ⟨rfl, (Sel.st (T := [Old _]) sel_auto H).toBelow'⟩)
end Go.Proofs.Ytakeilefbcpabaa
