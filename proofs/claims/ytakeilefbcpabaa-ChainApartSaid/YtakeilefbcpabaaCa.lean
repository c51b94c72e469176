/- ChainApart: the walk. -/
import Derived.Test.YtakeilefbcpabaaCy
import Derived.Test.YtakeilefbcpabaaOa
namespace Go.Proofs.Ytakeilefbcpabaa
open Go.RowKit
/-- The disk behind the frames u of the one area and v of the other. -/
structure Apart (D : DiskM) (n h : Nat) (u v : List (List UInt8)) : Prop where
  steady : Steady D n ((sizeS u + sizeS v : Nat) : Int)
  waits : D.waits.length ≤ sizeS u + sizeS v
  lu : LaidAt D.now 0 (u.flatMap secsOf)
  lv : LaidAt D.now h (v.flatMap secsOf)
  su : sizeS u ≤ h
  sv : sizeS v ≤ h
  hn : h + h ≤ n
  n200 : n ≤ 200
  fu : ∀ f ∈ u, FrameOk f 1040
  fv : ∀ f ∈ v, FrameOk f 1040
theorem Apart.addU {D : DiskM} {n h m : Nat} {u v : List (List UInt8)} (H : Apart D n h u v) {f : List UInt8} (hf : FrameOk f 1040) (hm : (f.length + 255) / 256 = m) (hr : sizeS u + m ≤ h) :
    ∃ D', addM D ⟨0, h, sizeS u⟩ f = (0, ⟨0, h, sizeS (u ++ [f])⟩, D') ∧ Apart D' n h (u ++ [f]) v := by
  have h200 := H.n200
  have hn := H.hn
  have hsv := H.sv
  have hsn : sizeS (u ++ [f]) = sizeS u + m := by rw [sizeS_snoc, hm]
  obtain ⟨h1, h2⟩ := addM_ok (A := ⟨0, h, sizeS u⟩) H.steady hf.ne hf.is hm (by dsimp only; omega) (by dsimp only; omega) (by omega)
  have hl := laid_add (m := m) H.steady H.lu hm (by omega) (by omega)
  have hk := (frame_laid H.steady (pos := sizeS u) hm (by omega) (by omega)).2
  rw [Nat.zero_add] at hl
  refine ⟨_, by rw [h1, hsn], ⟨?_, ?_, hl, H.lv.keep fun t t1 t2 => hk t (.inr (by omega)), by omega, H.sv, hn, h200, fun x hx => ?_, H.fv⟩⟩
  · have e : ((sizeS (u ++ [f]) + sizeS v : Nat) : Int) = ((sizeS u + sizeS v : Nat) : Int) + (m : Int) := by omega
    rw [e]; exact h2
  · have := wrTo_waits D (sizeS u) (chunks f) m
    have := H.waits
    omega
  · rcases List.mem_append.1 hx with hx | hx
    · exact H.fu x hx
    · rw [List.mem_singleton.1 hx]; exact hf
theorem Apart.addV {D : DiskM} {n h m : Nat} {u v : List (List UInt8)} (H : Apart D n h u v) {f : List UInt8} (hf : FrameOk f 1040) (hm : (f.length + 255) / 256 = m) (hr : sizeS v + m ≤ h) :
    ∃ D', addM D ⟨h, h + h, h + sizeS v⟩ f = (0, ⟨h, h + h, h + sizeS (v ++ [f])⟩, D') ∧ Apart D' n h u (v ++ [f]) := by
  have h200 := H.n200
  have hn := H.hn
  have hsu := H.su
  have hsn : sizeS (v ++ [f]) = sizeS v + m := by rw [sizeS_snoc, hm]
  obtain ⟨h1, h2⟩ := addM_ok (A := ⟨h, h + h, h + sizeS v⟩) H.steady hf.ne hf.is hm (by dsimp only; omega) (by dsimp only; omega) (by omega)
  have hl := laid_add (m := m) H.steady H.lv hm (by omega) (by omega)
  have hk := (frame_laid H.steady (pos := h + sizeS v) hm (by omega) (by omega)).2
  refine ⟨_, by rw [h1, hsn, Nat.add_assoc], ⟨?_, ?_, H.lu.keep fun t t1 t2 => hk t (.inl (by rw [Nat.zero_add] at t2; have t2 : t < sizeS u := t2; omega)), hl, H.su, by omega, hn, h200, H.fu, fun x hx => ?_⟩⟩
  · have e : ((sizeS u + sizeS (v ++ [f]) : Nat) : Int) = ((sizeS u + sizeS v : Nat) : Int) + (m : Int) := by omega
    rw [e]; exact h2
  · have := wrTo_waits D (h + sizeS v) (chunks f) m
    have := H.waits
    omega
  · rcases List.mem_append.1 hx with hx | hx
    · exact H.fv x hx
    · rw [List.mem_singleton.1 hx]; exact hf
theorem Apart.fullU {D : DiskM} {n h m : Nat} {u v : List (List UInt8)} (H : Apart D n h u v) {f : List UInt8} (hf : FrameOk f 1040) (hm : (f.length + 255) / 256 = m) (hr : ¬ sizeS u + m ≤ h) : addM D ⟨0, h, sizeS u⟩ f = (7, ⟨0, h, sizeS u⟩, D) :=
  addM_full H.steady hf.ne hf.is (by rw [hm]; dsimp only; omega)
theorem Apart.fullV {D : DiskM} {n h m : Nat} {u v : List (List UInt8)} (H : Apart D n h u v) {f : List UInt8} (hf : FrameOk f 1040) (hm : (f.length + 255) / 256 = m) (hr : ¬ sizeS v + m ≤ h) : addM D ⟨h, h + h, h + sizeS v⟩ f = (7, ⟨h, h + h, h + sizeS v⟩, D) :=
  addM_full H.steady hf.ne hf.is (by rw [hm]; dsimp only; omega)
structure ApS where
  D : DiskM
  u : List (List UInt8)
  v : List (List UInt8)
  qu : Option Addr × Nat
  qv : Option Addr × Nat
attribute [local irreducible] Y OW YK OWK W WL WP X CV Ev Evs HasCell HasCells Has Met Again Kept
set_option maxRecDepth 100000 in
set_option maxHeartbeats 4000000 in
theorem chainApart_walk (n : Int) (A : Option Addr) (la cap : Nat) (ta : List (List UInt8)) (B : Option Addr) (lb capb : Nat) (tb : List (List UInt8)) (w : World) (hn : (Lit.int .i64 n).wf = true) (hra : ElemsOf IsText 1 w A la ta) (hrb : ElemsOf IsText 1 w B lb tb) :
    Calls Try.prog 13 #[.int .i64 n, .slice A la cap, .slice B lb capb] w fun e w' => e = .returned (.bool true) ∧ Below w.heap.size w w' := by
  obtain ⟨n0, n1⟩ := wf64 hn
  obtain ⟨hal, ha63, hac⟩ := hra
  obtain ⟨hbl, hb63, hbc⟩ := hrb
  clear hn
  by_cases hg : (0 ≤ n ∧ n ≤ 200) ∧ la ≤ 10 ∧ lb ≤ 10
  · obtain ⟨⟨g1, g2⟩, g3, g4⟩ := hg
    obtain ⟨N, rfl⟩ : ∃ N : Nat, n = N := ⟨n.toNat, by omega⟩
    have hclip : N = clip (N : Int) := by unfold clip; omega
    have hlen := new_length N
    obtain ⟨h, hh⟩ : ∃ h, N / 2 = h := ⟨_, rfl⟩
    have hA4 : halfA N 4 = ⟨0, h, 0⟩ := by unfold halfA; rw [hh]; simp
    have hA7 : halfA N 7 = ⟨h, h + h, h⟩ := by unfold halfA; rw [hh]; simp
    refine calls_w (vs := [.int .i64 N, .slice A la cap, .slice B lb capb]) Try.func13 rfl rfl rfl ?_ w (St.start w)
    (repeat' (first
      | ((with_reducible refine at_fn 43 ?_); with_reducible refine owk_c0s evs_auto (by kernel_rfl) (fun w H => alive16 H) ?_)
      | ((with_reducible refine at_fn 21 ?_); with_reducible refine owk_c0x evs_auto (by kernel_rfl) (fun w H => disk_new_is N n0 n1 hclip H) (fun p => ?_))
      | ((with_reducible refine at_fn 44 ?_); with_reducible refine owk_c1x evs_auto (by kernel_rfl) pick_auto (fun w H => c_half 4 (by omega) hlen (by omega) hA4 H) (fun x => ?_))
      | ((with_reducible refine at_fn 44 ?_); with_reducible refine owk_c1x evs_auto (by kernel_rfl) pick_auto (fun w H => c_half 7 (by omega) hlen (by omega) hA7 H) (fun y => ?_))
      | (with_reducible refine is_yk ?_; refine yk_auto (k := ?_))
      | (with_reducible refine is_owk0 ?_; refine owk0_auto (k := ?_))
      | (with_reducible refine is_owkc ?_; refine owk_auto (k := fun _ => ?_))
      | refine go1 (k := ?_)
      | (refine go2 (ka := ?_) (kb := ?_) <;> intro _)
      | fail))
    obtain ⟨Ls, hLs⟩ : ∃ Ls : ApS → List HP, Ls = fun s => [AreaAt x p ⟨0, h, sizeS s.u⟩, AreaAt y p ⟨h, h + h, h + sizeS s.v⟩, DiskAt p s.D, OwnP 9 1 (.slice s.qu.1 s.u.length s.qu.2) s.u.length (s.u.map str), OwnP 9 1 (.slice s.qv.1 s.v.length s.qv.2) s.v.length (s.v.map str), Old w] := ⟨_, rfl⟩
    obtain ⟨Es, hEs⟩ : ∃ Es : Nat → ApS → Env, Es = fun i s => [(12, .int .i64 (i : Int)), (1, .slice A la cap), (2, .slice B lb capb), (7, .pointer (some ⟨p, 0, none⟩)), (8, .pointer (some ⟨x, 0, none⟩)), (9, .pointer (some ⟨y, 0, none⟩)), (10, .slice s.qu.1 s.u.length s.qu.2), (11, .slice s.qv.1 s.v.length s.qv.2)] := ⟨_, rfl⟩
    refine w_loop (α := Nat × ApS) (fun z => z.1 ≤ 10 ∧ Apart z.2.D N h z.2.u z.2.v ∧ z.2.u.length ≤ z.1 ∧ z.2.v.length ≤ z.1) (fun z => Es z.1 z.2) (fun z => Ls z.2) (fun z => 10 - z.1) (0, ⟨DiskM.new N, [], [], (none, 0), (none, 0)⟩)
      ⟨Nat.zero_le _, ⟨new_calm N, Nat.zero_le _, LaidAt.nil, LaidAt.nil, Nat.zero_le _, Nat.zero_le _, by omega, by omega, (fun f hf => by cases hf), (fun f hf => by cases hf)⟩, Nat.le_refl _, Nat.le_refl _⟩
      (by rw [hEs]; exact sub_auto) (by rw [hLs]; exact .cons (.tl (.tl .hd)) (.cons .hd (.cons .hd (.own0 (.own0 sel_all))))) (fun z hz => ?_)
    obtain ⟨i, s⟩ := z
    obtain ⟨hi, hap, hul, hvl⟩ := hz
    dsimp only at hi hap hul hvl ⊢
    (repeat' (first
      | (with_reducible refine is_w ?_; first | refine w_meetS (id := 9) (α := Unit) (fun _ => i < la ∨ i < lb) (fun _ => Es i s) (fun _ => Ls s) ?_ ?_)
      | (with_reducible refine is_yk ?_; refine yk_auto (k := ?_))
      | (with_reducible refine is_owk0 ?_; refine owk0_auto (k := ?_))
      | (with_reducible refine is_owkc ?_; refine owk_auto (k := fun _ => ?_))
      | refine go1 (k := ?_)
      | (refine go2 (ka := ?_) (kb := ?_) <;> intro _)
      | fail))
    · obtain ⟨D, u, v, ⟨ua, uc⟩, ⟨va, vc⟩⟩ := s
      unfold Stop
      dsimp only at hap hul hvl
      rw [hEs, hLs]
      dsimp only
      have hDl := hap.steady.len
      have hA0 : halfA N 0 = ⟨0, h, 0⟩ := by unfold halfA; rw [hh]; simp
      have hA1 : halfA N 1 = ⟨h, h + h, h⟩ := by unfold halfA; rw [hh]; simp
      (repeat' (first
      | ((with_reducible refine at_fn 44 ?_); with_reducible refine owk_c1x evs_auto (by kernel_rfl) pick_auto (fun w H => c_half 0 (by omega) hDl (by omega) hA0 H) (fun x' => ?_))
      | ((with_reducible refine at_fn 44 ?_); with_reducible refine owk_c1x evs_auto (by kernel_rfl) pick_auto (fun w H => c_half 1 (by omega) hDl (by omega) hA1 H) (fun y' => ?_))
      | (with_reducible refine is_yk ?_; refine yk_auto (k := ?_))
      | (with_reducible refine is_owk0 ?_; refine owk0_auto (k := ?_))
      | (with_reducible refine is_owkc ?_; refine owk_auto (k := fun _ => ?_))
      | refine go1 (k := ?_)
      | (refine go2 (ka := ?_) (kb := ?_) <;> intro _)
      | fail))
      · rename_i k
        exact x_met () (.inl (by omega)) sub_auto sel_auto
      · rename_i k0 k
        exact x_met () (.inr (by omega)) sub_auto sel_auto
      refine w_loop (α := Nat) (fun j => j ≤ u.length) (fun j => [(125, .int .i64 (j : Int)), (124, .int .i64 (u.length : Int)), (123, .slice ua u.length uc), (9, .pointer (some ⟨y', 0, none⟩)), (8, .pointer (some ⟨x', 0, none⟩)), (11, .slice va v.length vc)])
        (fun j => [AreaAt x' p ⟨0, h, sizeS (u.take j)⟩, AreaAt y' p ⟨h, h + h, h⟩, DiskAt p D, OwnP 9 1 (.slice ua u.length uc) u.length (u.map str), OwnP 9 1 (.slice va v.length vc) v.length (v.map str), Old w]) (fun j => u.length - j) 0 (Nat.zero_le _) sub_auto (.cons (.tl (.tl .hd)) (.cons .hd (.cons .hd (.tl (.tl (.cons .hd (.cons .hd (.cons .hd .nil)))))))) (fun j hj => ?_)
      refine w_disk (.tl (.tl .hd)) (fun hwf => ?_)
      by_cases hjl : j < u.length
      · obtain ⟨f, hf⟩ : ∃ f, u[j]? = some f := ⟨_, List.getElem?_eq_getElem hjl⟩
        have hfo := hap.fu f (List.mem_of_getElem? hf)
        have hst := sizeS_take hf
        have hle := sizeS_take_le u (j + 1)
        have hsm := hap.su
        have hhn := hap.hn
        obtain ⟨lim, hlim⟩ : ∃ lim, min (h - (sizeS (u.take j))) 64 = lim := ⟨_, rfl⟩
        have hml := hfo.le
        obtain ⟨k, S, hk⟩ := stands_of hwf.now (pos := sizeS (u.take j)) (lim := lim) (by have := laid_nth hap.lu hf; rwa [Nat.zero_add] at this) hfo.ne hfo.is (by omega) (by rw [hDl]; omega)
        have hA' : ({ lo := 0, hi := h, pos := sizeS (u.take j) + k + 1 } : AreaM) = ⟨0, h, sizeS (u.take (j + 1))⟩ := by
          have : sizeS (u.take j) + k + 1 = sizeS (u.take (j + 1)) := by omega
          rw [this]
        have hb1 : h ≤ D.now.length := by rw [hDl]; omega
        have hN : ∀ {c : Con} {F : List HP} {w : World}, St c (AreaAt x' p ⟨0, h, sizeS (u.take j)⟩ :: DiskAt p D :: F) w → Calls Try.prog 48 #[.pointer (some ⟨x', 0, none⟩)] w fun e w' => ∃ g : Nat, e = .returned (.tuple #[.slice (some ⟨g, 0, none⟩) f.length f.length, .int .i64 0]) ∧ St c (BkP g f :: AreaAt x' p ⟨0, h, sizeS (u.take (j + 1))⟩ :: DiskAt p D :: F) w' := fun H => c_next_some (A := ⟨0, h, sizeS (u.take j)⟩) hap.steady.down hlim hb1 S.lt S.no S.is S.n0 S.take hA' H
        have h0 := S.n0
        clear S hA' hlim hwf hDl
        refine w_openOwn (.tl (.tl (.tl .hd))) (fun _ h2 _ => absurd h2 (by omega)) (fun g cap' cur e1 hc1 hc2 hc3 hc4 => ?_)
        obtain ⟨rfl, -, rfl⟩ := Value.slice.inj e1
        (repeat' (first
      | ((with_reducible refine at_fn 48 ?_); with_reducible refine owk_c2x evs_auto (by kernel_rfl) pick_auto pick_auto (fun w H => hN H) (fun g => ?_))
      | (with_reducible refine at_load ?_; first | refine yk (y_load (ev_tmp rfl) (cell_nth has_auto hc4 rfl hf rfl)) ?_)
      | (with_reducible refine at_conv ?_; first | refine yk (y_str (l := f) (n := f.length) (ev_tmp rfl) (bkp_hasR rfl h0 (by omega))) ?_)
      | (with_reducible refine is_yk ?_; refine yk_auto (k := ?_))
      | (with_reducible refine is_owk0 ?_; refine owk0_auto (k := ?_))
      | (with_reducible refine is_owkc ?_; refine owk_auto (k := fun _ => ?_))
      | refine go1 (k := ?_)
      | (refine go2 (ka := ?_) (kb := ?_) <;> intro _)
      | fail))
        exact x_again (j + 1) (by show j + 1 ≤ _; omega) (by omega) sub_auto (.cons (.tl .hd) (.cons (.tl (.tl (.tl .hd))) (.cons (.tl .hd) (.imp (.tl .hd) (shutOwn hc1 hc2 hc3 hc4) (.cons (.tl .hd) (.cons (.tl .hd) .nil))))))
      · (repeat' (first
      | (with_reducible refine is_yk ?_; refine yk_auto (k := ?_))
      | (with_reducible refine is_owk0 ?_; refine owk0_auto (k := ?_))
      | (with_reducible refine is_owkc ?_; refine owk_auto (k := fun _ => ?_))
      | refine go1 (k := ?_)
      | (refine go2 (ka := ?_) (kb := ?_) <;> intro _)
      | fail))
        clear hjl
        refine w_loop (α := Nat) (fun j => j ≤ v.length) (fun j => [(145, .int .i64 (j : Int)), (144, .int .i64 (v.length : Int)), (143, .slice va v.length vc), (9, .pointer (some ⟨y', 0, none⟩))])
          (fun j => [AreaAt y' p ⟨h, h + h, h + sizeS (v.take j)⟩, DiskAt p D, OwnP 9 1 (.slice va v.length vc) v.length (v.map str), Old w]) (fun j => v.length - j) 0 (Nat.zero_le _) sub_auto (.cons (.tl .hd) (.cons (.tl .hd) (.cons (.tl (.tl .hd)) (.cons (.tl (.tl .hd)) .nil)))) (fun j hj => ?_)
        refine w_disk (.tl .hd) (fun hwf => ?_)
        by_cases hjl : j < v.length
        · obtain ⟨f, hf⟩ : ∃ f, v[j]? = some f := ⟨_, List.getElem?_eq_getElem hjl⟩
          have hfo := hap.fv f (List.mem_of_getElem? hf)
          have hst := sizeS_take hf
          have hle := sizeS_take_le v (j + 1)
          have hsm := hap.sv
          have hhn := hap.hn
          obtain ⟨lim, hlim⟩ : ∃ lim, min (h + h - (h + sizeS (v.take j))) 64 = lim := ⟨_, rfl⟩
          have hml := hfo.le
          obtain ⟨k, S, hk⟩ := stands_of hwf.now (pos := h + sizeS (v.take j)) (lim := lim) (laid_nth hap.lv hf) hfo.ne hfo.is (by omega) (by rw [hDl]; omega)
          have hA' : ({ lo := h, hi := h + h, pos := h + sizeS (v.take j) + k + 1 } : AreaM) = ⟨h, h + h, h + sizeS (v.take (j + 1))⟩ := by
            have : h + sizeS (v.take j) + k + 1 = h + sizeS (v.take (j + 1)) := by omega
            rw [this]
          have hb1 : h + h ≤ D.now.length := by rw [hDl]; omega
          have hN : ∀ {c : Con} {F : List HP} {w : World}, St c (AreaAt y' p ⟨h, h + h, h + sizeS (v.take j)⟩ :: DiskAt p D :: F) w → Calls Try.prog 48 #[.pointer (some ⟨y', 0, none⟩)] w fun e w' => ∃ g : Nat, e = .returned (.tuple #[.slice (some ⟨g, 0, none⟩) f.length f.length, .int .i64 0]) ∧ St c (BkP g f :: AreaAt y' p ⟨h, h + h, h + sizeS (v.take (j + 1))⟩ :: DiskAt p D :: F) w' := fun H => c_next_some (A := ⟨h, h + h, h + sizeS (v.take j)⟩) hap.steady.down hlim hb1 S.lt S.no S.is S.n0 S.take hA' H
          have h0 := S.n0
          clear S hA' hlim hwf hDl
          refine w_openOwn (.tl (.tl .hd)) (fun _ h2 _ => absurd h2 (by omega)) (fun g cap' cur e1 hc1 hc2 hc3 hc4 => ?_)
          obtain ⟨rfl, -, rfl⟩ := Value.slice.inj e1
          (repeat' (first
      | ((with_reducible refine at_fn 48 ?_); with_reducible refine owk_c2x evs_auto (by kernel_rfl) pick_auto pick_auto (fun w H => hN H) (fun g => ?_))
      | (with_reducible refine at_load ?_; first | refine yk (y_load (ev_tmp rfl) (cell_nth has_auto hc4 rfl hf rfl)) ?_)
      | (with_reducible refine at_conv ?_; first | refine yk (y_str (l := f) (n := f.length) (ev_tmp rfl) (bkp_hasR rfl h0 (by omega))) ?_)
      | (with_reducible refine is_yk ?_; refine yk_auto (k := ?_))
      | (with_reducible refine is_owk0 ?_; refine owk0_auto (k := ?_))
      | (with_reducible refine is_owkc ?_; refine owk_auto (k := fun _ => ?_))
      | refine go1 (k := ?_)
      | (refine go2 (ka := ?_) (kb := ?_) <;> intro _)
      | fail))
          exact x_again (j + 1) (by show j + 1 ≤ _; omega) (by omega) sub_auto (.cons (.tl .hd) (.cons (.tl .hd) (.imp (.tl .hd) (shutOwn hc1 hc2 hc3 hc4) (.cons (.tl .hd) .nil))))
        · (repeat' (first
      | (with_reducible refine is_yk ?_; refine yk_auto (k := ?_))
      | (with_reducible refine is_owk0 ?_; refine owk0_auto (k := ?_))
      | (with_reducible refine is_owkc ?_; refine owk_auto (k := fun _ => ?_))
      | refine go1 (k := ?_)
      | (refine go2 (ka := ?_) (kb := ?_) <;> intro _)
      | fail))
          exact x_ret1 rfl rfl (fun w H => ⟨rfl, (Sel.st (T := [Old _]) sel_auto H).toBelow'⟩)
    · intro _ hlt
      have hi10 : i + 1 ≤ 10 := by omega
      rw [hEs, hLs]
      dsimp only
      (repeat' (first
      | (with_reducible refine is_w ?_; first | refine w_meetS (id := 11) (α := ApS) (fun s => Apart s.D N h s.u s.v ∧ s.u.length ≤ i + 1 ∧ s.v.length ≤ i) (fun s => Es i s) (fun s => Ls s) ?_ ?_)
      | (with_reducible refine is_yk ?_; refine yk_auto (k := ?_))
      | (with_reducible refine is_owk0 ?_; refine owk0_auto (k := ?_))
      | (with_reducible refine is_owkc ?_; refine owk_auto (k := fun _ => ?_))
      | refine go1 (k := ?_)
      | (refine go2 (ka := ?_) (kb := ?_) <;> intro _)
      | fail))
      · unfold Stop
        obtain ⟨D, u, v, ⟨ua, uc⟩, ⟨va, vc⟩⟩ := s
        dsimp only at hap hul hvl ⊢
        rw [hEs, hLs]
        by_cases h1 : i < la
        · obtain ⟨a, cs, rfl, hcs, -, hca⟩ := hac i ta[i] (List.getElem?_eq_getElem (by omega))
          generalize ta[i] = f0 at hcs
          have c1 : w.cell? (a.add (i * 1)) = some (str f0) := by have := hca 0 _ (by rw [hcs]; rfl); simpa [Addr.add] using this
          by_cases h2 : f0.length < 1024
          · have hfo : FrameOk (frameB f0) 1040 := frame_ok f0 (by omega) (by omega)
            obtain ⟨m, hm⟩ : ∃ m, ((frameB f0).length + 255) / 256 = m := ⟨_, rfl⟩
            have hcat : u.map str ++ List.flatMap vcells [str (frameB f0)] = (u ++ [frameB f0]).map str := by simp [vcells_str]
            have hkk : u.length + 1 = (u ++ [frameB f0]).length := by simp
            have hkb : (u ++ [frameB f0]).length ≤ 11 := by rw [← hkk]; omega
            have hb1 : (List.flatMap vcells [str (frameB f0)]).length = 1 := rfl
            have hone : ∀ v ∈ List.flatMap vcells [str (frameB f0)], v.oneCell' = true := fun v hv => by simp [vcells_str] at hv; rw [hv]; rfl
            have hle := hfo.le
            have hsu := hap.su
            have hhn := hap.hn
            have h200 := hap.n200
            have hwt := hap.waits
            have hsv := hap.sv
            by_cases h3 : sizeS u + m ≤ h
            · obtain ⟨D', hadd, hap'⟩ := hap.addU hfo hm h3
              (repeat' (first
      | ((with_reducible refine at_fn 45 ?_); with_reducible refine owk_c0x evs_auto (by kernel_rfl) (fun w H => framed_ref f0 (by omega) rfl H) (fun ⟨⟨q1, q2⟩, hq⟩ => ?_))
      | ((with_reducible refine at_fn 47 ?_); with_reducible refine owk_c2 evs_auto (by kernel_rfl) pick_auto pick_auto (fun w H => c_add hadd rds_auto (by omega) (by dsimp only; omega) (by omega) H) ?_)
      | (with_reducible refine is_owkc ?_; first | refine owk (ow_appendR (ev_tmp rfl) (ev_tmp rfl) (hasR_blAll hb1 (by omega) (by omega)) hone hkk hcat (by omega) pick_auto) (fun ⟨qa1, qa2⟩ => ?_))
      | (with_reducible refine at_load ?_; first | refine yk (y_load (ev_tmp rfl) old_auto) ?_)
      | (with_reducible refine at_conv ?_; first | refine yk (y_str (l := frameB f0) (n := (frameB f0).length) (ev_tmp rfl) rds_auto) ?_)
      | (with_reducible refine is_yk ?_; refine yk_auto (k := ?_))
      | (with_reducible refine is_owk0 ?_; refine owk0_auto (k := ?_))
      | (with_reducible refine is_owkc ?_; refine owk_auto (k := fun _ => ?_))
      | refine go1 (k := ?_)
      | (refine go2 (ka := ?_) (kb := ?_) <;> intro _)
      | fail))
              exact x_met ⟨D', u ++ [frameB f0], v, (qa1, qa2), (va, vc)⟩ ⟨hap', by show (u ++ [frameB f0]).length ≤ i + 1; omega, hvl⟩ sub_auto sel_auto
            · have hadd := hap.fullU hfo hm h3
              (repeat' (first
      | ((with_reducible refine at_fn 45 ?_); with_reducible refine owk_c0x evs_auto (by kernel_rfl) (fun w H => framed_ref f0 (by omega) rfl H) (fun ⟨⟨q1, q2⟩, hq⟩ => ?_))
      | ((with_reducible refine at_fn 47 ?_); with_reducible refine owk_c2 evs_auto (by kernel_rfl) pick_auto pick_auto (fun w H => c_add hadd rds_auto (by omega) (by dsimp only; omega) (by omega) H) ?_)
      | (with_reducible refine at_load ?_; first | refine yk (y_load (ev_tmp rfl) old_auto) ?_)
      | (with_reducible refine is_yk ?_; refine yk_auto (k := ?_))
      | (with_reducible refine is_owk0 ?_; refine owk0_auto (k := ?_))
      | (with_reducible refine is_owkc ?_; refine owk_auto (k := fun _ => ?_))
      | refine go1 (k := ?_)
      | (refine go2 (ka := ?_) (kb := ?_) <;> intro _)
      | fail))
              exact x_met ⟨D, u, v, (ua, uc), (va, vc)⟩ ⟨hap, by show u.length ≤ i + 1; omega, hvl⟩ sub_auto sel_auto
          · (repeat' (first
      | (with_reducible refine at_load ?_; first | refine yk (y_load (ev_tmp rfl) old_auto) ?_)
      | (with_reducible refine is_yk ?_; refine yk_auto (k := ?_))
      | (with_reducible refine is_owk0 ?_; refine owk0_auto (k := ?_))
      | (with_reducible refine is_owkc ?_; refine owk_auto (k := fun _ => ?_))
      | refine go1 (k := ?_)
      | (refine go2 (ka := ?_) (kb := ?_) <;> intro _)
      | fail))
            exact x_met ⟨D, u, v, (ua, uc), (va, vc)⟩ ⟨hap, by show u.length ≤ i + 1; omega, hvl⟩ sub_auto sel_auto
        · (repeat' (first
      | (with_reducible refine is_yk ?_; refine yk_auto (k := ?_))
      | (with_reducible refine is_owk0 ?_; refine owk0_auto (k := ?_))
      | (with_reducible refine is_owkc ?_; refine owk_auto (k := fun _ => ?_))
      | refine go1 (k := ?_)
      | (refine go2 (ka := ?_) (kb := ?_) <;> intro _)
      | fail))
          exact x_met ⟨D, u, v, (ua, uc), (va, vc)⟩ ⟨hap, by show u.length ≤ i + 1; omega, hvl⟩ sub_auto sel_auto
      · intro s2 hs2
        obtain ⟨D, u, v, ⟨ua, uc⟩, ⟨va, vc⟩⟩ := s2
        obtain ⟨hap, hul, hvl⟩ := hs2
        dsimp only at hap hul hvl ⊢
        rw [hEs, hLs]
        dsimp only
        have hnx : ∀ (D' : DiskM) (v' : List (List UInt8)), Apart D' N h u v' → v'.length ≤ i + 1 → i + 1 ≤ 10 ∧ Apart D' N h u v' ∧ u.length ≤ i + 1 ∧ v'.length ≤ i + 1 := fun D' v' h1 h2 => ⟨hi10, h1, hul, h2⟩
        have hdec : 10 - (i + 1) < 10 - i := by omega
        by_cases h1 : i < lb
        · obtain ⟨a, cs, rfl, hcs, -, hca⟩ := hbc i tb[i] (List.getElem?_eq_getElem (by omega))
          generalize tb[i] = f0 at hcs
          have c1 : w.cell? (a.add (i * 1)) = some (str f0) := by have := hca 0 _ (by rw [hcs]; rfl); simpa [Addr.add] using this
          by_cases h2 : f0.length < 1024
          · have hfo : FrameOk (frameB f0) 1040 := frame_ok f0 (by omega) (by omega)
            obtain ⟨m, hm⟩ : ∃ m, ((frameB f0).length + 255) / 256 = m := ⟨_, rfl⟩
            have hcat : v.map str ++ List.flatMap vcells [str (frameB f0)] = (v ++ [frameB f0]).map str := by simp [vcells_str]
            have hkk : v.length + 1 = (v ++ [frameB f0]).length := by simp
            have hkb : (v ++ [frameB f0]).length ≤ 11 := by rw [← hkk]; omega
            have hb1 : (List.flatMap vcells [str (frameB f0)]).length = 1 := rfl
            have hone : ∀ v ∈ List.flatMap vcells [str (frameB f0)], v.oneCell' = true := fun v hv => by simp [vcells_str] at hv; rw [hv]; rfl
            have hle := hfo.le
            have hsu := hap.su
            have hhn := hap.hn
            have h200 := hap.n200
            have hwt := hap.waits
            have hsv := hap.sv
            by_cases h3 : sizeS v + m ≤ h
            · obtain ⟨D', hadd, hap'⟩ := hap.addV hfo hm h3
              (repeat' (first
      | ((with_reducible refine at_fn 45 ?_); with_reducible refine owk_c0x evs_auto (by kernel_rfl) (fun w H => framed_ref f0 (by omega) rfl H) (fun ⟨⟨q1, q2⟩, hq⟩ => ?_))
      | ((with_reducible refine at_fn 47 ?_); with_reducible refine owk_c2 evs_auto (by kernel_rfl) pick_auto pick_auto (fun w H => c_add hadd rds_auto (by omega) (by dsimp only; omega) (by omega) H) ?_)
      | (with_reducible refine is_owkc ?_; first | refine owk (ow_appendR (ev_tmp rfl) (ev_tmp rfl) (hasR_blAll hb1 (by omega) (by omega)) hone hkk hcat (by omega) pick_auto) (fun ⟨qa1, qa2⟩ => ?_))
      | (with_reducible refine at_load ?_; first | refine yk (y_load (ev_tmp rfl) old_auto) ?_)
      | (with_reducible refine at_conv ?_; first | refine yk (y_str (l := frameB f0) (n := (frameB f0).length) (ev_tmp rfl) rds_auto) ?_)
      | (with_reducible refine is_yk ?_; refine yk_auto (k := ?_))
      | (with_reducible refine is_owk0 ?_; refine owk0_auto (k := ?_))
      | (with_reducible refine is_owkc ?_; refine owk_auto (k := fun _ => ?_))
      | refine go1 (k := ?_)
      | (refine go2 (ka := ?_) (kb := ?_) <;> intro _)
      | fail))
              exact x_again (i + 1, ⟨D', u, v ++ [frameB f0], (ua, uc), (qa1, qa2)⟩) (hnx D' (v ++ [frameB f0]) hap' (by omega)) hdec sub_auto sel_auto
            · have hadd := hap.fullV hfo hm h3
              (repeat' (first
      | ((with_reducible refine at_fn 45 ?_); with_reducible refine owk_c0x evs_auto (by kernel_rfl) (fun w H => framed_ref f0 (by omega) rfl H) (fun ⟨⟨q1, q2⟩, hq⟩ => ?_))
      | ((with_reducible refine at_fn 47 ?_); with_reducible refine owk_c2 evs_auto (by kernel_rfl) pick_auto pick_auto (fun w H => c_add hadd rds_auto (by omega) (by dsimp only; omega) (by omega) H) ?_)
      | (with_reducible refine at_load ?_; first | refine yk (y_load (ev_tmp rfl) old_auto) ?_)
      | (with_reducible refine is_yk ?_; refine yk_auto (k := ?_))
      | (with_reducible refine is_owk0 ?_; refine owk0_auto (k := ?_))
      | (with_reducible refine is_owkc ?_; refine owk_auto (k := fun _ => ?_))
      | refine go1 (k := ?_)
      | (refine go2 (ka := ?_) (kb := ?_) <;> intro _)
      | fail))
              exact x_again (i + 1, ⟨D, u, v, (ua, uc), (va, vc)⟩) (hnx D v hap (by omega)) hdec sub_auto sel_auto
          · (repeat' (first
      | (with_reducible refine at_load ?_; first | refine yk (y_load (ev_tmp rfl) old_auto) ?_)
      | (with_reducible refine is_yk ?_; refine yk_auto (k := ?_))
      | (with_reducible refine is_owk0 ?_; refine owk0_auto (k := ?_))
      | (with_reducible refine is_owkc ?_; refine owk_auto (k := fun _ => ?_))
      | refine go1 (k := ?_)
      | (refine go2 (ka := ?_) (kb := ?_) <;> intro _)
      | fail))
            exact x_again (i + 1, ⟨D, u, v, (ua, uc), (va, vc)⟩) (hnx D v hap (by omega)) hdec sub_auto sel_auto
        · (repeat' (first
      | (with_reducible refine is_yk ?_; refine yk_auto (k := ?_))
      | (with_reducible refine is_owk0 ?_; refine owk0_auto (k := ?_))
      | (with_reducible refine is_owkc ?_; refine owk_auto (k := fun _ => ?_))
      | refine go1 (k := ?_)
      | (refine go2 (ka := ?_) (kb := ?_) <;> intro _)
      | fail))
          exact x_again (i + 1, ⟨D, u, v, (ua, uc), (va, vc)⟩) (hnx D v hap (by omega)) hdec sub_auto sel_auto
  · refine calls_w (vs := [.int .i64 n, .slice A la cap, .slice B lb capb]) Try.func13 rfl rfl rfl ?_ w (St.start w)
    (repeat' (first
      | ((with_reducible refine at_fn 43 ?_); with_reducible refine owk_c0s evs_auto (by kernel_rfl) (fun w H => alive16 H) ?_)
      | (with_reducible refine is_yk ?_; refine yk_auto (k := ?_))
      | (with_reducible refine is_owk0 ?_; refine owk0_auto (k := ?_))
      | (with_reducible refine is_owkc ?_; refine owk_auto (k := fun _ => ?_))
      | refine go1 (k := ?_)
      | (refine go2 (ka := ?_) (kb := ?_) <;> intro _)
      | fail))
    all_goals exact x_ret1 rfl rfl (fun w H => ⟨rfl, (Sel.st (T := [Old _]) sel_auto H).toBelow'⟩)
end Go.Proofs.Ytakeilefbcpabaa
