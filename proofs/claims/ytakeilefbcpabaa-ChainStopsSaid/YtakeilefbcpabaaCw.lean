/- ChainStops: the walk. -/
import Derived.Test.YtakeilefbcpabaaCv
import Derived.Test.YtakeilefbcpabaaOa
import Derived.Test.YtakeilefbcpabaaRg
namespace Go.Proofs.Ytakeilefbcpabaa
open Go.RowKit
theorem hasR_head {H : World → Prop} {A : Option Addr} {n cap m : Nat} {l : List UInt8} (h : HasR H (.slice A n cap) n (bvs l)) (hm : m ≤ n) : HasR H (.slice A m cap) m (bvs (l.take m)) := fun w hw => by
  obtain ⟨h1, h2⟩ := h w hw
  rw [bvs_length] at h1
  refine ⟨by rw [bvs_length, List.length_take]; omega, ?_⟩
  rcases h2 with ⟨e, hn⟩ | ⟨a, cap', e, h3, h4, h5⟩
  · obtain ⟨rfl, -, rfl⟩ := Value.slice.inj e
    have : m = 0 := by omega
    subst this
    exact .inl ⟨rfl, rfl⟩
  · obtain ⟨rfl, -, rfl⟩ := Value.slice.inj e
    refine .inr ⟨a, cap, rfl, by omega, h4, fun j u hu => h5 j u ?_⟩
    simp only [bvs, List.map_take, List.getElem?_take] at hu
    split at hu
    · exact hu
    · cases hu
/-- A disk on which nothing waits. -/
structure Bare (D : DiskM) (n : Nat) : Prop where
  down : D.down = false
  len : D.now.length = n
  waits : D.waits = []
theorem Bare.forge {D : DiskM} {n : Nat} (h : Bare D n) {i : Int} (hi : 0 ≤ i ∧ i < n) {b : List UInt8} (hb : b.length ≤ 256) : D.forgeE i b.length = 0 ∧ Bare (D.forge i b) n := by
  have hE : D.forgeE i b.length = 0 := by
    unfold DiskM.forgeE
    rw [if_neg (by rw [h.len]; omega), if_neg (by omega)]
  refine ⟨hE, ?_⟩
  unfold DiskM.forge
  rw [if_neg (by rw [hE]; simp)]
  exact ⟨h.down, by simp [h.len], by simp [h.waits]⟩
theorem div_up {n k : Nat} (h : (n + 255) / 256 = k) : ((n : Int) + 255) / 256 = (k : Int) := by omega
/-- What a party knows of its disk. -/
theorem w_disk {P : Program} {N : Nat} {c : Con} {Q : Exit → Act → World → Prop} {code : Code} {E : Env} {L F : List HP} {p : Nat} {D : DiskM} (hp : Pick L (DiskAt p D) F) (h : D.WF → W P N c Q code E L) : W P N c Q code E L := fun a w hf H => h (St.openDisk (hp.st H)).1 a w hf H
attribute [local irreducible] Y OW YK OWK W WL WP X CV Ev Evs HasCell HasCells Has Met Again Kept
set_option maxRecDepth 100000 in
set_option maxHeartbeats 2000000 in
theorem chainStops_walk (A : Option Addr) (len cap : Nat) (zs : List BRow) (epoch : Int) (w : World) (hrow : ElemsOf IsBRow 1 w A len zs) (he : (Lit.int .i64 epoch).wf = true) :
    Calls Try.prog 14 #[.slice A len cap, .int .i64 epoch] w fun e w' => e = .returned (.bool true) ∧ Below w.heap.size w w' := by
  obtain ⟨e0, e1⟩ := wf64 he
  obtain ⟨hzl, hl63, hcell⟩ := hrow
  clear he
  by_cases hg : len ≤ 100 ∧ 0 ≤ epoch
  · obtain ⟨g1, g2⟩ := hg
    have hclip : len = clip (len : Int) := by unfold clip; omega
    have hlen0 := new_length len
    refine calls_w (vs := [.slice A len cap, .int .i64 epoch]) Try.func14 rfl rfl rfl ?_ w (St.start w)
    (repeat' (first
      | ((with_reducible refine at_fn 43 ?_); with_reducible refine owk_c0s evs_auto (by kernel_rfl) (fun w H => alive16 H) ?_)
      | ((with_reducible refine at_fn 21 ?_); with_reducible refine owk_c0x evs_auto (by kernel_rfl) (fun w H => disk_new_is len (by omega) (by omega) hclip H) (fun p => ?_))
      | (with_reducible refine is_yk ?_; refine yk_auto (k := ?_))
      | (with_reducible refine is_owk0 ?_; refine owk0_auto (k := ?_))
      | (with_reducible refine is_owkc ?_; refine owk_auto (k := fun _ => ?_))
      | refine go1 (k := ?_)
      | (refine go2 (ka := ?_) (kb := ?_) <;> intro _)
      | fail))
    refine w_loop (α := Nat × DiskM) (fun x => x.1 ≤ len ∧ Bare x.2 len)
      (fun x => [(26, .int .i64 (x.1 : Int)), (25, .int .i64 (len : Int)), (24, .slice A len cap), (5, .pointer (some ⟨p, 0, none⟩)), (1, .int .i64 epoch)])
      (fun x => [DiskAt p x.2, Old w]) (fun x => len - x.1) (0, DiskM.new len) ⟨Nat.zero_le _, rfl, hlen0, rfl⟩ sub_auto sel_auto (fun x hx => ?_)
    obtain ⟨i, D⟩ := x
    obtain ⟨hi, hD⟩ := hx
    dsimp only at hi hD ⊢
    by_cases hlt : i < len
    · obtain ⟨a, cs, rfl, ⟨hcs, hyl, hyr⟩, -, hca⟩ := hcell i zs[i] (List.getElem?_eq_getElem (by omega))
      generalize zs[i] = y at hcs hyl hyr
      obtain ⟨yA, yn, ycap, yb⟩ := y
      dsimp only at hcs hyl hyr
      obtain ⟨_, _, he', hyc, hycm⟩ := hyr.form
      obtain ⟨rfl, -, rfl⟩ := Value.slice.inj he'
      have c1 : w.cell? (a.add (i * 1)) = some (.slice yA yn ycap) := by have := hca 0 _ (by rw [hcs]; rfl); simpa [Addr.add] using this
      have hmin : min (yn : Int) 256 = ((min yn 256 : Nat) : Int) := by omega
      have hml : (yb.take (min yn 256)).length = min yn 256 := by rw [List.length_take]; omega
      obtain ⟨hE, hD'⟩ := hD.forge (i := (i : Int)) (b := yb.take (min yn 256)) ⟨by omega, by omega⟩ (by omega)
      have hwl : D.waits.length ≤ 1073741824 := by rw [hD.waits]; simp
      obtain ⟨D', hDD⟩ : ∃ D', D.forge (i : Int) (yb.take (min yn 256)) = D' := ⟨_, rfl⟩
      rw [hDD] at hD'
      have hr1 : HasR (St (conOf w) [Old w]) (.slice yA (min yn 256) ycap) (min yn 256) (bvs (yb.take (min yn 256))) := hasR_head (hasR_old hyr) (by omega)
      have hmc : min yn 256 ≤ ycap := by omega
      generalize yb.take (min yn 256) = fb at hml hE hDD hr1
      generalize min yn 256 = m at hmin hml hr1 hmc
      (repeat' (first
      | ((with_reducible refine at_fn 41 ?_); with_reducible refine owk_c1 evs_auto (by kernel_rfl) pick_auto (fun w H => disk_forge_is (i : Int) (by omega) (by omega) _ fb hE hDD (HasR.bytes hr1) hwl H) ?_)
      | (with_reducible refine at_load ?_; first | refine yk (y_load (ev_tmp rfl) (hasCell_tl (hasCell_old c1))) ?_)
      | (with_reducible refine at_call ?_; first | refine yk_eq (y_min (ev_tmp rfl) ev_const) (congrArg _ hmin) ?_)
      | (with_reducible refine at_slice ?_; first | refine yk (y_sliceHi (ev_tmp rfl) (ev_tmp rfl) hmc) ?_)
      | (with_reducible refine is_yk ?_; refine yk_auto (k := ?_))
      | (with_reducible refine is_owk0 ?_; refine owk0_auto (k := ?_))
      | (with_reducible refine is_owkc ?_; refine owk_auto (k := fun _ => ?_))
      | refine go1 (k := ?_)
      | (refine go2 (ka := ?_) (kb := ?_) <;> intro _)
      | fail))
      exact x_again (i + 1, D') ⟨by show i + 1 ≤ len; omega, hD'⟩ (by show len - (i + 1) < len - i; omega) sub_auto sel_auto
    · obtain rfl : i = len := by omega
      obtain ⟨h, hh⟩ : ∃ h, i / 2 = h := ⟨_, rfl⟩
      obtain ⟨A0, hA0⟩ : ∃ A0, halfA i epoch = A0 := ⟨_, rfl⟩
      have hA1 : A0.hi = A0.pos + h ∧ A0.lo = A0.pos ∧ A0.pos + h ≤ i := by
        rw [← hA0]; unfold halfA; rw [hh]
        refine ⟨rfl, rfl, ?_⟩
        have : (epoch % 2).toNat = 0 ∨ (epoch % 2).toNat = 1 := by omega
        rcases this with e | e <;> rw [e] <;> dsimp only <;> omega
      obtain ⟨lo, hi', pos⟩ := A0
      dsimp only at hA1
      obtain ⟨rfl, rfl, hlo⟩ := hA1
      have hDl := hD.len
      have hDd := hD.down
      (repeat' (first
      | ((with_reducible refine at_fn 44 ?_); with_reducible refine owk_c1x evs_auto (by kernel_rfl) pick_auto (fun w H => c_half epoch ⟨e0, e1⟩ hDl (by omega) hA0 H) (fun a => ?_))
      | (with_reducible refine is_yk ?_; refine yk_auto (k := ?_))
      | (with_reducible refine is_owk0 ?_; refine owk0_auto (k := ?_))
      | (with_reducible refine is_owkc ?_; refine owk_auto (k := fun _ => ?_))
      | refine go1 (k := ?_)
      | (refine go2 (ka := ?_) (kb := ?_) <;> intro _)
      | fail))
      refine w_loop (α := Nat) (fun j => j ≤ h) (fun _ => [(8, .pointer (some ⟨a, 0, none⟩))]) (fun j => [AreaAt a p ⟨lo, lo + h, lo + j⟩, DiskAt p D, Old w]) (fun j => h - j) 0 (Nat.zero_le _) sub_auto (.cons .hd (.cons .hd (.cons .hd .nil))) (fun j hj => ?_)
      refine w_disk (.tl .hd) (fun hwf => ?_)
      have hleft : ((lo + h : Nat) : Int) - ((lo + j : Nat) : Int) = (h : Int) - (j : Int) := by omega
      obtain ⟨lim, hlim⟩ : ∃ lim, min (lo + h - (lo + j)) 64 = lim := ⟨_, rfl⟩
      rcases next_split hwf.now (pos := lo + j) (lim := lim) (by omega) with ⟨k, n, f, S⟩ | hno
      · have hlt := S.lt
        have hjk : j + (k + 1) ≤ h := by omega
        have hA' : ({ lo := lo, hi := lo + h, pos := lo + j + k + 1 } : AreaM) = ⟨lo, lo + h, lo + (j + (k + 1))⟩ := by rw [show lo + j + k + 1 = lo + (j + (k + 1)) by omega]
        have hN : ∀ {c : Con} {F : List HP} {w : World}, St c (AreaAt a p ⟨lo, lo + h, lo + j⟩ :: DiskAt p D :: F) w → Calls Try.prog 48 #[.pointer (some ⟨a, 0, none⟩)] w fun e w' => ∃ g : Nat, e = .returned (.tuple #[.slice (some ⟨g, 0, none⟩) n n, .int .i64 0]) ∧ St c (BkP g f :: AreaAt a p ⟨lo, lo + h, lo + (j + (k + 1))⟩ :: DiskAt p D :: F) w' := fun H => c_next_some (A := ⟨lo, lo + h, lo + j⟩) hDd hlim (by rw [hDl]; exact hlo) S.lt S.no S.is S.n0 S.take hA' H
        have hsI := div_up S.secs
        have h0 := S.n0
        have hn16 := S.most
        have ht1 := S.lenM
        have ht2 := S.len
        have hleft2 : ((lo + h : Nat) : Int) - ((lo + (j + (k + 1)) : Nat) : Int) = (h : Int) - (j : Int) - ((k + 1 : Nat) : Int) := by omega
        clear hlim hwf S hlt hA' hclip hcell hzl hl63 hlen0 hD hDl hDd hh hA0
        (repeat' (first
      | ((with_reducible refine at_fn 46 ?_); with_reducible refine owk_c1 evs_auto (by kernel_rfl) pick_auto (fun w H => c_left hleft (by dsimp only; omega) H) ?_)
      | ((with_reducible refine at_fn 46 ?_); with_reducible refine owk_c1 evs_auto (by kernel_rfl) pick_auto (fun w H => c_left hleft2 (by dsimp only; omega) H) ?_)
      | ((with_reducible refine at_fn 48 ?_); with_reducible refine owk_c2x evs_auto (by kernel_rfl) pick_auto pick_auto (fun w H => hN H) (fun g => ?_))
      | ((with_reducible refine at_fn 49 ?_); with_reducible refine owk_c0s evs_auto (by kernel_rfl) (fun w H => ref_length ht1 H) ?_)
      | (with_reducible refine at_conv ?_; first | refine yk (y_str (l := f) (n := n) (ev_tmp rfl) (bkp_hasR ht2 h0 (by omega))) ?_)
      | (with_reducible refine at_bin ?_; first | refine yk_eq (y_quo64 (ev_tmp rfl) ev_const (by omega)) (congrArg _ hsI) ?_)
      | (with_reducible refine is_yk ?_; refine yk_auto (k := ?_))
      | (with_reducible refine is_owk0 ?_; refine owk0_auto (k := ?_))
      | (with_reducible refine is_owkc ?_; refine owk_auto (k := fun _ => ?_))
      | refine go1 (k := ?_)
      | (refine go2 (ka := ?_) (kb := ?_) <;> intro _)
      | fail))
        exact x_again (j + (k + 1)) hjk (by show h - (j + (k + 1)) < h - j; omega) sub_auto sel_auto
      · (repeat' (first
      | ((with_reducible refine at_fn 46 ?_); with_reducible refine owk_c1 evs_auto (by kernel_rfl) pick_auto (fun w H => c_left hleft (by dsimp only; omega) H) ?_)
      | ((with_reducible refine at_fn 48 ?_); with_reducible refine owk_c2 evs_auto (by kernel_rfl) pick_auto pick_auto (fun w H => c_next_none (A := ⟨lo, lo + h, lo + j⟩) hDd hlim (by rw [hDl]; exact hlo) hno H) ?_)
      | (with_reducible refine is_yk ?_; refine yk_auto (k := ?_))
      | (with_reducible refine is_owk0 ?_; refine owk0_auto (k := ?_))
      | (with_reducible refine is_owkc ?_; refine owk_auto (k := fun _ => ?_))
      | refine go1 (k := ?_)
      | (refine go2 (ka := ?_) (kb := ?_) <;> intro _)
      | fail))
        exact x_ret1 rfl rfl (fun w H => ⟨by simp, (Sel.st (T := [Old _]) sel_auto H).toBelow'⟩)
  · refine calls_w (vs := [.slice A len cap, .int .i64 epoch]) Try.func14 rfl rfl rfl ?_ w (St.start w)
    (repeat' (first
      | ((with_reducible refine at_fn 43 ?_); with_reducible refine owk_c0s evs_auto (by kernel_rfl) (fun w H => alive16 H) ?_)
      | (with_reducible refine is_yk ?_; refine yk_auto (k := ?_))
      | (with_reducible refine is_owk0 ?_; refine owk0_auto (k := ?_))
      | (with_reducible refine is_owkc ?_; refine owk_auto (k := fun _ => ?_))
      | refine go1 (k := ?_)
      | (refine go2 (ka := ?_) (kb := ?_) <;> intro _)
      | fail))
    all_goals exact x_ret1 rfl rfl (fun w H => ⟨rfl, (Sel.st (T := [Old _]) sel_auto H).toBelow'⟩)
end Go.Proofs.Ytakeilefbcpabaa
