/- Package chain: Add. -/
import Derived.Test.YtakeilefbcpabaaCl
namespace Go.Proofs.Ytakeilefbcpabaa
open Go.RowKit
/-- The disk behind the first writes of several, one behind the other. -/
def wrTo (D : DiskM) (pos : Nat) (cs : List (List UInt8)) : Nat → DiskM
  | 0 => D
  | i + 1 => (wrTo D pos cs i).write ((pos + i : Nat) : Int) (cs.getD i [])
def wrE (D : DiskM) (pos : Nat) (cs : List (List UInt8)) (i : Nat) : Int := (wrTo D pos cs i).writeE ((pos + i : Nat) : Int) (cs.getD i []).length
/-- Several writes, up to the first that fails. -/
def writes (D : DiskM) (pos : Nat) : List (List UInt8) → Int × DiskM
  | [] => (0, D)
  | b :: r => if D.writeE (pos : Int) b.length ≠ 0 then (D.writeE (pos : Int) b.length, D.write (pos : Int) b) else writes (D.write (pos : Int) b) (pos + 1) r
theorem wrTo_cons (D : DiskM) (pos : Nat) (b : List UInt8) (r : List (List UInt8)) : ∀ i, wrTo D pos (b :: r) (i + 1) = wrTo (D.write (pos : Int) b) (pos + 1) r i
  | 0 => rfl
  | i + 1 => by
    rw [wrTo, wrTo_cons D pos b r i, wrTo, List.getD_cons_succ, show pos + (i + 1) = pos + 1 + i by omega]
theorem wrE_cons (D : DiskM) (pos : Nat) (b : List UInt8) (r : List (List UInt8)) (i : Nat) : wrE D pos (b :: r) (i + 1) = wrE (D.write (pos : Int) b) (pos + 1) r i := by
  rw [wrE, wrTo_cons, wrE, List.getD_cons_succ, show pos + (i + 1) = pos + 1 + i by omega]
theorem writes_ok : ∀ (cs : List (List UInt8)) (D : DiskM) (pos : Nat), (∀ i, i < cs.length → wrE D pos cs i = 0) → writes D pos cs = (0, wrTo D pos cs cs.length)
  | [], _, _, _ => rfl
  | b :: r, D, pos, h => by
    have h0 : D.writeE (pos : Int) b.length = 0 := h 0 (by simp)
    rw [writes, if_neg (by rw [h0]; simp), writes_ok r _ _ (fun i hi => by rw [← wrE_cons]; exact h (i + 1) (by simpa using hi)), List.length_cons, wrTo_cons]
theorem writes_bad : ∀ (cs : List (List UInt8)) (D : DiskM) (pos j : Nat), j < cs.length → (∀ i, i < j → wrE D pos cs i = 0) → wrE D pos cs j ≠ 0 → writes D pos cs = (wrE D pos cs j, wrTo D pos cs (j + 1))
  | b :: r, D, pos, 0, _, _, hj => by
    have h0 : D.writeE (pos : Int) b.length ≠ 0 := hj
    rw [writes, if_pos h0]; rfl
  | b :: r, D, pos, j + 1, hl, h, hj => by
    have h0 : D.writeE (pos : Int) b.length = 0 := h 0 (by omega)
    rw [wrE_cons] at hj ⊢
    rw [writes, if_neg (by rw [h0]; simp), writes_bad r _ _ j (by simpa using hl) (fun i hi => by rw [← wrE_cons]; exact h (i + 1) (by omega)) hj, wrTo_cons]
theorem write_waits (D : DiskM) (i : Int) (b : List UInt8) : (D.write i b).waits.length ≤ D.waits.length + 1 := by
  unfold DiskM.write
  split
  · omega
  · split
    · omega
    · have e : ∀ s, (D.act.put i.toNat s).waits.length = D.waits.length + 1 := fun s => by
        simp only [DiskM.put, List.length_append, List.length_singleton]
        unfold DiskM.act; split <;> rfl
      split
      · unfold DiskM.off
        split
        · rw [e]; omega
        · simp
      · rw [e]; omega
theorem wrTo_waits (D : DiskM) (pos : Nat) (cs : List (List UInt8)) : ∀ i, (wrTo D pos cs i).waits.length ≤ D.waits.length + i
  | 0 => Nat.le_refl _
  | i + 1 => by
    have h1 := wrTo_waits D pos cs i
    have h2 := write_waits (wrTo D pos cs i) ((pos + i : Nat) : Int) (cs.getD i [])
    rw [wrTo]; omega
/-- A frame's sectors. -/
def chunkB (f : List UInt8) (j : Nat) : List UInt8 := (f.take (256 * j + min 256 (f.length - 256 * j))).drop (256 * j)
def chunks (f : List UInt8) : List (List UInt8) := (List.range ((f.length + 255) / 256)).map (chunkB f)
theorem chunks_length (f : List UInt8) : (chunks f).length = (f.length + 255) / 256 := by simp [chunks]
theorem chunks_get (f : List UInt8) {j : Nat} (hj : j < (f.length + 255) / 256) : (chunks f).getD j [] = chunkB f j := by
  simp [chunks, List.getD_eq_getElem?_getD, hj]
theorem chunkB_length (f : List UInt8) (j : Nat) : (chunkB f j).length = min 256 (f.length - 256 * j) := by
  simp [chunkB]; omega
/-- A frame is added. -/
def addM (D : DiskM) (A : AreaM) (f : List UInt8) : Int × AreaM × DiskM :=
  if f = [] ∨ lengthM f ≠ f.length then (1, A, D) else if D.down = true then (8, A, D) else if (A.hi : Int) - A.pos < ((f.length + 255) / 256 : Nat) then (7, A, D) else
  ((writes D A.pos (chunks f)).1, if (writes D A.pos (chunks f)).1 = 0 then { A with pos := A.pos + (f.length + 255) / 256 } else A, (writes D A.pos (chunks f)).2)
theorem chunk_reads {H : World → Prop} {S : Option Addr} {n cap j : Nat} {f : List UInt8} (hr : HasR H (.slice S n cap) n (bvs f)) (hf : f.length = n) (hj : 256 * j < n) (h63 : n ≤ 9223372036854775807) : HasR H (chunkV S n j) (min 256 (n - 256 * j)) (bvs (chunkB f j)) := by
  subst hf
  refine hasR_sub (h := 256 * j + min 256 (f.length - 256 * j)) hr ⟨by omega, by omega, h63⟩ rfl (by omega) ?_
  simp [chunkB, bvs, List.map_drop, List.map_take]
attribute [local irreducible] Y OW YK OWK W WL WP X CV WG XG CVG Ev Evs HasCell HasCells Has Met Again Kept
section
variable {c : Con} {F : List HP} {w : World} {p b : Nat} {D D' : DiskM} {A A' : AreaM}
set_option maxRecDepth 100000 in
set_option maxHeartbeats 2000000 in
theorem c_add1 {J : HP} {v : Value} {f : List UInt8} {n : Nat} {E : Int} (hA : addM D A f = (E, A', D')) (hr : HasR (St c [J]) v n (bvs f)) (hn : n ≤ 1073741824) (hb : A.hi ≤ 1073741824 ∧ A.pos ≤ 1073741824) (hwl : D.waits.length ≤ 536870912) (H : St c [AreaAt b p A, DiskAt p D, J] w) : Calls Try.prog 47 #[.pointer (some ⟨b, 0, none⟩), v] w fun e w' =>
    e = .returned (.int .i64 E) ∧ St c [AreaAt b p A', DiskAt p D', J] w' := by
  have hr0 := hr w H.tail.tail
  obtain ⟨S, cap, rfl, hnc, hcap⟩ := hr0.form
  have hfl : f.length = n := by have := hr0.1; rw [bvs_length] at this; omega
  have hr' : HasR (St c [AreaAt b p A, DiskAt p D, J]) (.slice S n cap) n (bvs f) := hasR_tl (hasR_tl hr)
  obtain ⟨m, hm⟩ : ∃ m, (n + 255) / 256 = m := ⟨_, rfl⟩
  have hbad : (f = [] ∨ lengthM f ≠ f.length) → E = 1 ∧ A' = A ∧ D' = D := fun h => by
    rw [addM, if_pos h] at hA; obtain ⟨rfl, h2⟩ := Prod.mk.inj hA; obtain ⟨rfl, rfl⟩ := Prod.mk.inj h2; exact ⟨rfl, rfl, rfl⟩
  have hdown : f ≠ [] → lengthM f = f.length → D.down = true → E = 8 ∧ A' = A ∧ D' = D := fun h1 h2 h3 => by
    rw [addM, if_neg (by simp [h1, h2]), if_pos h3] at hA; obtain ⟨rfl, h2⟩ := Prod.mk.inj hA; obtain ⟨rfl, rfl⟩ := Prod.mk.inj h2; exact ⟨rfl, rfl, rfl⟩
  have hfull : f ≠ [] → lengthM f = f.length → D.down = false → (A.hi : Int) - A.pos < m → E = 7 ∧ A' = A ∧ D' = D := fun h1 h2 h3 h4 => by
    rw [addM, if_neg (by simp [h1, h2]), if_neg (by simp [h3]), hfl, hm, if_pos h4] at hA; obtain ⟨rfl, h2⟩ := Prod.mk.inj hA; obtain ⟨rfl, rfl⟩ := Prod.mk.inj h2; exact ⟨rfl, rfl, rfl⟩
  have hgo : f ≠ [] → lengthM f = f.length → D.down = false → ¬ (A.hi : Int) - A.pos < m → E = (writes D A.pos (chunks f)).1 ∧ A' = (if (writes D A.pos (chunks f)).1 = 0 then { A with pos := A.pos + m } else A) ∧ D' = (writes D A.pos (chunks f)).2 := fun h1 h2 h3 h4 => by
    rw [addM, if_neg (by simp [h1, h2]), if_neg (by simp [h3]), hfl, hm, if_neg h4] at hA; obtain ⟨rfl, h2⟩ := Prod.mk.inj hA; obtain ⟨rfl, rfl⟩ := Prod.mk.inj h2; exact ⟨rfl, rfl, rfl⟩
  clear hA
  obtain ⟨L0, hL0⟩ : ∃ L0, lengthM f = L0 := ⟨_, rfl⟩
  have hf0 : f = [] ↔ n = 0 := by rw [← hfl]; exact List.length_eq_zero_iff.symm
  obtain ⟨dn, hdn⟩ : ∃ dn, D.down = dn := ⟨_, rfl⟩
  have hq : ((n : Int) + 256 - 1) / 256 = (m : Int) := by omega
  rw [hfl, hL0, hdn] at hdown hfull hgo
  rw [hfl, hL0] at hbad
  obtain ⟨lf, hlf⟩ : ∃ lf : Int, (A.hi : Int) - A.pos = lf := ⟨_, rfl⟩
  rw [hlf] at hfull hgo
  refine calls_wM (vs := [.pointer (some ⟨b, 0, none⟩), .slice S n cap]) Try.func47 rfl rfl rfl ?_ w H
  (repeat' (first
      | ((with_reducible refine at_fn 65 ?_); with_reducible refine owk_c0s evs_auto (by kernel_rfl) (fun w H => seg_length rfl hL0 (hasR_tl (hasR_tl hr')) hn H) ?_)
      | ((with_reducible refine at_fn 40 ?_); with_reducible refine owk_c1q evs_auto (by kernel_rfl) pick_auto (fun w H => disk_downE hdn H) ?_)
      | ((with_reducible refine at_fn 46 ?_); with_reducible refine owk_c1 evs_auto (by kernel_rfl) pick_auto (fun w H => c_left hlf hb H) ?_)
      | ((with_reducible refine at_fn 66 ?_); with_reducible refine owk (ow_callx evs_auto (by kernel_rfl) (fun w H => chunk_make H)) (fun q => ?_))
      | (with_reducible refine at_bin ?_; first | refine yk_eq (y_quo64 (ev_tmp rfl) ev_const (by omega)) (congrArg _ hq) ?_)
      | (with_reducible refine is_yk ?_; refine yk_auto (k := ?_))
      | (with_reducible refine is_owk0 ?_; refine owk0_auto (k := ?_))
      | (with_reducible refine is_owkc ?_; refine owk_auto (k := fun _ => ?_))
      | refine go1 (k := ?_)
      | (refine go2 (ka := ?_) (kb := ?_) <;> intro _)
      | refine gg1 (k := ?_)
      | (refine gg2 (ka := ?_) (kb := ?_) <;> intro _)
      | fail))
  · rename_i k
    obtain ⟨rfl, rfl, rfl⟩ := hbad (.inl (hf0.2 (by omega)))
    exact x_retM (x_retC1 rfl rfl (hasCell_bl has_auto rfl) (fun w H => ⟨rfl, H.tail.tail⟩))
  · rename_i k0 k
    obtain ⟨rfl, rfl, rfl⟩ := hbad (.inr k)
    exact x_retM (x_retC1 rfl rfl (hasCell_bl has_auto rfl) (fun w H => ⟨rfl, H.tail.tail⟩))
  · rename_i k0 k1 k
    obtain ⟨rfl, rfl, rfl⟩ := hdown (fun e => k0 (by have := hf0.1 e; omega)) (by omega) k
    exact x_retM (x_retC1 rfl rfl (hasCell_bl has_auto rfl) (fun w H => ⟨rfl, H.tail.tail⟩))
  · rename_i k0 k1 k2 k
    obtain ⟨rfl, rfl, rfl⟩ := hfull (fun e => k0 (by have := hf0.1 e; omega)) (by omega) k2 k
    exact x_retM (x_retC1 rfl rfl (hasCell_bl has_auto rfl) (fun w H => ⟨rfl, Sel.st (.cons .hd (.cons (.tl (.tl .hd)) (.cons (.tl (.tl .hd)) .nil))) H⟩))
  · rename_i t2 t4 k0 k1 k2 k3 t6
    have hgo := hgo (fun e => k0 (by have := hf0.1 e; omega)) (by omega) k2 k3
    obtain ⟨q2, q1⟩ := q
    dsimp only
    have hcl : (chunks f).length = m := by rw [chunks_length, hfl, hm]
    have hcg : ∀ j, j < m → (chunks f).getD j [] = chunkB f j := fun j hj => chunks_get f (by rw [hfl, hm]; exact hj)
    generalize chunks f = cs at hgo hcl hcg
    have hm63 : m ≤ 4194304 := by omega
    refine w_range (m := m) (K := [Bl q1 3 [.int .i64 256], Bl q2 46 [.slice S n cap]])
      (fun i => [Bl t6 3 [.int .i64 ((A.pos + i : Nat) : Int)], AreaAt b p A, Bl t4 26 [.int .i64 0], Bl t2 78 [.pointer (some ⟨b, 0, none⟩)], Pure (∀ j, j < i → wrE D A.pos cs j = 0) (DiskAt p (wrTo D A.pos cs i)), J])
      [AreaAt b p A, Bl t4 26 [.int .i64 (writes D A.pos cs).1], Pure ((writes D A.pos cs).1 ≠ 0) (DiskAt p (writes D A.pos cs).2), J]
      (fun i => chunkV S n i) (fun i => [(7, chunkV S n i), (2, .pointer (some ⟨t2, 0, none⟩)), (4, .pointer (some ⟨t4, 0, none⟩)), (6, .pointer (some ⟨t6, 0, none⟩))])
      rfl (ev_tmp rfl) (by kernel_rfl) (fun l B' J' hr => chunk_iter hm.symm ⟨hnc, hcap⟩ hn l B' J' hr)
      (.cons (.tl (.tl .hd)) (.cons (.tl (.tl .hd)) (.cons (.tl (.tl .hd)) (.cons (.tl (.tl .hd)) (.imp (.tl (.tl .hd)) (fun h a => ⟨fun j hj => by omega, a⟩) (.cons (.tl (.tl .hd)) sel_all)))))) ?_ ?_ ?_ ?_
    · intro l i Rr hi
      (repeat' (first
      | (with_reducible refine is_yk ?_; refine yk_auto (k := ?_))
      | (with_reducible refine is_owk0 ?_; refine owk0_auto (k := ?_))
      | (with_reducible refine is_owkc ?_; refine owk_auto (k := fun _ => ?_))
      | refine go1 (k := ?_)
      | (refine go2 (ka := ?_) (kb := ?_) <;> intro _)
      | refine gg1 (k := ?_)
      | (refine gg2 (ka := ?_) (kb := ?_) <;> intro _)
      | fail))
      exact xg_pa sub_auto sel_auto
    · intro l i Rr hi
      refine wg_pure (.tl (.tl (.tl (.tl (.tl .hd))))) (fun hok => ?_)
      have hcr := chunk_reads hr hfl (j := i) (by omega) (by omega)
      have hcgi := hcg i hi
      have hcl' := chunkB_length f i
      rw [hfl] at hcl'
      rw [← hcgi] at hcr hcl'
      have hcV : chunkV S n i = .slice (S.map (·.add (256 * i * 1))) (min 256 (n - 256 * i)) (min 256 (n - 256 * i)) := rfl
      generalize chunkV S n i = cv at hcr
      have hEi : (wrTo D A.pos cs i).writeE ((A.pos + i : Nat) : Int) (cs.getD i []).length = wrE D A.pos cs i := rfl
      have hDi : (wrTo D A.pos cs i).write ((A.pos + i : Nat) : Int) (cs.getD i []) = wrTo D A.pos cs (i + 1) := rfl
      have hwi := wrTo_waits D A.pos cs i
      generalize cs.getD i [] = ch at hEi hDi hcr hcl'
      obtain ⟨Ei, hEi'⟩ : ∃ Ei, wrE D A.pos cs i = Ei := ⟨_, rfl⟩
      rw [hEi'] at hEi
      have hsum : ((A.pos + i : Nat) : Int) + 1 = ((A.pos + (i + 1) : Nat) : Int) := by omega
      (repeat' (first
      | ((with_reducible refine at_fn 30 ?_); with_reducible refine owk_c1 evs_auto (by kernel_rfl) pick_auto (fun w H => disk_write_is _ (by omega) (by omega) _ ch hEi hDi (HasR.bytes (hasR_tl (hasR_tl (hasR_tl (hasR_tl (hasR_tl hcr)))))) (by omega) H) ?_)
      | (with_reducible refine at_bin ?_; first | refine yk_eq (y_add64 (ev_tmp rfl) ev_const (by omega)) (congrArg _ hsum) ?_)
      | (with_reducible refine is_wg ?_; first | refine wg_plan (id := 13) (by first | exact wide0 | exact wideR _) [(0, true), (1, true), (2, true), (3, true), (4, true), (5, true), (6, false), (7, false)] [Bl t6 3 [.int .i64 ((A.pos + i : Nat) : Int)], AreaAt b p A, Bl t2 78 [.pointer (some ⟨b, 0, none⟩)]] (by kernel_rfl) (by kernel_rfl) (by kernel_rfl) sel_auto ?_)
      | (with_reducible refine is_yk ?_; refine yk_auto (k := ?_))
      | (with_reducible refine is_owk0 ?_; refine owk0_auto (k := ?_))
      | (with_reducible refine is_owkc ?_; refine owk_auto (k := fun _ => ?_))
      | refine go1 (k := ?_)
      | (refine go2 (ka := ?_) (kb := ?_) <;> intro _)
      | refine gg1 (k := ?_)
      | (refine gg2 (ka := ?_) (kb := ?_) <;> intro _)
      | fail))
      · rename_i k
        have hw := writes_bad cs D A.pos i (by omega) hok (by rw [hEi']; exact k)
        rw [hEi'] at hw
        rw [hw]
        refine xg_pbR (.cons (.tl .hd) (.cons (.tl (.tl .hd)) (.cons (.tl (.tl .hd)) (.imp .hd (fun h a => ⟨k, a⟩) (.cons (.tl (.tl .hd)) .nil)))))
      · rename_i k
        exact xg_pb (.cons (.tl .hd) (.cons (.tl .hd) (.cons (.tl .hd) (.cons (.tl .hd) (.cons (.tl .hd) (.imp .hd (fun h a => ⟨fun j hj => by
          rcases Nat.lt_or_eq_of_le (Nat.lt_succ_iff.1 hj) with h1 | rfl
          · exact hok j h1
          · rw [hEi']; omega, a⟩) sel_all))))))
    · intro D2
      refine xg_pure (.tl (.tl (.tl (.tl (.tl .hd))))) (fun hok => ?_)
      have hw := writes_ok cs D A.pos (by rw [hcl]; exact hok)
      rw [hcl] at hw
      rw [hw] at hgo
      obtain ⟨rfl, rfl, rfl⟩ := hgo
      (repeat' (first
      | (with_reducible refine is_yk ?_; refine yk_auto (k := ?_))
      | (with_reducible refine is_owk0 ?_; refine owk0_auto (k := ?_))
      | (with_reducible refine is_owkc ?_; refine owk_auto (k := fun _ => ?_))
      | refine go1 (k := ?_)
      | (refine go2 (ka := ?_) (kb := ?_) <;> intro _)
      | refine gg1 (k := ?_)
      | (refine gg2 (ka := ?_) (kb := ?_) <;> intro _)
      | fail))
      refine xg_sel (.cons (.tl .hd) sel_all) (xg_retC1 rfl rfl (hasCell_bl has_auto rfl) (fun w H => ⟨rfl, ?_⟩))
      exact Sel.st (.cons (.tl (.tl .hd)) (.cons .hd (.cons (.tl (.tl (.tl .hd))) .nil))) H
    · intro D2
      refine xg_pure (.tl (.tl (.tl .hd))) (fun hne => ?_)
      rw [if_neg hne] at hgo
      obtain ⟨rfl, rfl, rfl⟩ := hgo
      (repeat' (first
      | (with_reducible refine is_yk ?_; refine yk_auto (k := ?_))
      | (with_reducible refine is_owk0 ?_; refine owk0_auto (k := ?_))
      | (with_reducible refine is_owkc ?_; refine owk_auto (k := fun _ => ?_))
      | refine go1 (k := ?_)
      | (refine go2 (ka := ?_) (kb := ?_) <;> intro _)
      | refine gg1 (k := ?_)
      | (refine gg2 (ka := ?_) (kb := ?_) <;> intro _)
      | fail))
      refine xg_sel (.cons (.tl .hd) sel_all) (xg_retC1 rfl rfl (hasCell_bl has_auto rfl) (fun w H => ⟨rfl, ?_⟩))
      exact Sel.st (.cons (.tl .hd) (.cons .hd (.cons (.tl .hd) .nil))) H
end
end Go.Proofs.Ytakeilefbcpabaa
