/- Somebody writes a sector: what Forge does; DeleteFunc at waiting writes. -/
import Derived.Test.YtakeilefbcpabaaDl
import Derived.Test.YtakeilefbcpabaaRw
namespace Go.Proofs.Ytakeilefbcpabaa
open Go.RowKit
attribute [local irreducible] Y OW YK OWK W WL WP X CV Ev Evs HasCell HasCells Has Met Again Kept

abbrev delV (t : Nat) : Value := .func (.func 63) #[] #[.pointer (some ⟨t, 0, none⟩)]
/-- The first write of a sector; -1: none. -/
def firstOf (i : Int) (l : List (Nat × Sec)) : Int := if l.findIdx (fun x => decide ((x.1 : Int) = i)) < l.length then (l.findIdx (fun x => decide ((x.1 : Int) = i)) : Nat) else -1
def others (i : Int) (l : List (Nat × Sec)) : List (Nat × Sec) := l.filter fun x => !decide ((x.1 : Int) = i)
theorem firstOf_hit {i : Int} {l : List (Nat × Sec)} {j : Nat} (hj : j < l.length) (h : ∀ x ∈ l.take j, (x.1 : Int) ≠ i) (hx : (l[j].1 : Int) = i) : firstOf i l = j := by
  have e : l.findIdx (fun x => decide ((x.1 : Int) = i)) = j := by
    rw [List.findIdx_eq hj]
    refine ⟨by simpa using hx, fun k hk => ?_⟩
    have := h l[k] (List.mem_take_iff_getElem.2 ⟨k, by omega, rfl⟩)
    simpa using this
  unfold firstOf
  rw [e, if_pos hj]
theorem firstOf_miss {i : Int} {l : List (Nat × Sec)} (h : ∀ x ∈ l, (x.1 : Int) ≠ i) : firstOf i l = -1 := by
  unfold firstOf
  rw [if_neg]
  intro k
  obtain ⟨x, hx, hp⟩ := List.findIdx_lt_length.1 k
  exact h x hx (by simpa using hp)
theorem none_succ {i : Int} {l : List (Nat × Sec)} {j : Nat} (hj : j < l.length) (h : ∀ x ∈ l.take j, (x.1 : Int) ≠ i) (hx : (l[j].1 : Int) ≠ i) : ∀ x ∈ l.take (j + 1), (x.1 : Int) ≠ i := by
  rw [List.take_succ_eq_append_getElem hj]
  intro x hx'
  rcases List.mem_append.1 hx' with h' | h'
  · exact h x h'
  · rw [List.mem_singleton.1 h']; exact hx
theorem others_take_hit {i : Int} {l : List (Nat × Sec)} {j : Nat} (hj : j < l.length) (hx : (l[j].1 : Int) = i) : others i (l.take (j + 1)) = others i (l.take j) := by
  unfold others; rw [List.take_succ_eq_append_getElem hj, List.filter_append, List.filter_cons_of_neg (by simpa using hx)]; simp
theorem others_take_miss {i : Int} {l : List (Nat × Sec)} {j : Nat} (hj : j < l.length) (hx : (l[j].1 : Int) ≠ i) : others i (l.take (j + 1)) = others i (l.take j) ++ [l[j]] := by
  unfold others; rw [List.take_succ_eq_append_getElem hj, List.filter_append, List.filter_cons_of_pos (by simpa using hx)]; simp
theorem others_all {i : Int} {l : List (Nat × Sec)} (h : ∀ x ∈ l, (x.1 : Int) ≠ i) : others i l = l := List.filter_eq_self.2 fun x hx => by simpa using h x hx
theorem others_le (i : Int) (l : List (Nat × Sec)) : (others i l).length ≤ l.length := List.length_filter_le _ _
theorem others_lt {i : Int} {l : List (Nat × Sec)} {j : Nat} (hj : j < l.length) (hx : (l[j].1 : Int) = i) {m : Nat} (hm : j < m) (hml : m ≤ l.length) : (others i (l.take m)).length < m := by
  have h1 : (l.take m).length = m := by rw [List.length_take]; omega
  have h2 := (List.length_filter_lt_length_iff_exists (l := l.take m) (p := fun x : Nat × Sec => !decide ((x.1 : Int) = i))).2 ⟨l[j], List.mem_take_iff_getElem.2 ⟨j, by omega, rfl⟩, by simpa using hx⟩
  unfold others; omega
theorem firstOf_cases (i : Int) (l : List (Nat × Sec)) : (firstOf i l = -1 ∧ ∀ x ∈ l, (x.1 : Int) ≠ i) ∨ ∃ j, ∃ hj : j < l.length, firstOf i l = j ∧ (l[j].1 : Int) = i ∧ ∀ x ∈ l.take j, (x.1 : Int) ≠ i := by
  by_cases h : ∀ x ∈ l, (x.1 : Int) ≠ i
  · exact .inl ⟨firstOf_miss h, h⟩
  · right
    have hlt : l.findIdx (fun x => decide ((x.1 : Int) = i)) < l.length := by
      rw [List.findIdx_lt_length]
      simp only [Classical.not_forall] at h
      obtain ⟨x, hx, hp⟩ := h
      exact ⟨x, hx, by simpa using hp⟩
    refine ⟨_, hlt, by unfold firstOf; rw [if_pos hlt], by simpa using List.findIdx_getElem (w := hlt), fun x hx => ?_⟩
    obtain ⟨k, hk, rfl⟩ := List.mem_take_iff_getElem.1 hx
    have := List.not_of_lt_findIdx (p := fun x : Nat × Sec => decide ((x.1 : Int) = i)) (xs := l) (i := k) (by omega)
    simpa using this
theorem szd_w {l : List (Nat × Sec)} (h : ∀ x ∈ l, x.2.length = 256) : Szd wcell 257 l := fun x hx => wcell_length (h x hx)
theorem wcell_one (x : Nat × Sec) : ∀ v ∈ wcell x, v.oneCell' = true := by
  intro v hv
  rcases List.mem_cons.1 hv with rfl | hv
  · rfl
  · exact bvs_oneCell _ v hv
theorem has_row {α : Type} {f : α → List Value} {sz : Nat} {H : World → Prop} {b T o : Nat} {fr : Nat × Nat} {cur : List Value} {l : List α} {i j : Nat} (h : Has H b (.cells cur.toArray T fr)) (hr : RowFrom f sz cur i l) (hl : Szd f sz l) (hj : j < l.length) (ho : o = (i + j) * sz) :
    HasCells H ⟨b, o, none⟩ (f l[j]) := by
  subst ho
  refine hasCells_bl h ?_
  rw [hl.get hj, List.toList_toArray]
  exact hr.get hl hj

section
variable {c : Con} {F : List HP} {w : World} {t g cap : Nat} {i : Int} {cur : List Value} {l : List (Nat × Sec)}
set_option maxRecDepth 100000 in
theorem del_f (x : Nat × Sec) (H : St c (Bl t 3 [.int .i64 i] :: F) w) :
    Calls Try.prog 63 #[.agg (wcell x).toArray, .pointer (some ⟨t, 0, none⟩)] w fun e w' => e = .returned (.bool (decide ((x.1 : Int) = i))) ∧ St c (Bl t 3 [.int .i64 i] :: F) w' := by
  refine calls_w (vs := [.agg (wcell x).toArray, .pointer (some ⟨t, 0, none⟩)]) Try.func63 rfl rfl rfl ?_ w H
  (repeat' (first
      | (with_reducible refine is_yk ?_; refine yk_auto (k := ?_))
      | (with_reducible refine is_owk0 ?_; refine owk0_auto (k := ?_))
      | (with_reducible refine is_owkc ?_; refine owk_auto (k := fun _ => ?_))
      | refine go1 (k := ?_)
      | (refine go2 (ka := ?_) (kb := ?_) <;> intro _)
      | fail))
  exact x_ret1 rfl rfl (fun w H => ⟨rfl, Sel.st sel_auto H⟩)

set_option maxRecDepth 100000 in
theorem index_f (hl : Szd wcell 257 l) (hn : l.length ≤ 1073741824) (hr : RowFrom wcell 257 cur 0 l) (H : St c (Bl g 111 cur :: Bl t 3 [.int .i64 i] :: F) w) :
    Calls Try.prog 68 #[.slice (some ⟨g, 0, none⟩) l.length cap, delV t] w fun e w' => e = .returned (.int .i64 (firstOf i l)) ∧ St c (Bl g 111 cur :: Bl t 3 [.int .i64 i] :: F) w' := by
  refine calls_w (vs := [.slice (some ⟨g, 0, none⟩) l.length cap, delV t]) Try.func68 rfl rfl rfl ?_ w H
  (repeat' (first
      | (with_reducible refine is_yk ?_; refine yk_auto (k := ?_))
      | (with_reducible refine is_owk0 ?_; refine owk0_auto (k := ?_))
      | (with_reducible refine is_owkc ?_; refine owk_auto (k := fun _ => ?_))
      | refine go1 (k := ?_)
      | (refine go2 (ka := ?_) (kb := ?_) <;> intro _)
      | fail))
  refine w_loop (α := Nat) (fun j => j ≤ l.length ∧ ∀ x ∈ l.take j, (x.1 : Int) ≠ i) (fun j => [(0, .slice (some ⟨g, 0, none⟩) l.length cap), (1, delV t), (7, .int .i64 l.length), (8, .int .i64 (j : Int))])
    (fun _ => _) (fun j => l.length - j) 0 ⟨Nat.zero_le _, by simp⟩ sub_auto sel_all (fun j hj => ?_)
  obtain ⟨hj, hno⟩ := hj
  by_cases hlt : j < l.length
  · (repeat' (first
      | (with_reducible refine is_owkc ?_; first | refine owk_fv1 (caps := [.pointer (some ⟨t, 0, none⟩)]) (ev_tmp rfl) evs_auto (by kernel_rfl) pick_auto rfl (fun w H => del_f l[j] H) ?_)
      | (with_reducible refine is_yk ?_; first | refine yk (y_loadN (ev_tmp rfl) (has_row has_auto hr hl hlt (by omega)) (hl.get hlt)) ?_)
      | (with_reducible refine is_yk ?_; refine yk_auto (k := ?_))
      | (with_reducible refine is_owk0 ?_; refine owk0_auto (k := ?_))
      | (with_reducible refine is_owkc ?_; refine owk_auto (k := fun _ => ?_))
      | refine go1 (k := ?_)
      | (refine go2 (ka := ?_) (kb := ?_) <;> intro _)
      | fail))
    · rename_i hx
      rw [firstOf_hit hlt hno hx]
      exact x_ret1 rfl rfl (fun w H => ⟨rfl, Sel.st sel_auto H⟩)
    · rename_i hx
      exact x_again (j + 1) ⟨hlt, none_succ hlt hno hx⟩ (by omega) sub_auto sel_auto
  · have hall : ∀ x ∈ l, (x.1 : Int) ≠ i := by rwa [List.take_of_length_le (by omega)] at hno
    (repeat' (first
      | (with_reducible refine is_yk ?_; refine yk_auto (k := ?_))
      | (with_reducible refine is_owk0 ?_; refine owk0_auto (k := ?_))
      | (with_reducible refine is_owkc ?_; refine owk_auto (k := fun _ => ?_))
      | refine go1 (k := ?_)
      | (refine go2 (ka := ?_) (kb := ?_) <;> intro _)
      | fail))
    rw [firstOf_miss hall]
    exact x_ret1 rfl rfl (fun w H => ⟨rfl, H⟩)
theorem index_is {m : Int} (hm : firstOf i l = m) (hl : Szd wcell 257 l) (hn : l.length ≤ 1073741824) (hr : RowFrom wcell 257 cur 0 l) (H : St c (Bl g 111 cur :: Bl t 3 [.int .i64 i] :: F) w) :
    Calls Try.prog 68 #[.slice (some ⟨g, 0, none⟩) l.length cap, delV t] w fun e w' => e = .returned (.int .i64 m) ∧ St c (Bl g 111 cur :: Bl t 3 [.int .i64 i] :: F) w' := by
  subst hm; exact index_f hl hn hr H

/-- What DeleteFunc leaves in the block. -/
def Left (cur : List Value) (i : Int) (l : List (Nat × Sec)) (cur' : List Value) : Prop := cur'.length = cur.length ∧ RowFrom wcell 257 cur' 0 (others i l)
set_option maxRecDepth 100000 in
set_option maxHeartbeats 1000000 in
theorem delete_f (hl : Szd wcell 257 l) (hn : l.length ≤ 1073741824) (hr : RowFrom wcell 257 cur 0 l) (hc : l.length ≤ cap) (hcap : cap ≤ 9223372036854775807) (H : St c (Bl g 111 cur :: Bl t 3 [.int .i64 i] :: F) w) :
    Calls Try.prog 62 #[.slice (some ⟨g, 0, none⟩) l.length cap, delV t] w fun e w' => ∃ cur' : { cur' // Left cur i l cur' }, e = .returned (.slice (some ⟨g, 0, none⟩) (others i l).length cap) ∧
      St c (Bl g 111 cur'.1 :: Bl t 3 [.int .i64 i] :: F) w' := by
  refine calls_w (vs := [.slice (some ⟨g, 0, none⟩) l.length cap, delV t]) Try.func62 rfl rfl rfl ?_ w H
  rcases firstOf_cases i l with ⟨h1, h2⟩ | ⟨k, hk, h1, h2, h3⟩
  · have ho := others_all h2
    (repeat' (first
      | (with_reducible refine is_owkc ?_; first | refine owk_c2 evs_auto (by kernel_rfl) pick_auto pick_auto (fun w H => index_is h1 hl hn hr H) ?_)
      | (with_reducible refine is_yk ?_; refine yk_auto (k := ?_))
      | (with_reducible refine is_owk0 ?_; refine owk0_auto (k := ?_))
      | (with_reducible refine is_owkc ?_; refine owk_auto (k := fun _ => ?_))
      | refine go1 (k := ?_)
      | (refine go2 (ka := ?_) (kb := ?_) <;> intro _)
      | fail))
    refine x_ret1 rfl rfl (fun w H => ⟨⟨cur, rfl, by rw [ho]; exact hr⟩, by rw [ho], H⟩)
  · (repeat' (first
      | (with_reducible refine is_owkc ?_; first | refine owk_c2 evs_auto (by kernel_rfl) pick_auto pick_auto (fun w H => index_is h1 hl hn hr H) ?_)
      | (with_reducible refine is_yk ?_; refine yk_auto (k := ?_))
      | (with_reducible refine is_owk0 ?_; refine owk0_auto (k := ?_))
      | (with_reducible refine is_owkc ?_; refine owk_auto (k := fun _ => ?_))
      | refine go1 (k := ?_)
      | (refine go2 (ka := ?_) (kb := ?_) <;> intro _)
      | fail))
    have hk1 : others i (l.take (k + 1)) = l.take k := by
      rw [others_take_hit hk h2, others_all h3]
    have hk2 : (l.take k).length = k := by rw [List.length_take]; omega
    have hd1 : RowFrom wcell 257 cur (k + 1) (l.drop (k + 1)) := by
      rcases hr.drop hl (k + 1) with h | h
      · rwa [Nat.zero_add] at h
      · omega
    refine w_loop (α := Nat × Nat × List Value) (fun x => k < x.1 ∧ x.1 ≤ l.length ∧ x.2.1 = (others i (l.take x.1)).length ∧ x.2.2.length = cur.length ∧ RowFrom wcell 257 x.2.2 0 (others i (l.take x.1)) ∧ RowFrom wcell 257 x.2.2 x.1 (l.drop x.1))
      (fun x => [(0, .slice (some ⟨g, 0, none⟩) l.length cap), (1, delV t), (5, .int .i64 (x.2.1 : Int)), (6, .int .i64 (x.1 : Int))])
      (fun x => Bl g 111 x.2.2 :: Bl t 3 [.int .i64 i] :: F) (fun x => l.length - x.1) (k + 1, k, cur) ⟨by omega, hk, by rw [hk1, hk2], rfl, by rw [hk1]; exact hr.take hl k, hd1⟩ sub_auto sel_auto (fun x hx => ?_)
    obtain ⟨j, m, cu⟩ := x
    obtain ⟨p1, p2, p3, p4, p5, p6⟩ := hx
    dsimp only at p1 p2 p3 p4 p5 p6 ⊢
    have hcl : cap * 0 = 0 := Nat.mul_zero _
    have hmj : m < j := by rw [p3]; exact others_lt hk h2 p1 p2
    have hlen := hr.2
    rw [Nat.zero_add, ← p4] at hlen
    by_cases hlt : j < l.length
    · have hel : (cu.drop (j * 257)).take 257 = wcell l[j] := by
        have := p6.get (hl.drop j) (j := 0) (by rw [List.length_drop]; omega)
        rw [Nat.add_zero, List.getElem_drop] at this
        simpa using this
      have hwl := hl.get hlt
      have hw1 := wcell_one l[j]
      have hfit : m * 257 + 257 ≤ cu.length := by omega
      (repeat' (first
      | (with_reducible refine is_owkc ?_; first | refine owk0 (ow_storeAll (ev_tmp rfl) (ev_tmp rfl) hw1 hwl upd_auto rfl) ?_ | refine owk0 (ow_storeN (ev_tmp rfl) (ev_tmp rfl) hw1 hwl upd_auto (by rw [hwl]; omega)) ?_ | refine owk_fv1 (caps := [.pointer (some ⟨t, 0, none⟩)]) (ev_tmp rfl) evs_auto (by kernel_rfl) pick_auto rfl (fun w H => del_f l[j] H) ?_)
      | (with_reducible refine is_yk ?_; first | refine yk (y_loadN (ev_tmp rfl) (hasCells_bl (o := 0 + j * 257) (cs := wcell l[j]) has_auto (by rw [hwl, Nat.zero_add]; exact hel)) hwl) ?_)
      | (with_reducible refine is_yk ?_; refine yk_auto (k := ?_))
      | (with_reducible refine is_owk0 ?_; refine owk0_auto (k := ?_))
      | (with_reducible refine is_owkc ?_; refine owk_auto (k := fun _ => ?_))
      | refine go1 (k := ?_)
      | (refine go2 (ka := ?_) (kb := ?_) <;> intro _)
      | fail))
      · rename_i b hx
        have hfl : (others i (l.take j)).length = m := p3.symm
        have hA : RowFrom wcell 257 (splice cu (0 + m * 257) (wcell l[j])) 0 (others i (l.take (j + 1))) := by
          rw [others_take_miss hlt hx, Nat.zero_add, ← hfl]
          exact p5.put ((hl.take j).filter _) hwl (by rw [hfl]; omega)
        have hB : RowFrom wcell 257 (splice cu (0 + m * 257) (wcell l[j])) (j + 1) (l.drop (j + 1)) := by
          rw [List.drop_eq_getElem_cons hlt] at p6
          exact (p6.tail hwl).behind (by rw [hwl]; omega)
        exact x_again (j + 1, m + 1, _) ⟨by show k < j + 1; omega, hlt, by show m + 1 = _; rw [others_take_miss hlt hx, List.length_append, hfl]; rfl, by show (splice _ _ _).length = _; rw [splice_length (by rw [hwl]; omega)]; exact p4, hA, hB⟩
          (by show l.length - (j + 1) < l.length - j; omega) sub_auto sel_auto
      · rename_i b hx
        have hx' : (l[j].1 : Int) = i := Classical.not_not.1 hx
        have hA : others i (l.take (j + 1)) = others i (l.take j) := others_take_hit hlt hx'
        have hB : RowFrom wcell 257 cu (j + 1) (l.drop (j + 1)) := by
          rw [List.drop_eq_getElem_cons hlt] at p6
          exact p6.tail hwl
        exact x_again (j + 1, m, cu) ⟨by show k < j + 1; omega, hlt, by show m = _; rw [hA]; exact p3, p4, by show RowFrom _ _ cu 0 (others i (l.take (j + 1))); rw [hA]; exact p5, hB⟩
          (by show l.length - (j + 1) < l.length - j; omega) sub_auto sel_auto
    · have hjl : l.take j = l := List.take_of_length_le (by omega)
      rw [hjl] at p3 p5
      have hz1 : ∀ u ∈ (zeroOf Try.prog 111).cells.toList, u.oneCell' = true := List.all_eq_true.1 (show (zeroOf Try.prog 111).cells.toList.all (·.oneCell') = true by kernel_rfl)
      have hml : m ≤ l.length := by omega
      have hAd : 0 < l.length - m → (if cap = m then some ⟨g, 0, none⟩ else (some (⟨g, 0, none⟩ : Addr)).map (·.add (m * 257))) = some (⟨g, 0 + m * 257, none⟩ : Addr) := fun h => by
        rw [if_neg (by omega), Option.map_some, add_mid]
      (repeat' (first
      | (with_reducible refine is_owkc ?_; first | refine owk (ow_clear (cur := cu) (ev_tmp rfl) hAd hz1 pick_auto (by omega)) (fun zs => ?_))
      | (with_reducible refine is_yk ?_; refine yk_auto (k := ?_))
      | (with_reducible refine is_owk0 ?_; refine owk0_auto (k := ?_))
      | (with_reducible refine is_owkc ?_; refine owk_auto (k := fun _ => ?_))
      | refine go1 (k := ?_)
      | (refine go2 (ka := ?_) (kb := ?_) <;> intro _)
      | fail))
      refine x_ret1 rfl rfl (fun w H => ⟨⟨splice cu (0 + m * 257) zs.1, ?_, ?_⟩, by rw [← p3], H⟩)
      · rw [splice_length (by rw [zs.2]; omega)]; exact p4
      · exact p5.ahead (by rw [← p3]; omega) (by rw [zs.2]; omega)
end
end Go.Proofs.Ytakeilefbcpabaa
