/- All sectors of a disk at once: what Image does. -/
import Derived.Test.YtakeilefbcpabaaTy
import Derived.Test.YtakeilefbcpabaaEg
import Derived.Test.YtakeilefbcpabaaDn
namespace Go.Proofs.Ytakeilefbcpabaa
open Go.RowKit
attribute [local irreducible] Y OW YK OWK W WL WP X CV Ev Evs HasCell HasCells Has Met Again Kept

/-- A sector out of the sectors' row. -/
theorem has_sec {H : World → Prop} {b T : Nat} {fr : Nat × Nat} {l : List Sec} (h : Has H b (.cells (secs l).toArray T fr)) (hl : ∀ s ∈ l, s.length = 256) {j : Nat} (hj : j < l.length) {o : Nat} (ho : o = j * 256) : HasCells H ⟨b, o, none⟩ (bvs l[j]) := by
  subst ho
  refine hasCells_bl h ?_
  rw [bvs_length, hl _ (List.getElem_mem hj), List.toList_toArray]
  exact secs_at hl j hj
theorem take_flatten (l : List Sec) {j : Nat} (hj : j < l.length) : bvs (l.take j).flatten ++ bvs l[j] = bvs (l.take (j + 1)).flatten := by
  rw [← bvs_append, List.take_succ_eq_append_getElem hj, List.flatten_append]
  simp

theorem shut_disk {c : Con} {F L : List HP} {w : World} {p n s : Nat} {wv : Value} {D : DiskM} (h : D.WF) (H : St c L w)
    (hs : Sel L (Pt p (.cells (diskCells n s wv D) 107 (0, 0)) :: Pt n (.cells (secs D.now).toArray 109 (0, 0)) :: Pt s (.cells (secs D.safe).toArray 109 (0, 0)) ::
      OwnP 111 257 wv D.waits.length (wcells D.waits) :: F)) : St c (DiskAt p D :: F) w := St.shutDisk h (hs.st H)
section
variable {c : Con} {F : List HP} {w : World} {p : Nat} {D : DiskM}
set_option maxRecDepth 100000 in
theorem disk_image (H : St c (DiskAt p D :: F) w) :
    Calls Try.prog 29 #[.pointer (some ⟨p, 0, none⟩)] w fun e w' => ∃ q : Option Addr × Nat, e = .returned (.slice q.1 (256 * D.now.length) q.2) ∧
      St c (OwnP 5 1 (.slice q.1 (256 * D.now.length) q.2) (256 * D.now.length) (bvs D.image) :: DiskAt p D :: F) w' := by
  obtain ⟨hw, n, s, wv, H⟩ := H.openDisk4
  refine calls_w (vs := [.pointer (some ⟨p, 0, none⟩)]) Try.func29 rfl rfl rfl ?_ w H
  (repeat' (first
      | (with_reducible refine is_yk ?_; refine yk_auto (k := ?_))
      | (with_reducible refine is_owk0 ?_; refine owk0_auto (k := ?_))
      | (with_reducible refine is_owkc ?_; refine owk_auto (k := fun _ => ?_))
      | refine go1 (k := ?_)
      | (refine go2 (ka := ?_) (kb := ?_) <;> intro _)
      | fail))
  refine w_loop (α := Nat × Option Addr × Nat) (fun x => x.1 ≤ D.now.length) (fun x => [(0, .pointer (some ⟨p, 0, none⟩)), (3, .slice x.2.1 (256 * x.1) x.2.2), (4, .int .i64 (x.1 : Int))])
    (fun x => OwnP 5 1 (.slice x.2.1 (256 * x.1) x.2.2) (256 * x.1) (bvs (D.now.take x.1).flatten) :: _) (fun x => D.now.length - x.1) (0, none, 0) (Nat.zero_le _) sub_auto (.own0 sel_all) (fun x hx => ?_)
  obtain ⟨j, A, cap⟩ := x
  have hm := hw.most
  dsimp only at hx ⊢
  (repeat' (first
      | (with_reducible refine is_owkc ?_; first | refine owk (ow_append (ev_tmp rfl) (ev_tmp rfl) (src_has Try.underlying46 (has_sec has_auto hw.now (j := j) (by omega) (by omega)) (by rw [bvs_length, hw.now _ (List.getElem_mem _)]) (by omega) (by omega) (bvs_oneCell _)) (k := 256 * (j + 1)) (by omega) (take_flatten _ _) ⟨by omega, by omega⟩ pick_auto) (fun q => ?_))
      | (with_reducible refine is_yk ?_; refine yk_auto (k := ?_))
      | (with_reducible refine is_owk0 ?_; refine owk0_auto (k := ?_))
      | (with_reducible refine is_owkc ?_; refine owk_auto (k := fun _ => ?_))
      | refine go1 (k := ?_)
      | (refine go2 (ka := ?_) (kb := ?_) <;> intro _)
      | fail))
  · exact x_again (j + 1, q) (show j + 1 ≤ _ by omega) (show D.now.length - (j + 1) < D.now.length - j by omega) sub_auto sel_auto
  · obtain rfl : j = D.now.length := by omega
    refine x_ret1 rfl rfl (fun w H => ⟨(A, cap), rfl, ?_⟩)
    rw [List.take_length] at H
    exact (shut_disk hw H sel_auto).swap
end
end Go.Proofs.Ytakeilefbcpabaa
