/- Part 3 of what the statement rests on: each piece below begins with its own remark. -/
import Derived.Test.YtocejpklpggfnaaPart2
import Derived.MapKept
import Derived.SizedLaws
/- What the laws on the queue ask first. -/
namespace Go.Proofs.Ytocejpklpggfnaa
open Go.RowKit
abbrev aQ0 : QueueM := ⟨1, 5, 1, 9, 1, []⟩
abbrev am0 : MsgM := ⟨1, 0, 0, [120], false⟩
abbrev aQ1 : QueueM := aQ0.putM [120]
abbrev am1 : MsgM := { am0 with till := 0 + aQ1.wait, tries := am0.tries + 1 }
abbrev aQ2 : QueueM := { aQ1 with list := aQ1.list.set 0 { am0 with till := 0 + aQ1.wait, tries := am0.tries + 1 } }
abbrev aQ3 : QueueM := { aQ2 with list := aQ2.list.set 0 { am1 with till := 0, dead := decide (aQ2.limit ≤ am1.tries) } }
attribute [local irreducible] Y OW YK OWK W WL WP X CV GvL GvP Ev Evs HasCell HasCells Has Met Again Kept
section
variable {c : Con} {F : List HP} {w : World} {p : Nat} {Q : QueueM}
set_option maxRecDepth 100000 in
theorem alive19 (H : St c F w) : Calls Try.prog 6 #[] w fun e w' => e = .returned (.bool true) ∧ St c F w' := by
  have hsx : Value.string ⟨#[120]⟩ = str [120] := rfl
  have e1 : aQ0.putE ([120] : List UInt8).length = 0 := rfl
  have r1 : aQ0.putR [120] = ⟨3, aQ0.number, aQ0.next, 0, 0, [120]⟩ := rfl
  have e2 : aQ1.leaseE = 0 := rfl
  have r2 : aQ1.leaseR 0 = ⟨4, aQ1.number, am0.id, 0 + aQ1.wait, 0, []⟩ := rfl
  have e3 : aQ2.heldE 1 = 0 := rfl
  have r3 : aQ2.heldR 6 1 = ⟨6, aQ2.number, am1.id, 0, 0, []⟩ := rfl
  have m0 : aQ1.list[0]? = some am0 := rfl
  have m1 : aQ2.list[0]? = some am1 := rfl
  have c1 : aQ3.list.countP isIn = 0 := rfl
  have c2 : aQ3.list.countP isOut = 0 := rfl
  have c3 : aQ3.list.countP isDead = 1 := rfl
  have l1 := rcells_length ⟨3, aQ0.number, aQ0.next, 0, 0, [120]⟩
  have o1 := rcells_one ⟨3, aQ0.number, aQ0.next, 0, 0, [120]⟩
  have l2 := rcells_length ⟨4, aQ1.number, am0.id, 0 + aQ1.wait, 0, []⟩
  have o2 := rcells_one ⟨4, aQ1.number, am0.id, 0 + aQ1.wait, 0, []⟩
  have l3 := rcells_length ⟨6, aQ2.number, am1.id, 0, 0, []⟩
  have o3 := rcells_one ⟨6, aQ2.number, am1.id, 0, 0, []⟩
  have h0 : [Value.int .i64 0, .int .i64 0, .int .i64 0, .int .i64 0, .int .i64 0, str []].length = 6 := rfl
  refine calls_w (vs := []) Try.func6 rfl rfl rfl ?_ w H
  (repeat' (first
      | ((with_reducible refine at_fn 8 ?_); with_reducible refine owk_c0s evs_auto (by kernel_rfl) (fun w H => q_made 5 1 9 H) ?_)
      | ((with_reducible refine at_fn 7 ?_); with_reducible refine owk_c0x evs_auto (by kernel_rfl) (fun w H => q_new (quota := 5) (limit := 1) (wait := 9) (by decide) (by decide) (by decide) H) (fun p => ?_))
      | ((with_reducible refine at_fn 9 ?_); with_reducible refine owk_c1 evs_auto (by kernel_rfl) pick_auto (fun w H => q_put (Q := aQ0) [120] hsx e1 r1 H) ?_)
      | ((with_reducible refine at_fn 10 ?_); with_reducible refine owk_c1 evs_auto (by kernel_rfl) pick_auto (fun w H => q_apply_put (Q := aQ0) [120] (rc_lit _ _ _ _ _ _) (by decide) (by decide) H) ?_)
      | ((with_reducible refine at_fn 11 ?_); with_reducible refine owk_c1 evs_auto (by kernel_rfl) pick_auto (fun w H => q_lease (Q := aQ1) 0 (by decide) (by decide) e2 r2 H) ?_)
      | ((with_reducible refine at_fn 10 ?_); with_reducible refine owk_c1 evs_auto (by kernel_rfl) pick_auto (fun w H => q_apply_lease (Q := aQ1) (rc_lit _ _ _ _ _ _) m0 rfl rfl (by decide) (by decide) H) ?_)
      | ((with_reducible refine at_fn 14 ?_); with_reducible refine owk_c1 evs_auto (by kernel_rfl) pick_auto (fun w H => q_nack (Q := aQ2) 1 e3 r3 H) ?_)
      | ((with_reducible refine at_fn 10 ?_); with_reducible refine owk_c1 evs_auto (by kernel_rfl) pick_auto (fun w H => q_apply_nack (Q := aQ2) (rc_lit _ _ _ _ _ _) m1 (by decide) H) ?_)
      | ((with_reducible refine at_fn 17 ?_); with_reducible refine owk_c1 evs_auto (by kernel_rfl) pick_auto (fun w H => q_counts (Q := aQ3) c1 c2 c3 H) ?_)
      | ((with_reducible refine at_storeO ?_); with_reducible refine owk0 (ow_storeAll (ev_tmp rfl) (ev_tmp rfl) o1 l1 upd_auto h0) ?_)
      | ((with_reducible refine at_storeO ?_); with_reducible refine owk0 (ow_storeAll (ev_tmp rfl) (ev_tmp rfl) o2 l2 upd_auto l1) ?_)
      | ((with_reducible refine at_storeO ?_); with_reducible refine owk0 (ow_storeAll (ev_tmp rfl) (ev_tmp rfl) o3 l3 upd_auto l2) ?_)
      | (with_reducible refine at_load ?_; first | refine yk (y_loadN (ev_tmp rfl) (hasCells_all has_auto) (by first | exact l1 | exact l2 | exact l3)) ?_)
      | (with_reducible refine is_yk ?_; refine yk_auto (k := ?_))
      | (with_reducible refine is_owk0 ?_; refine owk0_auto (k := ?_))
      | (with_reducible refine is_owkc ?_; refine owk_auto (k := fun _ => ?_))
      | refine go1 (k := ?_)
      | (refine go2 (ka := ?_) (kb := ?_) <;> intro _)
      | fail))
  exact x_ret1 rfl rfl (fun w H => ⟨rfl, H.tail.tail⟩)
end
end Go.Proofs.Ytocejpklpggfnaa

/- The queue: Expire, Body. -/
namespace Go.Proofs.Ytocejpklpggfnaa
open Go.RowKit
/-- A message whose lease is over. -/
def isOver (now : Int) (m : MsgM) : Bool := decide (0 < m.till) && decide (m.till ≤ now)
def expM (limit now : Int) (m : MsgM) : MsgM := if isOver now m then { m with till := 0, dead := decide (limit ≤ m.tries) } else m
theorem expM_id (limit now : Int) (m : MsgM) : (expM limit now m).id = m.id := by unfold expM; split <;> rfl
namespace QueueM
def expired (Q : QueueM) (now : Int) : QueueM := { Q with list := Q.list.map (expM Q.limit now) }
/-- The first j of them alone. -/
def expTo (Q : QueueM) (now : Int) (j : Nat) : List MsgM := (Q.list.take j).map (expM Q.limit now) ++ Q.list.drop j
end QueueM
theorem expTo_length (Q : QueueM) (now : Int) (j : Nat) : (Q.expTo now j).length = Q.list.length := by simp [QueueM.expTo]; omega
theorem expTo_get {Q : QueueM} {now : Int} {j : Nat} {m : MsgM} (h : Q.list[j]? = some m) : (Q.expTo now j)[j]? = some m := by
  have hl : j < Q.list.length := (List.getElem?_eq_some_iff.1 h).1
  unfold QueueM.expTo
  rw [List.getElem?_append_right (by simp; omega)]
  simp [Nat.min_eq_left (by omega : j ≤ Q.list.length), h]
theorem expTo_succ {Q : QueueM} {now : Int} {j : Nat} {m : MsgM} (h : Q.list[j]? = some m) : (Q.expTo now j).set j (expM Q.limit now m) = Q.expTo now (j + 1) := by
  have hl : j < Q.list.length := (List.getElem?_eq_some_iff.1 h).1
  have e : Q.list[j] = m := by rw [List.getElem?_eq_getElem hl] at h; exact Option.some.inj h
  unfold QueueM.expTo
  rw [List.set_append_right _ _ (by simp; omega), List.drop_eq_getElem_cons hl, List.take_succ_eq_append_getElem hl, e]
  simp [Nat.min_eq_left (by omega : j ≤ Q.list.length)]
theorem set_same {l : List MsgM} {j : Nat} {m : MsgM} (h : l[j]? = some m) : l.set j m = l := by
  obtain ⟨h1, rfl⟩ := List.getElem?_eq_some_iff.1 h
  exact List.set_getElem_self h1
theorem expTo_all {Q : QueueM} {now : Int} {j : Nat} (h : Q.list.length ≤ j) : Q.expTo now j = Q.list.map (expM Q.limit now) := by
  unfold QueueM.expTo
  rw [List.take_of_length_le h, List.drop_eq_nil_of_le h, List.append_nil]
theorem expired_wf {Q : QueueM} (hw : Q.WF) (now : Int) : (Q.expired now).WF := by
  have hmem : ∀ x ∈ (Q.expired now).list, ∃ m ∈ Q.list, x = expM Q.limit now m := fun x hx => by
    obtain ⟨m, hm, rfl⟩ := List.mem_map.1 hx; exact ⟨m, hm, rfl⟩
  refine ⟨?_, by show (Q.list.map _).length ≤ 64; rw [List.length_map]; exact hw.most, hw.quota, hw.limit, hw.wait, hw.next, fun x hx => ?_, fun x hx => ?_, fun x hx => ?_⟩
  · refine List.pairwise_map.2 (hw.rising.imp fun {a b} h => ?_)
    rw [expM_id, expM_id]; exact h
  · obtain ⟨m, hm, rfl⟩ := hmem x hx
    rw [expM_id]; exact hw.ids m hm
  · obtain ⟨m, hm, rfl⟩ := hmem x hx
    have : (expM Q.limit now m).tries = m.tries := by unfold expM; split <;> rfl
    rw [this]; exact hw.tries m hm
  · obtain ⟨m, hm, rfl⟩ := hmem x hx
    unfold expM
    split
    · exact ⟨Int.le_refl _, by show (0 : Int) ≤ _; omega⟩
    · exact hw.till m hm
theorem count_is (f : MsgM → Bool) {l : List MsgM} {j : Nat} {m : MsgM} (h : l[j]? = some m) : ((l.take (j + 1)).countP f) = (l.take j).countP f + (if f m then 1 else 0) := count_one f h
attribute [local irreducible] Y OW YK OWK W WL WP X CV GvL GvP Ev Evs HasCell HasCells Has Met Again Kept
section
variable {c : Con} {F : List HP} {w : World} {p : Nat} {Q : QueueM}
set_option maxRecDepth 100000 in
set_option maxHeartbeats 1000000 in
theorem q_expire {cnt : Nat} (now : Int) (hc : Q.list.countP (isOver now) = cnt) (h00 : 0 < Q.list.length) (H : St c (QueueAt p Q :: F) w) : Calls Try.prog 16 #[.pointer (some ⟨p, 0, none⟩), .int .i64 now] w fun e w' => e = .returned (.int .i64 cnt) ∧ St c (QueueAt p (Q.expired now) :: F) w' := by
  subst hc
  have hw := H.openQ.1
  have hmost := hw.most
  obtain ⟨⟨⟨g, cap, cur⟩, q1, q2, q3, q4⟩, H⟩ := q_open_b h00 H
  dsimp only at q1 q2 q3 q4 H
  obtain ⟨n, hn⟩ : ∃ n, Q.list.length = n := ⟨_, rfl⟩
  rw [hn] at q1 q4 hmost h00 H
  refine calls_w (vs := [.pointer (some ⟨p, 0, none⟩), .int .i64 now]) Try.func16 rfl rfl rfl ?_ w H
  (repeat' (first
      | (with_reducible refine is_yk ?_; refine yk_auto (k := ?_))
      | (with_reducible refine is_owk0 ?_; refine owk0_auto (k := ?_))
      | (with_reducible refine is_owkc ?_; refine owk_auto (k := fun _ => ?_))
      | refine go1 (k := ?_)
      | (refine go2 (ka := ?_) (kb := ?_) <;> intro _)
      | fail))
  refine w_loop (α := Nat × Nat × List Value) (fun x => x.1 ≤ n ∧ (Q.list.take x.1).countP (isOver now) = x.2.1 ∧ x.2.1 ≤ x.1 ∧ x.2.2.length = cap * 5 ∧ x.2.2.take (n * 5) = mcells (Q.expTo now x.1))
    (fun x => [(6, .int .i64 (x.1 : Int)), (5, .int .i64 (x.2.1 : Int)), (0, .pointer (some ⟨p, 0, none⟩)), (1, .int .i64 now)])
    (fun x => Bl p 52 [.int .i64 Q.number, .int .i64 Q.quota, .int .i64 Q.limit, .int .i64 Q.wait, .int .i64 Q.next, .slice (some ⟨g, 0, none⟩) n cap] :: Bl g 58 x.2.2 :: F) (fun x => n - x.1) (0, 0, cur)
    ⟨Nat.zero_le _, by simp, Nat.le_refl _, q3, by rw [q4]; simp [QueueM.expTo]⟩ sub_auto sel_auto (fun x hx => ?_)
  obtain ⟨j, r, cu⟩ := x
  obtain ⟨hj, e1, b1, q3', q4'⟩ := hx
  dsimp only at hj e1 b1 q3' q4' ⊢
  by_cases hlt : j < n
  · obtain ⟨m, hm⟩ : ∃ m, Q.list[j]? = some m := ⟨_, List.getElem?_eq_getElem (by omega)⟩
    have hm' := expTo_get (now := now) hm
    have hle : (Q.expTo now j).length = n := by rw [expTo_length, hn]
    have hv1 : (mcell m)[1]? = some (.int .i64 m.till) := rfl
    have ho1 : 0 + j * 5 + 1 = 0 + j * 5 + 1 := rfl
    have c1 := count_is (isOver now) hm
    obtain ⟨Qj, hQj⟩ : ∃ Qj : QueueM, Qj = { Q with list := Q.expTo now j } := ⟨_, rfl⟩
    have hfr : ∀ {c : Con} {F : List HP} {w : World}, St c (Bl p 52 [.int .i64 Q.number, .int .i64 Q.quota, .int .i64 Q.limit, .int .i64 Q.wait, .int .i64 Q.next, .slice (some ⟨g, 0, none⟩) n cap] :: Bl g 58 cu :: F) w →
        Calls Try.prog 23 #[.pointer (some ⟨p, 0, none⟩), .pointer (some ⟨g, 0 + j * 5, none⟩)] w fun e w' => e = .returned (.tuple #[]) ∧
          St c (Bl p 52 [.int .i64 Q.number, .int .i64 Q.quota, .int .i64 Q.limit, .int .i64 Q.wait, .int .i64 Q.next, .slice (some ⟨g, 0, none⟩) n cap] :: Bl g 58 ((cu.set (0 + j * 5 + 1) (.int .i64 0)).set (0 + j * 5 + 4) (.bool (decide (Q.limit ≤ m.tries)))) :: F) w' := fun H =>
      q_free (Q := { Q with list := Q.expTo now j }) (by show cu.take ((Q.expTo now j).length * 5) = _; rw [hle]; exact q4') (by show (Q.expTo now j).length * 5 ≤ _; rw [hle, q3']; omega) hm' H
    (repeat' (first
      | ((with_reducible refine at_fn 23 ?_); with_reducible refine owk_c2 evs_auto (by kernel_rfl) pick_auto pick_auto (fun w H => hfr H) ?_)
      | (with_reducible refine at_load ?_; first | refine yk (y_load (ev_tmp rfl) (hasFld has_auto q4' hle hm' hv1 ho1)) ?_)
      | (with_reducible refine is_yk ?_; refine yk_auto (k := ?_))
      | (with_reducible refine is_owk0 ?_; refine owk0_auto (k := ?_))
      | (with_reducible refine is_owkc ?_; refine owk_auto (k := fun _ => ?_))
      | refine go1 (k := ?_)
      | (refine go2 (ka := ?_) (kb := ?_) <;> intro _)
      | fail))
    · rename_i k1 k2
      have ho : isOver now m = true := by simp [isOver, k1, k2]
      have hx : expM Q.limit now m = { m with till := 0, dead := decide (Q.limit ≤ m.tries) } := by simp [expM, ho]
      refine x_again (j + 1, r + 1, (cu.set (0 + j * 5 + 1) (.int .i64 0)).set (0 + j * 5 + 4) (.bool (decide (Q.limit ≤ m.tries)))) ⟨hlt, by rw [c1, e1, ho]; rfl, by dsimp only; omega, by simp [q3'], ?_⟩ (show n - (j + 1) < n - j by omega) sub_auto sel_auto
      have hk1 : ((Q.expTo now j).set j { m with till := 0 })[j]? = some { m with till := 0 } := by simp [hle, hlt]
      dsimp only
      rw [List.take_set, List.take_set, q4', mcells_setFld (m' := { m with till := 0 }) hm' (by decide) rfl, mcells_setFld (m' := { m with till := 0, dead := decide (Q.limit ≤ m.tries) }) hk1 (by decide) rfl, List.set_set, ← expTo_succ hm, hx]
    · rename_i k1 k2
      have ho : isOver now m = false := by simp [isOver, k2]
      have hx : expM Q.limit now m = m := by simp [expM, ho]
      exact x_again (j + 1, r, cu) ⟨hlt, by rw [c1, e1, ho]; rfl, by dsimp only; omega, q3', by dsimp only; rw [← expTo_succ hm, hx, set_same hm']; exact q4'⟩ (show n - (j + 1) < n - j by omega) sub_auto sel_auto
    · rename_i k1
      have ho : isOver now m = false := by simp [isOver, k1]
      have hx : expM Q.limit now m = m := by simp [expM, ho]
      exact x_again (j + 1, r, cu) ⟨hlt, by rw [c1, e1, ho]; rfl, by dsimp only; omega, q3', by dsimp only; rw [← expTo_succ hm, hx, set_same hm']; exact q4'⟩ (show n - (j + 1) < n - j by omega) sub_auto sel_auto
  · (repeat' (first
      | (with_reducible refine is_yk ?_; refine yk_auto (k := ?_))
      | (with_reducible refine is_owk0 ?_; refine owk0_auto (k := ?_))
      | (with_reducible refine is_owkc ?_; refine owk_auto (k := fun _ => ?_))
      | refine go1 (k := ?_)
      | (refine go2 (ka := ?_) (kb := ?_) <;> intro _)
      | fail))
    have hjn : Q.list.take j = Q.list := List.take_of_length_le (by omega)
    rw [hjn] at e1
    rw [expTo_all (by omega)] at q4'
    exact x_ret1 rfl rfl (fun w H => ⟨by rw [e1], St.shutQ (Q := Q.expired now) (expired_wf hw now) (by show (Q.list.map _).length = n; rw [List.length_map, hn]) (Sel.st (.cons .hd (.imp .hd (shutOwn q1 q2 q3' q4') sel_all)) H)⟩)
set_option maxRecDepth 100000 in
theorem q_body {k : Nat} {m : MsgM} (hm : Q.list[k]? = some m) (H : St c (QueueAt p Q :: F) w) : Calls Try.prog 18 #[.pointer (some ⟨p, 0, none⟩), .int .i64 m.id] w fun e w' => e = .returned (.tuple #[str m.body, .int .i64 m.tries, .bool true]) ∧ St c (QueueAt p Q :: F) w' := by
  have hw := H.openQ.1
  have hmost := hw.most
  have hkl : k < Q.list.length := (List.getElem?_eq_some_iff.1 hm).1
  have h00 : 0 < Q.list.length := by omega
  have hk := placeOf_at hw.rising hm
  have hb := hasId_at hw.rising hm
  have hv2 : (mcell m)[2]? = some (.int .i64 m.tries) := rfl
  have hv3 : (mcell m)[3]? = some (str m.body) := rfl
  have ho2 : 0 + k * 5 + 2 = 0 + k * 5 + 2 := rfl
  have ho3 : 0 + k * 5 + 3 = 0 + k * 5 + 3 := rfl
  refine calls_w (vs := [.pointer (some ⟨p, 0, none⟩), .int .i64 m.id]) Try.func18 rfl rfl rfl ?_ w H
  (repeat' (first
      | ((with_reducible refine at_fn 20 ?_); with_reducible refine owk_c1x evs_auto (by kernel_rfl) pick_auto (fun w H => q_at_b m.id hk hb h00 H) (fun q => ?_))
      | (with_reducible refine at_load ?_; first | refine yk (y_load (ev_tmp rfl) (hasFld has_auto q.2.2.2.2 rfl hm hv2 ho2)) ?_ | refine yk (y_load (ev_tmp rfl) (hasFld has_auto q.2.2.2.2 rfl hm hv3 ho3)) ?_)
      | (with_reducible refine is_w ?_; first | refine w_plan (id := 6) [(0, true), (1, true), (2, true), (3, true), (4, true), (5, true), (6, true), (7, true), (8, true), (9, true), (10, true), (11, true), (12, true), (13, true), (14, true), (15, true), (16, true), (17, true), (18, true)] _ (by kernel_rfl) (by kernel_rfl) sel_all ?_)
      | (with_reducible refine is_yk ?_; refine yk_auto (k := ?_))
      | (with_reducible refine is_owk0 ?_; refine owk0_auto (k := ?_))
      | (with_reducible refine is_owkc ?_; refine owk_auto (k := fun _ => ?_))
      | refine go1 (k := ?_)
      | (refine go2 (ka := ?_) (kb := ?_) <;> intro _)
      | fail))
  exact x_ret3 rfl rfl rfl rfl (fun w H => ⟨rfl, q_shut_b hw H⟩)
end
end Go.Proofs.Ytocejpklpggfnaa

/- The queue: Back, Apply of a record that makes ready again, Expire of any queue. -/
namespace Go.Proofs.Ytocejpklpggfnaa
open Go.RowKit
namespace QueueM
/-- Is the message dead? -/
def fallen (Q : QueueM) (id : Int) : Bool := match Q.list[placeOf id Q.list]? with
  | some m => decide (m.id = id) && m.dead
  | none => false
def backE (Q : QueueM) (id : Int) : Int := if Q.fallen id then 0 else 5
def backR (Q : QueueM) (id : Int) : RecM := if Q.fallen id then ⟨10, Q.number, id, 0, 0, []⟩ else rec0
end QueueM
attribute [local irreducible] Y OW YK OWK W WL WP X CV GvL GvP Ev Evs HasCell HasCells Has Met Again Kept
section
variable {c : Con} {F : List HP} {w : World} {p : Nat} {Q : QueueM}
set_option maxRecDepth 100000 in
theorem q_back {E : Int} {R : RecM} (id : Int) (hE : Q.backE id = E) (hR : Q.backR id = R) (H : St c (QueueAt p Q :: F) w) : Calls Try.prog 15 #[.pointer (some ⟨p, 0, none⟩), .int .i64 id] w fun e w' => e = .returned (.tuple #[.agg (rcells R).toArray, .int .i64 E]) ∧ St c (QueueAt p Q :: F) w' := by
  subst hE hR
  have hw := H.openQ.1
  have hz := rcells_length rec0
  have h0 : [Value.int .i64 0, .int .i64 0, .int .i64 0, .int .i64 0, .int .i64 0, str []].length = 6 := rfl
  have h2 := rcells_one rec0
  have hl := rcells_length ⟨10, Q.number, id, 0, 0, []⟩
  have h1 := rcells_one ⟨10, Q.number, id, 0, 0, []⟩
  have e0 : Value.agg [Value.int .i64 0, .int .i64 0, .int .i64 0, .int .i64 0, .int .i64 0, str []].toArray = .agg (rcells rec0).toArray := rfl
  have hs0 : Value.string ⟨#[]⟩ = str [] := rfl
  obtain ⟨k, hk⟩ : ∃ k, placeOf id Q.list = k := ⟨_, rfl⟩
  cases hb : hasId id Q.list
  · have e : Q.fallen id = false := by
      unfold QueueM.fallen
      unfold hasId at hb
      cases e : Q.list[placeOf id Q.list]? with
      | none => rfl
      | some m => rw [e] at hb; simp at hb; simp [hb]
    have e1 : Q.backE id = 5 := by simp [QueueM.backE, e]
    have e2 : Q.backR id = rec0 := by simp [QueueM.backR, e]
    rw [e1, e2]
    refine calls_w (vs := [.pointer (some ⟨p, 0, none⟩), .int .i64 id]) Try.func15 rfl rfl rfl ?_ w H
    (repeat' (first
      | ((with_reducible refine at_fn 20 ?_); with_reducible refine owk_c1 evs_auto (by kernel_rfl) pick_auto (fun w H => q_at_is id hk hb H) ?_)
      | ((with_reducible refine at_storeO ?_); with_reducible refine owk0 (ow_storeAll (ev_tmp rfl) (ev_tmp rfl) h2 hz upd_auto h0) ?_)
      | (with_reducible refine at_build ?_; first | refine yk_eq y_build0z e0 ?_)
      | (with_reducible refine is_yk ?_; refine yk_auto (k := ?_))
      | (with_reducible refine is_owk0 ?_; refine owk0_auto (k := ?_))
      | (with_reducible refine is_owkc ?_; refine owk_auto (k := fun _ => ?_))
      | refine go1 (k := ?_)
      | (refine go2 (ka := ?_) (kb := ?_) <;> intro _)
      | fail))
    exact x_retCT rfl rfl rfl has_auto hz (fun w H => ⟨rfl, Sel.st (.cons .hd (.tl sel_all)) H⟩)
  · obtain ⟨m, hm, hid⟩ := hasId_some hb
    rw [hk] at hm
    have hkl : k < Q.list.length := (List.getElem?_eq_some_iff.1 hm).1
    have h00 : 0 < Q.list.length := by omega
    have hv1 : (mcell m)[4]? = some (.bool m.dead) := rfl
    have e : Q.fallen id = m.dead := by simp [QueueM.fallen, hk, hm, hid]
    have hol : 0 + k * 5 + 4 = 0 + k * 5 + 4 := rfl
    refine calls_w (vs := [.pointer (some ⟨p, 0, none⟩), .int .i64 id]) Try.func15 rfl rfl rfl ?_ w H
    (repeat' (first
      | ((with_reducible refine at_fn 20 ?_); with_reducible refine owk_c1x evs_auto (by kernel_rfl) pick_auto (fun w H => q_at_b id hk hb h00 H) (fun q => ?_))
      | ((with_reducible refine at_fn 19 ?_); with_reducible refine owk_c1 evs_auto (by kernel_rfl) pick_auto (fun w H => q_record (Q := Q) 10 id 0 [] hs0 H) ?_)
      | ((with_reducible refine at_storeO ?_); with_reducible refine owk0 (ow_storeAll (ev_tmp rfl) (ev_tmp rfl) h2 hz upd_auto h0) ?_)
      | ((with_reducible refine at_storeO ?_); with_reducible refine owk0 (ow_storeAll (ev_tmp rfl) (ev_tmp rfl) h1 hl upd_auto h0) ?_)
      | (with_reducible refine at_build ?_; first | refine yk_eq y_build0z e0 ?_)
      | (with_reducible refine at_load ?_; first | refine yk (y_load (ev_tmp rfl) (hasFld has_auto q.2.2.2.2 rfl hm hv1 hol)) ?_)
      | (with_reducible refine is_yk ?_; refine yk_auto (k := ?_))
      | (with_reducible refine is_owk0 ?_; refine owk0_auto (k := ?_))
      | (with_reducible refine is_owkc ?_; refine owk_auto (k := fun _ => ?_))
      | refine go1 (k := ?_)
      | (refine go2 (ka := ?_) (kb := ?_) <;> intro _)
      | fail))
    all_goals rename_i k1
    · have e' : Q.fallen id = false := by rw [e]; simpa using k1
      have e1 : Q.backE id = 5 := by simp [QueueM.backE, e']
      have e2 : Q.backR id = rec0 := by simp [QueueM.backR, e']
      rw [e1, e2]
      exact x_retCT rfl rfl rfl has_auto hz (fun w H => ⟨rfl, q_shut_b hw (Sel.st (.cons .hd (.cons .hd (.tl sel_all))) H)⟩)
    · have e' : Q.fallen id = true := by rw [e]; simpa using k1
      have e1 : Q.backE id = 0 := by simp [QueueM.backE, e']
      have e2 : Q.backR id = ⟨10, Q.number, id, 0, 0, []⟩ := by simp [QueueM.backR, e']
      rw [e1, e2]
      exact x_retCT rfl rfl rfl has_auto hl (fun w H => ⟨rfl, q_shut_b hw (Sel.st (.cons .hd (.cons .hd (.tl sel_all))) H)⟩)
set_option maxRecDepth 100000 in
set_option maxHeartbeats 2000000 in
theorem q_apply_back {cs : List Value} {k : Nat} {m : MsgM} (hcs : cs = [.int .i64 10, .int .i64 Q.number, .int .i64 m.id, .int .i64 0, .int .i64 0, str []]) (hm : Q.list[k]? = some m) (hd : m.dead = true) (H : St c (QueueAt p Q :: F) w) :
    Calls Try.prog 10 #[.pointer (some ⟨p, 0, none⟩), .agg cs.toArray] w fun e w' => e = .returned (.int .i64 0) ∧ St c (QueueAt p { Q with list := Q.list.set k { m with dead := false, tries := 0 } } :: F) w' := by
  have hw := H.openQ.1
  have hmm := List.mem_of_getElem? hm
  have hws := set_wf hw hm (m' := { m with dead := false, tries := 0 }) rfl ⟨Int.le_refl _, by show (0 : Int) ≤ _; omega⟩ (hw.till m hmm)
  have hmost := hw.most
  have hkl : k < Q.list.length := (List.getElem?_eq_some_iff.1 hm).1
  have h00 : 0 < Q.list.length := by omega
  have hk := placeOf_at hw.rising hm
  have hb := hasId_at hw.rising hm
  have hv4 : (mcell m)[4]? = some (.bool true) := by rw [← hd]; rfl
  have ho4 : 0 + k * 5 + 4 = 0 + k * 5 + 4 := rfl
  have hcl : ∀ q : QOpen Q, k * 5 + 5 ≤ q.1.2.2.length := fun q => by have := q.2.1; rw [q.2.2.2.1]; omega
  have hst1 : ∀ q : QOpen Q, 0 + k * 5 + 4 < q.1.2.2.length := fun q => by have := hcl q; omega
  have hst2 : ∀ q : QOpen Q, 0 + k * 5 + 2 < (q.1.2.2.set (0 + k * 5 + 4) (.bool false)).length := fun q => by have := hcl q; rw [List.length_set]; omega
  refine calls_w (vs := [.pointer (some ⟨p, 0, none⟩), .agg cs.toArray]) Try.func10 rfl rfl rfl ?_ w H
  subst hcs
  (repeat' (first
      | ((with_reducible refine at_fn 20 ?_); with_reducible refine owk_c1x evs_auto (by kernel_rfl) pick_auto (fun w H => q_at_b m.id hk hb h00 H) (fun q => ?_))
      | ((with_reducible refine at_storeO ?_); with_reducible refine owk0 (ow_store (ev_tmp rfl) ev_const rfl upd_auto (hst1 q)) ?_)
      | ((with_reducible refine at_storeO ?_); with_reducible refine owk0 (ow_store (ev_tmp rfl) ev_const rfl upd_auto (hst2 q)) ?_)
      | (with_reducible refine at_load ?_; first | refine yk (y_load (ev_tmp rfl) (hasCell_tl q_number)) ?_ | refine yk (y_load (ev_tmp rfl) (hasFld has_auto q.2.2.2.2 rfl hm hv4 ho4)) ?_)
      | (with_reducible refine is_w ?_; first | refine w_plan (id := 3) [(0, true), (1, true), (2, true), (3, true), (4, true), (5, true), (6, true)] _ (by kernel_rfl) (by kernel_rfl) sel_all ?_)
      | (with_reducible refine is_yk ?_; refine yk_auto (k := ?_))
      | (with_reducible refine is_owk0 ?_; refine owk0_auto (k := ?_))
      | (with_reducible refine is_owkc ?_; refine owk_auto (k := fun _ => ?_))
      | refine go1 (k := ?_)
      | (refine go2 (ka := ?_) (kb := ?_) <;> intro _)
      | fail))
  refine x_ret1 rfl rfl (fun w H => ⟨rfl, q_shut_set hws (by simp) ?_ (Sel.st (.cons .hd (.cons .hd (.tl sel_all))) H)⟩)
  have hk1 : (Q.list.set k { m with dead := false })[k]? = some { m with dead := false } := by simp [hkl]
  rw [List.take_set, List.take_set, q.2.2.2.2, mcells_setFld (m' := { m with dead := false }) hm (by decide) rfl, mcells_setFld (m' := { m with dead := false, tries := 0 }) hk1 (by decide) rfl, List.set_set]
set_option maxRecDepth 100000 in
/-- Expire, whatever the list. -/
theorem q_expire_any {cnt : Nat} (now : Int) (hc : Q.list.countP (isOver now) = cnt) (H : St c (QueueAt p Q :: F) w) : Calls Try.prog 16 #[.pointer (some ⟨p, 0, none⟩), .int .i64 now] w fun e w' => e = .returned (.int .i64 cnt) ∧ St c (QueueAt p (Q.expired now) :: F) w' := by
  by_cases h00 : 0 < Q.list.length
  · exact q_expire now hc h00 H
  · have hnil : Q.list = [] := List.eq_nil_of_length_eq_zero (by omega)
    have he : Q.expired now = Q := by
      obtain ⟨a1, a2, a3, a4, a5, l⟩ := Q
      dsimp only at hnil; subst hnil; rfl
    rw [he]
    have hc0 : cnt = 0 := by rw [← hc, hnil]; rfl
    subst hc0
    obtain ⟨hw, ⟨A, cap⟩, H⟩ := H.openQ
    have hn : Q.list.length = 0 := by omega
    dsimp only at H
    rw [hn] at H
    refine calls_w (vs := [.pointer (some ⟨p, 0, none⟩), .int .i64 now]) Try.func16 rfl rfl rfl ?_ w H
    (repeat' (first
      | (with_reducible refine is_yk ?_; refine yk_auto (k := ?_))
      | (with_reducible refine is_owk0 ?_; refine owk0_auto (k := ?_))
      | (with_reducible refine is_owkc ?_; refine owk_auto (k := fun _ => ?_))
      | refine go1 (k := ?_)
      | (refine go2 (ka := ?_) (kb := ?_) <;> intro _)
      | fail))
    refine w_loop (α := Unit) (fun _ => True) (fun _ => [(6, .int .i64 0), (5, .int .i64 0), (0, .pointer (some ⟨p, 0, none⟩)), (1, .int .i64 now)])
      (fun _ => Bl p 52 [.int .i64 Q.number, .int .i64 Q.quota, .int .i64 Q.limit, .int .i64 Q.wait, .int .i64 Q.next, .slice A 0 cap] :: OwnP 58 5 (.slice A 0 cap) 0 (mcells Q.list) :: F) (fun _ => 0) ()
      trivial sub_auto sel_auto (fun x hx => ?_)
    (repeat' (first
      | (with_reducible refine is_yk ?_; refine yk_auto (k := ?_))
      | (with_reducible refine is_owk0 ?_; refine owk0_auto (k := ?_))
      | (with_reducible refine is_owkc ?_; refine owk_auto (k := fun _ => ?_))
      | refine go1 (k := ?_)
      | (refine go2 (ka := ?_) (kb := ?_) <;> intro _)
      | fail))
    exact x_ret1 rfl rfl (fun w H => ⟨rfl, St.shutQ hw hn H⟩)
end
end Go.Proofs.Ytocejpklpggfnaa

/- Maps: a map's block as data; what a lookup reads, what an update turns. No program in sight. -/
namespace Go.Proofs.Ytocejpklpggfnaa
open Go.RowKit
section
variable {K V : Type} [DecidableEq K]
def getM : List (K × V) → K → Option V
  | [], _ => none
  | (a, v) :: r, k => if a = k then some v else getM r k
def setM : List (K × V) → K → V → List (K × V)
  | [], k, v => [(k, v)]
  | (a, u) :: r, k, v => if a = k then (a, v) :: r else (a, u) :: setM r k v
theorem getM_setM (k : K) (v : V) (k' : K) : ∀ l : List (K × V), getM (setM l k v) k' = if k = k' then some v else getM l k'
  | [] => by simp [setM, getM]
  | (a, u) :: r => by
    have ih := getM_setM k v k' r
    unfold setM
    by_cases h : a = k
    · subst h; rw [if_pos rfl]; unfold getM; split <;> simp_all
    · rw [if_neg h]; unfold getM; rw [ih]; split
      · rename_i h2; subst h2; rw [if_neg (fun e => h e.symm)]
      · rfl
theorem setM_length (k : K) (v : V) : ∀ l : List (K × V), (setM l k v).length = if (getM l k).isSome then l.length else l.length + 1
  | [] => rfl
  | (a, u) :: r => by
    have ih := setM_length k v r
    unfold setM getM
    by_cases h : a = k
    · simp [h]
    · rw [if_neg h, if_neg h, List.length_cons, ih]; split <;> simp
theorem setM_new {k : K} {v : V} : ∀ {l : List (K × V)}, getM l k = none → setM l k v = l ++ [(k, v)]
  | [], _ => rfl
  | (a, u) :: r, h => by
    unfold getM at h; unfold setM
    split at h
    · cases h
    · rename_i hn; rw [if_neg hn, setM_new h]; rfl
theorem getM_mem {k : K} {v : V} : ∀ {l : List (K × V)}, getM l k = some v → (k, v) ∈ l
  | (a, u) :: r, h => by
    unfold getM at h
    split at h
    · rename_i e; subst e; cases h; exact List.mem_cons_self
    · exact List.mem_cons_of_mem _ (getM_mem h)
/-- The place of a key among entries. -/
def placeM : List (K × V) → K → Nat → Option Nat
  | [], _, _ => none
  | (a, _) :: r, k, i => if a = k then some i else placeM r k (i + 1)
theorem placeM_get {k : K} : ∀ {l : List (K × V)} {i : Nat}, (placeM l k i).isSome = (getM l k).isSome
  | [], _ => rfl
  | (a, u) :: r, i => by
    unfold placeM getM
    split
    · rfl
    · exact placeM_get
theorem placeM_none {k : K} {l : List (K × V)} {i : Nat} (h : getM l k = none) : placeM l k i = none := by
  have := placeM_get (k := k) (l := l) (i := i); rw [h] at this; simpa using this
theorem placeM_some {k : K} {v : V} : ∀ {l : List (K × V)} {i : Nat}, getM l k = some v → ∃ j, placeM l k i = some (i + j) ∧ l[j]? = some (k, v) ∧ ∀ v', setM l k v' = l.set j (k, v')
  | (a, u) :: r, i, h => by
    unfold getM at h; unfold placeM
    split at h
    · rename_i e; subst e; cases h; exact ⟨0, by rw [if_pos rfl]; rfl, rfl, fun v' => by unfold setM; rw [if_pos rfl]; rfl⟩
    · rename_i e
      obtain ⟨j, h1, h2, h3⟩ := placeM_some (i := i + 1) h
      exact ⟨j + 1, by rw [if_neg e, h1]; congr 1; omega, by simpa using h2, fun v' => by unfold setM; rw [if_neg e, h3]; rfl⟩
end

instance {t : TypeId} {r : Option Operand} : IsAct (.makeMap t r) := ⟨trivial⟩
instance {t : TypeId} {m k x : Operand} : IsAct (.mapUpdate t m k x) := ⟨trivial⟩
/-- A type of maps. -/
class TMap (P : Program) (t : TypeId) (kt vt : outParam TypeId) (z : outParam Value) : Prop where
  u : P.underlying t = some (.map kt vt)
  z : (P.info? vt).map (·.zero) = some (some z)
/-- A type of keys. -/
class TKey (P : Program) (kt : TypeId) {K : Type} [DecidableEq K] (enc : K → Value) : Prop where
  check : ∀ (b : Bool) (k : K) (w : World), (Instr.checkKey b 10000 kt (enc k)).run P w = .ok () w
  find : ∀ {V : Type} (k : K) (encV : V → Value) (es : List MapEntry) (l : List (K × V)) (w : World), es.map (fun e => (e.key, e.val)) = l.map (fun x => (enc x.1, encV x.2)) →
    (Instr.findKey kt (enc k) es).run P w = .ok ((placeM l k 0).bind fun i => (getM l k).map fun v => (i, encV v)) w
  same : ∀ k : K, Instr.sameBits 10000 (enc k) (enc k) = true

theorem findNow_is {K V : Type} [DecidableEq K] {enc : K → Value} {d : TypeDesc} (hs : ∀ a b : K, Instr.sameNow d (enc a) (enc b) = some (decide (a = b))) (k : K) (encV : V → Value) : ∀ (es : List MapEntry) (l : List (K × V)) (i : Nat),
    es.map (fun e => (e.key, e.val)) = l.map (fun x => (enc x.1, encV x.2)) → Instr.findNow d (enc k) es i = some ((placeM l k i).bind fun i => (getM l k).map fun v => (i, encV v))
  | [], [], _, _ => rfl
  | [], x :: r, _, h => by cases h
  | e :: es, [], _, h => by cases h
  | e :: es, (a, v) :: r, i, h => by
    simp only [List.map_cons, List.cons.injEq, Prod.mk.injEq] at h
    obtain ⟨⟨h1, h2⟩, h3⟩ := h
    unfold Instr.findNow placeM getM
    rw [h1, hs k a]
    by_cases hk : a = k
    · subst hk; simp [h2]
    · rw [if_neg hk, if_neg hk, decide_eq_false (fun q => hk q.symm)]
      exact findNow_is hs k encV es r (i + 1) h3
theorem findAsking_is {P : Program} {kt : TypeId} {K V : Type} [DecidableEq K] {enc : K → Value} (hs : ∀ (a b : K) (w : World), (Op.equal kt (enc a) (enc b)).run P w = .ok (decide (a = b)) w) (k : K) (encV : V → Value) : ∀ (es : List MapEntry) (l : List (K × V)) (i : Nat) (w : World),
    es.map (fun e => (e.key, e.val)) = l.map (fun x => (enc x.1, encV x.2)) → (Instr.findAsking kt (enc k) es i).run P w = .ok ((placeM l k i).bind fun i => (getM l k).map fun v => (i, encV v)) w
  | [], [], _, _, _ => rfl
  | [], x :: r, _, _, h => by cases h
  | e :: es, [], _, _, h => by cases h
  | e :: es, (a, v) :: r, i, w, h => by
    simp only [List.map_cons, List.cons.injEq, Prod.mk.injEq] at h
    obtain ⟨⟨h1, h2⟩, h3⟩ := h
    unfold Instr.findAsking placeM getM
    rw [h1, Sem.run_bind, hs k a, Result.andThen_ok]
    by_cases hk : a = k
    · subst hk; simp [h2]
    · rw [if_neg hk, if_neg hk, decide_eq_false (fun q => hk q.symm)]
      exact findAsking_is hs k encV es r (i + 1) w h3

instance tkey_int {P : Program} {kt : TypeId} {q : IntKind} [ht : TInt P kt q] : TKey P kt (fun n : Int => Value.int q n) where
  check b k w := by
    unfold Instr.checkKey
    simp only [Sem.run_bind, run_underlying ht.u, Result.andThen_ok]
    rfl
  find k encV es l w h := by
    have := findNow_is (enc := fun n : Int => Value.int q n) (d := .int q) (fun a b => by unfold Instr.sameNow; simp only [if_true, Option.some.injEq]; rw [Bool.eq_iff_iff]; simp) k encV es l 0 h
    exact MapKept.run_findKey ht.u this
  same k := by unfold Instr.sameBits; simp
instance tkey_str {P : Program} {kt : TypeId} [ht : TStr P kt] : TKey P kt str where
  check b k w := by
    unfold Instr.checkKey
    simp only [Sem.run_bind, run_underlying ht.u, Result.andThen_ok]
    rfl
  find k encV es l w h := by
    have := findNow_is (enc := str) (d := .string) (fun a b => by
      obtain ⟨r, h1, h2⟩ := MapKept.sameNow_of_keys (d := .string) (a := str a) (b := str b) trivial trivial
      rw [h1]
      have h3 : str a = str b ↔ a = b := ⟨fun e => by simpa [str] using e, fun e => by rw [e]⟩
      congr 1
      rw [Bool.eq_iff_iff, h2, h3]; simp) k encV es l 0 h
    exact MapKept.run_findKey ht.u this
  same k := MapKept.sameBits_self (d := .string) (k := str k) trivial _

section
variable {K V : Type} [DecidableEq K] (encK : K → Value) (encV : V → Value)
def Entries (es : Array MapEntry) (l : List (K × V)) : Prop := es.toList.map (fun e => (e.key, e.val)) = l.map (fun x => (encK x.1, encV x.2))
/-- A map's block. -/
def Mp (b : Nat) (l : List (K × V)) : HP := Ex fun q : { q : Array MapEntry × Nat // Entries encK encV q.1 l } => Pt b (.map q.1.1 q.1.2)
def HasM (H : World → Prop) (b : Nat) (l : List (K × V)) : Prop := ∀ w, H w → ∃ es clk, w.heap[b]? = some (.map es clk) ∧ Entries encK encV es l
end
section
variable {P : Program} {N : Nat} {c : Con} {H : World → Prop} {E : Env} {L F : List HP} {d : Option Nat} {ty : TypeId} {pos : String} {aft : Array Edge} {g : Option (Nat × Bool)}
variable {K V : Type} [DecidableEq K] {encK : K → Value} {encV : V → Value} {A : HP}
omit [DecidableEq K] in
theorem hasM_hd {b : Nat} {l : List (K × V)} : HasM encK encV (St c (Mp encK encV b l :: L)) b l := fun w H => by
  obtain ⟨q, H⟩ := St.ex H
  exact ⟨q.1.1, q.1.2, H.pt, q.2⟩
omit [DecidableEq K] in
theorem hasM_tl {b : Nat} {l : List (K × V)} (h : HasM encK encV (St c L) b l) : HasM encK encV (St c (A :: L)) b l := fun w H => h w H.tail
theorem run_zeroOf {t : TypeId} {z : Value} (h : (P.info? t).map (·.zero) = some (some z)) (w : World) : (zeroValue t).run P w = .ok z w := by
  cases hq : P.info? t with
  | none => simp [hq] at h
  | some i =>
    have hz : i.zero = some z := by simpa [hq] using h
    simp [zeroValue, typeInfo, hq, hz]
theorem run_lookup {t kt vt : TypeId} {z : Value} [hm : TMap P t kt vt z] [hk : TKey P kt encK] {b : Nat} {l : List (K × V)} {k : K} {w : World} {es : Array MapEntry} {clk : Nat} (hb : w.heap[b]? = some (.map es clk)) (he : Entries encK encV es l) (ok : Bool) :
    (Instr.lookup t (.map (some b)) (encK k) ok).run P w = .ok (if ok then .tuple #[((getM l k).map encV).getD z, .bool (getM l k).isSome] else ((getM l k).map encV).getD z) w := by
  unfold Instr.lookup
  have hf := hk.find k encV es.toList l w he
  simp only [Sem.run_bind, run_underlying hm.u, Result.andThen_ok, MapKept.run_getObj_map hb, Sem.run_pure, hk.check, hf]
  cases hg : getM l k with
  | none =>
    rw [placeM_none hg]
    cases ok <;> simp [run_zeroOf hm.z]
  | some v =>
    obtain ⟨j, h1, _, _⟩ := placeM_some (i := 0) hg
    rw [h1]
    cases ok <;> simp
theorem y_lookup {x i : Operand} {t kt vt : Nat} {z : Value} {b : Nat} {l : List (K × V)} {k : K} {ki : Value} [hm : TMap P t kt vt z] [hk : TKey P kt encK] (hx : Ev E x (.map (some b))) (hi : Ev E i ki) (he : ki = encK k) (hb : HasM encK encV H b l) :
    Y P H E (Oper.mk d (.lookup t x i false) ty pos aft g) (((getM l k).map encV).getD z) := fun N a w hf hw => by
  subst he
  obtain ⟨es, clk, h1, h2⟩ := hb w hw
  unfold execOp
  simp [hx N a hf, hi N a hf, run_lookup (k := k) h1 h2]
theorem y_lookup2 {x i : Operand} {t kt vt : Nat} {z : Value} {b : Nat} {l : List (K × V)} {k : K} {ki : Value} [hm : TMap P t kt vt z] [hk : TKey P kt encK] (hx : Ev E x (.map (some b))) (hi : Ev E i ki) (he : ki = encK k) (hb : HasM encK encV H b l) :
    Y P H E (Oper.mk d (.lookup t x i true) ty pos aft g) (.tuple #[((getM l k).map encV).getD z, .bool (getM l k).isSome]) := fun N a w hf hw => by
  subst he
  obtain ⟨es, clk, h1, h2⟩ := hb w hw
  unfold execOp
  simp [hx N a hf, hi N a hf, run_lookup (k := k) h1 h2]
omit [DecidableEq K] in
theorem y_lenMap {x : Operand} {t kt vt : Nat} {z : Value} {b : Nat} {l : List (K × V)} [hm : TMap P t kt vt z] (hx : Ev E x (.map (some b))) (hb : HasM encK encV H b l) :
    Y P H E (Oper.mk d (.call { callee := .builtin .len, args := #[x], argTypes := #[t] }) ty pos aft g) (.int .i64 (l.length : Int)) := fun N a w hf hw => by
  obtain ⟨es, clk, h1, h2⟩ := hb w hw
  have hl : es.size = l.length := by have := congrArg List.length h2; simpa using this
  unfold execOp
  simp [hx N a hf, resolve, invoke, builtin, Builtin.len_, run_underlying hm.u, MapKept.run_getObj_map h1, hl, goInt]
omit [DecidableEq K] in
theorem ow_makeMap (encK : K → Value) (encV : V → Value) {t kt vt : Nat} {z : Value} [hm : TMap P t kt vt z] : OW P N c E L (Oper.mk d (.makeMap t none) ty pos aft g) (fun b => .map (some b)) fun b => Mp encK encV b [] :: L := fun Q C a w hf H hk => by
  have _ := hf
  have _ := hm
  unfold Oper.wp execOp
  simp [Instr.makeMap]
  exact hk _ _ (St.toEx ⟨(#[], 0), rfl⟩ (H.allocPt _))
omit [DecidableEq K] in
theorem entries_set {es : Array MapEntry} {l : List (K × V)} {j : Nat} {k : K} {v : V} {f : MapEntry → MapEntry} (he : Entries encK encV es l) (hf : ∀ e, (f e).key = encK k ∧ (f e).val = encV v) : Entries encK encV (es.modify j f) (l.set j (k, v)) := by
  unfold Entries at he ⊢
  apply List.ext_getElem?
  intro i
  have hi := congrArg (fun q => q[i]?) he
  simp only [List.getElem?_map, Array.getElem?_toList] at hi ⊢
  rw [Array.getElem?_modify, List.getElem?_set]
  by_cases h : j = i
  · subst h
    rw [if_pos rfl, if_pos rfl]
    cases h1 : es[j]? with
    | none =>
      rw [h1] at hi
      have : l[j]? = none := by cases h2 : l[j]? with
        | none => rfl
        | some x => rw [h2] at hi; cases hi
      rw [if_neg (by have := List.getElem?_eq_none_iff.1 this; omega)]; rfl
    | some e =>
      rw [h1] at hi
      have : j < l.length := by
        rcases Nat.lt_or_ge j l.length with h2 | h2
        · exact h2
        · rw [List.getElem?_eq_none h2] at hi; cases hi
      rw [if_pos this]
      simp [(hf e).1, (hf e).2]
  · rw [if_neg h, if_neg h]; exact hi
omit [DecidableEq K] in
theorem entries_push {es : Array MapEntry} {l : List (K × V)} {k : K} {v : V} {n : Nat} (he : Entries encK encV es l) : Entries encK encV (es.push { key := encK k, val := encV v, born := n }) (l ++ [(k, v)]) := by
  unfold Entries at he ⊢
  simp [he]
theorem ow_mapUpdate {x i y : Operand} {t kt vt : Nat} {z : Value} {b : Nat} {l : List (K × V)} {k : K} {v : V} {ki vi : Value} [hm : TMap P t kt vt z] [hk : TKey P kt encK] (hx : Ev E x (.map (some b))) (hi : Ev E i ki) (hy : Ev E y vi) (hp : Pick L (Mp encK encV b l) F) (he : ki = encK k) (hv : vi = encV v) :
    OW P N c E L (Oper.mk d (.mapUpdate t x i y) ty pos aft g) (fun _ : Unit => undef) fun _ => Mp encK encV b (setM l k v) :: F := fun Q C a w hf H hC => by
  subst he hv
  have H1 := hp.st H
  obtain ⟨⟨⟨es, clk⟩, hes⟩, H1⟩ := St.ex H1
  dsimp only at hes H1
  have hb := H1.pt
  have hfd := hk.find k encV es.toList l w hes
  obtain ⟨h0, a0, l0, u⟩ := H1.upd
  have fin : ∀ es' clk', Entries encK encV es' (setM l k v) → St c (Mp encK encV b (setM l k v) :: F) { w with heap := w.heap.setIfInBounds b (.map es' clk') } := fun es' clk' h => by
    refine St.toEx ⟨(es', clk'), h⟩ (u _ (Pt b (.map es' clk')) rfl (fun r hr hn => ?_) ?_)
    · exact (MapKept.heap_set hb).2 r (fun e0 => by rw [e0, show h0 b = _ from a0] at hn; cases hn)
    · show (if (h0 b).isSome ∨ _ then _ else _) = _
      rw [if_pos (.inl (by rw [show h0 b = _ from a0]; rfl))]
      exact (MapKept.heap_set hb).1
  unfold Oper.wp execOp Instr.mapUpdate
  simp only [hx N a hf, hi N a hf, hy N a hf, Sem.run_bind, run_underlying hm.u, Result.andThen_ok, MapKept.run_getObj_map hb, Sem.run_pure, hk.check, hfd]
  cases hg : getM l k with
  | none =>
    rw [placeM_none hg]
    simp only [Option.bind_none, MapKept.run_setObj_map _ hb, Result.andThen_ok, Sem.run_pure]
    refine hC () _ (fin _ _ ?_)
    rw [setM_new hg]; exact entries_push hes
  | some v0 =>
    obtain ⟨j, h1, h2, h3⟩ := placeM_some (i := 0) hg
    rw [h1, Nat.zero_add]
    have hkey : ((es[j]?).map (·.key)).getD (encK k) = encK k := by
      have hj := congrArg (fun q => q[j]?) hes
      simp only [List.getElem?_map, Array.getElem?_toList, h2, Option.map_some] at hj
      cases h4 : es[j]? with
      | none => rfl
      | some e => rw [h4] at hj; simp only [Option.map_some, Option.some.injEq, Prod.mk.injEq] at hj; simp [hj.1]
    have hst : (Instr.keyThatStays (((es[j]?).map (·.key)).getD (encK k)) (encK k)).run P w = .ok (encK k) w := by
      rw [hkey]; unfold Instr.keyThatStays; rw [if_pos (hk.same k)]; rfl
    simp only [Option.map_some, Option.bind_some, Sem.run_bind, hst, Result.andThen_ok, MapKept.run_setObj_map _ hb, Sem.run_pure]
    refine hC () _ (fin _ _ ?_)
    rw [h3 v]; exact entries_set hes (fun _ => ⟨rfl, rfl⟩)
theorem at_lookup {K : Value → Prop} {t : TypeId} {x i : Operand} {ok : Bool} (h : YK P H E (Oper.mk d (.lookup t x i ok) ty pos aft g) K) : YK P H E (Oper.mk d (.lookup t x i ok) ty pos aft g) K := h
theorem at_makeMapO {K : Value → List HP → Prop} {t : TypeId} {r : Option Operand} (h : OWK P N c E L (Oper.mk d (.makeMap t r) ty pos aft g) K) : OWK P N c E L (Oper.mk d (.makeMap t r) ty pos aft g) K := h
theorem at_mapUpdateO {K : Value → List HP → Prop} {t : TypeId} {m k x : Operand} (h : OWK P N c E L (Oper.mk d (.mapUpdate t m k x) ty pos aft g) K) : OWK P N c E L (Oper.mk d (.mapUpdate t m k x) ty pos aft g) K := h
end
end Go.Proofs.Ytocejpklpggfnaa

/- QueueOnce, the plain law: what stays true of a queue, of what was done and of how often each message was leased. No program in sight. -/
namespace Go.Proofs.Ytocejpklpggfnaa
open Go.RowKit
structure OnceI (quota limit wait : Int) (Q : QueueM) (al : Int) (dn : List Int) (T : List (Int × Int)) : Prop where
  quo : Q.quota = quota
  lim : Q.limit = limit
  wt : Q.wait = wait
  alive : al = Q.list.length
  most : (Q.list.length : Int) ≤ quota
  gone : ∀ d ∈ dn, d < Q.next ∧ ∀ m ∈ Q.list, m.id ≠ d
  told : ∀ m ∈ Q.list, (getM T m.id).getD 0 = m.tries
  few : ∀ id, (getM T id).getD 0 ≤ limit
  late : ∀ id, Q.next ≤ id → getM T id = none
  ready : ∀ m ∈ Q.list, m.till = 0 → m.dead = false → m.tries < limit
  low : 1 ≤ limit
theorem counts_sum : ∀ l : List MsgM, l.countP isIn + l.countP isOut + l.countP isDead = l.length
  | [] => rfl
  | m :: r => by
    have ih := counts_sum r
    simp only [List.countP_cons, List.length_cons, isIn, isOut, isDead] at ih ⊢
    by_cases hd : m.dead = true <;> by_cases h : 0 < m.till <;> simp [h, hd] <;> omega
theorem lease_ok {Q : QueueM} (h : Q.leaseE = 0) : ∃ (k : Nat) (m : MsgM), Q.list[k]? = some m ∧ m.till = 0 ∧ m.dead = false ∧ ∀ now, Q.leaseR now = ⟨4, Q.number, m.id, now + Q.wait, 0, []⟩ := by
  unfold QueueM.leaseE at h
  cases hf : Q.list.find? QueueM.ready with
  | none => simp [hf] at h
  | some m =>
    obtain ⟨k, hk⟩ := List.mem_iff_getElem?.1 (List.mem_of_find?_eq_some hf)
    have hr := List.find?_some hf
    simp only [QueueM.ready, Bool.and_eq_true, decide_eq_true_eq, Bool.not_eq_true'] at hr
    exact ⟨k, m, hk, hr.1, hr.2, fun now => by simp [QueueM.leaseR, hf]⟩
theorem held_ok {Q : QueueM} (hw : Q.WF) {id : Int} (h : Q.heldE id = 0) : ∃ (k : Nat) (m : MsgM), Q.list[k]? = some m ∧ m.id = id ∧ 0 < m.till ∧ ∀ kind, Q.heldR kind id = ⟨kind, Q.number, m.id, 0, 0, []⟩ := by
  have hl : Q.leased id = true := by
    unfold QueueM.heldE at h
    split at h
    · assumption
    · cases h
  have hl' := hl
  unfold QueueM.leased at hl
  cases hm : Q.list[placeOf id Q.list]? with
  | none => simp [hm] at hl
  | some m =>
    rw [hm] at hl
    simp only [Bool.and_eq_true, decide_eq_true_eq, Bool.not_eq_true', decide_eq_false_iff_not] at hl
    have := (hw.till m (List.mem_of_getElem? hm)).1
    exact ⟨_, m, hm, hl.1, by omega, fun kind => by rw [hl.1]; simp [QueueM.heldR, hl']⟩
theorem back_ok {Q : QueueM} {id : Int} (h : Q.backE id = 0) : ∃ (k : Nat) (m : MsgM), Q.list[k]? = some m ∧ m.id = id ∧ m.dead = true ∧ Q.backR id = ⟨10, Q.number, m.id, 0, 0, []⟩ := by
  have hl : Q.fallen id = true := by
    unfold QueueM.backE at h
    split at h
    · assumption
    · cases h
  have hl' := hl
  unfold QueueM.fallen at hl
  cases hm : Q.list[placeOf id Q.list]? with
  | none => simp [hm] at hl
  | some m =>
    rw [hm] at hl
    simp only [Bool.and_eq_true, decide_eq_true_eq] at hl
    exact ⟨_, m, hm, hl.1, hl.2, by rw [hl.1]; simp [QueueM.backR, hl']⟩
theorem put_ok {Q : QueueM} {n : Nat} {b : List UInt8} (hn : b.length = n) (h : Q.putE n = 0) : (Q.list.length : Int) < Q.quota ∧ Q.next < 1099511627776 ∧ Q.putR b = ⟨3, Q.number, Q.next, 0, 0, b⟩ := by
  have h' := h
  unfold QueueM.putE at h
  split at h
  · cases h
  · split at h
    · cases h
    · split at h
      · cases h
      · exact ⟨by omega, by omega, by unfold QueueM.putR; rw [hn, if_pos h']⟩
/-- A message turned: each other one has another number. -/
theorem mem_set {l : List MsgM} (hr : Rising l) {k : Nat} {m m' x : MsgM} (hm : l[k]? = some m) (hx : x ∈ l.set k m') : x = m' ∨ (x ∈ l ∧ x.id ≠ m.id) := by
  obtain ⟨j, hj⟩ := List.mem_iff_getElem?.1 hx
  rw [List.getElem?_set] at hj
  split at hj
  · split at hj
    · cases hj; exact .inl rfl
    · cases hj
  · rename_i hne
    refine .inr ⟨List.mem_of_getElem? hj, ?_⟩
    rcases Nat.lt_or_gt_of_ne hne with h | h
    · have := hr.lt hm hj h; omega
    · have := hr.lt hj hm h; omega
theorem mem_erase {l : List MsgM} (hr : Rising l) {k : Nat} {m x : MsgM} (hm : l[k]? = some m) (hx : x ∈ l.eraseIdx k) : x ∈ l ∧ x.id ≠ m.id := by
  obtain ⟨j, hj⟩ := List.mem_iff_getElem?.1 hx
  rw [List.getElem?_eraseIdx] at hj
  split at hj
  · rename_i h
    exact ⟨List.mem_of_getElem? hj, by have := hr.lt hj hm h; omega⟩
  · rename_i h
    exact ⟨List.mem_of_getElem? hj, by have := hr.lt hm hj (by omega); omega⟩
section
variable {quota limit wait al : Int} {Q : QueueM} {dn : List Int} {T : List (Int × Int)}
theorem once_new (h1 : 1 ≤ quota) (h2 : 1 ≤ limit) : OnceI quota limit wait ⟨1, quota, limit, wait, 1, []⟩ 0 [] [] :=
  ⟨rfl, rfl, rfl, rfl, by show (0 : Int) ≤ quota; omega, fun d h => absurd h List.not_mem_nil, fun m h => absurd h List.not_mem_nil, fun id => by show (0 : Int) ≤ limit; omega, fun _ _ => rfl, fun m h => absurd h List.not_mem_nil, h2⟩
theorem once_put (h : OnceI quota limit wait Q al dn T) (hw : Q.WF) (hq : (Q.list.length : Int) < Q.quota) (b : List UInt8) : OnceI quota limit wait (Q.putM b) (al + 1) dn T := by
  have hlow := h.low
  have hmem : ∀ m ∈ (Q.putM b).list, m ∈ Q.list ∨ m = ⟨Q.next, 0, 0, b, false⟩ := fun m hm => by
    rcases List.mem_append.1 (show m ∈ Q.list ++ [(⟨Q.next, 0, 0, b, false⟩ : MsgM)] from hm) with k | k
    · exact .inl k
    · exact .inr (by simpa using k)
  refine ⟨h.quo, h.lim, h.wt, ?_, ?_, fun d hd => ⟨?_, fun m hm => ?_⟩, fun m hm => ?_, h.few, fun id hid => h.late id ?_, fun m hm k1 k2 => ?_, h.low⟩
  · show al + 1 = (((Q.list ++ [(⟨Q.next, 0, 0, b, false⟩ : MsgM)]).length : Nat) : Int)
    rw [List.length_append, h.alive]; simp
  · show (((Q.list ++ [(⟨Q.next, 0, 0, b, false⟩ : MsgM)]).length : Nat) : Int) ≤ quota
    rw [List.length_append]; have := h.quo; simp; omega
  · have := (h.gone d hd).1; show d < Q.next + 1; omega
  · rcases hmem m hm with k | rfl
    · exact (h.gone d hd).2 m k
    · have := (h.gone d hd).1; show Q.next ≠ d; omega
  · rcases hmem m hm with k | rfl
    · exact h.told m k
    · rw [h.late _ (Int.le_refl _)]; rfl
  · have : Q.next + 1 ≤ id := hid; omega
  · rcases hmem m hm with k | rfl
    · exact h.ready m k k1 k2
    · show (0 : Int) < limit; omega
theorem once_set (h : OnceI quota limit wait Q al dn T) (hw : Q.WF) {k : Nat} {m m' : MsgM} {T' : List (Int × Int)} (hm : Q.list[k]? = some m) (hid : m'.id = m.id) (hT : ∀ id, getM T' id = if m.id = id then some m'.tries else getM T id) (ht : m'.tries ≤ limit) (hr : m'.till = 0 → m'.dead = false → m'.tries < limit) :
    OnceI quota limit wait { Q with list := Q.list.set k m' } al dn T' := by
  have hmm := List.mem_of_getElem? hm
  have hmem : ∀ x ∈ Q.list.set k m', x = m' ∨ (x ∈ Q.list ∧ x.id ≠ m.id) := fun x hx => mem_set hw.rising hm hx
  refine ⟨h.quo, h.lim, h.wt, by show al = ((Q.list.set k m').length : Int); rw [List.length_set]; exact h.alive, by show ((Q.list.set k m').length : Int) ≤ quota; rw [List.length_set]; exact h.most, fun d hd => ⟨(h.gone d hd).1, fun x hx => ?_⟩, fun x hx => ?_, fun id => ?_, fun id hi => ?_, fun x hx k1 k2 => ?_, h.low⟩
  · rcases hmem x hx with rfl | k
    · rw [hid]; exact (h.gone d hd).2 m hmm
    · exact (h.gone d hd).2 x k.1
  · rw [hT]
    rcases hmem x hx with rfl | k
    · rw [if_pos hid.symm]; rfl
    · rw [if_neg (fun e => k.2 e.symm)]; exact h.told x k.1
  · rw [hT]
    split
    · exact ht
    · exact h.few id
  · have hi' : Q.next ≤ id := hi
    have := (hw.ids m hmm).2
    rw [hT, if_neg (by omega)]; exact h.late id hi'
  · rcases hmem x hx with rfl | k
    · exact hr k1 k2
    · exact h.ready x k.1 k1 k2
theorem once_lease (h : OnceI quota limit wait Q al dn T) (hw : Q.WF) {k : Nat} {m : MsgM} {num : Int} (hm : Q.list[k]? = some m) (ht : m.till = 0) (hd : m.dead = false) (hn : 0 < num) :
    OnceI quota limit wait { Q with list := Q.list.set k { m with till := num, tries := m.tries + 1 } } al dn (setM T m.id (m.tries + 1)) := by
  have := h.ready m (List.mem_of_getElem? hm) ht hd
  exact once_set h hw hm rfl (fun id => getM_setM _ _ _ _) (by show m.tries + 1 ≤ limit; omega) (fun k => by (have : num = 0 := k); omega)
theorem told_id (h : OnceI quota limit wait Q al dn T) {k : Nat} {m : MsgM} (hm : Q.list[k]? = some m) : (getM T m.id).getD 0 = m.tries := h.told m (List.mem_of_getElem? hm)
theorem once_nack (h : OnceI quota limit wait Q al dn T) (hw : Q.WF) {k : Nat} {m : MsgM} (hm : Q.list[k]? = some m) :
    OnceI quota limit wait { Q with list := Q.list.set k { m with till := 0, dead := decide (Q.limit ≤ m.tries) } } al dn T := by
  have hmm := List.mem_of_getElem? hm
  have hmem : ∀ x ∈ Q.list.set k { m with till := 0, dead := decide (Q.limit ≤ m.tries) }, x = { m with till := 0, dead := decide (Q.limit ≤ m.tries) } ∨ (x ∈ Q.list ∧ x.id ≠ m.id) := fun x hx => mem_set hw.rising hm hx
  refine ⟨h.quo, h.lim, h.wt, by show al = ((Q.list.set k _).length : Int); rw [List.length_set]; exact h.alive, by show ((Q.list.set k _).length : Int) ≤ quota; rw [List.length_set]; exact h.most, fun d hd => ⟨(h.gone d hd).1, fun x hx => ?_⟩, fun x hx => ?_, h.few, h.late, fun x hx k1 k2 => ?_, h.low⟩
  · rcases hmem x hx with rfl | k
    · exact (h.gone d hd).2 m hmm
    · exact (h.gone d hd).2 x k.1
  · rcases hmem x hx with rfl | k
    · exact h.told m hmm
    · exact h.told x k.1
  · rcases hmem x hx with rfl | k
    · have := of_decide_eq_false k2; have e := h.lim; show m.tries < limit; omega
    · exact h.ready x k.1 k1 k2
theorem once_back (h : OnceI quota limit wait Q al dn T) (hw : Q.WF) {k : Nat} {m : MsgM} (hm : Q.list[k]? = some m) :
    OnceI quota limit wait { Q with list := Q.list.set k { m with dead := false, tries := 0 } } al dn (setM T m.id 0) := by
  have hlow := h.low
  exact once_set h hw hm rfl (fun id => getM_setM _ _ _ _) (by show (0 : Int) ≤ limit; omega) (fun _ _ => by show (0 : Int) < limit; omega)
theorem once_ack (h : OnceI quota limit wait Q al dn T) (hw : Q.WF) {k : Nat} {m : MsgM} (hm : Q.list[k]? = some m) :
    OnceI quota limit wait { Q with list := Q.list.eraseIdx k } (al - 1) (dn ++ [m.id]) T := by
  have hmm := List.mem_of_getElem? hm
  have hkl : k < Q.list.length := (List.getElem?_eq_some_iff.1 hm).1
  have hl : (Q.list.eraseIdx k).length = Q.list.length - 1 := by rw [List.length_eraseIdx, if_pos hkl]
  have hmo := h.most
  have hal := h.alive
  refine ⟨h.quo, h.lim, h.wt, by show al - 1 = ((Q.list.eraseIdx k).length : Int); rw [hl]; omega, by show ((Q.list.eraseIdx k).length : Int) ≤ quota; rw [hl]; omega, fun d hd => ?_, fun x hx => h.told x (mem_erase hw.rising hm hx).1, h.few, h.late, fun x hx => h.ready x (mem_erase hw.rising hm hx).1, h.low⟩
  rcases List.mem_append.1 hd with hd | hd
  · exact ⟨(h.gone d hd).1, fun x hx => (h.gone d hd).2 x (mem_erase hw.rising hm hx).1⟩
  · have e : d = m.id := by simpa using hd
    subst e
    exact ⟨(hw.ids m hmm).2, fun x hx => (mem_erase hw.rising hm hx).2⟩
theorem once_exp (h : OnceI quota limit wait Q al dn T) (now : Int) : OnceI quota limit wait (Q.expired now) al dn T := by
  have hmem : ∀ x ∈ (Q.expired now).list, ∃ m ∈ Q.list, x = expM Q.limit now m := fun x hx => by
    obtain ⟨m, hm, rfl⟩ := List.mem_map.1 hx; exact ⟨m, hm, rfl⟩
  refine ⟨h.quo, h.lim, h.wt, by show al = ((Q.list.map _).length : Int); rw [List.length_map]; exact h.alive, by show ((Q.list.map _).length : Int) ≤ quota; rw [List.length_map]; exact h.most, fun d hd => ⟨(h.gone d hd).1, fun x hx => ?_⟩, fun x hx => ?_, h.few, h.late, fun x hx k1 k2 => ?_, h.low⟩
  · obtain ⟨m, hm, rfl⟩ := hmem x hx
    rw [expM_id]; exact (h.gone d hd).2 m hm
  · obtain ⟨m, hm, rfl⟩ := hmem x hx
    rw [expM_id, h.told m hm]; unfold expM; split <;> rfl
  · obtain ⟨m, hm, rfl⟩ := hmem x hx
    unfold expM at k1 k2 ⊢
    split
    · rename_i ho
      rw [if_pos ho] at k2
      have := of_decide_eq_false k2; have e := h.lim; show m.tries < limit; omega
    · rename_i ho
      rw [if_neg ho] at k1 k2
      exact h.ready m hm k1 k2
end
end Go.Proofs.Ytocejpklpggfnaa

/- A slice of bytes among the arguments, and inside a struct's cells. -/
namespace Go.Proofs.Ytocejpklpggfnaa
open Go.RowKit
section
variable {H : Type} {enc : TypeId × Value → H} {W : World}
theorem elem_slice_bytes {P : Program} {t e : TypeId} (ht : P.underlying t = some (.slice e)) (he : P.underlying e = some (.int .u8)) (hs : P.cellsOf e = 1) {n : Nat} {cs : List Value} {x : DataW H × List MemPlace}
    (h : DataW.trod enc P W 0 (fun _ => true) true n t cs = some x) : ∃ a len cap, ∃ l : List UInt8, cs = [.slice a len cap] ∧ l.length = len ∧ Reads W (.slice a len cap) len 1 (bvs l) := by
  obtain ⟨a, len, cap, rfl, h0, h1, h2, ys, hy⟩ := open_elems (R := IsByte) ht hs (fun n cs x _ hh => elem_byte he hh) h
  exact ⟨a, len, cap, ys, rfl, reads_of_elems hy h0 h1 h2⟩
theorem open_bytes {P : Program} {t e : TypeId} (ht : P.underlying t = some (.slice e)) (he : P.underlying e = some (.int .u8)) (hs : P.cellsOf e = 1) {a : Option Addr} {len cap : Nat} {d : DataW H} {ps : List MemPlace}
    (h : DataW.Trod enc P W 0 (fun _ => true) true t (.slice a len cap) d ps) : ∃ l : List UInt8, l.length = len ∧ Reads W (.slice a len cap) len 1 (bvs l) := by
  obtain ⟨fuel, hf⟩ := h
  obtain ⟨a', len', cap', l, hcs, h1, h2⟩ := elem_slice_bytes ht he hs hf
  simp [Value.cells] at hcs
  obtain ⟨rfl, rfl, rfl⟩ := hcs
  exact ⟨l, h1, h2⟩
end
end Go.Proofs.Ytocejpklpggfnaa

/- Slices that came in: of integers, truth values, texts, rows of bytes. No program in sight. -/
namespace Go.Proofs.Ytocejpklpggfnaa
open Go.ChangeShapes Go.WideShapes Go.ChangeAt Go.RowKit Go.Deep
section
variable {H : Type} {enc : TypeId × Value → H} {W : World}
def IsInt (_ : World) (z : Int) (cs : List Value) : Prop := cs = [.int .i64 z] ∧ -9223372036854775808 ≤ z ∧ z ≤ 9223372036854775807
def IsTruth (_ : World) (b : Bool) (cs : List Value) : Prop := cs = [.bool b]
structure BRow where
  A : Option Addr
  len : Nat
  cap : Nat
  b : List UInt8
def IsBRow (w : World) (y : BRow) (cs : List Value) : Prop := cs = [.slice y.A y.len y.cap] ∧ y.b.length = y.len ∧ Reads w (.slice y.A y.len y.cap) y.len 1 (bvs y.b)
theorem elem_truth {P : Program} {t : TypeId} (ht : P.underlying t = some .bool) {n : Nat} {cs : List Value} {x : DataW H × List MemPlace} (h : DataW.trod enc P W 0 (fun _ => true) true n t cs = some x) : ∃ b : Bool, cs = [.bool b] := by
  obtain ⟨b, h1, _⟩ := DataW.trod_bool ht h
  exact ⟨b, h1⟩
theorem open_rowOf {α : Type} {P : Program} {t e : TypeId} {size : Nat} {R : World → α → List Value → Prop} (ht : P.underlying t = some (.slice e)) (hs : P.cellsOf e = size)
    (hR : ∀ (n : Nat) (cs : List Value) (x : DataW H × List MemPlace), cs.length = size → DataW.trod enc P W 0 (fun _ => true) true n e cs = some x → ∃ y : α, R W y cs)
    {a : Option Addr} {len cap : Nat} {d : DataW H} {ps : List MemPlace} (h : DataW.Trod enc P W 0 (fun _ => true) true t (.slice a len cap) d ps) : ∃ zs, ElemsOf R size W a len zs := by
  obtain ⟨fuel, hf⟩ := h
  obtain ⟨a', len', cap', hcs, _, _, _, ys, hy⟩ := open_elems ht hs hR hf
  simp [Value.cells] at hcs
  obtain ⟨rfl, rfl, rfl⟩ := hcs
  exact ⟨ys, hy⟩
theorem open_ints {P : Program} {t e : TypeId} (ht : P.underlying t = some (.slice e)) (he : P.underlying e = some (.int .i64)) (hs : P.cellsOf e = 1) {a : Option Addr} {len cap : Nat} {d : DataW H} {ps : List MemPlace}
    (h : DataW.Trod enc P W 0 (fun _ => true) true t (.slice a len cap) d ps) : ∃ zs, ElemsOf IsInt 1 W a len zs :=
  open_rowOf ht hs (fun _ _ _ _ hh => by obtain ⟨z, h1, h2⟩ := elem_int he hh; exact ⟨z, h1, h2⟩) h
theorem open_truths {P : Program} {t e : TypeId} (ht : P.underlying t = some (.slice e)) (he : P.underlying e = some .bool) (hs : P.cellsOf e = 1) {a : Option Addr} {len cap : Nat} {d : DataW H} {ps : List MemPlace}
    (h : DataW.Trod enc P W 0 (fun _ => true) true t (.slice a len cap) d ps) : ∃ zs, ElemsOf IsTruth 1 W a len zs :=
  open_rowOf ht hs (fun _ _ _ _ hh => elem_truth he hh) h
theorem open_brows {P : Program} {t e q : TypeId} (ht : P.underlying t = some (.slice e)) (he : P.underlying e = some (.slice q)) (hq : P.underlying q = some (.int .u8)) (hs : P.cellsOf e = 1) (hs' : P.cellsOf q = 1) {a : Option Addr} {len cap : Nat} {d : DataW H} {ps : List MemPlace}
    (h : DataW.Trod enc P W 0 (fun _ => true) true t (.slice a len cap) d ps) : ∃ zs, ElemsOf IsBRow 1 W a len zs :=
  open_rowOf ht hs (fun _ _ _ _ hh => by obtain ⟨a, len, cap, l, h1, h2, h3⟩ := elem_slice_bytes he hq hs' hh; exact ⟨⟨a, len, cap, l⟩, h1, h2, h3⟩) h
def IsText (_ : World) (s : List UInt8) (cs : List Value) : Prop := cs = [str s]
theorem elem_text {P : Program} {t : TypeId} (ht : P.underlying t = some .string) {n : Nat} {cs : List Value} {x : DataW H × List MemPlace} (h : DataW.trod enc P W 0 (fun _ => true) true n t cs = some x) : ∃ s : List UInt8, cs = [str s] := by
  obtain ⟨s, h1, _⟩ := DataW.trod_string ht h
  exact ⟨s.data.toList, by rw [h1]; simp [str]⟩
theorem open_texts {P : Program} {t e : TypeId} (ht : P.underlying t = some (.slice e)) (he : P.underlying e = some .string) (hs : P.cellsOf e = 1) {a : Option Addr} {len cap : Nat} {d : DataW H} {ps : List MemPlace}
    (h : DataW.Trod enc P W 0 (fun _ => true) true t (.slice a len cap) d ps) : ∃ zs, ElemsOf IsText 1 W a len zs := by
  obtain ⟨fuel, hf⟩ := h
  obtain ⟨a', len', cap', hcs, _, _, _, ys, hy⟩ := open_elems ht hs (R := IsText) (fun _ _ _ _ hh => by obtain ⟨s, h1⟩ := elem_text he hh; exact ⟨s, h1⟩) hf
  simp [Value.cells] at hcs
  obtain ⟨rfl, rfl, rfl⟩ := hcs
  exact ⟨ys, hy⟩
end
end Go.Proofs.Ytocejpklpggfnaa

/- Slices that came in, with the reach of what stands in their elements. No program in sight. -/
namespace Go.Proofs.Ytocejpklpggfnaa
open Go.ChangeShapes Go.WideShapes Go.ChangeAt Go.RowKit Go.Deep
section
variable {H : Type} {enc : TypeId × Value → H} {W : World} {α : Type}
def Sized (P : Program) (t : TypeId) (d : DataW H) : Prop := ∀ n ∈ d.weights P t, n ≤ 140737488351232
theorem sized_of {P : Program} {ts : List TypeId} {ds : List (DataW H)} (h : (DataW.weightsEach P ts ds).all (· ≤ reachBytes) = true) {j : Nat} {t : TypeId} {d : DataW H} (ht : ts[j]? = some t) (hd : ds[j]? = some d) : Sized P t d := fun n hn =>
  of_decide_eq_true (List.all_eq_true.1 h n (DataW.weights_mem_each ht hd n hn))
theorem weightsAll_of {P : Program} {e : TypeId} : ∀ {l : List (DataW H)} {d : DataW H}, d ∈ l → ∀ n ∈ d.weights P e, n ∈ DataW.weightsAll P e l
  | d' :: r, d, hd, n, hn => by
    simp only [DataW.weightsAll, List.mem_append]
    rcases List.mem_cons.1 hd with rfl | h
    · exact Or.inl hn
    · exact Or.inr (weightsAll_of h n hn)
theorem sized_elem {P : Program} {t e : TypeId} {l r : List (DataW H)} {d : DataW H} (ht : P.underlying t = some (.slice e)) (h : Sized P t (.slice l r)) (hd : d ∈ l) : Sized P e d := fun n hn =>
  h n (by simp only [DataW.weights, ht, List.mem_cons, List.mem_append]; exact .inr (.inl (weightsAll_of hd n hn)))
theorem sized_part {P : Program} {t u : TypeId} {fs : Array Field} {l : List (DataW H)} {j : Nat} {d : DataW H} (ht : P.underlying t = some (.struct fs)) (h : Sized P t (.agg l)) (hu : (fs.toList.map (·.type))[j]? = some u) (hd : l[j]? = some d) : Sized P u d := fun n hn =>
  h n (by simp only [DataW.weights, ht]; exact DataW.weights_mem_each hu hd n hn)
theorem sized_text {P : Program} {t : TypeId} {l : List UInt8} (h : Sized (H := H) P t (.lit (.string l))) : l.length ≤ 140737488351232 := h _ (by simp [DataW.weights])
theorem elems_build {R : World → α → List Value → Prop} {size len : Nat} {a : Addr} (hlen : len ≤ 9223372036854775807) (hex : ∀ i : Nat, i < len → ∃ y cs, R W y cs ∧ cs.length = size ∧ CellsAt W (a.add (i * size)) cs) : ∃ ys, ElemsOf R size W (some a) len ys := by
  have build : ∀ k, k ≤ len → ∃ ys : List α, ys.length = k ∧ ∀ (j : Nat) (x : α), ys[j]? = some x → ∃ cs, R W x cs ∧ cs.length = size ∧ CellsAt W (a.add (j * size)) cs := by
    intro k
    induction k with
    | zero => intro _; exact ⟨[], rfl, fun j x h => by simp at h⟩
    | succ k ih =>
      intro hk
      obtain ⟨ys, h1, h2⟩ := ih (by omega)
      obtain ⟨y, cs, h3, h4, h5⟩ := hex k (by omega)
      refine ⟨ys ++ [y], by simp [h1], fun j x hx => ?_⟩
      rw [List.getElem?_append] at hx
      split at hx
      · exact h2 j x hx
      · rename_i hj
        have : j = k := by
          have := (List.getElem?_eq_some_iff.1 hx).1
          simp at this; omega
        subst this
        rw [h1, Nat.sub_self] at hx
        simp at hx
        subst hx
        exact ⟨cs, h3, h4, h5⟩
  obtain ⟨ys, h1, h2⟩ := build len (Nat.le_refl _)
  exact ⟨ys, h1, hlen, fun j x hx => by obtain ⟨cs, h⟩ := h2 j x hx; exact ⟨a, cs, rfl, h⟩⟩
theorem open_sized {P : Program} {t e : TypeId} {size : Nat} {R : World → α → List Value → Prop} (ht : P.underlying t = some (.slice e)) (hs : P.cellsOf e = size)
    (hR : ∀ (n : Nat) (cs : List Value) (x : DataW H × List MemPlace), cs.length = size → Sized P e x.1 → DataW.trod enc P W 0 (fun _ => true) true n e cs = some x → ∃ y : α, R W y cs)
    {a : Option Addr} {len cap : Nat} {d : DataW H} {ps : List MemPlace} (h : DataW.Trod enc P W 0 (fun _ => true) true t (.slice a len cap) d ps) (hz : Sized P t d) : ∃ zs, ElemsOf R size W a len zs := by
  obtain ⟨fuel, hf⟩ := h
  rcases DataW.trod_slice ht hf with ⟨h1, _⟩ | ⟨a', len', cap', elems, rest, n, _, h1, h2, _, hl, hm, hlen, he, _⟩
  · simp [Value.cells] at h1
    obtain ⟨rfl, rfl, rfl⟩ := h1
    exact ⟨[], rfl, by omega, fun j x h => by simp at h⟩
  · simp [Value.cells] at h1
    obtain ⟨rfl, rfl, rfl⟩ := h1
    obtain ⟨rfl, -⟩ := Prod.mk.inj h2
    have hm' : cap ≤ 9223372036854775807 := hm
    refine elems_build (by omega) (fun i hi => ?_)
    have h3 := he i hi
    rw [List.getElem?_eq_getElem (by omega : i < elems.length)] at h3
    obtain ⟨cs, h4, h5⟩ := Option.bind_eq_some_iff.1 h3
    rw [hs] at h4
    obtain ⟨h6, h7⟩ := cells_at (P := P) h4 rfl
    obtain ⟨y, hy⟩ := hR n cs _ h6 (sized_elem ht hz (List.mem_map_of_mem (List.getElem_mem _))) h5
    exact ⟨y, cs, hy, h6, h7⟩
end
end Go.Proofs.Ytocejpklpggfnaa

/- The scripts of QueueOnce: opened. -/
namespace Go.Proofs.Ytocejpklpggfnaa
open Go.ChangeShapes Go.WideShapes Go.ChangeAt Go.RowKit Go.Deep
structure RecM.Fits (R : RecM) : Prop where
  kind : -9223372036854775808 ≤ R.kind ∧ R.kind ≤ 9223372036854775807
  queue : -9223372036854775808 ≤ R.queue ∧ R.queue ≤ 9223372036854775807
  id : -9223372036854775808 ≤ R.id ∧ R.id ≤ 9223372036854775807
  num : -9223372036854775808 ≤ R.num ∧ R.num ≤ 9223372036854775807
  wait : -9223372036854775808 ≤ R.wait ∧ R.wait ≤ 9223372036854775807
  body : R.body.length ≤ 140737488351232
section
variable {H : Type} {enc : TypeId × Value → H} {W : World}
theorem cells6 {cs : List Value} {a b c d e f : Value} (hc : cs.length = 6) (h0 : (cs.drop 0).take 1 = [a]) (h1 : (cs.drop 1).take 1 = [b]) (h2 : (cs.drop 2).take 1 = [c]) (h3 : (cs.drop 3).take 1 = [d]) (h4 : (cs.drop 4).take 1 = [e]) (h5 : (cs.drop 5).take 1 = [f]) : cs = [a, b, c, d, e, f] := by
  match cs, hc with
  | [c0, c1, c2, c3, c4, c5], _ =>
    simp at h0 h1 h2 h3 h4 h5
    rw [h0, h1, h2, h3, h4, h5]
set_option maxRecDepth 10000 in
theorem elem_rec {n : Nat} {cs : List Value} {x : DataW H × List MemPlace} (hc : cs.length = 6) (hz : Sized Try.prog 29 x.1) (h : DataW.trod enc Try.prog W 0 (fun _ => true) true n 29 cs = some x) : ∃ R : RecM, R.Fits ∧ cs = rcells R := by
  obtain ⟨xs, n, _, rfl, hl, hlen, hf⟩ := DataW.trod_struct Try.underlying29 h
  match xs, hlen with
  | [y0, y1, y2, y3, y4, y5], _ =>
    obtain ⟨k0, e0, b0⟩ := elem_int Try.underlying3 (hf 0 _ rfl)
    obtain ⟨k1, e1, b1⟩ := elem_int Try.underlying3 (hf 1 _ rfl)
    obtain ⟨k2, e2, b2⟩ := elem_int Try.underlying3 (hf 2 _ rfl)
    obtain ⟨k3, e3, b3⟩ := elem_int Try.underlying3 (hf 3 _ rfl)
    obtain ⟨k4, e4, b4⟩ := elem_int Try.underlying3 (hf 4 _ rfl)
    obtain ⟨s, e5, e5x, _⟩ := DataW.trod_string Try.underlying9 (hf 5 _ rfl)
    have hz5 := sized_part (j := 5) (d := y5.1) (u := 9) Try.underlying29 hz rfl rfl
    rw [e5x] at hz5
    have hs := sized_text hz5
    refine ⟨⟨k0, k1, k2, k3, k4, s.data.toList⟩, ⟨b0, b1, b2, b3, b4, hs⟩, ?_⟩
    have i1 : 1 = Try.prog.cellsOf 3 := by kernel_rfl
    have s1 : 1 = Try.prog.cellsOf 9 := by kernel_rfl
    rw [cells6 hc ((congrArg (fun n => (cs.drop 0).take n) i1).trans e0) ((congrArg (fun n => (cs.drop 1).take n) i1).trans e1) ((congrArg (fun n => (cs.drop 2).take n) i1).trans e2) ((congrArg (fun n => (cs.drop 3).take n) i1).trans e3) ((congrArg (fun n => (cs.drop 4).take n) i1).trans e4) ((congrArg (fun n => (cs.drop 5).take n) s1).trans e5)]
    simp [rcells, str]
structure QCall where
  k : Int
  n : Int
  b : List UInt8
  R : RecM
def qcalls (y : QCall) : List Value := .int .i64 y.k :: .int .i64 y.n :: str y.b :: rcells y.R
def IsQCall (_ : World) (y : QCall) (cs : List Value) : Prop :=
  (-9223372036854775808 ≤ y.n ∧ y.n ≤ 9223372036854775807 ∧ y.b.length ≤ 140737488351232 ∧ y.R.Fits) ∧ cs = qcalls y
theorem cells9 {cs rs : List Value} {a b c : Value} (hc : cs.length = 9) (h0 : (cs.drop 0).take 1 = [a]) (h1 : (cs.drop 1).take 1 = [b]) (h2 : (cs.drop 2).take 1 = [c]) (h3 : (cs.drop 3).take 6 = rs) : cs = a :: b :: c :: rs := by
  match cs, hc with
  | [c0, c1, c2, c3, c4, c5, c6, c7, c8], _ =>
    simp at h0 h1 h2 h3
    rw [h0, h1, h2, ← h3]
set_option maxRecDepth 10000 in
theorem elem_qcall (n : Nat) (cs : List Value) (x : DataW H × List MemPlace) (hc : cs.length = 9) (hz : Sized Try.prog 41 x.1) (h : DataW.trod enc Try.prog W 0 (fun _ => true) true n 41 cs = some x) : ∃ y : QCall, IsQCall W y cs := by
  obtain ⟨y0, y1, y2, y3, n, rfl, _, h0, h1, h2, h3⟩ := Go.Joins.trod_struct4 Try.underlying41 h
  obtain ⟨k, e0, _, _⟩ := elem_int Try.underlying3 h0
  obtain ⟨i, e1, i0, i1⟩ := elem_int Try.underlying3 h1
  obtain ⟨s, e2, e2x, _⟩ := DataW.trod_string Try.underlying9 h2
  have hz2 := sized_part (j := 2) (d := y2.1) (u := 9) Try.underlying41 hz rfl rfl
  rw [e2x] at hz2
  have hs := sized_text hz2
  have hz3 := sized_part (j := 3) (d := y3.1) (u := 29) Try.underlying41 hz rfl rfl
  have r1 : 6 = Try.prog.cellsOf 29 := by kernel_rfl
  have s1 : 1 = Try.prog.cellsOf 9 := by kernel_rfl
  have n1 : 1 = Try.prog.cellsOf 3 := by kernel_rfl
  rw [← r1] at h3
  obtain ⟨R, hR, eR⟩ := elem_rec (by simp [hc]) hz3 h3
  refine ⟨⟨k, i, s.data.toList, R⟩, ⟨i0, i1, hs, hR⟩, ?_⟩
  rw [cells9 hc ((congrArg (fun n => (cs.drop 0).take n) n1).trans e0) ((congrArg (fun n => (cs.drop 1).take n) n1).trans e1) ((congrArg (fun n => (cs.drop 2).take n) s1).trans e2) eR]
  simp [qcalls, str]
theorem open_qcalls {a : Option Addr} {len cap : Nat} {d : DataW H} {ps : List MemPlace}
    (h : DataW.Trod enc Try.prog W 0 (fun _ => true) true 36 (.slice a len cap) d ps) (hz : Sized Try.prog 36 d) : ∃ zs, ElemsOf IsQCall 9 W a len zs :=
  open_sized Try.underlying36 (by kernel_rfl) elem_qcall h hz
end
theorem qcalls_one (y : QCall) : ∀ v ∈ qcalls y, v.oneCell' = true := by
  intro v hv
  simp only [qcalls, List.mem_cons] at hv
  rcases hv with rfl | rfl | rfl | h
  · rfl
  · rfl
  · rfl
  · exact rcells_one _ v h
theorem qcalls_length (y : QCall) : (qcalls y).length = 9 := rfl
end Go.Proofs.Ytocejpklpggfnaa

/- The scripts of QueueOnce: weighed. -/
namespace Go.Proofs.Ytocejpklpggfnaa
open Go.ChangeShapes Go.WideShapes Go.ChangeAt Go.RowKit Go.Deep
theorem y_eql_s0 {P : Program} {H : World → Prop} {E : Env} {d : Option Nat} {ty : TypeId} {pos : String} {aft : Array Edge} {g : Option (Nat × Bool)} {x : Operand} {t t' : TypeId} {l : List UInt8} (hx : Ev E x (str l)) :
    Y P H E (Oper.mk d (.binOp .eql t x (.const (.string ⟨#[]⟩)) t') ty pos aft g) (.bool (decide (l = []))) := y_eql_s (l' := []) hx ev_const
theorem qcalls_rec (y : QCall) : (((qcalls y).toArray.toList).drop (0 + 3)).take (rcells y.R).length = rcells y.R := rfl
theorem owk_c0y {P : Program} {N : Nat} {E : Env} {c : Con} {L : List HP} {d : Option Nat} {ty : TypeId} {pos : String} {aft : Array Edge} {f : FuncId} {xs : Array Operand} {ts : Array TypeId} {vs : List Value} {K : Value → List HP → Prop} {β : Type} {r : β → Value} (hx : Evs E xs vs) (he : entersB P f = true) (pre : ∀ w, St c L w → Calls P f vs.toArray w fun e w' => ∃ x, e = .returned (r x) ∧ St c L w') (k : ∀ x, K (r x) L) :
    OWK P N c E L (Oper.mk d (.call { callee := .value (.func f), args := xs, argTypes := ts }) ty pos aft none) K := owk (ow_callx hx he pre) k
attribute [local irreducible] Y OW YK OWK W WL WP X CV GvL GvP Ev Evs HasCell HasCells Has Met Again Kept
section
variable {c : Con} {F : List HP} {w w0 : World}
theorem g_in (n lo hi : Int) (H : St c F w) : Calls Try.prog 30 #[.int .i64 n, .int .i64 lo, .int .i64 hi] w fun e w' => ∃ r : Bool, e = .returned (.bool r) ∧ St c F w' := by
  refine calls_w (vs := [.int .i64 n, .int .i64 lo, .int .i64 hi]) Try.func30 rfl rfl rfl ?_ w H
  (repeat' (first
      | (with_reducible refine is_yk ?_; refine yk_auto (k := ?_))
      | (with_reducible refine is_owk0 ?_; refine owk0_auto (k := ?_))
      | (with_reducible refine is_owkc ?_; refine owk_auto (k := fun _ => ?_))
      | refine go1 (k := ?_)
      | (refine go2 (ka := ?_) (kb := ?_) <;> intro _)
      | fail))
  all_goals exact x_ret1 rfl rfl (fun w H => ⟨_, rfl, H⟩)
set_option maxRecDepth 100000 in
set_option maxHeartbeats 2000000 in
theorem g_good (R : RecM) (H : St c F w) : Calls Try.prog 26 #[.agg (rcells R).toArray] w fun e w' => ∃ r : Bool, e = .returned (.bool r) ∧ St c F w' := by
  obtain ⟨k, q, i, n, v, b⟩ := R
  refine calls_w (vs := [.agg (rcells ⟨k, q, i, n, v, b⟩).toArray]) Try.func26 rfl rfl rfl ?_ w H
  (repeat' (first
      | ((with_reducible refine at_fn 30 ?_); with_reducible refine owk_c0y evs_auto (by kernel_rfl) (fun w H => g_in _ _ _ H) (fun _ => ?_))
      | (with_reducible refine at_bin ?_; first | refine yk (y_eql_s0 (ev_tmp rfl)) ?_)
      | (with_reducible refine is_w ?_; first | refine w_stopR (id := 8) ?_)
      | (with_reducible refine is_yk ?_; refine yk_auto (k := ?_))
      | (with_reducible refine is_owk0 ?_; refine owk0_auto (k := ?_))
      | (with_reducible refine is_owkc ?_; refine owk_auto (k := fun _ => ?_))
      | refine go1 (k := ?_)
      | (refine go2 (ka := ?_) (kb := ?_) <;> intro _)
      | fail))
  rename_i r1 r2
  unfold Stop
  as_aux_lemma =>
    (repeat' (first
      | ((with_reducible refine at_fn 30 ?_); with_reducible refine owk_c0y evs_auto (by kernel_rfl) (fun w H => g_in _ _ _ H) (fun _ => ?_))
      | (with_reducible refine at_bin ?_; first | refine yk (y_eql_s0 (ev_tmp rfl)) ?_)
      | (with_reducible refine is_w ?_; first | refine w_stopR (id := 10) ?_)
      | (with_reducible refine is_yk ?_; refine yk_auto (k := ?_))
      | (with_reducible refine is_owk0 ?_; refine owk0_auto (k := ?_))
      | (with_reducible refine is_owkc ?_; refine owk_auto (k := fun _ => ?_))
      | refine go1 (k := ?_)
      | (refine go2 (ka := ?_) (kb := ?_) <;> intro _)
      | fail))
    all_goals first | exact x_ret1 rfl rfl (fun w H => ⟨_, rfl, H.tail⟩) | skip
    unfold Stop
    as_aux_lemma =>
      (repeat' (first
      | ((with_reducible refine at_fn 30 ?_); with_reducible refine owk_c0y evs_auto (by kernel_rfl) (fun w H => g_in _ _ _ H) (fun _ => ?_))
      | (with_reducible refine at_bin ?_; first | refine yk (y_eql_s0 (ev_tmp rfl)) ?_)
      | (with_reducible refine is_w ?_; first | refine w_stopR (id := 12) ?_)
      | (with_reducible refine is_yk ?_; refine yk_auto (k := ?_))
      | (with_reducible refine is_owk0 ?_; refine owk0_auto (k := ?_))
      | (with_reducible refine is_owkc ?_; refine owk_auto (k := fun _ => ?_))
      | refine go1 (k := ?_)
      | (refine go2 (ka := ?_) (kb := ?_) <;> intro _)
      | fail))
      all_goals first | exact x_ret1 rfl rfl (fun w H => ⟨_, rfl, H.tail⟩) | skip
      unfold Stop
      as_aux_lemma =>
        (repeat' (first
      | ((with_reducible refine at_fn 30 ?_); with_reducible refine owk_c0y evs_auto (by kernel_rfl) (fun w H => g_in _ _ _ H) (fun _ => ?_))
      | (with_reducible refine at_bin ?_; first | refine yk (y_eql_s0 (ev_tmp rfl)) ?_)
      | (with_reducible refine is_w ?_; first | refine w_stopR (id := 14) ?_)
      | (with_reducible refine is_yk ?_; refine yk_auto (k := ?_))
      | (with_reducible refine is_owk0 ?_; refine owk0_auto (k := ?_))
      | (with_reducible refine is_owkc ?_; refine owk_auto (k := fun _ => ?_))
      | refine go1 (k := ?_)
      | (refine go2 (ka := ?_) (kb := ?_) <;> intro _)
      | fail))
        all_goals first | exact x_ret1 rfl rfl (fun w H => ⟨_, rfl, H.tail⟩) | skip
        unfold Stop
        as_aux_lemma =>
          (repeat' (first
      | ((with_reducible refine at_fn 30 ?_); with_reducible refine owk_c0y evs_auto (by kernel_rfl) (fun w H => g_in _ _ _ H) (fun _ => ?_))
      | (with_reducible refine at_bin ?_; first | refine yk (y_eql_s0 (ev_tmp rfl)) ?_)
      | (with_reducible refine is_w ?_; first | refine w_stopR (id := 16) ?_)
      | (with_reducible refine is_yk ?_; refine yk_auto (k := ?_))
      | (with_reducible refine is_owk0 ?_; refine owk0_auto (k := ?_))
      | (with_reducible refine is_owkc ?_; refine owk_auto (k := fun _ => ?_))
      | refine go1 (k := ?_)
      | (refine go2 (ka := ?_) (kb := ?_) <;> intro _)
      | fail))
          all_goals first | exact x_ret1 rfl rfl (fun w H => ⟨_, rfl, H.tail⟩) | skip
          unfold Stop
          as_aux_lemma =>
            (repeat' (first
      | ((with_reducible refine at_fn 30 ?_); with_reducible refine owk_c0y evs_auto (by kernel_rfl) (fun w H => g_in _ _ _ H) (fun _ => ?_))
      | (with_reducible refine at_bin ?_; first | refine yk (y_eql_s0 (ev_tmp rfl)) ?_)
      | (with_reducible refine is_w ?_; first | refine w_stopR (id := 20) ?_)
      | (with_reducible refine is_yk ?_; refine yk_auto (k := ?_))
      | (with_reducible refine is_owk0 ?_; refine owk0_auto (k := ?_))
      | (with_reducible refine is_owkc ?_; refine owk_auto (k := fun _ => ?_))
      | refine go1 (k := ?_)
      | (refine go2 (ka := ?_) (kb := ?_) <;> intro _)
      | fail))
            all_goals first | exact x_ret1 rfl rfl (fun w H => ⟨_, rfl, H.tail⟩) | skip
            unfold Stop
            as_aux_lemma =>
              (repeat' (first
      | ((with_reducible refine at_fn 30 ?_); with_reducible refine owk_c0y evs_auto (by kernel_rfl) (fun w H => g_in _ _ _ H) (fun _ => ?_))
      | (with_reducible refine at_bin ?_; first | refine yk (y_eql_s0 (ev_tmp rfl)) ?_)
      | (with_reducible refine is_w ?_; first | refine w_stopR (id := 22) ?_)
      | (with_reducible refine is_yk ?_; refine yk_auto (k := ?_))
      | (with_reducible refine is_owk0 ?_; refine owk0_auto (k := ?_))
      | (with_reducible refine is_owkc ?_; refine owk_auto (k := fun _ => ?_))
      | refine go1 (k := ?_)
      | (refine go2 (ka := ?_) (kb := ?_) <;> intro _)
      | fail))
              all_goals first | exact x_ret1 rfl rfl (fun w H => ⟨_, rfl, H.tail⟩) | skip
              unfold Stop
              as_aux_lemma =>
                (repeat' (first
      | ((with_reducible refine at_fn 30 ?_); with_reducible refine owk_c0y evs_auto (by kernel_rfl) (fun w H => g_in _ _ _ H) (fun _ => ?_))
      | (with_reducible refine at_bin ?_; first | refine yk (y_eql_s0 (ev_tmp rfl)) ?_)
      | (with_reducible refine is_w ?_; first | refine w_stopR (id := 24) ?_)
      | (with_reducible refine is_yk ?_; refine yk_auto (k := ?_))
      | (with_reducible refine is_owk0 ?_; refine owk0_auto (k := ?_))
      | (with_reducible refine is_owkc ?_; refine owk_auto (k := fun _ => ?_))
      | refine go1 (k := ?_)
      | (refine go2 (ka := ?_) (kb := ?_) <;> intro _)
      | fail))
                all_goals first | exact x_ret1 rfl rfl (fun w H => ⟨_, rfl, H.tail⟩) | skip
                unfold Stop
                as_aux_lemma =>
                  (repeat' (first
      | ((with_reducible refine at_fn 30 ?_); with_reducible refine owk_c0y evs_auto (by kernel_rfl) (fun w H => g_in _ _ _ H) (fun _ => ?_))
      | (with_reducible refine at_bin ?_; first | refine yk (y_eql_s0 (ev_tmp rfl)) ?_)
      | (with_reducible refine is_w ?_; first | refine w_stopR (id := 27) ?_)
      | (with_reducible refine is_yk ?_; refine yk_auto (k := ?_))
      | (with_reducible refine is_owk0 ?_; refine owk0_auto (k := ?_))
      | (with_reducible refine is_owkc ?_; refine owk_auto (k := fun _ => ?_))
      | refine go1 (k := ?_)
      | (refine go2 (ka := ?_) (kb := ?_) <;> intro _)
      | fail))
                  all_goals first | exact x_ret1 rfl rfl (fun w H => ⟨_, rfl, H.tail⟩) | skip
                  unfold Stop
                  as_aux_lemma =>
                    (repeat' (first
      | ((with_reducible refine at_fn 30 ?_); with_reducible refine owk_c0y evs_auto (by kernel_rfl) (fun w H => g_in _ _ _ H) (fun _ => ?_))
      | (with_reducible refine at_bin ?_; first | refine yk (y_eql_s0 (ev_tmp rfl)) ?_)
      | (with_reducible refine is_w ?_; first | refine w_stopR (id := 29) ?_)
      | (with_reducible refine is_yk ?_; refine yk_auto (k := ?_))
      | (with_reducible refine is_owk0 ?_; refine owk0_auto (k := ?_))
      | (with_reducible refine is_owkc ?_; refine owk_auto (k := fun _ => ?_))
      | refine go1 (k := ?_)
      | (refine go2 (ka := ?_) (kb := ?_) <;> intro _)
      | fail))
                    all_goals first | exact x_ret1 rfl rfl (fun w H => ⟨_, rfl, H.tail⟩) | skip
                    unfold Stop
                    as_aux_lemma =>
                      (repeat' (first
      | ((with_reducible refine at_fn 30 ?_); with_reducible refine owk_c0y evs_auto (by kernel_rfl) (fun w H => g_in _ _ _ H) (fun _ => ?_))
      | (with_reducible refine at_bin ?_; first | refine yk (y_eql_s0 (ev_tmp rfl)) ?_)
      | (with_reducible refine is_yk ?_; refine yk_auto (k := ?_))
      | (with_reducible refine is_owk0 ?_; refine owk0_auto (k := ?_))
      | (with_reducible refine is_owkc ?_; refine owk_auto (k := fun _ => ?_))
      | refine go1 (k := ?_)
      | (refine go2 (ka := ?_) (kb := ?_) <;> intro _)
      | fail))
                      all_goals exact x_ret1 rfl rfl (fun w H => ⟨_, rfl, H.tail⟩)
theorem g_great (R : RecM) {b : Nat} (H : St c (Bl b 29 (rcells R) :: F) w) : Calls Try.prog 25 #[.slice (some ⟨b, 0, none⟩) 1 1, .int .i64 1] w fun e w' => ∃ r : Bool, e = .returned (.bool r) ∧ St c (Bl b 29 (rcells R) :: F) w' := by
  have hl := rcells_length R
  have ho := rcells_one R
  have h0 : [Value.int .i64 0, .int .i64 0, .int .i64 0, .int .i64 0, .int .i64 0, str []].length = 6 := rfl
  refine calls_w (vs := [.slice (some ⟨b, 0, none⟩) 1 1, .int .i64 1]) Try.func25 rfl rfl rfl ?_ w H
  (repeat' (first
      | (with_reducible refine is_yk ?_; refine yk_auto (k := ?_))
      | (with_reducible refine is_owk0 ?_; refine owk0_auto (k := ?_))
      | (with_reducible refine is_owkc ?_; refine owk_auto (k := fun _ => ?_))
      | refine go1 (k := ?_)
      | (refine go2 (ka := ?_) (kb := ?_) <;> intro _)
      | fail))
  refine w_loop (α := Nat) (fun x => x ≤ 1) (fun x => [(0, .slice (some ⟨b, 0, none⟩) 1 1), (1, .int .i64 1), (7, .slice (some ⟨b, 0, none⟩) 1 1), (8, .int .i64 ((1 : Nat) : Int)), (9, .int .i64 (x : Int))]) (fun _ => Bl b 29 (rcells R) :: F) (fun x => 1 - x) 0 (Nat.zero_le _) sub_auto sel_auto (fun x hx => ?_)
  by_cases hlt : x < 1
  · obtain rfl : x = 0 := by omega
    have hc : (((rcells R).toArray.toList).drop (0 + 0 * 6)).take (rcells R).length = rcells R := rfl
    have hc5 : (rcells R).toArray.toList[0 + 5]? = some (str R.body) := rfl
    (repeat' (first
      | ((with_reducible refine at_storeO ?_); with_reducible refine owk0 (ow_storeAll (ev_tmp rfl) (ev_tmp rfl) ho hl upd_auto h0) ?_)
      | (with_reducible refine at_load ?_; first | refine yk (y_loadN (ev_tmp rfl) (hasCells_bl has_auto hc) hl) ?_ | refine yk (y_load (ev_tmp rfl) (hasCell_bl has_auto hc5)) ?_)
      | (with_reducible refine is_yk ?_; refine yk_auto (k := ?_))
      | (with_reducible refine is_owk0 ?_; refine owk0_auto (k := ?_))
      | (with_reducible refine is_owkc ?_; refine owk_auto (k := fun _ => ?_))
      | refine go1 (k := ?_)
      | (refine go2 (ka := ?_) (kb := ?_) <;> intro _)
      | fail))
    · refine x_ret1 rfl rfl ?_
      exact fun w H => ⟨_, rfl, H.tail⟩
    · exact x_again 1 (Nat.le_refl 1) (show 1 - 1 < 1 - 0 by omega) sub_auto sel_auto
  · (repeat' (first
      | (with_reducible refine is_yk ?_; refine yk_auto (k := ?_))
      | (with_reducible refine is_owk0 ?_; refine owk0_auto (k := ?_))
      | (with_reducible refine is_owkc ?_; refine owk_auto (k := fun _ => ?_))
      | refine go1 (k := ?_)
      | (refine go2 (ka := ?_) (kb := ?_) <;> intro _)
      | fail))
    exact x_ret1 rfl rfl (fun w H => ⟨_, rfl, H⟩)
set_option maxRecDepth 100000 in
set_option maxHeartbeats 2000000 in
theorem great19 {A : Option Addr} {len cap : Nat} {zs : List QCall} (hrow : ElemsOf IsQCall 9 w0 A len zs) (H : St c (Old w0 :: F) w) :
    Calls Try.prog 13 #[.slice A len cap] w fun e w' => ∃ r : { r : Bool // r = false → len ≤ 80 ∧ ∀ j y, zs[j]? = some y → j < len → y.n ≤ 1125899906842624 }, e = .returned (.bool r.1) ∧ St c (Old w0 :: F) w' := by
  obtain ⟨hzl, hl63, hcell⟩ := hrow
  refine calls_w (vs := [.slice A len cap]) Try.func13 rfl rfl rfl ?_ w H
  (repeat' (first
      | (with_reducible refine is_yk ?_; refine yk_auto (k := ?_))
      | (with_reducible refine is_owk0 ?_; refine owk0_auto (k := ?_))
      | (with_reducible refine is_owkc ?_; refine owk_auto (k := fun _ => ?_))
      | refine go1 (k := ?_)
      | (refine go2 (ka := ?_) (kb := ?_) <;> intro _)
      | fail))
  refine w_loop (α := Nat) (fun x => x ≤ len ∧ ∀ j y, zs[j]? = some y → j < x → y.n ≤ 1125899906842624) (fun x => [(0, .slice A len cap), (5, .slice A len cap), (6, .int .i64 (len : Int)), (7, .int .i64 (x : Int))]) (fun _ => Old w0 :: F) (fun x => len - x) 0 ⟨Nat.zero_le _, fun j y _ h => by omega⟩ sub_auto sel_auto (fun x hx => ?_)
  obtain ⟨hx, hall⟩ := hx
  by_cases hlt : x < len
  · obtain ⟨a, cs, rfl, ⟨-, rfl⟩, -, hca⟩ := hcell x zs[x] (List.getElem?_eq_getElem (by omega))
    have hzx : zs[x]? = some zs[x] := List.getElem?_eq_getElem (by omega)
    generalize zs[x] = y at hca hzx
    have hca' : ∀ i u, (qcalls y)[i]? = some u → w0.cell? ((a.add (x * 9)).add i) = some u := hca
    have hy9 := qcalls_length y
    have ho := qcalls_one y
    have h9 : [Value.int .i64 0, .int .i64 0, str [], .int .i64 0, .int .i64 0, .int .i64 0, .int .i64 0, .int .i64 0, str []].length = 9 := rfl
    have hrl := rcells_length y.R
    (repeat' (first
      | ((with_reducible refine at_fn 25 ?_); with_reducible refine owk_c1x evs_auto (by kernel_rfl) pick_auto (fun w H => g_great y.R H) (fun _ => ?_))
      | ((with_reducible refine at_fn 26 ?_); with_reducible refine owk_c0y evs_auto (by kernel_rfl) (fun w H => g_good y.R H) (fun _ => ?_))
      | ((with_reducible refine at_storeO ?_); with_reducible refine owk0 (ow_storeAll (ev_tmp rfl) (ev_tmp rfl) ho hy9 upd_auto h9) ?_)
      | ((with_reducible refine at_buildSliceO ?_); with_reducible refine owk (ow_buildAgg (ev_tmp rfl) hrl (by decide) (by decide)) (fun b => ?_))
      | (with_reducible refine at_load ?_; first | refine yk (y_loadN (ev_tmp rfl) (by (repeat (first | exact hasCells_old hca' | refine hasCells_tl ?_)); (first | done | fail)) hy9) ?_ | refine yk (y_loadN (ev_tmp rfl) (hasCells_bl has_auto (qcalls_rec y)) hrl) ?_ | refine yk (y_load (ev_tmp rfl) (hasCell_bl (cs := qcalls y) has_auto rfl)) ?_)
      | (with_reducible refine is_yk ?_; refine yk_auto (k := ?_))
      | (with_reducible refine is_owk0 ?_; refine owk0_auto (k := ?_))
      | (with_reducible refine is_owkc ?_; refine owk_auto (k := fun _ => ?_))
      | refine go1 (k := ?_)
      | (refine go2 (ka := ?_) (kb := ?_) <;> intro _)
      | fail))
    all_goals first
      | (refine x_ret1 rfl rfl ?_; exact fun w H => ⟨⟨true, fun e => by cases e⟩, rfl, (Sel.st (T := Old w0 :: F) sel_auto H)⟩)
      | skip
    all_goals trace_state
    all_goals refine x_again (x + 1) ?_ (show len - (x + 1) < len - x by omega) sub_auto sel_auto
    all_goals refine ⟨hlt, fun j y' hj hjx => ?_⟩
    all_goals
      by_cases e : j = x
      · subst e; rw [hzx] at hj; cases hj; omega
      · exact hall j y' hj (by omega)
  · (repeat' (first
      | (with_reducible refine is_yk ?_; refine yk_auto (k := ?_))
      | (with_reducible refine is_owk0 ?_; refine owk0_auto (k := ?_))
      | (with_reducible refine is_owkc ?_; refine owk_auto (k := fun _ => ?_))
      | refine go1 (k := ?_)
      | (refine go2 (ka := ?_) (kb := ?_) <;> intro _)
      | fail))
    obtain rfl : x = len := by omega
    exact x_ret1 rfl rfl (fun w H => ⟨⟨_, fun e => ⟨by have := of_decide_eq_false e; omega, hall⟩⟩, rfl, H⟩)
end
end Go.Proofs.Ytocejpklpggfnaa

/- QueueOnce: the walk. -/
namespace Go.Proofs.Ytocejpklpggfnaa
open Go.ChangeShapes Go.WideShapes Go.ChangeAt Go.RowKit Go.Deep
abbrev encI : Int → Value := fun n => .int .i64 n
instance : TMap Try.prog 39 3 3 (.int .i64 0) := ⟨by kernel_rfl, by kernel_rfl⟩
theorem w_fact {P : Program} {N : Nat} {c : Con} {K : Exit → Act → World → Prop} {E : Env} {L : List HP} {x : Code} {p : Prop} (h : ∀ w, St c L w → p) (k : p → W P N c K x E L) : W P N c K x E L := fun a w hf H => k (h w H) a w hf H
theorem look_told {T : List (Int × Int)} {id v : Int} (h : (getM T id).getD 0 = v) : ((getM T id).map encI).getD (.int .i64 0) = .int .i64 v := by
  subst h; cases getM T id <;> rfl
theorem counts_ex (Q : QueueM) : ∃ a b d : Nat, Q.list.countP isIn = a ∧ Q.list.countP isOut = b ∧ Q.list.countP isDead = d ∧ a + b + d = Q.list.length := ⟨_, _, _, rfl, rfl, rfl, counts_sum _⟩
def ints (l : List Int) : List Value := l.map encI
theorem ints_length (l : List Int) : (ints l).length = l.length * 1 := by simp [ints]
theorem ints_snoc (l : List Int) (x : Int) : ints l ++ [.int .i64 x] = ints (l ++ [x]) := by simp [ints]
attribute [local irreducible] Y OW YK OWK W WL WP X CV GvL GvP Ev Evs HasCell HasCells Has Met Again Kept
set_option maxRecDepth 100000 in
set_option maxHeartbeats 4000000 in
theorem queueOnce_walk (quota limit wait : Int) (A : Option Addr) (len cap : Nat) (zs : List QCall) (w : World) (_h1 : (Lit.int .i64 quota).wf = true) (_h2 : (Lit.int .i64 limit).wf = true) (_h3 : (Lit.int .i64 wait).wf = true) (hrow : ElemsOf IsQCall 9 w A len zs) :
    Calls Try.prog 4 #[.int .i64 quota, .int .i64 limit, .int .i64 wait, .slice A len cap] w fun e w' => e = .returned (.bool true) ∧ Below w.heap.size w w' := by
  have hrow' := hrow
  obtain ⟨hzl, hl63, hcell⟩ := hrow
  by_cases hv : (1 ≤ quota ∧ quota ≤ 64) ∧ (1 ≤ limit ∧ limit ≤ 16) ∧ (1 ≤ wait ∧ wait ≤ 1048576)
  · obtain ⟨hv1, hv2, hv3⟩ := hv
    refine calls_w (vs := [.int .i64 quota, .int .i64 limit, .int .i64 wait, .slice A len cap]) Try.func4 rfl rfl rfl ?_ w (St.start w)
    (repeat' (first
      | ((with_reducible refine at_fn 6 ?_); with_reducible refine owk_c0s evs_auto (by kernel_rfl) (fun w H => alive19 H) ?_)
      | ((with_reducible refine at_fn 8 ?_); with_reducible refine owk_c0s evs_auto (by kernel_rfl) (fun w H => q_made quota limit wait H) ?_)
      | ((with_reducible refine at_fn 7 ?_); with_reducible refine owk_c0x evs_auto (by kernel_rfl) (fun w H => q_new hv1 hv2 hv3 H) (fun p => ?_))
      | ((with_reducible refine at_fn 13 ?_); with_reducible refine owk_c1x evs_auto (by kernel_rfl) pick_auto (fun w H => great19 hrow' H) (fun g => ?_))
      | ((with_reducible refine at_makeMapO ?_); with_reducible refine owk (ow_makeMap encI encI) (fun mb => ?_))
      | (with_reducible refine is_yk ?_; refine yk_auto (k := ?_))
      | (with_reducible refine is_owk0 ?_; refine owk0_auto (k := ?_))
      | (with_reducible refine is_owkc ?_; refine owk_auto (k := fun _ => ?_))
      | refine go1 (k := ?_)
      | (refine go2 (ka := ?_) (kb := ?_) <;> intro _)
      | fail))
    · exact x_ret1 rfl rfl (fun w H => ⟨rfl, (Sel.st (T := [Old _]) sel_auto H).toBelow'⟩)
    rename_i hg
    obtain ⟨hlen, hall⟩ := g.2 hg
    refine w_loop (α := Nat × QueueM × Int × List Int × List (Int × Int) × Int × Option Addr × Nat)
      (fun x => x.1 ≤ len ∧ OnceI quota limit wait x.2.1 x.2.2.1 x.2.2.2.1 x.2.2.2.2.1 ∧ 0 ≤ x.2.2.2.2.2.1 ∧ x.2.2.2.2.2.1 ≤ 1125899906842624 ∧ x.2.2.2.1.length ≤ x.1)
      (fun x => [(43, .int .i64 (x.1 : Int)), (42, .int .i64 (len : Int)), (41, .slice A len cap), (14, .int .i64 x.2.2.2.2.2.1), (13, .map (some mb)), (12, .slice x.2.2.2.2.2.2.1 x.2.2.2.1.length x.2.2.2.2.2.2.2), (11, .int .i64 x.2.2.1), (9, .pointer (some ⟨p, 0, none⟩)), (0, .int .i64 quota), (1, .int .i64 limit)])
      (fun x => [QueueAt p x.2.1, Mp encI encI mb x.2.2.2.2.1, OwnP 3 1 (.slice x.2.2.2.2.2.2.1 x.2.2.2.1.length x.2.2.2.2.2.2.2) x.2.2.2.1.length (ints x.2.2.2.1), Old w]) (fun x => len - x.1) (0, ⟨1, quota, limit, wait, 1, []⟩, 0, [], [], 0, none, 0)
      ⟨Nat.zero_le _, once_new hv1.1 hv2.1, Int.le_refl _, (by show (0 : Int) ≤ 1125899906842624; decide), Nat.le_refl _⟩ sub_auto (by show Sel _ [QueueAt p ⟨1, quota, limit, wait, 1, []⟩, Mp encI encI mb [], OwnP 3 1 (.slice none 0 0) 0 [], Old w]; exact sel_auto) (fun x hx => ?_)
    obtain ⟨j, Q, al, dn, T, now, sa, sc⟩ := x
    obtain ⟨hj, hI, hnow0, hnow1, hdl⟩ := hx
    dsimp only at hj hI hnow0 hnow1 hdl ⊢
    refine w_fact (p := Q.WF) (fun w H => H.openQ.1) (fun hw => ?_)
    have hmost := hw.most
    have hal := hI.alive
    have hmo := hI.most
    have hwt := hI.wt
    have hlow := hI.low
    obtain ⟨ca, cb, cd, hca, hcb, hcd, hsum⟩ := counts_ex Q
    by_cases hlt : j < len
    · obtain ⟨a, cs, rfl, ⟨⟨i0, i1, hb47, hR⟩, rfl⟩, -, hce⟩ := hcell j zs[j] (List.getElem?_eq_getElem (by omega))
      have hn50 := hall j zs[j] (List.getElem?_eq_getElem (by omega)) hlt
      generalize zs[j] = y at i0 i1 hb47 hR hce hn50
      have hce' : ∀ i u, (qcalls y)[i]? = some u → w.cell? ((a.add (j * 9)).add i) = some u := hce
      have hy9 := qcalls_length y
      have ho := qcalls_one y
      have h9 : [Value.int .i64 0, .int .i64 0, str [], .int .i64 0, .int .i64 0, .int .i64 0, .int .i64 0, .int .i64 0, str []].length = 9 := rfl
      have hz := rcells_length rec0
      have oz := rcells_one rec0
      have h0 : [Value.int .i64 0, .int .i64 0, .int .i64 0, .int .i64 0, .int .i64 0, str []].length = 6 := rfl
      have e0 : Value.agg [Value.int .i64 0, .int .i64 0, .int .i64 0, .int .i64 0, .int .i64 0, str []].toArray = .agg (rcells rec0).toArray := rfl
      clear hcell hall hrow' hzl hR
      by_cases hk0 : y.k = 0
      · as_aux_lemma =>
          by_cases hE : Q.putE y.b.length = 0
          · obtain ⟨hq, hnx, hR1⟩ := put_ok rfl hE
            obtain ⟨Q', hQ'⟩ : ∃ Q' : QueueM, Q.putM y.b = Q' := ⟨_, rfl⟩
            have hI' := once_put hI hw hq y.b
            rw [hQ'] at hI'
            have hap : ∀ {c : Con} {F : List HP} {w : World}, St c (QueueAt p Q :: F) w → Calls Try.prog 10 #[.pointer (some ⟨p, 0, none⟩), .agg (rcells ⟨3, Q.number, Q.next, 0, 0, y.b⟩).toArray] w fun e w' => e = .returned (.int .i64 0) ∧ St c (QueueAt p Q' :: F) w' := fun H => by rw [← hQ']; exact q_apply_put y.b (rc_lit _ _ _ _ _ _) hq hnx H
            have lR := rcells_length ⟨3, Q.number, Q.next, 0, 0, y.b⟩
            have oR := rcells_one ⟨3, Q.number, Q.next, 0, 0, y.b⟩
            have hid2 : (rcells ⟨3, Q.number, Q.next, 0, 0, y.b⟩).toArray.toList[0 + 2]? = some (.int .i64 Q.next) := rfl
            obtain ⟨tv, htv0⟩ : ∃ tv, (getM T Q.next).getD 0 = tv := ⟨_, rfl⟩
            have htv := look_told htv0
            have hfew := hI'.few Q.next
            rw [htv0] at hfew
            obtain ⟨ca', cb', cd', hca', hcb', hcd', hsum'⟩ := counts_ex Q'
            have hal' := hI'.alive
            have hmo' := hI'.most
            (repeat' (first
      | ((with_reducible refine at_fn 9 ?_); with_reducible refine owk_c1 evs_auto (by kernel_rfl) pick_auto (fun w H => q_put (Q := Q) y.b rfl hE hR1 H) ?_)
      | ((with_reducible refine at_fn 10 ?_); with_reducible refine owk_c1 evs_auto (by kernel_rfl) pick_auto (fun w H => hap H) ?_)
      | ((with_reducible refine at_fn 17 ?_); with_reducible refine owk_c1 evs_auto (by kernel_rfl) pick_auto (fun w H => q_counts (Q := Q') hca' hcb' hcd' H) ?_)
      | ((with_reducible refine at_storeO ?_); with_reducible refine owk0 (ow_storeAll (ev_tmp rfl) (ev_tmp rfl) ho hy9 upd_auto h9) ?_)
      | ((with_reducible refine at_storeO ?_); with_reducible refine owk0 (ow_storeAll (ev_tmp rfl) (ev_tmp rfl) oz hz upd_auto h0) ?_)
      | ((with_reducible refine at_storeO ?_); with_reducible refine owk0 (ow_storeAll (ev_tmp rfl) (ev_tmp rfl) oR lR upd_auto hz) ?_)
      | (with_reducible refine at_load ?_; first | refine yk (y_loadN (ev_tmp rfl) (by (repeat (first | exact hasCells_old hce' | refine hasCells_tl ?_)); (first | done | fail)) hy9) ?_ | refine yk (y_load (ev_tmp rfl) (hasCell_bl (cs := qcalls y) has_auto rfl)) ?_ | refine yk (y_loadN (ev_tmp rfl) (hasCells_all has_auto) lR) ?_ | refine yk (y_load (ev_tmp rfl) (hasCell_bl has_auto hid2)) ?_)
      | (with_reducible refine at_build ?_; first | refine yk_eq y_build0z e0 ?_)
      | (with_reducible refine at_lookup ?_; first | refine yk_eq (y_lookup (encK := encI) (encV := encI) (k := Q.next) (l := T) (ev_tmp rfl) (ev_tmp rfl) rfl (by (repeat (first | exact hasM_hd | refine hasM_tl ?_)); (first | done | fail))) htv ?_)
      | (with_reducible refine is_yk ?_; refine yk_auto (k := ?_))
      | (with_reducible refine is_owk0 ?_; refine owk0_auto (k := ?_))
      | (with_reducible refine is_owkc ?_; refine owk_auto (k := fun _ => ?_))
      | refine go1 (k := ?_)
      | (refine go2 (ka := ?_) (kb := ?_) <;> intro _)
      | fail))
            exact x_again (j + 1, Q', al + 1, dn, T, now, sa, sc) ⟨hlt, hI', hnow0, hnow1, Nat.le_succ_of_le hdl⟩ (show len - (j + 1) < len - j by omega) sub_auto sel_auto
          · obtain ⟨E, hE1⟩ : ∃ E, Q.putE y.b.length = E := ⟨_, rfl⟩
            obtain ⟨R, hR1⟩ : ∃ R, Q.putR y.b = R := ⟨_, rfl⟩
            rw [hE1] at hE
            have lR := rcells_length R
            have oR := rcells_one R
            (repeat' (first
      | ((with_reducible refine at_fn 9 ?_); with_reducible refine owk_c1 evs_auto (by kernel_rfl) pick_auto (fun w H => q_put (Q := Q) y.b rfl hE1 hR1 H) ?_)
      | ((with_reducible refine at_fn 17 ?_); with_reducible refine owk_c1 evs_auto (by kernel_rfl) pick_auto (fun w H => q_counts (Q := Q) hca hcb hcd H) ?_)
      | ((with_reducible refine at_storeO ?_); with_reducible refine owk0 (ow_storeAll (ev_tmp rfl) (ev_tmp rfl) ho hy9 upd_auto h9) ?_)
      | ((with_reducible refine at_storeO ?_); with_reducible refine owk0 (ow_storeAll (ev_tmp rfl) (ev_tmp rfl) oz hz upd_auto h0) ?_)
      | ((with_reducible refine at_storeO ?_); with_reducible refine owk0 (ow_storeAll (ev_tmp rfl) (ev_tmp rfl) oR lR upd_auto hz) ?_)
      | (with_reducible refine at_load ?_; first | refine yk (y_loadN (ev_tmp rfl) (by (repeat (first | exact hasCells_old hce' | refine hasCells_tl ?_)); (first | done | fail)) hy9) ?_ | refine yk (y_load (ev_tmp rfl) (hasCell_bl (cs := qcalls y) has_auto rfl)) ?_)
      | (with_reducible refine at_build ?_; first | refine yk_eq y_build0z e0 ?_)
      | (with_reducible refine is_yk ?_; refine yk_auto (k := ?_))
      | (with_reducible refine is_owk0 ?_; refine owk0_auto (k := ?_))
      | (with_reducible refine is_owkc ?_; refine owk_auto (k := fun _ => ?_))
      | refine go1 (k := ?_)
      | (refine go2 (ka := ?_) (kb := ?_) <;> intro _)
      | fail))
            exact x_again (j + 1, Q, al, dn, T, now, sa, sc) ⟨hlt, hI, hnow0, hnow1, Nat.le_succ_of_le hdl⟩ (show len - (j + 1) < len - j by omega) sub_auto sel_auto
      by_cases hk1 : y.k = 1
      · as_aux_lemma =>
          by_cases hE : Q.leaseE = 0
          · obtain ⟨k, m, hm, ht, hd, hRr⟩ := lease_ok hE
            have hR1 := hRr now
            have htr := hI.ready m (List.mem_of_getElem? hm) ht hd
            have hw3 := hw.wait
            have hL1 := look_told (told_id hI hm)
            have hmt := hw.tries m (List.mem_of_getElem? hm)
            have hgone : ∀ d ∈ dn, ¬ d = m.id := fun d hdd e => (hI.gone d hdd).2 m (List.mem_of_getElem? hm) e.symm
            obtain ⟨Q', hQ'⟩ : ∃ Q' : QueueM, { Q with list := Q.list.set k { m with till := now + Q.wait, tries := m.tries + 1 } } = Q' := ⟨_, rfl⟩
            have hI' := once_lease hI hw hm ht hd (num := now + Q.wait) (by omega)
            rw [hQ'] at hI'
            obtain ⟨T1, hT1⟩ : ∃ T1, setM T m.id (m.tries + 1) = T1 := ⟨_, rfl⟩
            rw [hT1] at hI'
            have hap : ∀ {c : Con} {F : List HP} {w : World}, St c (QueueAt p Q :: F) w → Calls Try.prog 10 #[.pointer (some ⟨p, 0, none⟩), .agg (rcells ⟨4, Q.number, m.id, now + Q.wait, 0, []⟩).toArray] w fun e w' => e = .returned (.int .i64 0) ∧ St c (QueueAt p Q' :: F) w' := fun H => by rw [← hQ']; exact q_apply_lease (rc_lit _ _ _ _ _ _) hm ht hd (by omega) (by omega) H
            have lR := rcells_length ⟨4, Q.number, m.id, now + Q.wait, 0, []⟩
            have oR := rcells_one ⟨4, Q.number, m.id, now + Q.wait, 0, []⟩
            have hid2 : (rcells ⟨4, Q.number, m.id, now + Q.wait, 0, []⟩).toArray.toList[0 + 2]? = some (.int .i64 m.id) := rfl
            obtain ⟨tv, htv0⟩ : ∃ tv, (getM T1 m.id).getD 0 = tv := ⟨_, rfl⟩
            have htv := look_told htv0
            have hfew := hI'.few m.id
            rw [htv0] at hfew
            obtain ⟨ca', cb', cd', hca', hcb', hcd', hsum'⟩ := counts_ex Q'
            have hal' := hI'.alive
            have hmo' := hI'.most
            (repeat' (first
      | ((with_reducible refine at_fn 11 ?_); with_reducible refine owk_c1 evs_auto (by kernel_rfl) pick_auto (fun w H => q_lease (Q := Q) now (by omega) (by omega) hE hR1 H) ?_)
      | ((with_reducible refine at_fn 10 ?_); with_reducible refine owk_c1 evs_auto (by kernel_rfl) pick_auto (fun w H => hap H) ?_)
      | ((with_reducible refine at_fn 17 ?_); with_reducible refine owk_c1 evs_auto (by kernel_rfl) pick_auto (fun w H => q_counts (Q := Q') hca' hcb' hcd' H) ?_)
      | ((with_reducible refine at_storeO ?_); with_reducible refine owk0 (ow_storeAll (ev_tmp rfl) (ev_tmp rfl) ho hy9 upd_auto h9) ?_)
      | ((with_reducible refine at_storeO ?_); with_reducible refine owk0 (ow_storeAll (ev_tmp rfl) (ev_tmp rfl) oz hz upd_auto h0) ?_)
      | ((with_reducible refine at_storeO ?_); with_reducible refine owk0 (ow_storeAll (ev_tmp rfl) (ev_tmp rfl) oR lR upd_auto hz) ?_)
      | ((with_reducible refine at_mapUpdateO ?_); with_reducible refine owk0 (ow_mapUpdate (encK := encI) (encV := encI) (k := m.id) (v := m.tries + 1) (l := T) (ev_tmp rfl) (ev_tmp rfl) (ev_tmp rfl) pick_auto rfl rfl) ?_; rw [hT1])
      | (with_reducible refine at_load ?_; first | refine yk (y_loadN (ev_tmp rfl) (by (repeat (first | exact hasCells_old hce' | refine hasCells_tl ?_)); (first | done | fail)) hy9) ?_ | refine yk (y_load (ev_tmp rfl) (hasCell_bl (cs := qcalls y) has_auto rfl)) ?_ | refine yk (y_loadN (ev_tmp rfl) (hasCells_all has_auto) lR) ?_ | refine yk (y_load (ev_tmp rfl) (hasCell_bl has_auto hid2)) ?_)
      | (with_reducible refine at_build ?_; first | refine yk_eq y_build0z e0 ?_)
      | (with_reducible refine at_lookup ?_; first | refine yk_eq (y_lookup (encK := encI) (encV := encI) (k := m.id) (l := T1) (ev_tmp rfl) (ev_tmp rfl) rfl (by (repeat (first | exact hasM_hd | refine hasM_tl ?_)); (first | done | fail))) htv ?_ | refine yk_eq (y_lookup (encK := encI) (encV := encI) (k := m.id) (l := T) (ev_tmp rfl) (ev_tmp rfl) rfl (by (repeat (first | exact hasM_hd | refine hasM_tl ?_)); (first | done | fail))) hL1 ?_)
      | (with_reducible refine is_yk ?_; refine yk_auto (k := ?_))
      | (with_reducible refine is_owk0 ?_; refine owk0_auto (k := ?_))
      | (with_reducible refine is_owkc ?_; refine owk_auto (k := fun _ => ?_))
      | refine go1 (k := ?_)
      | (refine go2 (ka := ?_) (kb := ?_) <;> intro _)
      | fail))
            rename_i cb rb
            refine w_loop (α := Nat) (fun x => x ≤ dn.length) (fun x => [(124, .int .i64 (x : Int)), (123, .int .i64 (dn.length : Int)), (122, .slice sa dn.length sc), (17, .pointer (some ⟨rb, 0, none⟩)), (43, .int .i64 (j : Int)), (42, .int .i64 (len : Int)), (41, .slice (some a) len cap), (14, .int .i64 now), (13, .map (some mb)), (12, .slice sa dn.length sc), (11, .int .i64 al), (9, .pointer (some ⟨p, 0, none⟩)), (0, .int .i64 quota), (1, .int .i64 limit)])
              (fun _ => [QueueAt p Q', Mp encI encI mb T1, Bl rb 29 (rcells ⟨4, Q.number, m.id, now + Q.wait, 0, []⟩), OwnP 3 1 (.slice sa dn.length sc) dn.length (ints dn), Old w]) (fun x => dn.length - x) 0 (Nat.zero_le _) sub_auto sel_auto (fun x hx => ?_)
            by_cases hxl : x < dn.length
            · obtain ⟨d, hdx⟩ : ∃ d, dn[x]? = some d := ⟨_, List.getElem?_eq_getElem hxl⟩
              have hne : ¬ d = m.id := hgone d (List.mem_of_getElem? hdx)
              refine w_openOwn pick_auto (fun h1 h2 h3 => absurd h2 (by omega)) (fun g2 cap' cur e1 hc1 hc2 hc3 hc4 => ?_)
              cases e1
              have hcx : cur.toArray.toList[0 + x * 1]? = some (.int .i64 d) := by
                show cur[0 + x * 1]? = _
                have h : (cur.take (dn.length * 1))[x]? = (ints dn)[x]? := by rw [hc4]
                rw [List.getElem?_take_of_lt (by omega)] at h
                rw [Nat.zero_add, Nat.mul_one, h]
                simp [ints, hdx]
              (repeat' (first
      | (with_reducible refine at_load ?_; first | refine yk (y_load (ev_tmp rfl) (hasCell_bl has_auto hcx)) ?_ | refine yk (y_load (ev_tmp rfl) (hasCell_bl has_auto hid2)) ?_)
      | (with_reducible refine is_yk ?_; refine yk_auto (k := ?_))
      | (with_reducible refine is_owk0 ?_; refine owk0_auto (k := ?_))
      | (with_reducible refine is_owkc ?_; refine owk_auto (k := fun _ => ?_))
      | refine go1 (k := ?_)
      | (refine go2 (ka := ?_) (kb := ?_) <;> intro _)
      | fail))
              exact x_again (x + 1) hxl (show dn.length - (x + 1) < dn.length - x by omega) sub_auto (.cons (.tl .hd) (.cons (.tl .hd) (.cons (.tl .hd) (.imp .hd (shutOwn hc1 hc2 hc3 hc4) sel_all))))
            (repeat' (first
      | ((with_reducible refine at_fn 17 ?_); with_reducible refine owk_c1 evs_auto (by kernel_rfl) pick_auto (fun w H => q_counts (Q := Q') hca' hcb' hcd' H) ?_)
      | (with_reducible refine at_load ?_; first | refine yk (y_load (ev_tmp rfl) (hasCell_bl has_auto hid2)) ?_)
      | (with_reducible refine at_lookup ?_; first | refine yk_eq (y_lookup (encK := encI) (encV := encI) (k := m.id) (l := T1) (ev_tmp rfl) (ev_tmp rfl) rfl (by (repeat (first | exact hasM_hd | refine hasM_tl ?_)); (first | done | fail))) htv ?_)
      | (with_reducible refine is_yk ?_; refine yk_auto (k := ?_))
      | (with_reducible refine is_owk0 ?_; refine owk0_auto (k := ?_))
      | (with_reducible refine is_owkc ?_; refine owk_auto (k := fun _ => ?_))
      | refine go1 (k := ?_)
      | (refine go2 (ka := ?_) (kb := ?_) <;> intro _)
      | fail))
            exact x_again (j + 1, Q', al, dn, T1, now, sa, sc) ⟨hlt, hI', hnow0, hnow1, Nat.le_succ_of_le hdl⟩ (show len - (j + 1) < len - j by omega) sub_auto sel_auto
          · obtain ⟨E, hE1⟩ : ∃ E, Q.leaseE = E := ⟨_, rfl⟩
            obtain ⟨R, hR1⟩ : ∃ R, Q.leaseR now = R := ⟨_, rfl⟩
            rw [hE1] at hE
            have lR := rcells_length R
            have oR := rcells_one R
            (repeat' (first
      | ((with_reducible refine at_fn 11 ?_); with_reducible refine owk_c1 evs_auto (by kernel_rfl) pick_auto (fun w H => q_lease (Q := Q) now (by omega) (by omega) hE1 hR1 H) ?_)
      | ((with_reducible refine at_fn 17 ?_); with_reducible refine owk_c1 evs_auto (by kernel_rfl) pick_auto (fun w H => q_counts (Q := Q) hca hcb hcd H) ?_)
      | ((with_reducible refine at_storeO ?_); with_reducible refine owk0 (ow_storeAll (ev_tmp rfl) (ev_tmp rfl) ho hy9 upd_auto h9) ?_)
      | ((with_reducible refine at_storeO ?_); with_reducible refine owk0 (ow_storeAll (ev_tmp rfl) (ev_tmp rfl) oz hz upd_auto h0) ?_)
      | ((with_reducible refine at_storeO ?_); with_reducible refine owk0 (ow_storeAll (ev_tmp rfl) (ev_tmp rfl) oR lR upd_auto hz) ?_)
      | (with_reducible refine at_load ?_; first | refine yk (y_loadN (ev_tmp rfl) (by (repeat (first | exact hasCells_old hce' | refine hasCells_tl ?_)); (first | done | fail)) hy9) ?_ | refine yk (y_load (ev_tmp rfl) (hasCell_bl (cs := qcalls y) has_auto rfl)) ?_)
      | (with_reducible refine at_build ?_; first | refine yk_eq y_build0z e0 ?_)
      | (with_reducible refine is_yk ?_; refine yk_auto (k := ?_))
      | (with_reducible refine is_owk0 ?_; refine owk0_auto (k := ?_))
      | (with_reducible refine is_owkc ?_; refine owk_auto (k := fun _ => ?_))
      | refine go1 (k := ?_)
      | (refine go2 (ka := ?_) (kb := ?_) <;> intro _)
      | fail))
            exact x_again (j + 1, Q, al, dn, T, now, sa, sc) ⟨hlt, hI, hnow0, hnow1, Nat.le_succ_of_le hdl⟩ (show len - (j + 1) < len - j by omega) sub_auto sel_auto
      by_cases hk2 : y.k = 2
      · as_aux_lemma =>
          by_cases hE : Q.heldE y.n = 0
          · obtain ⟨k, m, hm, hid, ht, hRr⟩ := held_ok hw hE
            have hR1 := hRr 5
            obtain ⟨Q', hQ'⟩ : ∃ Q' : QueueM, { Q with list := Q.list.eraseIdx k } = Q' := ⟨_, rfl⟩
            have hI' := once_ack hI hw hm
            rw [hQ'] at hI'
            obtain ⟨dn', hdn⟩ : ∃ dn', dn ++ [m.id] = dn' := ⟨_, rfl⟩
            rw [hdn] at hI'
            have hdn1 : dn.length + 1 = dn'.length := by rw [← hdn]; simp
            have hdn2 : ints dn ++ List.flatMap vcells [.int .i64 m.id] = ints dn' := by rw [← hdn]; exact ints_snoc _ _
            have hdn3 : dn'.length ≤ 9223372036854775807 ∧ dn'.length * 8 ≤ 140737488355328 := by omega
            have hdn4 : dn'.length ≤ j + 1 := by omega
            have hone1 : ∀ v ∈ List.flatMap vcells [Value.int .i64 m.id], v.oneCell' = true := by intro v hv; have h : v ∈ [Value.int .i64 m.id] := hv; simp at h; subst h; rfl
            have hfl : (List.flatMap vcells [Value.int .i64 m.id]).length = 1 * 1 := rfl
            have hpos : 0 < Q.list.length := by have := (List.getElem?_eq_some_iff.1 hm).1; omega
            have hap : ∀ {c : Con} {F : List HP} {w : World}, St c (QueueAt p Q :: F) w → Calls Try.prog 10 #[.pointer (some ⟨p, 0, none⟩), .agg (rcells ⟨5, Q.number, m.id, 0, 0, []⟩).toArray] w fun e w' => e = .returned (.int .i64 0) ∧ St c (QueueAt p Q' :: F) w' := fun H => by rw [← hQ']; exact q_apply_ack (rc_lit _ _ _ _ _ _) hm ht H
            have lR := rcells_length ⟨5, Q.number, m.id, 0, 0, []⟩
            have oR := rcells_one ⟨5, Q.number, m.id, 0, 0, []⟩
            have hid2 : (rcells ⟨5, Q.number, m.id, 0, 0, []⟩).toArray.toList[0 + 2]? = some (.int .i64 m.id) := rfl
            obtain ⟨tv, htv0⟩ : ∃ tv, (getM T m.id).getD 0 = tv := ⟨_, rfl⟩
            have htv := look_told htv0
            have hfew := hI'.few m.id
            rw [htv0] at hfew
            obtain ⟨ca', cb', cd', hca', hcb', hcd', hsum'⟩ := counts_ex Q'
            have hal' := hI'.alive
            have hmo' := hI'.most
            (repeat' (first
      | ((with_reducible refine at_fn 12 ?_); with_reducible refine owk_c1 evs_auto (by kernel_rfl) pick_auto (fun w H => q_ack (Q := Q) y.n hE hR1 H) ?_)
      | ((with_reducible refine at_fn 10 ?_); with_reducible refine owk_c1 evs_auto (by kernel_rfl) pick_auto (fun w H => hap H) ?_)
      | ((with_reducible refine at_fn 17 ?_); with_reducible refine owk_c1 evs_auto (by kernel_rfl) pick_auto (fun w H => q_counts (Q := Q') hca' hcb' hcd' H) ?_)
      | ((with_reducible refine at_storeO ?_); with_reducible refine owk0 (ow_storeAll (ev_tmp rfl) (ev_tmp rfl) ho hy9 upd_auto h9) ?_)
      | ((with_reducible refine at_storeO ?_); with_reducible refine owk0 (ow_storeAll (ev_tmp rfl) (ev_tmp rfl) oz hz upd_auto h0) ?_)
      | ((with_reducible refine at_storeO ?_); with_reducible refine owk0 (ow_storeAll (ev_tmp rfl) (ev_tmp rfl) oR lR upd_auto hz) ?_)
      | ((with_reducible refine at_builtinO (b := .append) ?_); with_reducible refine owk (ow_append (xs := ints dn) (m := 1) (k := dn'.length) (news := List.flatMap vcells [.int .i64 m.id]) (ev_tmp rfl) (ev_tmp rfl) (src_has Try.underlying38 (hasCells_all has_auto) hfl (Nat.le_refl _) (by decide) hone1) hdn1 hdn2 hdn3 pick_auto) (fun q2 => ?_))
      | (with_reducible refine at_load ?_; first | refine yk (y_loadN (ev_tmp rfl) (by (repeat (first | exact hasCells_old hce' | refine hasCells_tl ?_)); (first | done | fail)) hy9) ?_ | refine yk (y_load (ev_tmp rfl) (hasCell_bl (cs := qcalls y) has_auto rfl)) ?_ | refine yk (y_loadN (ev_tmp rfl) (hasCells_all has_auto) lR) ?_ | refine yk (y_load (ev_tmp rfl) (hasCell_bl has_auto hid2)) ?_)
      | (with_reducible refine at_build ?_; first | refine yk_eq y_build0z e0 ?_)
      | (with_reducible refine at_lookup ?_; first | refine yk_eq (y_lookup (encK := encI) (encV := encI) (k := m.id) (l := T) (ev_tmp rfl) (ev_tmp rfl) rfl (by (repeat (first | exact hasM_hd | refine hasM_tl ?_)); (first | done | fail))) htv ?_)
      | (with_reducible refine is_yk ?_; refine yk_auto (k := ?_))
      | (with_reducible refine is_owk0 ?_; refine owk0_auto (k := ?_))
      | (with_reducible refine is_owkc ?_; refine owk_auto (k := fun _ => ?_))
      | refine go1 (k := ?_)
      | (refine go2 (ka := ?_) (kb := ?_) <;> intro _)
      | fail))
            exact x_again (j + 1, Q', al - 1, dn', T, now, q2.1, q2.2) ⟨hlt, hI', hnow0, hnow1, hdn4⟩ (show len - (j + 1) < len - j by omega) sub_auto sel_auto
          · obtain ⟨E, hE1⟩ : ∃ E, Q.heldE y.n = E := ⟨_, rfl⟩
            obtain ⟨R, hR1⟩ : ∃ R, Q.heldR 5 y.n = R := ⟨_, rfl⟩
            rw [hE1] at hE
            have lR := rcells_length R
            have oR := rcells_one R
            (repeat' (first
      | ((with_reducible refine at_fn 12 ?_); with_reducible refine owk_c1 evs_auto (by kernel_rfl) pick_auto (fun w H => q_ack (Q := Q) y.n hE1 hR1 H) ?_)
      | ((with_reducible refine at_fn 17 ?_); with_reducible refine owk_c1 evs_auto (by kernel_rfl) pick_auto (fun w H => q_counts (Q := Q) hca hcb hcd H) ?_)
      | ((with_reducible refine at_storeO ?_); with_reducible refine owk0 (ow_storeAll (ev_tmp rfl) (ev_tmp rfl) ho hy9 upd_auto h9) ?_)
      | ((with_reducible refine at_storeO ?_); with_reducible refine owk0 (ow_storeAll (ev_tmp rfl) (ev_tmp rfl) oz hz upd_auto h0) ?_)
      | ((with_reducible refine at_storeO ?_); with_reducible refine owk0 (ow_storeAll (ev_tmp rfl) (ev_tmp rfl) oR lR upd_auto hz) ?_)
      | (with_reducible refine at_load ?_; first | refine yk (y_loadN (ev_tmp rfl) (by (repeat (first | exact hasCells_old hce' | refine hasCells_tl ?_)); (first | done | fail)) hy9) ?_ | refine yk (y_load (ev_tmp rfl) (hasCell_bl (cs := qcalls y) has_auto rfl)) ?_)
      | (with_reducible refine at_build ?_; first | refine yk_eq y_build0z e0 ?_)
      | (with_reducible refine is_yk ?_; refine yk_auto (k := ?_))
      | (with_reducible refine is_owk0 ?_; refine owk0_auto (k := ?_))
      | (with_reducible refine is_owkc ?_; refine owk_auto (k := fun _ => ?_))
      | refine go1 (k := ?_)
      | (refine go2 (ka := ?_) (kb := ?_) <;> intro _)
      | fail))
            exact x_again (j + 1, Q, al, dn, T, now, sa, sc) ⟨hlt, hI, hnow0, hnow1, Nat.le_succ_of_le hdl⟩ (show len - (j + 1) < len - j by omega) sub_auto sel_auto
      by_cases hk3 : y.k = 3
      · as_aux_lemma =>
          by_cases hE : Q.heldE y.n = 0
          · obtain ⟨k, m, hm, hid, ht, hRr⟩ := held_ok hw hE
            have hR1 := hRr 6
            obtain ⟨Q', hQ'⟩ : ∃ Q' : QueueM, { Q with list := Q.list.set k { m with till := 0, dead := decide (Q.limit ≤ m.tries) } } = Q' := ⟨_, rfl⟩
            have hI' := once_nack hI hw hm
            rw [hQ'] at hI'
            have hap : ∀ {c : Con} {F : List HP} {w : World}, St c (QueueAt p Q :: F) w → Calls Try.prog 10 #[.pointer (some ⟨p, 0, none⟩), .agg (rcells ⟨6, Q.number, m.id, 0, 0, []⟩).toArray] w fun e w' => e = .returned (.int .i64 0) ∧ St c (QueueAt p Q' :: F) w' := fun H => by rw [← hQ']; exact q_apply_nack (rc_lit _ _ _ _ _ _) hm ht H
            have lR := rcells_length ⟨6, Q.number, m.id, 0, 0, []⟩
            have oR := rcells_one ⟨6, Q.number, m.id, 0, 0, []⟩
            have hid2 : (rcells ⟨6, Q.number, m.id, 0, 0, []⟩).toArray.toList[0 + 2]? = some (.int .i64 m.id) := rfl
            obtain ⟨tv, htv0⟩ : ∃ tv, (getM T m.id).getD 0 = tv := ⟨_, rfl⟩
            have htv := look_told htv0
            have hfew := hI'.few m.id
            rw [htv0] at hfew
            obtain ⟨ca', cb', cd', hca', hcb', hcd', hsum'⟩ := counts_ex Q'
            have hal' := hI'.alive
            have hmo' := hI'.most
            (repeat' (first
      | ((with_reducible refine at_fn 14 ?_); with_reducible refine owk_c1 evs_auto (by kernel_rfl) pick_auto (fun w H => q_nack (Q := Q) y.n hE hR1 H) ?_)
      | ((with_reducible refine at_fn 10 ?_); with_reducible refine owk_c1 evs_auto (by kernel_rfl) pick_auto (fun w H => hap H) ?_)
      | ((with_reducible refine at_fn 17 ?_); with_reducible refine owk_c1 evs_auto (by kernel_rfl) pick_auto (fun w H => q_counts (Q := Q') hca' hcb' hcd' H) ?_)
      | ((with_reducible refine at_storeO ?_); with_reducible refine owk0 (ow_storeAll (ev_tmp rfl) (ev_tmp rfl) ho hy9 upd_auto h9) ?_)
      | ((with_reducible refine at_storeO ?_); with_reducible refine owk0 (ow_storeAll (ev_tmp rfl) (ev_tmp rfl) oz hz upd_auto h0) ?_)
      | ((with_reducible refine at_storeO ?_); with_reducible refine owk0 (ow_storeAll (ev_tmp rfl) (ev_tmp rfl) oR lR upd_auto hz) ?_)
      | (with_reducible refine at_load ?_; first | refine yk (y_loadN (ev_tmp rfl) (by (repeat (first | exact hasCells_old hce' | refine hasCells_tl ?_)); (first | done | fail)) hy9) ?_ | refine yk (y_load (ev_tmp rfl) (hasCell_bl (cs := qcalls y) has_auto rfl)) ?_ | refine yk (y_loadN (ev_tmp rfl) (hasCells_all has_auto) lR) ?_ | refine yk (y_load (ev_tmp rfl) (hasCell_bl has_auto hid2)) ?_)
      | (with_reducible refine at_build ?_; first | refine yk_eq y_build0z e0 ?_)
      | (with_reducible refine at_lookup ?_; first | refine yk_eq (y_lookup (encK := encI) (encV := encI) (k := m.id) (l := T) (ev_tmp rfl) (ev_tmp rfl) rfl (by (repeat (first | exact hasM_hd | refine hasM_tl ?_)); (first | done | fail))) htv ?_)
      | (with_reducible refine is_yk ?_; refine yk_auto (k := ?_))
      | (with_reducible refine is_owk0 ?_; refine owk0_auto (k := ?_))
      | (with_reducible refine is_owkc ?_; refine owk_auto (k := fun _ => ?_))
      | refine go1 (k := ?_)
      | (refine go2 (ka := ?_) (kb := ?_) <;> intro _)
      | fail))
            exact x_again (j + 1, Q', al, dn, T, now, sa, sc) ⟨hlt, hI', hnow0, hnow1, Nat.le_succ_of_le hdl⟩ (show len - (j + 1) < len - j by omega) sub_auto sel_auto
          · obtain ⟨E, hE1⟩ : ∃ E, Q.heldE y.n = E := ⟨_, rfl⟩
            obtain ⟨R, hR1⟩ : ∃ R, Q.heldR 6 y.n = R := ⟨_, rfl⟩
            rw [hE1] at hE
            have lR := rcells_length R
            have oR := rcells_one R
            (repeat' (first
      | ((with_reducible refine at_fn 14 ?_); with_reducible refine owk_c1 evs_auto (by kernel_rfl) pick_auto (fun w H => q_nack (Q := Q) y.n hE1 hR1 H) ?_)
      | ((with_reducible refine at_fn 17 ?_); with_reducible refine owk_c1 evs_auto (by kernel_rfl) pick_auto (fun w H => q_counts (Q := Q) hca hcb hcd H) ?_)
      | ((with_reducible refine at_storeO ?_); with_reducible refine owk0 (ow_storeAll (ev_tmp rfl) (ev_tmp rfl) ho hy9 upd_auto h9) ?_)
      | ((with_reducible refine at_storeO ?_); with_reducible refine owk0 (ow_storeAll (ev_tmp rfl) (ev_tmp rfl) oz hz upd_auto h0) ?_)
      | ((with_reducible refine at_storeO ?_); with_reducible refine owk0 (ow_storeAll (ev_tmp rfl) (ev_tmp rfl) oR lR upd_auto hz) ?_)
      | (with_reducible refine at_load ?_; first | refine yk (y_loadN (ev_tmp rfl) (by (repeat (first | exact hasCells_old hce' | refine hasCells_tl ?_)); (first | done | fail)) hy9) ?_ | refine yk (y_load (ev_tmp rfl) (hasCell_bl (cs := qcalls y) has_auto rfl)) ?_)
      | (with_reducible refine at_build ?_; first | refine yk_eq y_build0z e0 ?_)
      | (with_reducible refine is_yk ?_; refine yk_auto (k := ?_))
      | (with_reducible refine is_owk0 ?_; refine owk0_auto (k := ?_))
      | (with_reducible refine is_owkc ?_; refine owk_auto (k := fun _ => ?_))
      | refine go1 (k := ?_)
      | (refine go2 (ka := ?_) (kb := ?_) <;> intro _)
      | fail))
            exact x_again (j + 1, Q, al, dn, T, now, sa, sc) ⟨hlt, hI, hnow0, hnow1, Nat.le_succ_of_le hdl⟩ (show len - (j + 1) < len - j by omega) sub_auto sel_auto
      by_cases hk4 : y.k = 4
      · as_aux_lemma =>
          by_cases hE : Q.backE y.n = 0
          · obtain ⟨k, m, hm, hid, hd, hR1⟩ := back_ok hE
            obtain ⟨Q', hQ'⟩ : ∃ Q' : QueueM, { Q with list := Q.list.set k { m with dead := false, tries := 0 } } = Q' := ⟨_, rfl⟩
            have hI' := once_back hI hw hm
            rw [hQ'] at hI'
            obtain ⟨T1, hT1⟩ : ∃ T1, setM T m.id 0 = T1 := ⟨_, rfl⟩
            rw [hT1] at hI'
            have hap : ∀ {c : Con} {F : List HP} {w : World}, St c (QueueAt p Q :: F) w → Calls Try.prog 10 #[.pointer (some ⟨p, 0, none⟩), .agg (rcells ⟨10, Q.number, m.id, 0, 0, []⟩).toArray] w fun e w' => e = .returned (.int .i64 0) ∧ St c (QueueAt p Q' :: F) w' := fun H => by rw [← hQ']; exact q_apply_back (rc_lit _ _ _ _ _ _) hm hd H
            have lR := rcells_length ⟨10, Q.number, m.id, 0, 0, []⟩
            have oR := rcells_one ⟨10, Q.number, m.id, 0, 0, []⟩
            have hid2 : (rcells ⟨10, Q.number, m.id, 0, 0, []⟩).toArray.toList[0 + 2]? = some (.int .i64 m.id) := rfl
            obtain ⟨tv, htv0⟩ : ∃ tv, (getM T1 m.id).getD 0 = tv := ⟨_, rfl⟩
            have htv := look_told htv0
            have hfew := hI'.few m.id
            rw [htv0] at hfew
            obtain ⟨ca', cb', cd', hca', hcb', hcd', hsum'⟩ := counts_ex Q'
            have hal' := hI'.alive
            have hmo' := hI'.most
            (repeat' (first
      | ((with_reducible refine at_fn 15 ?_); with_reducible refine owk_c1 evs_auto (by kernel_rfl) pick_auto (fun w H => q_back (Q := Q) y.n hE hR1 H) ?_)
      | ((with_reducible refine at_fn 10 ?_); with_reducible refine owk_c1 evs_auto (by kernel_rfl) pick_auto (fun w H => hap H) ?_)
      | ((with_reducible refine at_fn 17 ?_); with_reducible refine owk_c1 evs_auto (by kernel_rfl) pick_auto (fun w H => q_counts (Q := Q') hca' hcb' hcd' H) ?_)
      | ((with_reducible refine at_storeO ?_); with_reducible refine owk0 (ow_storeAll (ev_tmp rfl) (ev_tmp rfl) ho hy9 upd_auto h9) ?_)
      | ((with_reducible refine at_storeO ?_); with_reducible refine owk0 (ow_storeAll (ev_tmp rfl) (ev_tmp rfl) oz hz upd_auto h0) ?_)
      | ((with_reducible refine at_storeO ?_); with_reducible refine owk0 (ow_storeAll (ev_tmp rfl) (ev_tmp rfl) oR lR upd_auto hz) ?_)
      | ((with_reducible refine at_mapUpdateO ?_); with_reducible refine owk0 (ow_mapUpdate (encK := encI) (encV := encI) (k := m.id) (v := 0) (l := T) (ev_tmp rfl) (ev_tmp rfl) ev_const pick_auto rfl rfl) ?_; rw [hT1])
      | (with_reducible refine at_load ?_; first | refine yk (y_loadN (ev_tmp rfl) (by (repeat (first | exact hasCells_old hce' | refine hasCells_tl ?_)); (first | done | fail)) hy9) ?_ | refine yk (y_load (ev_tmp rfl) (hasCell_bl (cs := qcalls y) has_auto rfl)) ?_ | refine yk (y_loadN (ev_tmp rfl) (hasCells_all has_auto) lR) ?_ | refine yk (y_load (ev_tmp rfl) (hasCell_bl has_auto hid2)) ?_)
      | (with_reducible refine at_build ?_; first | refine yk_eq y_build0z e0 ?_)
      | (with_reducible refine at_lookup ?_; first | refine yk_eq (y_lookup (encK := encI) (encV := encI) (k := m.id) (l := T1) (ev_tmp rfl) (ev_tmp rfl) rfl (by (repeat (first | exact hasM_hd | refine hasM_tl ?_)); (first | done | fail))) htv ?_)
      | (with_reducible refine is_yk ?_; refine yk_auto (k := ?_))
      | (with_reducible refine is_owk0 ?_; refine owk0_auto (k := ?_))
      | (with_reducible refine is_owkc ?_; refine owk_auto (k := fun _ => ?_))
      | refine go1 (k := ?_)
      | (refine go2 (ka := ?_) (kb := ?_) <;> intro _)
      | fail))
            exact x_again (j + 1, Q', al, dn, T1, now, sa, sc) ⟨hlt, hI', hnow0, hnow1, Nat.le_succ_of_le hdl⟩ (show len - (j + 1) < len - j by omega) sub_auto sel_auto
          · obtain ⟨E, hE1⟩ : ∃ E, Q.backE y.n = E := ⟨_, rfl⟩
            obtain ⟨R, hR1⟩ : ∃ R, Q.backR y.n = R := ⟨_, rfl⟩
            rw [hE1] at hE
            have lR := rcells_length R
            have oR := rcells_one R
            (repeat' (first
      | ((with_reducible refine at_fn 15 ?_); with_reducible refine owk_c1 evs_auto (by kernel_rfl) pick_auto (fun w H => q_back (Q := Q) y.n hE1 hR1 H) ?_)
      | ((with_reducible refine at_fn 17 ?_); with_reducible refine owk_c1 evs_auto (by kernel_rfl) pick_auto (fun w H => q_counts (Q := Q) hca hcb hcd H) ?_)
      | ((with_reducible refine at_storeO ?_); with_reducible refine owk0 (ow_storeAll (ev_tmp rfl) (ev_tmp rfl) ho hy9 upd_auto h9) ?_)
      | ((with_reducible refine at_storeO ?_); with_reducible refine owk0 (ow_storeAll (ev_tmp rfl) (ev_tmp rfl) oz hz upd_auto h0) ?_)
      | ((with_reducible refine at_storeO ?_); with_reducible refine owk0 (ow_storeAll (ev_tmp rfl) (ev_tmp rfl) oR lR upd_auto hz) ?_)
      | (with_reducible refine at_load ?_; first | refine yk (y_loadN (ev_tmp rfl) (by (repeat (first | exact hasCells_old hce' | refine hasCells_tl ?_)); (first | done | fail)) hy9) ?_ | refine yk (y_load (ev_tmp rfl) (hasCell_bl (cs := qcalls y) has_auto rfl)) ?_)
      | (with_reducible refine at_build ?_; first | refine yk_eq y_build0z e0 ?_)
      | (with_reducible refine is_yk ?_; refine yk_auto (k := ?_))
      | (with_reducible refine is_owk0 ?_; refine owk0_auto (k := ?_))
      | (with_reducible refine is_owkc ?_; refine owk_auto (k := fun _ => ?_))
      | refine go1 (k := ?_)
      | (refine go2 (ka := ?_) (kb := ?_) <;> intro _)
      | fail))
            exact x_again (j + 1, Q, al, dn, T, now, sa, sc) ⟨hlt, hI, hnow0, hnow1, Nat.le_succ_of_le hdl⟩ (show len - (j + 1) < len - j by omega) sub_auto sel_auto
      by_cases hk5 : y.k = 5
      · as_aux_lemma =>
          obtain ⟨cnt, hcnt⟩ : ∃ cnt, Q.list.countP (isOver (max now y.n)) = cnt := ⟨_, rfl⟩
          obtain ⟨Q', hQ'⟩ : ∃ Q', Q.expired (max now y.n) = Q' := ⟨_, rfl⟩
          have hI' : OnceI quota limit wait Q' al dn T := hQ' ▸ once_exp hI _
          have hexp : ∀ {c : Con} {F : List HP} {w : World}, St c (QueueAt p Q :: F) w → Calls Try.prog 16 #[.pointer (some ⟨p, 0, none⟩), .int .i64 (max now y.n)] w fun e w' => e = .returned (.int .i64 cnt) ∧ St c (QueueAt p Q' :: F) w' := fun H => by rw [← hQ']; exact q_expire_any _ hcnt H
          obtain ⟨ca', cb', cd', hca', hcb', hcd', hsum'⟩ := counts_ex Q'
          have hal' := hI'.alive
          (repeat' (first
      | ((with_reducible refine at_fn 16 ?_); with_reducible refine owk_c1 evs_auto (by kernel_rfl) pick_auto (fun w H => hexp H) ?_)
      | ((with_reducible refine at_fn 17 ?_); with_reducible refine owk_c1 evs_auto (by kernel_rfl) pick_auto (fun w H => q_counts (Q := Q') hca' hcb' hcd' H) ?_)
      | ((with_reducible refine at_storeO ?_); with_reducible refine owk0 (ow_storeAll (ev_tmp rfl) (ev_tmp rfl) ho hy9 upd_auto h9) ?_)
      | ((with_reducible refine at_storeO ?_); with_reducible refine owk0 (ow_storeAll (ev_tmp rfl) (ev_tmp rfl) oz hz upd_auto h0) ?_)
      | (with_reducible refine at_load ?_; first | refine yk (y_loadN (ev_tmp rfl) (by (repeat (first | exact hasCells_old hce' | refine hasCells_tl ?_)); (first | done | fail)) hy9) ?_ | refine yk (y_load (ev_tmp rfl) (hasCell_bl (cs := qcalls y) has_auto rfl)) ?_)
      | (with_reducible refine at_build ?_; first | refine yk_eq y_build0z e0 ?_)
      | (with_reducible refine is_yk ?_; refine yk_auto (k := ?_))
      | (with_reducible refine is_owk0 ?_; refine owk0_auto (k := ?_))
      | (with_reducible refine is_owkc ?_; refine owk_auto (k := fun _ => ?_))
      | refine go1 (k := ?_)
      | (refine go2 (ka := ?_) (kb := ?_) <;> intro _)
      | fail))
          exact x_again (j + 1, Q', al, dn, T, max now y.n, sa, sc) ⟨hlt, hI', (by show 0 ≤ max now y.n; omega), (by show max now y.n ≤ 1125899906842624; omega), Nat.le_succ_of_le hdl⟩ (show len - (j + 1) < len - j by omega) sub_auto sel_auto
      as_aux_lemma =>
        (repeat' (first
      | ((with_reducible refine at_fn 17 ?_); with_reducible refine owk_c1 evs_auto (by kernel_rfl) pick_auto (fun w H => q_counts (Q := Q) hca hcb hcd H) ?_)
      | ((with_reducible refine at_storeO ?_); with_reducible refine owk0 (ow_storeAll (ev_tmp rfl) (ev_tmp rfl) ho hy9 upd_auto h9) ?_)
      | ((with_reducible refine at_storeO ?_); with_reducible refine owk0 (ow_storeAll (ev_tmp rfl) (ev_tmp rfl) oz hz upd_auto h0) ?_)
      | (with_reducible refine at_load ?_; first | refine yk (y_loadN (ev_tmp rfl) (by (repeat (first | exact hasCells_old hce' | refine hasCells_tl ?_)); (first | done | fail)) hy9) ?_ | refine yk (y_load (ev_tmp rfl) (hasCell_bl (cs := qcalls y) has_auto rfl)) ?_)
      | (with_reducible refine at_build ?_; first | refine yk_eq y_build0z e0 ?_)
      | (with_reducible refine is_yk ?_; refine yk_auto (k := ?_))
      | (with_reducible refine is_owk0 ?_; refine owk0_auto (k := ?_))
      | (with_reducible refine is_owkc ?_; refine owk_auto (k := fun _ => ?_))
      | refine go1 (k := ?_)
      | (refine go2 (ka := ?_) (kb := ?_) <;> intro _)
      | fail))
        exact x_again (j + 1, Q, al, dn, T, now, sa, sc) ⟨hlt, hI, hnow0, hnow1, Nat.le_succ_of_le hdl⟩ (show len - (j + 1) < len - j by omega) sub_auto sel_auto
    · (repeat' (first
      | (with_reducible refine is_yk ?_; refine yk_auto (k := ?_))
      | (with_reducible refine is_owk0 ?_; refine owk0_auto (k := ?_))
      | (with_reducible refine is_owkc ?_; refine owk_auto (k := fun _ => ?_))
      | refine go1 (k := ?_)
      | (refine go2 (ka := ?_) (kb := ?_) <;> intro _)
      | fail))
      exact x_ret1 rfl rfl (fun w H => ⟨rfl, (Sel.st (T := [Old _]) sel_auto H).toBelow'⟩)
  · have hbad : ¬ ((1 ≤ quota ∧ quota ≤ 64) ∧ (1 ≤ limit ∧ limit ≤ 16) ∧ (1 ≤ wait ∧ wait ≤ 1048576)) := hv
    refine calls_w (vs := [.int .i64 quota, .int .i64 limit, .int .i64 wait, .slice A len cap]) Try.func4 rfl rfl rfl ?_ w (St.start w)
    (repeat' (first
      | ((with_reducible refine at_fn 6 ?_); with_reducible refine owk_c0s evs_auto (by kernel_rfl) (fun w H => alive19 H) ?_)
      | ((with_reducible refine at_fn 8 ?_); with_reducible refine owk_c0s evs_auto (by kernel_rfl) (fun w H => q_made quota limit wait H) ?_)
      | ((with_reducible refine at_fn 13 ?_); with_reducible refine owk_c1x evs_auto (by kernel_rfl) pick_auto (fun w H => great19 hrow' H) (fun g => ?_))
      | ((with_reducible refine at_fn 7 ?_); with_reducible refine owk_c0s evs_auto (by kernel_rfl) (fun w H => q_new_bad hbad H) ?_)
      | (with_reducible refine is_yk ?_; refine yk_auto (k := ?_))
      | (with_reducible refine is_owk0 ?_; refine owk0_auto (k := ?_))
      | (with_reducible refine is_owkc ?_; refine owk_auto (k := fun _ => ?_))
      | refine go1 (k := ?_)
      | (refine go2 (ka := ?_) (kb := ?_) <;> intro _)
      | fail))
    all_goals exact x_ret1 rfl rfl (fun w H => ⟨rfl, (Sel.st (T := [Old _]) sel_auto H).toBelow'⟩)
end Go.Proofs.Ytocejpklpggfnaa
