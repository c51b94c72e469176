/- slices.Chunk of bytes, ranged over. -/
import Derived.Test.YtakeilefbcpabaaCh
namespace Go.Proofs.Ytakeilefbcpabaa
open Go.RowKit
/-- The j-th chunk's bounds. -/
def chunkV (A : Option Addr) (n j : Nat) : Value := .slice (A.map (·.add (256 * j * 1))) (min 256 (n - 256 * j)) (min 256 (n - 256 * j))
attribute [local irreducible] Y OW YK OWK W WL WP X CV WG XG CVG Ev Evs HasCell HasCells Has Met Again Kept
section
variable {c : Con} {F : List HP} {w : World}
theorem chunk_make {A : Option Addr} {n cap : Nat} (H : St c F w) : Calls Try.prog 66 #[.slice A n cap, .int .i64 256] w fun e w' =>
    ∃ q : Nat × Nat, e = .returned (.func (.func 71) #[] #[.pointer (some ⟨q.1, 0, none⟩), .pointer (some ⟨q.2, 0, none⟩)]) ∧ St c (Bl q.2 3 [.int .i64 256] :: Bl q.1 46 [.slice A n cap] :: F) w' := by
  refine calls_w (vs := [.slice A n cap, .int .i64 256]) Try.func66 rfl rfl rfl ?_ w H
  (repeat' (first
      | (with_reducible refine is_yk ?_; refine yk_auto (k := ?_))
      | (with_reducible refine is_owk0 ?_; refine owk0_auto (k := ?_))
      | (with_reducible refine is_owkc ?_; refine owk_auto (k := fun _ => ?_))
      | refine go1 (k := ?_)
      | (refine go2 (ka := ?_) (kb := ?_) <;> intro _)
      | refine gg1 (k := ?_)
      | (refine gg2 (ka := ?_) (kb := ?_) <;> intro _)
      | fail))
  exact x_ret1 rfl rfl (fun w H => ⟨(_, _), rfl, H⟩)
set_option maxRecDepth 100000 in
theorem chunk_iter {A : Option Addr} {n cap m p q : Nat} {K : List HP} (hm : m = (n + 255) / 256) (hn : n ≤ cap ∧ cap ≤ 9223372036854775807) (hn2 : n ≤ 1073741824) (l : Nat) (B' : Nat → HP) (J' : HP)
    (hr : ∀ i, i < m → ∀ (G : List HP) (w : World), St c (B' i :: G) w → YieldAt Fence.wide 0 Try.prog l #[chunkV A n i] w fun e w' => (e = .returned (.bool true) ∧ St c (B' (i + 1) :: G) w') ∨ (e = .returned (.bool false) ∧ St c (J' :: G) w')) :
    ∀ w, St c (B' 0 :: Bl q 3 [.int .i64 256] :: Bl p 46 [.slice A n cap] :: K) w → Calls Try.prog 71 #[.func (.yield l) #[] #[], .pointer (some ⟨p, 0, none⟩), .pointer (some ⟨q, 0, none⟩)] w fun e w' => (∃ v, e = .returned v) ∧
      (St c (B' m :: Bl q 3 [.int .i64 256] :: Bl p 46 [.slice A n cap] :: K) w' ∨ St c (J' :: Bl q 3 [.int .i64 256] :: Bl p 46 [.slice A n cap] :: K) w') := fun w H => by
  subst hm
  refine calls_w (vs := [.func (.yield l) #[] #[], .pointer (some ⟨p, 0, none⟩), .pointer (some ⟨q, 0, none⟩)]) Try.func71 rfl rfl rfl ?_ w H
  (repeat' (first
      | (with_reducible refine is_yk ?_; refine yk_auto (k := ?_))
      | (with_reducible refine is_owk0 ?_; refine owk0_auto (k := ?_))
      | (with_reducible refine is_owkc ?_; refine owk_auto (k := fun _ => ?_))
      | refine go1 (k := ?_)
      | (refine go2 (ka := ?_) (kb := ?_) <;> intro _)
      | refine gg1 (k := ?_)
      | (refine gg2 (ka := ?_) (kb := ?_) <;> intro _)
      | fail))
  refine w_loop (α := Nat) (fun j => j ≤ (n + 255) / 256)
    (fun j => [(4, .int .i64 ((256 * j : Nat) : Int)), (0, .func (.yield l) #[] #[]), (1, .pointer (some ⟨p, 0, none⟩)), (2, .pointer (some ⟨q, 0, none⟩))])
    (fun j => B' j :: Bl q 3 [.int .i64 256] :: Bl p 46 [.slice A n cap] :: K) (fun j => (n + 255) / 256 - j) 0 (Nat.zero_le _) sub_auto sel_auto (fun j hj => ?_)
  by_cases hlt : 256 * j < n
  · have hjm : j < (n + 255) / 256 := by omega
    have hle : 256 * j ≤ n := by omega
    have hY := hr j hjm
    have hmn : min (256 : Int) ((n - 256 * j : Nat) : Int) = ((min 256 (n - 256 * j) : Nat) : Int) := by omega
    have hV : chunkV A n j = .slice (A.map (·.add (256 * j * 1))) (min 256 (n - 256 * j)) (min 256 (n - 256 * j)) := rfl
    have hk : 0 < min 256 (n - 256 * j) ∧ 256 * j + min 256 (n - 256 * j) ≤ n := by omega
    have hnx : (256 * j : Nat) + 256 = 256 * (j + 1) := by omega
    generalize min 256 (n - 256 * j) = k at hmn hV hk
    have hsum : ((256 * j : Nat) : Int) + (k : Int) = ((256 * j + k : Nat) : Int) := by omega
    have hsum2 : ((256 * j : Nat) : Int) + 256 = ((256 * (j + 1) : Nat) : Int) := by omega
    have hsl : Value.slice (if 256 * j + k = 256 * j then A else A.map (·.add (256 * j * 1))) (256 * j + k - 256 * j) (256 * j + k - 256 * j) = chunkV A n j := by
      rw [hV, if_neg (by omega), Nat.add_sub_cancel_left]
    generalize chunkV A n j = cv at hY hsl
    (repeat' (first
      | (with_reducible refine at_call ?_; first | refine yk_eq (y_min (ev_tmp rfl) (ev_tmp rfl)) (congrArg _ hmn) ?_)
      | (with_reducible refine at_bin ?_; first | refine yk_eq (y_add64 (ev_tmp rfl) (ev_tmp rfl) (by omega)) (congrArg _ hsum) ?_)
      | (with_reducible refine at_slice ?_; first | refine yk_eq (y_slice3 (ev_tmp rfl) (ev_tmp rfl) (ev_tmp rfl) (ev_tmp rfl) (by omega)) hsl ?_)
      | (with_reducible refine is_w ?_; first | refine w_plan (id := 3) [(0, true), (1, true), (2, true), (3, true), (4, true), (5, true), (6, true)] _ (by kernel_rfl) (by kernel_rfl) sel_all ?_ | ((refine w_yield (id := 4) 10 rfl ?_); simp only [List.take_succ_cons, List.take_zero, List.drop_succ_cons, List.drop_zero]))
      | (with_reducible refine is_yk ?_; refine yk_auto (k := ?_))
      | (with_reducible refine is_owk0 ?_; refine owk0_auto (k := ?_))
      | (with_reducible refine is_owkc ?_; refine owk_auto (k := fun _ => ?_))
      | refine go1 (k := ?_)
      | (refine go2 (ka := ?_) (kb := ?_) <;> intro _)
      | refine gg1 (k := ?_)
      | (refine gg2 (ka := ?_) (kb := ?_) <;> intro _)
      | fail))
    refine x_yield rfl (ev_tmp rfl) (ev_tmp rfl) (fun w H => hY _ w H) ?_ ?_
    · refine x_rest rfl ?_
      (repeat' (first
      | (with_reducible refine at_bin ?_; first | refine yk_eq (y_add64 (ev_tmp rfl) (ev_tmp rfl) (by omega)) (congrArg _ hsum2) ?_)
      | (with_reducible refine is_yk ?_; refine yk_auto (k := ?_))
      | (with_reducible refine is_owk0 ?_; refine owk0_auto (k := ?_))
      | (with_reducible refine is_owkc ?_; refine owk_auto (k := fun _ => ?_))
      | refine go1 (k := ?_)
      | (refine go2 (ka := ?_) (kb := ?_) <;> intro _)
      | refine gg1 (k := ?_)
      | (refine gg2 (ka := ?_) (kb := ?_) <;> intro _)
      | fail))
      exact x_again (j + 1) (by show j + 1 ≤ _; omega) (by show (n + 255) / 256 - (j + 1) < (n + 255) / 256 - j; omega) sub_auto sel_auto
    · refine x_rest rfl ?_
      (repeat' (first
      | (with_reducible refine is_yk ?_; refine yk_auto (k := ?_))
      | (with_reducible refine is_owk0 ?_; refine owk0_auto (k := ?_))
      | (with_reducible refine is_owkc ?_; refine owk_auto (k := fun _ => ?_))
      | refine go1 (k := ?_)
      | (refine go2 (ka := ?_) (kb := ?_) <;> intro _)
      | refine gg1 (k := ?_)
      | (refine gg2 (ka := ?_) (kb := ?_) <;> intro _)
      | fail))
      exact x_ret0 rfl (fun w H => ⟨⟨_, rfl⟩, .inr H⟩)
  · obtain rfl : j = (n + 255) / 256 := by omega
    (repeat' (first
      | (with_reducible refine is_yk ?_; refine yk_auto (k := ?_))
      | (with_reducible refine is_owk0 ?_; refine owk0_auto (k := ?_))
      | (with_reducible refine is_owkc ?_; refine owk_auto (k := fun _ => ?_))
      | refine go1 (k := ?_)
      | (refine go2 (ka := ?_) (kb := ?_) <;> intro _)
      | refine gg1 (k := ?_)
      | (refine gg2 (ka := ?_) (kb := ?_) <;> intro _)
      | fail))
    exact x_end0 rfl (fun w H => ⟨⟨_, rfl⟩, .inl H⟩)
end
end Go.Proofs.Ytakeilefbcpabaa
