/- The reader of bytes (package code): In, Read. -/
import Derived.Test.YtakeilefbcpabaaCr
namespace Go.Proofs.Ytakeilefbcpabaa
open Go.RowKit
attribute [local irreducible] Y OW YK OWK W WL WP X CV Ev Evs HasCell HasCells Has Met Again Kept
section
variable {c : Con} {F : List HP} {w : World} {r g : Nat} {D : List UInt8}
/-- A number from lo to hi. -/
def inOk (lo hi : Int) : Option (List UInt8) → Bool
  | some l => decide (8 ≤ l.length) && decide (lo ≤ leInt (l.take 8)) && decide (leInt (l.take 8) ≤ hi)
  | none => false
theorem rd_in_ok {l a b : List UInt8} {lo hi n : Int} (hl : l = a ++ b) (ha : a.length = 8) (hv : leInt a = n) (h1 : lo ≤ n ∧ n ≤ hi) (H : St c (RdAt r g D (some l) :: BkP g D :: F) w) : Calls Try.prog 70 #[.pointer (some ⟨r, 0, none⟩), .int .i64 lo, .int .i64 hi] w fun e w' =>
    e = .returned (.int .i64 n) ∧ St c (RdAt r g D (some b) :: BkP g D :: F) w' := by
  subst hv
  refine calls_w (vs := [.pointer (some ⟨r, 0, none⟩), .int .i64 lo, .int .i64 hi]) Try.func70 rfl rfl rfl ?_ w H
  (repeat' (first
      | ((with_reducible refine at_fn 74 ?_); with_reducible refine owk_c2 evs_auto (by kernel_rfl) pick_auto pick_auto (fun w H => rd_num_ok hl ha H) ?_)
      | ((with_reducible refine at_fn 76 ?_); with_reducible refine owk_c1 evs_auto (by kernel_rfl) pick_auto (fun w H => rd_good (R := some b) rfl H) ?_)
      | (with_reducible refine is_yk ?_; refine yk_auto (k := ?_))
      | (with_reducible refine is_owk0 ?_; refine owk0_auto (k := ?_))
      | (with_reducible refine is_owkc ?_; refine owk_auto (k := fun _ => ?_))
      | refine go1 (k := ?_)
      | (refine go2 (ka := ?_) (kb := ?_) <;> intro _)
      | fail))
  exact x_ret1 rfl rfl (fun w H => ⟨rfl, H⟩)
theorem rd_in_bad {R : Option (List UInt8)} {lo hi : Int} (hb : inOk lo hi R = false) (hlo : 0 < lo ∨ hi < 0 ∨ ∃ l, R = some l ∧ 8 ≤ l.length) (H : St c (RdAt r g D R :: BkP g D :: F) w) : Calls Try.prog 70 #[.pointer (some ⟨r, 0, none⟩), .int .i64 lo, .int .i64 hi] w fun e w' =>
    e = .returned (.int .i64 0) ∧ St c (RdAt r g D none :: BkP g D :: F) w' := by
  refine calls_w (vs := [.pointer (some ⟨r, 0, none⟩), .int .i64 lo, .int .i64 hi]) Try.func70 rfl rfl rfl ?_ w H
  by_cases h8 : ∃ l, R = some l ∧ 8 ≤ l.length
  · obtain ⟨l, rfl, h8⟩ := h8
    have hl : l = l.take 8 ++ l.drop 8 := (List.take_append_drop 8 l).symm
    have ha : (l.take 8).length = 8 := by simp; omega
    obtain ⟨n, hn⟩ : ∃ n, leInt (l.take 8) = n := ⟨_, rfl⟩
    have hbad : ¬ (lo ≤ n ∧ n ≤ hi) := by
      rintro ⟨h1, h2⟩
      simp [inOk, h8, hn, h1, h2] at hb
    by_cases h1 : n < lo
    · (repeat' (first
      | ((with_reducible refine at_fn 74 ?_); with_reducible refine owk_c2 evs_auto (by kernel_rfl) pick_auto pick_auto (fun w H => by have := rd_num_ok hl ha H; rw [hn] at this; exact this) ?_)
      | ((with_reducible refine at_fn 75 ?_); with_reducible refine owk_c1 evs_auto (by kernel_rfl) pick_auto (fun w H => rd_take_bad (R := some (l.drop 8)) (fun l e => by omega) H) ?_)
      | ((with_reducible refine at_fn 76 ?_); with_reducible refine owk_c1 evs_auto (by kernel_rfl) pick_auto (fun w H => rd_good (R := none) (b := false) rfl H) ?_)
      | (with_reducible refine is_yk ?_; refine yk_auto (k := ?_))
      | (with_reducible refine is_owk0 ?_; refine owk0_auto (k := ?_))
      | (with_reducible refine is_owkc ?_; refine owk_auto (k := fun _ => ?_))
      | refine go1 (k := ?_)
      | (refine go2 (ka := ?_) (kb := ?_) <;> intro _)
      | fail))
      exact x_ret1 rfl rfl (fun w H => ⟨rfl, H⟩)
    · have h2 : hi < n := by omega
      (repeat' (first
      | ((with_reducible refine at_fn 74 ?_); with_reducible refine owk_c2 evs_auto (by kernel_rfl) pick_auto pick_auto (fun w H => by have := rd_num_ok hl ha H; rw [hn] at this; exact this) ?_)
      | ((with_reducible refine at_fn 75 ?_); with_reducible refine owk_c1 evs_auto (by kernel_rfl) pick_auto (fun w H => rd_take_bad (R := some (l.drop 8)) (fun l e => by omega) H) ?_)
      | ((with_reducible refine at_fn 76 ?_); with_reducible refine owk_c1 evs_auto (by kernel_rfl) pick_auto (fun w H => rd_good (R := none) (b := false) rfl H) ?_)
      | (with_reducible refine is_yk ?_; refine yk_auto (k := ?_))
      | (with_reducible refine is_owk0 ?_; refine owk0_auto (k := ?_))
      | (with_reducible refine is_owkc ?_; refine owk_auto (k := fun _ => ?_))
      | refine go1 (k := ?_)
      | (refine go2 (ka := ?_) (kb := ?_) <;> intro _)
      | fail))
      exact x_ret1 rfl rfl (fun w H => ⟨rfl, H⟩)
  · have hn : ∀ l, R = some l → l.length < 8 := fun l e => Nat.lt_of_not_le fun k => h8 ⟨l, e, k⟩
    have hlo : 0 < lo ∨ hi < 0 := by rcases hlo with h | h | h; exact .inl h; exact .inr h; exact absurd h h8
    (repeat' (first
      | ((with_reducible refine at_fn 74 ?_); with_reducible refine owk_c1 evs_auto (by kernel_rfl) pick_auto (fun w H => rd_num_bad hn H) ?_)
      | ((with_reducible refine at_fn 75 ?_); with_reducible refine owk_c1 evs_auto (by kernel_rfl) pick_auto (fun w H => rd_take_bad (R := none) (fun l e => by cases e) H) ?_)
      | ((with_reducible refine at_fn 76 ?_); with_reducible refine owk_c1 evs_auto (by kernel_rfl) pick_auto (fun w H => rd_good (R := none) (b := false) rfl H) ?_)
      | (with_reducible refine is_yk ?_; refine yk_auto (k := ?_))
      | (with_reducible refine is_owk0 ?_; refine owk0_auto (k := ?_))
      | (with_reducible refine is_owkc ?_; refine owk_auto (k := fun _ => ?_))
      | refine go1 (k := ?_)
      | (refine go2 (ka := ?_) (kb := ?_) <;> intro _)
      | fail))
    all_goals exact x_ret1 rfl rfl (fun w H => ⟨rfl, H⟩)
theorem St.toRd {A : Option Addr} {n cap e : Nat} (H : St c (Bl r 135 [.slice A n cap, .bool false] :: OwnP e 1 (.slice A n cap) n (bvs D) :: F) w) (hD : D.length = n) : ∃ g, St c (RdAt r g D (some D) :: BkP g D :: F) w := by
  subst hD
  rcases St.ownOpen H.swap with ⟨e1, e2, e3, H'⟩ | ⟨g, cap', cur, e1, h1, h2, h3, h4, h5, H'⟩
  · obtain ⟨rfl, -, rfl⟩ := Value.slice.inj e1
    have hn : D = [] := List.eq_nil_of_length_eq_zero e2
    subst hn
    refine ⟨0, St.shutRd (v := .slice none 0 0) ⟨none, 0, rfl, Nat.le_refl _, by omega, fun _ => rfl, .inl rfl⟩ ?_⟩
    obtain ⟨h, a, l, r'⟩ := H'.stars
    exact ⟨H'.con, h, a, l, fun _ => none, .inl rfl, fun _ _ e => (by cases e), r'.mono (fun _ k => ⟨k, rfl⟩) fun _ _ _ e => e⟩
  · obtain ⟨rfl, -, rfl⟩ := Value.slice.inj e1
    rw [Nat.mul_one] at h4
    refine ⟨g, St.shutRd (v := .slice (some ⟨g, 0, none⟩) D.length cap) ⟨_, cap, rfl, h1, h2, fun e => (by cases e), .inr ⟨0, rfl, by simp⟩⟩ ?_⟩
    exact Sel.st (.cons (.tl .hd) (.imp .hd (fun h hb => .inr ⟨_, _, _, hb, by simpa using h4⟩) sel_all)) H'
/-- A reader of bytes, which are copied. -/
theorem rd_read {v : Value} {A : Option Addr} {n cap : Nat} (hv : v = .slice A n cap) (hr : HasR (St c F) v n (bvs D)) (hn : n ≤ 1073741824) (H : St c F w) : Calls Try.prog 69 #[v] w fun e w' =>
    ∃ q : Nat × Nat, e = .returned (.pointer (some ⟨q.1, 0, none⟩)) ∧ St c (RdAt q.1 q.2 D (some D) :: BkP q.2 D :: F) w' := by
  subst hv
  have hD : D.length = n := by
    obtain ⟨h1, -⟩ := hr w H
    rw [bvs_length] at h1; omega
  have h1 := bvs_oneCell D
  refine calls_w (vs := [.slice A n cap]) Try.func69 rfl rfl rfl ?_ w H
  (repeat' (first
      | (with_reducible refine is_owkc ?_; first | refine owk (ow_appendR0 ev_const (ev_tmp rfl) hr h1 (by omega)) (fun q => ?_))
      | (with_reducible refine is_yk ?_; refine yk_auto (k := ?_))
      | (with_reducible refine is_owk0 ?_; refine owk0_auto (k := ?_))
      | (with_reducible refine is_owkc ?_; refine owk_auto (k := fun _ => ?_))
      | refine go1 (k := ?_)
      | (refine go2 (ka := ?_) (kb := ?_) <;> intro _)
      | fail))
  exact x_ret1 rfl rfl (fun w H => by
    obtain ⟨g, H'⟩ := St.toRd (H : St c (Bl _ 135 [.slice q.1 n q.2, .bool false] :: _) w) hD
    exact ⟨(_, g), rfl, H'⟩)
end
end Go.Proofs.Ytakeilefbcpabaa
