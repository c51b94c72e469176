/- The reference's reader of bytes: Take, Num, In; the length of a frame. -/
import Derived.Test.YtakeilefbcpabaaCs
import Derived.Test.YtakeilefbcpabaaCh
namespace Go.Proofs.Ytakeilefbcpabaa
open Go.RowKit
def RRd (r : Nat) : Option (List UInt8) → HP
  | some l => Bl r 127 [str l, .bool false]
  | none => Bl r 127 [str [], .bool true]
attribute [local irreducible] Y OW YK OWK W WL WP X CV Ev Evs HasCell HasCells Has Met Again Kept
section
variable {c : Con} {F : List HP} {w : World} {r : Nat}
theorem rr_take_ok {l a b : List UInt8} {n : Nat} {k : Int} (hl : l = a ++ b) (hn : a.length = n) (hk : (n : Int) = k) (H : St c (RRd r (some l) :: F) w) : Calls Try.prog 73 #[.pointer (some ⟨r, 0, none⟩), .int .i64 k] w fun e w' =>
    e = .returned (.tuple #[str a, .bool true]) ∧ St c (RRd r (some b) :: F) w' := by
  subst hk
  replace H : St c (Bl r 127 [str l, .bool false] :: F) w := H
  have h1 : l.take n = a := by rw [hl, ← hn, List.take_left]
  have h2 : l.drop n = b := by rw [hl, ← hn, List.drop_left]
  have hle : n ≤ l.length := by rw [hl, List.length_append]; omega
  have e1 := congrArg str h1
  have e2 := congrArg str h2
  refine calls_w (vs := [.pointer (some ⟨r, 0, none⟩), .int .i64 n]) Try.func73 rfl rfl rfl ?_ w H
  (repeat' (first
      | (with_reducible refine at_slice ?_; first | refine yk_eq (y_sliceStrHi (ev_tmp rfl) (ev_tmp rfl) (by omega)) e1 ?_ | refine yk_eq (y_sliceStrLo (ev_tmp rfl) (ev_tmp rfl) (by omega)) e2 ?_)
      | (with_reducible refine is_yk ?_; refine yk_auto (k := ?_))
      | (with_reducible refine is_owk0 ?_; refine owk0_auto (k := ?_))
      | (with_reducible refine is_owkc ?_; refine owk_auto (k := fun _ => ?_))
      | refine go1 (k := ?_)
      | (refine go2 (ka := ?_) (kb := ?_) <;> intro _)
      | fail))
  exact x_ret2 rfl rfl rfl (fun w H => ⟨rfl, H⟩)
theorem rr_take_bad {R : Option (List UInt8)} {n : Int} (hn : ∀ l, R = some l → n < 0 ∨ (l.length : Int) < n) (H : St c (RRd r R :: F) w) : Calls Try.prog 73 #[.pointer (some ⟨r, 0, none⟩), .int .i64 n] w fun e w' =>
    e = .returned (.tuple #[str [], .bool false]) ∧ St c (RRd r none :: F) w' := by
  have hs : Value.string ⟨#[]⟩ = str [] := rfl
  cases R with
  | none =>
    replace H : St c (Bl r 127 [str [], .bool true] :: F) w := H
    refine calls_w (vs := [.pointer (some ⟨r, 0, none⟩), .int .i64 n]) Try.func73 rfl rfl rfl ?_ w H
    (repeat' (first
      | (with_reducible refine is_yk ?_; refine yk_auto (k := ?_))
      | (with_reducible refine is_owk0 ?_; refine owk0_auto (k := ?_))
      | (with_reducible refine is_owkc ?_; refine owk_auto (k := fun _ => ?_))
      | refine go1 (k := ?_)
      | (refine go2 (ka := ?_) (kb := ?_) <;> intro _)
      | fail))
    exact x_ret2 rfl rfl rfl (fun w H => ⟨rfl, H⟩)
  | some l =>
    have hn := hn l rfl
    replace H : St c (Bl r 127 [str l, .bool false] :: F) w := H
    refine calls_w (vs := [.pointer (some ⟨r, 0, none⟩), .int .i64 n]) Try.func73 rfl rfl rfl ?_ w H
    by_cases h0 : n < 0
    · (repeat' (first
      | (with_reducible refine is_yk ?_; refine yk_auto (k := ?_))
      | (with_reducible refine is_owk0 ?_; refine owk0_auto (k := ?_))
      | (with_reducible refine is_owkc ?_; refine owk_auto (k := fun _ => ?_))
      | refine go1 (k := ?_)
      | (refine go2 (ka := ?_) (kb := ?_) <;> intro _)
      | fail))
      exact x_ret2 rfl rfl rfl (fun w H => ⟨rfl, H⟩)
    · have h1 : (l.length : Int) < n := by omega
      (repeat' (first
      | (with_reducible refine is_yk ?_; refine yk_auto (k := ?_))
      | (with_reducible refine is_owk0 ?_; refine owk0_auto (k := ?_))
      | (with_reducible refine is_owkc ?_; refine owk_auto (k := fun _ => ?_))
      | refine go1 (k := ?_)
      | (refine go2 (ka := ?_) (kb := ?_) <;> intro _)
      | fail))
      exact x_ret2 rfl rfl rfl (fun w H => ⟨rfl, H⟩)
theorem rr_num_bad {R : Option (List UInt8)} (hn : ∀ l, R = some l → l.length < 8) (H : St c (RRd r R :: F) w) : Calls Try.prog 72 #[.pointer (some ⟨r, 0, none⟩)] w fun e w' =>
    e = .returned (.int .i64 0) ∧ St c (RRd r none :: F) w' := by
  refine calls_w (vs := [.pointer (some ⟨r, 0, none⟩)]) Try.func72 rfl rfl rfl ?_ w H
  (repeat' (first
      | ((with_reducible refine at_fn 73 ?_); with_reducible refine owk_c1 evs_auto (by kernel_rfl) pick_auto (fun w H => rr_take_bad (n := 8) (fun l e => by have := hn l e; omega) H) ?_)
      | (with_reducible refine is_yk ?_; refine yk_auto (k := ?_))
      | (with_reducible refine is_owk0 ?_; refine owk0_auto (k := ?_))
      | (with_reducible refine is_owkc ?_; refine owk_auto (k := fun _ => ?_))
      | refine go1 (k := ?_)
      | (refine go2 (ka := ?_) (kb := ?_) <;> intro _)
      | fail))
  refine w_loop (α := Unit) (fun _ => True) (fun _ => [(6, .int .i64 7), (5, .int .u64 0), (4, .bool false)]) (fun _ => RRd r none :: F) (fun _ => 0) () trivial sub_auto sel_auto (fun _ _ => ?_)
  (repeat' (first
      | (with_reducible refine is_yk ?_; refine yk_auto (k := ?_))
      | (with_reducible refine is_owk0 ?_; refine owk0_auto (k := ?_))
      | (with_reducible refine is_owkc ?_; refine owk_auto (k := fun _ => ?_))
      | refine go1 (k := ?_)
      | (refine go2 (ka := ?_) (kb := ?_) <;> intro _)
      | fail))
  exact x_ret1 rfl rfl (fun w H => ⟨rfl, H⟩)
set_option maxRecDepth 100000 in
theorem rr_num_ok {l a b : List UInt8} (hl : l = a ++ b) (ha : a.length = 8) (H : St c (RRd r (some l) :: F) w) : Calls Try.prog 72 #[.pointer (some ⟨r, 0, none⟩)] w fun e w' =>
    e = .returned (.int .i64 (leInt a)) ∧ St c (RRd r (some b) :: F) w' := by
  refine calls_w (vs := [.pointer (some ⟨r, 0, none⟩)]) Try.func72 rfl rfl rfl ?_ w H
  (repeat' (first
      | ((with_reducible refine at_fn 73 ?_); with_reducible refine owk_c1 evs_auto (by kernel_rfl) pick_auto (fun w H => rr_take_ok (n := 8) hl ha (by omega) H) ?_)
      | (with_reducible refine is_yk ?_; refine yk_auto (k := ?_))
      | (with_reducible refine is_owk0 ?_; refine owk0_auto (k := ?_))
      | (with_reducible refine is_owkc ?_; refine owk_auto (k := fun _ => ?_))
      | refine go1 (k := ?_)
      | (refine go2 (ka := ?_) (kb := ?_) <;> intro _)
      | fail))
  refine w_loop (α := Nat) (fun j => j ≤ 8) (fun j => [(6, .int .i64 ((j : Int) - 1)), (5, .int .u64 ((leN (a.drop j) : Nat) : Int)), (4, .bool true), (3, str a)]) (fun _ => RRd r (some b) :: F) (fun j => j) 8 (Nat.le_refl _)
    (sub_cons rfl (sub_cons (by rw [List.drop_of_length_le (by omega)]; rfl) sub_auto)) sel_auto (fun j hj => ?_)
  by_cases h0 : 0 < j
  · obtain ⟨i, rfl⟩ : ∃ i, j = i + 1 := ⟨j - 1, by omega⟩
    have hil : i < a.length := by omega
    have hai := List.getElem?_eq_getElem hil
    have hb := a[i].toNat_lt
    have hd : leN (a.drop i) = a[i].toNat + 256 * leN (a.drop (i + 1)) := by rw [List.drop_eq_getElem_cons hil, leN]
    have hlt := leN_lt (a.drop (i + 1))
    rw [List.length_drop, ha] at hlt
    have h64 : (256 : Nat) ^ (8 - (i + 1)) ≤ 256 ^ 7 := Nat.pow_le_pow_right (by omega) (by omega)
    have h7 : (256 : Nat) ^ 7 = 72057594037927936 := rfl
    generalize a[i] = y at hai hb hd
    generalize leN (a.drop (i + 1)) = x at hlt hd ⊢
    obtain ⟨x', hx'⟩ : ∃ x', leN (a.drop i) = x' := ⟨_, rfl⟩
    rw [hx'] at hd
    have k0 : (((i + 1 : Nat) : Int) - 1) = (i : Int) := by omega
    have k1 : IntKind.u64.wrap (y.toNat : Int) = y.toNat := by show (y.toNat : Int) % 18446744073709551616 = _; omega
    have k2 : IntKind.u64.wrap ((x : Int) * 256) = ((x * 256 : Nat) : Int) := by show ((x : Int) * 256) % 18446744073709551616 = _; omega
    have k3 : IntKind.u64.wrap (((x * 256 : Nat) : Int) + (y.toNat : Int)) = (x' : Int) := by show (((x * 256 : Nat) : Int) + (y.toNat : Int)) % 18446744073709551616 = _; omega
    rw [k0]
    (repeat' (first
      | (with_reducible refine at_conv ?_; first | refine yk_eq (y_conv_int (ev_tmp rfl)) (congrArg _ k1) ?_)
      | (with_reducible refine at_bin ?_; first | refine yk_eq (y_mul (ev_tmp rfl) ev_const) (congrArg _ k2) ?_ | refine yk_eq (y_add (ev_tmp rfl) (ev_tmp rfl)) (congrArg _ k3) ?_)
      | (with_reducible refine is_yk ?_; first | refine yk (y_indexStr (ev_tmp rfl) (ev_tmp rfl) rfl hai) ?_)
      | (with_reducible refine is_yk ?_; refine yk_auto (k := ?_))
      | (with_reducible refine is_owk0 ?_; refine owk0_auto (k := ?_))
      | (with_reducible refine is_owkc ?_; refine owk_auto (k := fun _ => ?_))
      | refine go1 (k := ?_)
      | (refine go2 (ka := ?_) (kb := ?_) <;> intro _)
      | fail))
    exact x_again i (by show i ≤ 8; omega) (by show i < i + 1; omega) (by rw [hx']; exact sub_auto) sel_auto
  · obtain rfl : j = 0 := by omega
    have k4 : IntKind.i64.wrap (leN (a.drop 0) : Int) = leInt a := by rw [leInt, IntWalk.i64_left, List.drop_zero]
    (repeat' (first
      | (with_reducible refine at_conv ?_; first | refine yk_eq (y_conv_int (ev_tmp rfl)) (congrArg _ k4) ?_)
      | (with_reducible refine is_yk ?_; refine yk_auto (k := ?_))
      | (with_reducible refine is_owk0 ?_; refine owk0_auto (k := ?_))
      | (with_reducible refine is_owkc ?_; refine owk_auto (k := fun _ => ?_))
      | refine go1 (k := ?_)
      | (refine go2 (ka := ?_) (kb := ?_) <;> intro _)
      | fail))
    exact x_ret1 rfl rfl (fun w H => ⟨rfl, H⟩)
theorem rr_in_ok {l a b : List UInt8} {lo hi n : Int} (hl : l = a ++ b) (ha : a.length = 8) (hv : leInt a = n) (h1 : lo ≤ n ∧ n ≤ hi) (H : St c (RRd r (some l) :: F) w) : Calls Try.prog 67 #[.pointer (some ⟨r, 0, none⟩), .int .i64 lo, .int .i64 hi] w fun e w' =>
    e = .returned (.int .i64 n) ∧ St c (RRd r (some b) :: F) w' := by
  subst hv
  have hN : ∀ {w : World}, St c (RRd r (some l) :: F) w → Calls Try.prog 72 #[.pointer (some ⟨r, 0, none⟩)] w fun e w' => e = .returned (.int .i64 (leInt a)) ∧ St c (Bl r 127 [str b, .bool false] :: F) w' := fun H => rr_num_ok hl ha H
  refine calls_w (vs := [.pointer (some ⟨r, 0, none⟩), .int .i64 lo, .int .i64 hi]) Try.func67 rfl rfl rfl ?_ w H
  (repeat' (first
      | ((with_reducible refine at_fn 72 ?_); with_reducible refine owk_c1 evs_auto (by kernel_rfl) pick_auto (fun w H => hN H) ?_)
      | (with_reducible refine is_yk ?_; refine yk_auto (k := ?_))
      | (with_reducible refine is_owk0 ?_; refine owk0_auto (k := ?_))
      | (with_reducible refine is_owkc ?_; refine owk_auto (k := fun _ => ?_))
      | refine go1 (k := ?_)
      | (refine go2 (ka := ?_) (kb := ?_) <;> intro _)
      | fail))
  exact x_ret1 rfl rfl (fun w H => ⟨rfl, H⟩)
theorem rr_in_bad {R : Option (List UInt8)} {lo hi : Int} (hb : inOk lo hi R = false) (H : St c (RRd r R :: F) w) : Calls Try.prog 67 #[.pointer (some ⟨r, 0, none⟩), .int .i64 lo, .int .i64 hi] w fun e w' =>
    e = .returned (.int .i64 0) ∧ St c (RRd r none :: F) w' := by
  have hT : ∀ {R : Option (List UInt8)} {w : World}, St c (RRd r R :: F) w → Calls Try.prog 73 #[.pointer (some ⟨r, 0, none⟩), .int .i64 (-1)] w fun e w' => e = .returned (.tuple #[str [], .bool false]) ∧ St c (RRd r none :: F) w' := fun H => rr_take_bad (fun l e => by omega) H
  refine calls_w (vs := [.pointer (some ⟨r, 0, none⟩), .int .i64 lo, .int .i64 hi]) Try.func67 rfl rfl rfl ?_ w H
  by_cases h8 : ∃ l, R = some l ∧ 8 ≤ l.length
  · obtain ⟨l, rfl, h8⟩ := h8
    have hl : l = l.take 8 ++ l.drop 8 := (List.take_append_drop 8 l).symm
    have ha : (l.take 8).length = 8 := by simp; omega
    obtain ⟨n, hn⟩ : ∃ n, leInt (l.take 8) = n := ⟨_, rfl⟩
    have hbad : ¬ (lo ≤ n ∧ n ≤ hi) := by
      rintro ⟨h1, h2⟩
      simp [inOk, h8, hn, h1, h2] at hb
    have hN : ∀ {w : World}, St c (RRd r (some l) :: F) w → Calls Try.prog 72 #[.pointer (some ⟨r, 0, none⟩)] w fun e w' => e = .returned (.int .i64 n) ∧ St c (Bl r 127 [str (l.drop 8), .bool false] :: F) w' := fun H => by have := rr_num_ok hl ha H; rw [hn] at this; exact this
    have hT : ∀ {w : World}, St c (Bl r 127 [str (l.drop 8), .bool false] :: F) w → Calls Try.prog 73 #[.pointer (some ⟨r, 0, none⟩), .int .i64 (-1)] w fun e w' => e = .returned (.tuple #[str [], .bool false]) ∧ St c (RRd r none :: F) w' := fun H => hT (R := some (l.drop 8)) H
    by_cases h1 : n < lo
    · (repeat' (first
      | ((with_reducible refine at_fn 72 ?_); with_reducible refine owk_c1 evs_auto (by kernel_rfl) pick_auto (fun w H => hN H) ?_)
      | ((with_reducible refine at_fn 73 ?_); with_reducible refine owk_c1 evs_auto (by kernel_rfl) pick_auto (fun w H => hT H) ?_)
      | (with_reducible refine is_yk ?_; refine yk_auto (k := ?_))
      | (with_reducible refine is_owk0 ?_; refine owk0_auto (k := ?_))
      | (with_reducible refine is_owkc ?_; refine owk_auto (k := fun _ => ?_))
      | refine go1 (k := ?_)
      | (refine go2 (ka := ?_) (kb := ?_) <;> intro _)
      | fail))
      exact x_ret1 rfl rfl (fun w H => ⟨rfl, H⟩)
    · have h2 : hi < n := by omega
      (repeat' (first
      | ((with_reducible refine at_fn 72 ?_); with_reducible refine owk_c1 evs_auto (by kernel_rfl) pick_auto (fun w H => hN H) ?_)
      | ((with_reducible refine at_fn 73 ?_); with_reducible refine owk_c1 evs_auto (by kernel_rfl) pick_auto (fun w H => hT H) ?_)
      | (with_reducible refine is_yk ?_; refine yk_auto (k := ?_))
      | (with_reducible refine is_owk0 ?_; refine owk0_auto (k := ?_))
      | (with_reducible refine is_owkc ?_; refine owk_auto (k := fun _ => ?_))
      | refine go1 (k := ?_)
      | (refine go2 (ka := ?_) (kb := ?_) <;> intro _)
      | fail))
      exact x_ret1 rfl rfl (fun w H => ⟨rfl, H⟩)
  · have hn : ∀ l, R = some l → l.length < 8 := fun l e => Nat.lt_of_not_le fun k => h8 ⟨l, e, k⟩
    have hN : ∀ {w : World}, St c (RRd r R :: F) w → Calls Try.prog 72 #[.pointer (some ⟨r, 0, none⟩)] w fun e w' => e = .returned (.int .i64 0) ∧ St c (Bl r 127 [str [], .bool true] :: F) w' := fun H => rr_num_bad hn H
    have hT : ∀ {w : World}, St c (Bl r 127 [str [], .bool true] :: F) w → Calls Try.prog 73 #[.pointer (some ⟨r, 0, none⟩), .int .i64 (-1)] w fun e w' => e = .returned (.tuple #[str [], .bool false]) ∧ St c (RRd r none :: F) w' := fun H => hT (R := none) H
    (repeat' (first
      | ((with_reducible refine at_fn 72 ?_); with_reducible refine owk_c1 evs_auto (by kernel_rfl) pick_auto (fun w H => hN H) ?_)
      | ((with_reducible refine at_fn 73 ?_); with_reducible refine owk_c1 evs_auto (by kernel_rfl) pick_auto (fun w H => hT H) ?_)
      | (with_reducible refine is_yk ?_; refine yk_auto (k := ?_))
      | (with_reducible refine is_owk0 ?_; refine owk0_auto (k := ?_))
      | (with_reducible refine is_owkc ?_; refine owk_auto (k := fun _ => ?_))
      | refine go1 (k := ?_)
      | (refine go2 (ka := ?_) (kb := ?_) <;> intro _)
      | fail))
    exact x_ret1 rfl rfl (fun w H => ⟨rfl, H⟩)
/-- The reference's length of a frame. -/
theorem ref_length {D : List UInt8} {E : Int} (hE : lengthM D = E) (H : St c F w) : Calls Try.prog 49 #[str D] w fun e w' => e = .returned (.int .i64 E) ∧ St c F w' := by
  subst hE
  refine calls_w (vs := [str D]) Try.func49 rfl rfl rfl ?_ w H
  have hI : ∀ {r : Nat} {E : Int} {R : Option (List UInt8)}, (∀ {w : World}, St c (RRd r (some D) :: F) w → Calls Try.prog 67 #[.pointer (some ⟨r, 0, none⟩), .int .i64 48, .int .i64 16384] w fun e w' => e = .returned (.int .i64 E) ∧ St c (RRd r R :: F) w') →
      ∀ {w : World}, St c (Bl r 127 [str D, .bool false] :: F) w → Calls Try.prog 67 #[.pointer (some ⟨r, 0, none⟩), .int .i64 48, .int .i64 16384] w fun e w' => e = .returned (.int .i64 E) ∧ St c (RRd r R :: F) w' := fun {_ _ _} h {_} H => h H
  have hbuild : Value.agg ([str [], .bool false].set 0 (str D)).toArray = .agg [str D, .bool false].toArray := rfl
  cases hb : inOk 48 16384 (some D)
  · have hl : lengthM D = 0 := by simp [lengthM, hb]
    rw [hl]
    (repeat' (first
      | ((with_reducible refine at_fn 67 ?_); with_reducible refine owk_c1 evs_auto (by kernel_rfl) pick_auto (fun w H => hI (fun H => rr_in_bad hb H) H) ?_)
      | (with_reducible refine at_build ?_; first | refine yk_eq (y_build lay_auto) hbuild ?_)
      | (with_reducible refine is_yk ?_; refine yk_auto (k := ?_))
      | (with_reducible refine is_owk0 ?_; refine owk0_auto (k := ?_))
      | (with_reducible refine is_owkc ?_; refine owk_auto (k := fun _ => ?_))
      | refine go1 (k := ?_)
      | (refine go2 (ka := ?_) (kb := ?_) <;> intro _)
      | fail))
    exact x_ret1 rfl rfl (fun w H => ⟨rfl, H.tail⟩)
  · have h8 : 8 ≤ D.length ∧ 48 ≤ leInt (D.take 8) ∧ leInt (D.take 8) ≤ 16384 := by simp [inOk] at hb; omega
    have hl : D = D.take 8 ++ D.drop 8 := (List.take_append_drop 8 D).symm
    have ha : (D.take 8).length = 8 := by simp; omega
    obtain ⟨m, hm⟩ : ∃ m, leInt (D.take 8) = m := ⟨_, rfl⟩
    have hlm : lengthM D = if m ≤ (D.length : Int) then m else 0 := by simp [lengthM, hb, hm]
    rw [hlm]
    rw [hm] at h8
    (repeat' (first
      | ((with_reducible refine at_fn 67 ?_); with_reducible refine owk_c1 evs_auto (by kernel_rfl) pick_auto (fun w H => hI (fun H => rr_in_ok hl ha hm h8.2 H) H) ?_)
      | (with_reducible refine at_build ?_; first | refine yk_eq (y_build lay_auto) hbuild ?_)
      | (with_reducible refine is_yk ?_; refine yk_auto (k := ?_))
      | (with_reducible refine is_owk0 ?_; refine owk0_auto (k := ?_))
      | (with_reducible refine is_owkc ?_; refine owk_auto (k := fun _ => ?_))
      | refine go1 (k := ?_)
      | (refine go2 (ka := ?_) (kb := ?_) <;> intro _)
      | fail))
    · rename_i k
      exact x_ret1 rfl rfl (fun w H => ⟨by rw [if_neg (by omega)], H.tail⟩)
    · rename_i k
      exact x_ret1 rfl rfl (fun w H => ⟨by rw [if_pos (by omega)], H.tail⟩)
end
end Go.Proofs.Ytakeilefbcpabaa
