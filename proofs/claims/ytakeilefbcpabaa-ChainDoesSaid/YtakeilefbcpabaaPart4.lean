/- Part 4 of what the statement rests on: each piece below begins with its own remark. -/
import Derived.Test.YtakeilefbcpabaaPart3
import Derived.Deep.AppendSrc
/- The reference's reader of bytes: Take, Num, In; the length of a frame. -/
namespace Go.Proofs.Ytakeilefbcpabaa
open Go.RowKit
def RRd (r : Nat) : Option (List UInt8) → HP
  | some l => Bl r 127 [str l, .bool false]
  | none => Bl r 127 [str [], .bool true]
attribute [local irreducible] Y OW YK OWK W WL WP X CV Ev Evs HasCell HasCells Has Met Again Kept
section
variable {c : Con} {F : List HP} {w : World} {r : Nat}
theorem rr_take_ok {l a b : List UInt8} {n : Nat} {k : Int} (hl : l = a ++ b) (hn : a.length = n) (hk : (n : Int) = k) (H : St c (RRd r (some l) :: F) w) : Calls Try.prog 73 #[.pointer (some ⟨r, 0, none⟩), .int .i64 k] w fun e w' =>
    e = .returned (.tuple #[str a, .bool true]) ∧ St c (RRd r (some b) :: F) w' := by
  subst hk
  replace H : St c (Bl r 127 [str l, .bool false] :: F) w := H
  have h1 : l.take n = a := by rw [hl, ← hn, List.take_left]
  have h2 : l.drop n = b := by rw [hl, ← hn, List.drop_left]
  have hle : n ≤ l.length := by rw [hl, List.length_append]; omega
  have e1 := congrArg str h1
  have e2 := congrArg str h2
  refine calls_w (vs := [.pointer (some ⟨r, 0, none⟩), .int .i64 n]) Try.func73 rfl rfl rfl ?_ w H
  (repeat' (first
      | (with_reducible refine at_slice ?_; first | refine yk_eq (y_sliceStrHi (ev_tmp rfl) (ev_tmp rfl) (by omega)) e1 ?_ | refine yk_eq (y_sliceStrLo (ev_tmp rfl) (ev_tmp rfl) (by omega)) e2 ?_)
      | (with_reducible refine is_yk ?_; refine yk_auto (k := ?_))
      | (with_reducible refine is_owk0 ?_; refine owk0_auto (k := ?_))
      | (with_reducible refine is_owkc ?_; refine owk_auto (k := fun _ => ?_))
      | refine go1 (k := ?_)
      | (refine go2 (ka := ?_) (kb := ?_) <;> intro _)
      | fail))
  exact x_ret2 rfl rfl rfl (fun w H => ⟨rfl, H⟩)
theorem rr_take_bad {R : Option (List UInt8)} {n : Int} (hn : ∀ l, R = some l → n < 0 ∨ (l.length : Int) < n) (H : St c (RRd r R :: F) w) : Calls Try.prog 73 #[.pointer (some ⟨r, 0, none⟩), .int .i64 n] w fun e w' =>
    e = .returned (.tuple #[str [], .bool false]) ∧ St c (RRd r none :: F) w' := by
  have hs : Value.string ⟨#[]⟩ = str [] := rfl
  cases R with
  | none =>
    replace H : St c (Bl r 127 [str [], .bool true] :: F) w := H
    refine calls_w (vs := [.pointer (some ⟨r, 0, none⟩), .int .i64 n]) Try.func73 rfl rfl rfl ?_ w H
    (repeat' (first
      | (with_reducible refine is_yk ?_; refine yk_auto (k := ?_))
      | (with_reducible refine is_owk0 ?_; refine owk0_auto (k := ?_))
      | (with_reducible refine is_owkc ?_; refine owk_auto (k := fun _ => ?_))
      | refine go1 (k := ?_)
      | (refine go2 (ka := ?_) (kb := ?_) <;> intro _)
      | fail))
    exact x_ret2 rfl rfl rfl (fun w H => ⟨rfl, H⟩)
  | some l =>
    have hn := hn l rfl
    replace H : St c (Bl r 127 [str l, .bool false] :: F) w := H
    refine calls_w (vs := [.pointer (some ⟨r, 0, none⟩), .int .i64 n]) Try.func73 rfl rfl rfl ?_ w H
    by_cases h0 : n < 0
    · (repeat' (first
      | (with_reducible refine is_yk ?_; refine yk_auto (k := ?_))
      | (with_reducible refine is_owk0 ?_; refine owk0_auto (k := ?_))
      | (with_reducible refine is_owkc ?_; refine owk_auto (k := fun _ => ?_))
      | refine go1 (k := ?_)
      | (refine go2 (ka := ?_) (kb := ?_) <;> intro _)
      | fail))
      exact x_ret2 rfl rfl rfl (fun w H => ⟨rfl, H⟩)
    · have h1 : (l.length : Int) < n := by omega
      (repeat' (first
      | (with_reducible refine is_yk ?_; refine yk_auto (k := ?_))
      | (with_reducible refine is_owk0 ?_; refine owk0_auto (k := ?_))
      | (with_reducible refine is_owkc ?_; refine owk_auto (k := fun _ => ?_))
      | refine go1 (k := ?_)
      | (refine go2 (ka := ?_) (kb := ?_) <;> intro _)
      | fail))
      exact x_ret2 rfl rfl rfl (fun w H => ⟨rfl, H⟩)
theorem rr_num_bad {R : Option (List UInt8)} (hn : ∀ l, R = some l → l.length < 8) (H : St c (RRd r R :: F) w) : Calls Try.prog 72 #[.pointer (some ⟨r, 0, none⟩)] w fun e w' =>
    e = .returned (.int .i64 0) ∧ St c (RRd r none :: F) w' := by
  refine calls_w (vs := [.pointer (some ⟨r, 0, none⟩)]) Try.func72 rfl rfl rfl ?_ w H
  (repeat' (first
      | ((with_reducible refine at_fn 73 ?_); with_reducible refine owk_c1 evs_auto (by kernel_rfl) pick_auto (fun w H => rr_take_bad (n := 8) (fun l e => by have := hn l e; omega) H) ?_)
      | (with_reducible refine is_yk ?_; refine yk_auto (k := ?_))
      | (with_reducible refine is_owk0 ?_; refine owk0_auto (k := ?_))
      | (with_reducible refine is_owkc ?_; refine owk_auto (k := fun _ => ?_))
      | refine go1 (k := ?_)
      | (refine go2 (ka := ?_) (kb := ?_) <;> intro _)
      | fail))
  refine w_loop (α := Unit) (fun _ => True) (fun _ => [(6, .int .i64 7), (5, .int .u64 0), (4, .bool false)]) (fun _ => RRd r none :: F) (fun _ => 0) () trivial sub_auto sel_auto (fun _ _ => ?_)
  (repeat' (first
      | (with_reducible refine is_yk ?_; refine yk_auto (k := ?_))
      | (with_reducible refine is_owk0 ?_; refine owk0_auto (k := ?_))
      | (with_reducible refine is_owkc ?_; refine owk_auto (k := fun _ => ?_))
      | refine go1 (k := ?_)
      | (refine go2 (ka := ?_) (kb := ?_) <;> intro _)
      | fail))
  exact x_ret1 rfl rfl (fun w H => ⟨rfl, H⟩)
set_option maxRecDepth 100000 in
theorem rr_num_ok {l a b : List UInt8} (hl : l = a ++ b) (ha : a.length = 8) (H : St c (RRd r (some l) :: F) w) : Calls Try.prog 72 #[.pointer (some ⟨r, 0, none⟩)] w fun e w' =>
    e = .returned (.int .i64 (leInt a)) ∧ St c (RRd r (some b) :: F) w' := by
  refine calls_w (vs := [.pointer (some ⟨r, 0, none⟩)]) Try.func72 rfl rfl rfl ?_ w H
  (repeat' (first
      | ((with_reducible refine at_fn 73 ?_); with_reducible refine owk_c1 evs_auto (by kernel_rfl) pick_auto (fun w H => rr_take_ok (n := 8) hl ha (by omega) H) ?_)
      | (with_reducible refine is_yk ?_; refine yk_auto (k := ?_))
      | (with_reducible refine is_owk0 ?_; refine owk0_auto (k := ?_))
      | (with_reducible refine is_owkc ?_; refine owk_auto (k := fun _ => ?_))
      | refine go1 (k := ?_)
      | (refine go2 (ka := ?_) (kb := ?_) <;> intro _)
      | fail))
  refine w_loop (α := Nat) (fun j => j ≤ 8) (fun j => [(6, .int .i64 ((j : Int) - 1)), (5, .int .u64 ((leN (a.drop j) : Nat) : Int)), (4, .bool true), (3, str a)]) (fun _ => RRd r (some b) :: F) (fun j => j) 8 (Nat.le_refl _)
    (sub_cons rfl (sub_cons (by rw [List.drop_of_length_le (by omega)]; rfl) sub_auto)) sel_auto (fun j hj => ?_)
  by_cases h0 : 0 < j
  · obtain ⟨i, rfl⟩ : ∃ i, j = i + 1 := ⟨j - 1, by omega⟩
    have hil : i < a.length := by omega
    have hai := List.getElem?_eq_getElem hil
    have hb := a[i].toNat_lt
    have hd : leN (a.drop i) = a[i].toNat + 256 * leN (a.drop (i + 1)) := by rw [List.drop_eq_getElem_cons hil, leN]
    have hlt := leN_lt (a.drop (i + 1))
    rw [List.length_drop, ha] at hlt
    have h64 : (256 : Nat) ^ (8 - (i + 1)) ≤ 256 ^ 7 := Nat.pow_le_pow_right (by omega) (by omega)
    have h7 : (256 : Nat) ^ 7 = 72057594037927936 := rfl
    generalize a[i] = y at hai hb hd
    generalize leN (a.drop (i + 1)) = x at hlt hd ⊢
    obtain ⟨x', hx'⟩ : ∃ x', leN (a.drop i) = x' := ⟨_, rfl⟩
    rw [hx'] at hd
    have k0 : (((i + 1 : Nat) : Int) - 1) = (i : Int) := by omega
    have k1 : IntKind.u64.wrap (y.toNat : Int) = y.toNat := by show (y.toNat : Int) % 18446744073709551616 = _; omega
    have k2 : IntKind.u64.wrap ((x : Int) * 256) = ((x * 256 : Nat) : Int) := by show ((x : Int) * 256) % 18446744073709551616 = _; omega
    have k3 : IntKind.u64.wrap (((x * 256 : Nat) : Int) + (y.toNat : Int)) = (x' : Int) := by show (((x * 256 : Nat) : Int) + (y.toNat : Int)) % 18446744073709551616 = _; omega
    rw [k0]
    (repeat' (first
      | (with_reducible refine at_conv ?_; first | refine yk_eq (y_conv_int (ev_tmp rfl)) (congrArg _ k1) ?_)
      | (with_reducible refine at_bin ?_; first | refine yk_eq (y_mul (ev_tmp rfl) ev_const) (congrArg _ k2) ?_ | refine yk_eq (y_add (ev_tmp rfl) (ev_tmp rfl)) (congrArg _ k3) ?_)
      | (with_reducible refine is_yk ?_; first | refine yk (y_indexStr (ev_tmp rfl) (ev_tmp rfl) rfl hai) ?_)
      | (with_reducible refine is_yk ?_; refine yk_auto (k := ?_))
      | (with_reducible refine is_owk0 ?_; refine owk0_auto (k := ?_))
      | (with_reducible refine is_owkc ?_; refine owk_auto (k := fun _ => ?_))
      | refine go1 (k := ?_)
      | (refine go2 (ka := ?_) (kb := ?_) <;> intro _)
      | fail))
    exact x_again i (by show i ≤ 8; omega) (by show i < i + 1; omega) (by rw [hx']; exact sub_auto) sel_auto
  · obtain rfl : j = 0 := by omega
    have k4 : IntKind.i64.wrap (leN (a.drop 0) : Int) = leInt a := by rw [leInt, IntWalk.i64_left, List.drop_zero]
    (repeat' (first
      | (with_reducible refine at_conv ?_; first | refine yk_eq (y_conv_int (ev_tmp rfl)) (congrArg _ k4) ?_)
      | (with_reducible refine is_yk ?_; refine yk_auto (k := ?_))
      | (with_reducible refine is_owk0 ?_; refine owk0_auto (k := ?_))
      | (with_reducible refine is_owkc ?_; refine owk_auto (k := fun _ => ?_))
      | refine go1 (k := ?_)
      | (refine go2 (ka := ?_) (kb := ?_) <;> intro _)
      | fail))
    exact x_ret1 rfl rfl (fun w H => ⟨rfl, H⟩)
theorem rr_in_ok {l a b : List UInt8} {lo hi n : Int} (hl : l = a ++ b) (ha : a.length = 8) (hv : leInt a = n) (h1 : lo ≤ n ∧ n ≤ hi) (H : St c (RRd r (some l) :: F) w) : Calls Try.prog 67 #[.pointer (some ⟨r, 0, none⟩), .int .i64 lo, .int .i64 hi] w fun e w' =>
    e = .returned (.int .i64 n) ∧ St c (RRd r (some b) :: F) w' := by
  subst hv
  have hN : ∀ {w : World}, St c (RRd r (some l) :: F) w → Calls Try.prog 72 #[.pointer (some ⟨r, 0, none⟩)] w fun e w' => e = .returned (.int .i64 (leInt a)) ∧ St c (Bl r 127 [str b, .bool false] :: F) w' := fun H => rr_num_ok hl ha H
  refine calls_w (vs := [.pointer (some ⟨r, 0, none⟩), .int .i64 lo, .int .i64 hi]) Try.func67 rfl rfl rfl ?_ w H
  (repeat' (first
      | ((with_reducible refine at_fn 72 ?_); with_reducible refine owk_c1 evs_auto (by kernel_rfl) pick_auto (fun w H => hN H) ?_)
      | (with_reducible refine is_yk ?_; refine yk_auto (k := ?_))
      | (with_reducible refine is_owk0 ?_; refine owk0_auto (k := ?_))
      | (with_reducible refine is_owkc ?_; refine owk_auto (k := fun _ => ?_))
      | refine go1 (k := ?_)
      | (refine go2 (ka := ?_) (kb := ?_) <;> intro _)
      | fail))
  exact x_ret1 rfl rfl (fun w H => ⟨rfl, H⟩)
theorem rr_in_bad {R : Option (List UInt8)} {lo hi : Int} (hb : inOk lo hi R = false) (H : St c (RRd r R :: F) w) : Calls Try.prog 67 #[.pointer (some ⟨r, 0, none⟩), .int .i64 lo, .int .i64 hi] w fun e w' =>
    e = .returned (.int .i64 0) ∧ St c (RRd r none :: F) w' := by
  have hT : ∀ {R : Option (List UInt8)} {w : World}, St c (RRd r R :: F) w → Calls Try.prog 73 #[.pointer (some ⟨r, 0, none⟩), .int .i64 (-1)] w fun e w' => e = .returned (.tuple #[str [], .bool false]) ∧ St c (RRd r none :: F) w' := fun H => rr_take_bad (fun l e => by omega) H
  refine calls_w (vs := [.pointer (some ⟨r, 0, none⟩), .int .i64 lo, .int .i64 hi]) Try.func67 rfl rfl rfl ?_ w H
  by_cases h8 : ∃ l, R = some l ∧ 8 ≤ l.length
  · obtain ⟨l, rfl, h8⟩ := h8
    have hl : l = l.take 8 ++ l.drop 8 := (List.take_append_drop 8 l).symm
    have ha : (l.take 8).length = 8 := by simp; omega
    obtain ⟨n, hn⟩ : ∃ n, leInt (l.take 8) = n := ⟨_, rfl⟩
    have hbad : ¬ (lo ≤ n ∧ n ≤ hi) := by
      rintro ⟨h1, h2⟩
      simp [inOk, h8, hn, h1, h2] at hb
    have hN : ∀ {w : World}, St c (RRd r (some l) :: F) w → Calls Try.prog 72 #[.pointer (some ⟨r, 0, none⟩)] w fun e w' => e = .returned (.int .i64 n) ∧ St c (Bl r 127 [str (l.drop 8), .bool false] :: F) w' := fun H => by have := rr_num_ok hl ha H; rw [hn] at this; exact this
    have hT : ∀ {w : World}, St c (Bl r 127 [str (l.drop 8), .bool false] :: F) w → Calls Try.prog 73 #[.pointer (some ⟨r, 0, none⟩), .int .i64 (-1)] w fun e w' => e = .returned (.tuple #[str [], .bool false]) ∧ St c (RRd r none :: F) w' := fun H => hT (R := some (l.drop 8)) H
    by_cases h1 : n < lo
    · (repeat' (first
      | ((with_reducible refine at_fn 72 ?_); with_reducible refine owk_c1 evs_auto (by kernel_rfl) pick_auto (fun w H => hN H) ?_)
      | ((with_reducible refine at_fn 73 ?_); with_reducible refine owk_c1 evs_auto (by kernel_rfl) pick_auto (fun w H => hT H) ?_)
      | (with_reducible refine is_yk ?_; refine yk_auto (k := ?_))
      | (with_reducible refine is_owk0 ?_; refine owk0_auto (k := ?_))
      | (with_reducible refine is_owkc ?_; refine owk_auto (k := fun _ => ?_))
      | refine go1 (k := ?_)
      | (refine go2 (ka := ?_) (kb := ?_) <;> intro _)
      | fail))
      exact x_ret1 rfl rfl (fun w H => ⟨rfl, H⟩)
    · have h2 : hi < n := by omega
      (repeat' (first
      | ((with_reducible refine at_fn 72 ?_); with_reducible refine owk_c1 evs_auto (by kernel_rfl) pick_auto (fun w H => hN H) ?_)
      | ((with_reducible refine at_fn 73 ?_); with_reducible refine owk_c1 evs_auto (by kernel_rfl) pick_auto (fun w H => hT H) ?_)
      | (with_reducible refine is_yk ?_; refine yk_auto (k := ?_))
      | (with_reducible refine is_owk0 ?_; refine owk0_auto (k := ?_))
      | (with_reducible refine is_owkc ?_; refine owk_auto (k := fun _ => ?_))
      | refine go1 (k := ?_)
      | (refine go2 (ka := ?_) (kb := ?_) <;> intro _)
      | fail))
      exact x_ret1 rfl rfl (fun w H => ⟨rfl, H⟩)
  · have hn : ∀ l, R = some l → l.length < 8 := fun l e => Nat.lt_of_not_le fun k => h8 ⟨l, e, k⟩
    have hN : ∀ {w : World}, St c (RRd r R :: F) w → Calls Try.prog 72 #[.pointer (some ⟨r, 0, none⟩)] w fun e w' => e = .returned (.int .i64 0) ∧ St c (Bl r 127 [str [], .bool true] :: F) w' := fun H => rr_num_bad hn H
    have hT : ∀ {w : World}, St c (Bl r 127 [str [], .bool true] :: F) w → Calls Try.prog 73 #[.pointer (some ⟨r, 0, none⟩), .int .i64 (-1)] w fun e w' => e = .returned (.tuple #[str [], .bool false]) ∧ St c (RRd r none :: F) w' := fun H => hT (R := none) H
    (repeat' (first
      | ((with_reducible refine at_fn 72 ?_); with_reducible refine owk_c1 evs_auto (by kernel_rfl) pick_auto (fun w H => hN H) ?_)
      | ((with_reducible refine at_fn 73 ?_); with_reducible refine owk_c1 evs_auto (by kernel_rfl) pick_auto (fun w H => hT H) ?_)
      | (with_reducible refine is_yk ?_; refine yk_auto (k := ?_))
      | (with_reducible refine is_owk0 ?_; refine owk0_auto (k := ?_))
      | (with_reducible refine is_owkc ?_; refine owk_auto (k := fun _ => ?_))
      | refine go1 (k := ?_)
      | (refine go2 (ka := ?_) (kb := ?_) <;> intro _)
      | fail))
    exact x_ret1 rfl rfl (fun w H => ⟨rfl, H⟩)
/-- The reference's length of a frame. -/
theorem ref_length {D : List UInt8} {E : Int} (hE : lengthM D = E) (H : St c F w) : Calls Try.prog 49 #[str D] w fun e w' => e = .returned (.int .i64 E) ∧ St c F w' := by
  subst hE
  refine calls_w (vs := [str D]) Try.func49 rfl rfl rfl ?_ w H
  have hI : ∀ {r : Nat} {E : Int} {R : Option (List UInt8)}, (∀ {w : World}, St c (RRd r (some D) :: F) w → Calls Try.prog 67 #[.pointer (some ⟨r, 0, none⟩), .int .i64 48, .int .i64 16384] w fun e w' => e = .returned (.int .i64 E) ∧ St c (RRd r R :: F) w') →
      ∀ {w : World}, St c (Bl r 127 [str D, .bool false] :: F) w → Calls Try.prog 67 #[.pointer (some ⟨r, 0, none⟩), .int .i64 48, .int .i64 16384] w fun e w' => e = .returned (.int .i64 E) ∧ St c (RRd r R :: F) w' := fun {_ _ _} h {_} H => h H
  have hbuild : Value.agg ([str [], .bool false].set 0 (str D)).toArray = .agg [str D, .bool false].toArray := rfl
  cases hb : inOk 48 16384 (some D)
  · have hl : lengthM D = 0 := by simp [lengthM, hb]
    rw [hl]
    (repeat' (first
      | ((with_reducible refine at_fn 67 ?_); with_reducible refine owk_c1 evs_auto (by kernel_rfl) pick_auto (fun w H => hI (fun H => rr_in_bad hb H) H) ?_)
      | (with_reducible refine at_build ?_; first | refine yk_eq (y_build lay_auto) hbuild ?_)
      | (with_reducible refine is_yk ?_; refine yk_auto (k := ?_))
      | (with_reducible refine is_owk0 ?_; refine owk0_auto (k := ?_))
      | (with_reducible refine is_owkc ?_; refine owk_auto (k := fun _ => ?_))
      | refine go1 (k := ?_)
      | (refine go2 (ka := ?_) (kb := ?_) <;> intro _)
      | fail))
    exact x_ret1 rfl rfl (fun w H => ⟨rfl, H.tail⟩)
  · have h8 : 8 ≤ D.length ∧ 48 ≤ leInt (D.take 8) ∧ leInt (D.take 8) ≤ 16384 := by simp [inOk] at hb; omega
    have hl : D = D.take 8 ++ D.drop 8 := (List.take_append_drop 8 D).symm
    have ha : (D.take 8).length = 8 := by simp; omega
    obtain ⟨m, hm⟩ : ∃ m, leInt (D.take 8) = m := ⟨_, rfl⟩
    have hlm : lengthM D = if m ≤ (D.length : Int) then m else 0 := by simp [lengthM, hb, hm]
    rw [hlm]
    rw [hm] at h8
    (repeat' (first
      | ((with_reducible refine at_fn 67 ?_); with_reducible refine owk_c1 evs_auto (by kernel_rfl) pick_auto (fun w H => hI (fun H => rr_in_ok hl ha hm h8.2 H) H) ?_)
      | (with_reducible refine at_build ?_; first | refine yk_eq (y_build lay_auto) hbuild ?_)
      | (with_reducible refine is_yk ?_; refine yk_auto (k := ?_))
      | (with_reducible refine is_owk0 ?_; refine owk0_auto (k := ?_))
      | (with_reducible refine is_owkc ?_; refine owk_auto (k := fun _ => ?_))
      | refine go1 (k := ?_)
      | (refine go2 (ka := ?_) (kb := ?_) <;> intro _)
      | fail))
    · rename_i k
      exact x_ret1 rfl rfl (fun w H => ⟨by rw [if_neg (by omega)], H.tail⟩)
    · rename_i k
      exact x_ret1 rfl rfl (fun w H => ⟨by rw [if_pos (by omega)], H.tail⟩)
end
end Go.Proofs.Ytakeilefbcpabaa

/- Package chain: what Next answers, in two ways; how long a frame is. -/
namespace Go.Proofs.Ytakeilefbcpabaa
open Go.RowKit
theorem first_or_none (p : Nat → Prop) [DecidablePred p] : ∀ lim, ∃ k, k ≤ lim ∧ (∀ j, j < k → ¬ p j) ∧ (k < lim → p k)
  | 0 => ⟨0, Nat.le_refl _, fun j h => by omega, fun h => by omega⟩
  | lim + 1 => by
    obtain ⟨k, h1, h2, h3⟩ := first_or_none p lim
    by_cases h : k < lim
    · exact ⟨k, by omega, h2, fun _ => h3 h⟩
    · by_cases hp : p k
      · exact ⟨k, by omega, h2, fun _ => hp⟩
      · exact ⟨k + 1, by omega, fun j hj => by rcases Nat.lt_or_eq_of_le (Nat.lt_succ_iff.1 hj) with h' | rfl; exact h2 j h'; exact hp, fun h' => by omega⟩
theorem lengthM_pos {b : List UInt8} (h : 0 < lengthM b) : lengthM b = leInt (b.take 8) ∧ 8 ≤ b.length ∧ 48 ≤ lengthM b ∧ lengthM b ≤ 16384 ∧ lengthM b ≤ b.length := by
  unfold lengthM at h ⊢
  split at h
  · rename_i k
    rw [if_pos k]
    have h1 := k.1
    simp [inOk] at h1
    exact ⟨rfl, h1.1.1, h1.1.2, h1.2, k.2⟩
  · omega
theorem lengthM_of {b : List UInt8} {n : Int} (h8 : 8 ≤ b.length) (hn : leInt (b.take 8) = n) (h : 48 ≤ n ∧ n ≤ 16384) : lengthM b = if n ≤ b.length then n else 0 := by
  unfold lengthM inOk
  simp [h8, hn, h.1, h.2]
theorem lengthM_take {b : List UInt8} {n : Nat} (h : lengthM b = n) (h0 : 0 < n) : lengthM (b.take n) = n ∧ (b.take n).length = n := by
  obtain ⟨h1, h2, h3, h4, h5⟩ := lengthM_pos (b := b) (by omega)
  have hl : (b.take n).length = n := by simp; omega
  refine ⟨?_, hl⟩
  rw [lengthM_of (n := n) (by omega) (by rw [List.take_take, Nat.min_eq_left (by omega), ← h1, h]) (by omega), hl, if_pos (Int.le_refl _)]
/-- The first sectors that have a frame are as many as it takes. -/
theorem first_sectors {now : List Sec} (hw : ∀ s ∈ now, s.length = 256) {pos k n : Nat} (hk : pos + k < now.length) (hno : ∀ j, j < k → lengthM (accB now pos (j + 1)) = 0) (hn : lengthM (accB now pos (k + 1)) = n) (h0 : 0 < n) : (n + 255) / 256 = k + 1 := by
  obtain ⟨h1, h2, h3, h4, h5⟩ := lengthM_pos (b := accB now pos (k + 1)) (by omega)
  rw [accB_length hw (by omega)] at h5
  have hlow : 256 * k < n := by
    cases k with
    | zero => omega
    | succ k =>
      have h := hno k (by omega)
      have hl := accB_length hw (pos := pos) (k := k + 1) (by omega)
      have he : (accB now pos (k + 1)).take 8 = (accB now pos (k + 1 + 1)).take 8 := by rw [accB_succ (k := k + 1) (by omega), List.take_append_of_le_length (by omega)]
      rw [lengthM_of (n := n) (by omega) (by rw [he, ← h1, hn]) (by omega), hl] at h
      split at h <;> omega
  omega
/-- A frame stands next, or none. -/
structure Stands (now : List Sec) (pos lim k n : Nat) (f : List UInt8) : Prop where
  lt : k < lim
  no : ∀ j, j < k → lengthM (accB now pos (j + 1)) = 0
  is : lengthM (accB now pos (k + 1)) = n
  n0 : 0 < n
  most : n ≤ 16384
  take : (accB now pos (k + 1)).take n = f
  len : f.length = n
  lenM : lengthM f = n
  secs : (n + 255) / 256 = k + 1
theorem next_split {now : List Sec} (hw : ∀ s ∈ now, s.length = 256) {pos lim : Nat} (h : pos + lim ≤ now.length) : (∃ k n f, Stands now pos lim k n f) ∨ ∀ j, j < lim → lengthM (accB now pos (j + 1)) = 0 := by
  obtain ⟨k, hk1, hk2, hk3⟩ := first_or_none (fun k => 0 < lengthM (accB now pos (k + 1))) lim
  have hk2' : ∀ t, t < k → lengthM (accB now pos (t + 1)) = 0 := fun t ht => by
    have h1 := hk2 t ht
    have h2 := (lengthM_nonneg (accB now pos (t + 1))).1
    omega
  by_cases hk : k < lim
  · have hpos := hk3 hk
    obtain ⟨n, hn⟩ : ∃ n : Nat, lengthM (accB now pos (k + 1)) = n := ⟨_, (Int.toNat_of_nonneg (lengthM_nonneg _).1).symm⟩
    have hb := lengthM_pos hpos
    rw [hn] at hb hpos
    have h0 : 0 < n := by omega
    obtain ⟨ht1, ht2⟩ := lengthM_take hn h0
    exact .inl ⟨k, n, _, hk, hk2', hn, h0, by omega, rfl, ht2, ht1, first_sectors hw (by omega) hk2' hn h0⟩
  · obtain rfl : k = lim := by omega
    exact .inr hk2'
/-- What a party knows of its disk. -/
theorem w_disk {P : Program} {N : Nat} {c : Con} {Q : Exit → Act → World → Prop} {code : Code} {E : Env} {L F : List HP} {p : Nat} {D : DiskM} (hp : Pick L (DiskAt p D) F) (h : D.WF → W P N c Q code E L) : W P N c Q code E L := fun a w hf H => h (St.openDisk (hp.st H)).1 a w hf H
attribute [local irreducible] Y OW YK OWK W WL WP X CV Ev Evs HasCell HasCells Has Met Again Kept
section
variable {c : Con} {F : List HP} {w : World} {p b : Nat} {D D' : DiskM} {A A' : AreaM}
theorem c_next_some {k lim n : Nat} {f : List UInt8} (hd : D.down = false) (hlim : min (A.hi - A.pos) 64 = lim) (hb : A.hi ≤ D.now.length) (hk : k < lim) (hno : ∀ j, j < k → lengthM (accB D.now A.pos (j + 1)) = 0) (hn : lengthM (accB D.now A.pos (k + 1)) = n) (h0 : 0 < n) (hf : (accB D.now A.pos (k + 1)).take n = f) (hA : { A with pos := A.pos + k + 1 } = A')
    (H : St c (AreaAt b p A :: DiskAt p D :: F) w) : Calls Try.prog 48 #[.pointer (some ⟨b, 0, none⟩)] w fun e w' =>
    ∃ g : Nat, e = .returned (.tuple #[.slice (some ⟨g, 0, none⟩) n n, .int .i64 0]) ∧ St c (BkP g f :: AreaAt b p A' :: DiskAt p D :: F) w' := by
  subst hf hA
  refine (c_next hd hlim hb (by omega) hno (fun _ => by rw [hn]; omega) H).mono fun e w' h => ?_
  rcases h with ⟨_, g, h1, h2⟩ | ⟨h1, _⟩
  · rw [hn, Int.toNat_natCast] at h1 h2
    exact ⟨g, h1, h2⟩
  · omega
theorem c_next_none {lim : Nat} (hd : D.down = false) (hlim : min (A.hi - A.pos) 64 = lim) (hb : A.hi ≤ D.now.length) (hno : ∀ j, j < lim → lengthM (accB D.now A.pos (j + 1)) = 0)
    (H : St c (AreaAt b p A :: DiskAt p D :: F) w) : Calls Try.prog 48 #[.pointer (some ⟨b, 0, none⟩)] w fun e w' =>
    e = .returned (.tuple #[.slice none 0 0, .int .i64 0]) ∧ St c (AreaAt b p A :: DiskAt p D :: F) w' := by
  refine (c_next hd hlim hb (Nat.le_refl _) hno (fun h => by omega) H).mono fun e w' h => ?_
  rcases h with ⟨h1, _⟩ | ⟨_, h1⟩
  · omega
  · exact h1
theorem bkp_hasR {g n : Nat} {f : List UInt8} (hn : f.length = n) (h0 : 0 < n) (h1 : n ≤ 9223372036854775807) : HasR (St c (BkP g f :: F)) (.slice (some ⟨g, 0, none⟩) n n) n (bvs f) := by
  subst hn
  exact SubOf.hasR ⟨_, _, rfl, Nat.le_refl _, h1, fun e => (by cases e), .inr ⟨0, rfl, by simp⟩⟩ rfl
end
end Go.Proofs.Ytakeilefbcpabaa

/- Frames that lie in sectors, one behind the other. -/
namespace Go.Proofs.Ytakeilefbcpabaa
open Go.RowKit
/-- Sectors that lie from a place on. -/
def LaidAt (now : List Sec) (lo : Nat) (L : List Sec) : Prop := ∀ j s, L[j]? = some s → now[lo + j]? = some s
def secsOf (f : List UInt8) : List Sec := (chunks f).map pad
theorem secsOf_length (f : List UInt8) : (secsOf f).length = (f.length + 255) / 256 := by rw [secsOf, List.length_map, chunks_length]
def sizeS (fs : List (List UInt8)) : Nat := (fs.flatMap secsOf).length
theorem sizeS_nil : sizeS [] = 0 := rfl
theorem sizeS_snoc (fs : List (List UInt8)) (f : List UInt8) : sizeS (fs ++ [f]) = sizeS fs + (f.length + 255) / 256 := by simp [sizeS, secsOf_length]
theorem sizeS_cons (fs : List (List UInt8)) (f : List UInt8) : sizeS (f :: fs) = (f.length + 255) / 256 + sizeS fs := by simp [sizeS, secsOf_length]
theorem LaidAt.nil {now : List Sec} {lo : Nat} : LaidAt now lo [] := fun j s h => by simp at h
theorem LaidAt.append {now : List Sec} {lo : Nat} {L M : List Sec} (h : LaidAt now lo L) (k : LaidAt now (lo + L.length) M) : LaidAt now lo (L ++ M) := fun j s e => by
  rw [List.getElem?_append] at e
  split at e
  · exact h j s e
  · rename_i hj
    have := k (j - L.length) s e
    rwa [show lo + L.length + (j - L.length) = lo + j by omega] at this
theorem LaidAt.left {now : List Sec} {lo : Nat} {L M : List Sec} (h : LaidAt now lo (L ++ M)) : LaidAt now lo L := fun j s e => h j s (by
  rw [List.getElem?_append_left (List.getElem?_eq_some_iff.1 e).1]; exact e)
theorem LaidAt.right {now : List Sec} {lo : Nat} {L M : List Sec} (h : LaidAt now lo (L ++ M)) : LaidAt now (lo + L.length) M := fun j s e => by
  have := h (L.length + j) s (by rw [List.getElem?_append_right (by omega), Nat.add_sub_cancel_left]; exact e)
  rwa [← Nat.add_assoc] at this
theorem LaidAt.keep {now now' : List Sec} {lo : Nat} {L : List Sec} (h : LaidAt now lo L) (k : ∀ t, lo ≤ t → t < lo + L.length → now'[t]? = now[t]?) : LaidAt now' lo L := fun j s e => by
  have hj := (List.getElem?_eq_some_iff.1 e).1
  rw [k _ (by omega) (by omega)]; exact h j s e
/-- Which sectors several writes turn. -/
theorem wrTo_get {D : DiskM} {n pos : Nat} {a : Int} (h : Steady D n a) {cs : List (List UInt8)} (hc : ∀ i, i < cs.length → (cs.getD i []).length ≤ 256) (hp : pos + cs.length ≤ n) (ha : 0 ≤ a ∧ a + cs.length < 4611686018427387904) :
    ∀ i, i ≤ cs.length → ∀ t, (wrTo D pos cs i).now[t]? = if pos ≤ t ∧ t < pos + i then some (pad (cs.getD (t - pos) [])) else D.now[t]?
  | 0, _, t => by rw [if_neg (by omega)]; rfl
  | i + 1, hi, t => by
    have h1 := h.wrTo hc hp ha i (by omega)
    rw [wrTo, h1.write_eq (i := ((pos + i : Nat) : Int)) ⟨by omega, by omega⟩ (hc i (by omega)) (by omega)]
    dsimp only
    rw [Int.toNat_natCast, List.getElem?_set, wrTo_get h hc hp ha i (by omega) t, h1.len]
    by_cases e : pos + i = t
    · subst e
      rw [if_pos rfl, if_pos (by omega), if_pos (by omega), Nat.add_sub_cancel_left]
    · rw [if_neg e]
      by_cases k : pos ≤ t ∧ t < pos + i
      · rw [if_pos k, if_pos (by omega)]
      · rw [if_neg k, if_neg (by omega)]
theorem frame_laid {D : DiskM} {n pos m : Nat} {a : Int} (h : Steady D n a) {f : List UInt8} (hm : (f.length + 255) / 256 = m) (hp : pos + m ≤ n) (ha : 0 ≤ a ∧ a + m < 4611686018427387904) :
    LaidAt (wrTo D pos (chunks f) m).now pos (secsOf f) ∧ ∀ t, (t < pos ∨ pos + m ≤ t) → (wrTo D pos (chunks f) m).now[t]? = D.now[t]? := by
  have hl : (chunks f).length = m := by rw [chunks_length, hm]
  have hg := wrTo_get h (pos := pos) (chunks_le f) (by omega) (by omega) m (by omega)
  refine ⟨fun j s e => ?_, fun t ht => by rw [hg, if_neg (by omega)]⟩
  have hj := (List.getElem?_eq_some_iff.1 e).1
  rw [secsOf, List.length_map, hl] at hj
  rw [hg, if_pos (by omega), Nat.add_sub_cancel_left]
  rw [secsOf, List.getElem?_map] at e
  rw [List.getD_eq_getElem?_getD]
  cases k : (chunks f)[j]? with
  | none => rw [k] at e; cases e
  | some c => rw [k] at e; exact e
/-- Several frames, and one behind them. -/
theorem laid_add {D : DiskM} {n lo m : Nat} {a : Int} (h : Steady D n a) {fs : List (List UInt8)} {f : List UInt8} (hl : LaidAt D.now lo (fs.flatMap secsOf)) (hm : (f.length + 255) / 256 = m) (hp : lo + sizeS fs + m ≤ n) (ha : 0 ≤ a ∧ a + m < 4611686018427387904) :
    LaidAt (wrTo D (lo + sizeS fs) (chunks f) m).now lo ((fs ++ [f]).flatMap secsOf) := by
  obtain ⟨h1, h2⟩ := frame_laid h (pos := lo + sizeS fs) hm hp ha
  rw [List.flatMap_append, List.flatMap_singleton]
  refine LaidAt.append (hl.keep fun t h3 h4 => h2 t (.inl ?_)) h1
  exact h4
/-- A frame that lies there stands next. -/
theorem accB_laid {now : List Sec} {pos : Nat} {L : List Sec} (h : LaidAt now pos L) {k : Nat} (hk : k ≤ L.length) : accB now pos k = (L.take k).flatten := by
  unfold accB
  congr 1
  apply List.ext_getElem?
  intro j
  rw [List.getElem?_take, List.getElem?_take]
  by_cases hj : j < k
  · rw [if_pos hj, if_pos hj, List.getElem?_drop]
    obtain ⟨s, hs⟩ : ∃ s, L[j]? = some s := ⟨_, List.getElem?_eq_getElem (by omega)⟩
    rw [hs, h j s hs]
  · rw [if_neg hj, if_neg hj]
theorem chunks_cat (f : List UInt8) : ∀ k, 256 * k ≤ f.length → (((chunks f).take k).map pad).flatten = f.take (256 * k)
  | 0, _ => by simp
  | k + 1, h => by
    have hk : k < (f.length + 255) / 256 := by omega
    have hl : k < (chunks f).length := by rw [chunks_length]; exact hk
    have hg := chunks_get f hk
    rw [List.getD_eq_getElem?_getD, List.getElem?_eq_getElem hl] at hg
    have hg : (chunks f)[k] = chunkB f k := hg
    rw [List.take_succ_eq_append_getElem hl, List.map_append, List.flatten_append, chunks_cat f k (by omega), hg]
    have hc : (chunkB f k).length = 256 := by rw [chunkB_length]; omega
    have hp : pad (chunkB f k) = chunkB f k := by unfold pad; rw [hc]; simp [zeros]
    simp only [List.map_cons, List.map_nil, List.flatten_cons, List.flatten_nil, List.append_nil, hp]
    unfold chunkB
    rw [show min 256 (f.length - 256 * k) = 256 by omega, show 256 * (k + 1) = 256 * k + 256 by omega]
    rw [List.drop_take, show 256 * k + 256 - 256 * k = 256 by omega, ← List.take_add]
theorem secs_cat (f : List UInt8) : ∃ z, (secsOf f).flatten = f ++ List.replicate z 0 := by
  by_cases h0 : f.length % 256 = 0
  · refine ⟨0, ?_⟩
    have h := chunks_cat f ((f.length + 255) / 256) (by omega)
    rw [List.take_of_length_le (by rw [chunks_length]; omega), List.take_of_length_le (by omega)] at h
    rw [secsOf, h]; simp
  · obtain ⟨k, hk⟩ : ∃ k, (f.length + 255) / 256 = k + 1 := ⟨f.length / 256, by omega⟩
    have hl : (chunks f).length = k + 1 := by rw [chunks_length, hk]
    have h := chunks_cat f k (by omega)
    have hg := chunks_get f (j := k) (by omega)
    rw [List.getD_eq_getElem?_getD, List.getElem?_eq_getElem (by omega)] at hg
    have hg : (chunks f)[k]'(by omega) = chunkB f k := hg
    have e : chunks f = (chunks f).take k ++ [chunkB f k] := by
      rw [← hg, ← List.take_succ_eq_append_getElem (by omega), List.take_of_length_le (by omega)]
    refine ⟨256 - (chunkB f k).length, ?_⟩
    rw [secsOf, e, List.map_append, List.flatten_append, h]
    simp only [List.map_cons, List.map_nil, List.flatten_cons, List.flatten_nil, List.append_nil]
    unfold pad
    rw [← List.append_assoc]
    congr 1
    unfold chunkB
    have e3 : f.take (256 * k + min 256 (f.length - 256 * k)) = f := List.take_of_length_le (by omega)
    rw [e3, List.take_append_drop]
theorem stands_of {now : List Sec} {pos lim : Nat} {f : List UInt8} (hw : ∀ s ∈ now, s.length = 256) (h : LaidAt now pos (secsOf f)) (hne : f ≠ []) (hM : lengthM f = f.length) (hlim : (f.length + 255) / 256 ≤ lim) (hn : pos + lim ≤ now.length) :
    ∃ k, Stands now pos lim k f.length f ∧ k + 1 = (f.length + 255) / 256 := by
  have hlen : 0 < f.length := List.length_pos_iff.2 hne
  obtain ⟨h1, h2, h3, h4, h5⟩ := lengthM_pos (b := f) (by omega)
  obtain ⟨k, hk⟩ : ∃ k, (f.length + 255) / 256 = k + 1 := ⟨(f.length - 1) / 256, by omega⟩
  obtain ⟨z, hz⟩ := secs_cat f
  have hsl := secsOf_length f
  have hacc : accB now pos (k + 1) = f ++ List.replicate z 0 := by
    rw [accB_laid h (by omega), List.take_of_length_le (by omega), hz]
  have haccl : ∀ j, j ≤ k → (accB now pos (j + 1)).length = 256 * (j + 1) := fun j hj => accB_length hw (by omega)
  have hpre : ∀ j, j ≤ k → (accB now pos (j + 1)).take 8 = f.take 8 := fun j hj => by
    have h8 : (accB now pos (j + 1)).take 8 = (accB now pos (k + 1)).take 8 := by
      have e : accB now pos (j + 1) = (accB now pos (k + 1)).take (256 * (j + 1)) := by
        have e1 : (now.drop pos).take (k + 1) = (now.drop pos).take (j + 1) ++ ((now.drop pos).drop (j + 1)).take (k - j) := by
          rw [show k + 1 = (j + 1) + (k - j) by omega, List.take_add]
        have e2 : accB now pos (k + 1) = accB now pos (j + 1) ++ (((now.drop pos).drop (j + 1)).take (k - j)).flatten := by
          unfold accB; rw [e1, List.flatten_append]
        rw [e2, ← haccl j hj, List.take_left]
      rw [e, List.take_take, Nat.min_eq_left (by omega)]
    rw [h8, hacc, List.take_append_of_le_length h2]
  refine ⟨k, ⟨by omega, fun j hj => ?_, ?_, hlen, by omega, ?_, rfl, hM, hk⟩, hk.symm⟩
  · rw [lengthM_of (n := (f.length : Int)) (by rw [haccl j (by omega)]; omega) (by rw [hpre j (by omega), ← h1, hM]) (by omega), haccl j (by omega), if_neg (by omega)]
  · rw [lengthM_of (n := (f.length : Int)) (by rw [haccl k (by omega)]; omega) (by rw [hpre k (by omega), ← h1, hM]) (by omega), haccl k (by omega), if_pos (by omega)]
  · rw [hacc, List.take_left]
theorem sizeS_take {us : List (List UInt8)} {i : Nat} {f : List UInt8} (h : us[i]? = some f) : sizeS (us.take (i + 1)) = sizeS (us.take i) + (f.length + 255) / 256 := by
  have hl := (List.getElem?_eq_some_iff.1 h).1
  have e : us[i] = f := by rw [List.getElem?_eq_getElem hl] at h; exact Option.some.inj h
  rw [List.take_succ_eq_append_getElem hl, e, sizeS_snoc]
theorem sizeS_take_le (us : List (List UInt8)) (i : Nat) : sizeS (us.take i) ≤ sizeS us := by
  have e : us = us.take i ++ us.drop i := (List.take_append_drop i us).symm
  have ha : ∀ a b : List (List UInt8), sizeS (a ++ b) = sizeS a + sizeS b := fun a b => by simp [sizeS]
  have h := ha (us.take i) (us.drop i)
  rw [← e] at h
  omega
theorem laid_nth {now : List Sec} {lo : Nat} {us : List (List UInt8)} (h : LaidAt now lo (us.flatMap secsOf)) {i : Nat} {f : List UInt8} (hf : us[i]? = some f) : LaidAt now (lo + sizeS (us.take i)) (secsOf f) := by
  have hl := (List.getElem?_eq_some_iff.1 hf).1
  have e1 : us[i] = f := by rw [List.getElem?_eq_getElem hl] at hf; exact Option.some.inj hf
  have e : us = us.take i ++ (f :: us.drop (i + 1)) := by rw [← e1, ← List.drop_eq_getElem_cons hl, List.take_append_drop]
  rw [e, List.flatMap_append] at h
  have h2 := h.right
  rw [List.flatMap_cons] at h2
  exact h2.left
/-- Frames as strings, in memory. -/
theorem cell_nth {g T n j o : Nat} {cur : List Value} {us : List (List UInt8)} {H : World → Prop} {f : List UInt8} (h : Has H g (.cells cur.toArray T (0, 0))) (hc : cur.take (n * 1) = us.map str) (hn : us.length = n) (hf : us[j]? = some f) (ho : o = 0 + j * 1) : HasCell H ⟨g, o, none⟩ (str f) := by
  subst ho
  refine hasCell_bl h ?_
  have hj := (List.getElem?_eq_some_iff.1 hf).1
  have e : (us.map str)[j]? = some (str f) := by rw [List.getElem?_map, hf]; rfl
  rw [← hc, List.getElem?_take] at e
  split at e
  · simpa using e
  · cases e
/-- A frame as it may be added. -/
structure FrameOk (f : List UInt8) (most : Nat) : Prop where
  ne : f ≠ []
  is : lengthM f = f.length
  le : f.length ≤ most
theorem frame_ok (s : List UInt8) (hs : s.length ≤ 16376) {most : Nat} (hm : max s.length 40 + 8 ≤ most) : FrameOk (frameB s) most := ⟨frame_ne s, lengthM_frame s hs, by rw [frameB_length]; exact hm⟩
end Go.Proofs.Ytakeilefbcpabaa

/- Rows of elements of many cells: what lies in a block from an element on. No program in sight. -/
namespace Go.Proofs.Ytakeilefbcpabaa
section
variable {α : Type} {f : α → List Value} {sz : Nat}
/-- All elements have so many cells. -/
def Szd (f : α → List Value) (sz : Nat) (l : List α) : Prop := ∀ x ∈ l, (f x).length = sz
theorem Szd.tail {x : α} {l : List α} (h : Szd f sz (x :: l)) : Szd f sz l := fun y hy => h y (List.mem_cons_of_mem _ hy)
theorem Szd.head {x : α} {l : List α} (h : Szd f sz (x :: l)) : (f x).length = sz := h x List.mem_cons_self
theorem Szd.append {l m : List α} (h : Szd f sz l) (k : Szd f sz m) : Szd f sz (l ++ m) := fun y hy => (List.mem_append.1 hy).elim (h y) (k y)
theorem Szd.filter {l : List α} (h : Szd f sz l) (p : α → Bool) : Szd f sz (l.filter p) := fun y hy => h y (List.mem_filter.1 hy).1
theorem Szd.take {l : List α} (h : Szd f sz l) (n : Nat) : Szd f sz (l.take n) := fun y hy => h y (List.mem_of_mem_take hy)
theorem Szd.drop {l : List α} (h : Szd f sz l) (n : Nat) : Szd f sz (l.drop n) := fun y hy => h y (List.mem_of_mem_drop hy)
theorem Szd.get {l : List α} (h : Szd f sz l) {j : Nat} (hj : j < l.length) : (f l[j]).length = sz := h _ (List.getElem_mem hj)
theorem flat_length : ∀ {l : List α}, Szd f sz l → (l.flatMap f).length = l.length * sz
  | [], _ => by simp
  | x :: l, h => by rw [List.flatMap_cons, List.length_append, h.head, flat_length h.tail, List.length_cons, Nat.add_mul, Nat.one_mul, Nat.add_comm]
theorem flat_at : ∀ {l : List α}, Szd f sz l → ∀ (j : Nat) (hj : j < l.length), ((l.flatMap f).drop (j * sz)).take sz = f l[j]
  | x :: l, h, 0, _ => by
    rw [Nat.zero_mul, List.drop_zero, List.flatMap_cons]
    exact List.take_left' h.head
  | x :: l, h, j + 1, hj => by
    rw [List.flatMap_cons, Nat.add_mul, Nat.one_mul, Nat.add_comm (j * sz), ← List.drop_drop, List.drop_left' h.head]
    exact flat_at h.tail j (by simpa using hj)
/-- The row's cells are those elements from element i on. -/
def RowFrom (f : α → List Value) (sz : Nat) (cur : List Value) (i : Nat) (l : List α) : Prop := (cur.drop (i * sz)).take (l.length * sz) = l.flatMap f ∧ (i + l.length) * sz ≤ cur.length
theorem rowFrom_of {cur : List Value} {l : List α} {n : Nat} (hn : l.length = n) (h : cur.take (n * sz) = l.flatMap f) (hl : n * sz ≤ cur.length) : RowFrom f sz cur 0 l := by
  subst hn
  exact ⟨by rw [Nat.zero_mul, List.drop_zero]; exact h, by rw [Nat.zero_add]; exact hl⟩
theorem RowFrom.head {cur : List Value} {l : List α} (h : RowFrom f sz cur 0 l) : cur.take (l.length * sz) = l.flatMap f := by
  have := h.1; rwa [Nat.zero_mul, List.drop_zero] at this
theorem RowFrom.get {cur : List Value} {i : Nat} {l : List α} (h : RowFrom f sz cur i l) (hl : Szd f sz l) {j : Nat} (hj : j < l.length) : (cur.drop ((i + j) * sz)).take sz = f l[j] := by
  have h1 := flat_at hl j hj
  have h2 : j * sz + sz ≤ l.length * sz := by rw [← Nat.succ_mul]; exact Nat.mul_le_mul_right _ hj
  rw [← h.1, List.drop_take, List.drop_drop, List.take_take, Nat.min_eq_left (by omega), ← Nat.add_mul] at h1
  exact h1
theorem RowFrom.tail {cur : List Value} {i : Nat} {x : α} {l : List α} (h : RowFrom f sz cur i (x :: l)) (hx : (f x).length = sz) : RowFrom f sz cur (i + 1) l := by
  obtain ⟨h1, h2⟩ := h
  rw [List.length_cons] at h1 h2
  refine ⟨?_, by rw [show i + 1 + l.length = i + (l.length + 1) by omega]; exact h2⟩
  have h3 := congrArg (List.drop sz) h1
  rw [List.drop_take, List.drop_drop, List.flatMap_cons, List.drop_left' hx, Nat.add_mul, Nat.one_mul, Nat.add_sub_cancel] at h3
  rw [Nat.add_mul, Nat.one_mul]; exact h3
theorem RowFrom.drop {cur : List Value} : ∀ {l : List α} {i : Nat} (_ : RowFrom f sz cur i l) (_ : Szd f sz l) (n : Nat), RowFrom f sz cur (i + n) (l.drop n) ∨ l.length < n
  | l, i, h, _, 0 => .inl h
  | [], _, _, _, n + 1 => .inr (by simp)
  | x :: l, i, h, hl, n + 1 => by
    rcases RowFrom.drop (h.tail hl.head) hl.tail n with k | k
    · left; rw [show i + (n + 1) = i + 1 + n by omega]; exact k
    · right; simpa using k
theorem RowFrom.take {cur : List Value} {i : Nat} {l : List α} (h : RowFrom f sz cur i l) (hl : Szd f sz l) (n : Nat) : RowFrom f sz cur i (l.take n) := by
  obtain ⟨h1, h2⟩ := h
  have h3 : (l.take n).length ≤ l.length := by rw [List.length_take]; omega
  have h4 : (l.take n).length * sz ≤ l.length * sz := Nat.mul_le_mul_right _ h3
  refine ⟨?_, Nat.le_trans (Nat.mul_le_mul_right _ (by omega)) h2⟩
  have h5 := congrArg (List.take ((l.take n).length * sz)) h1
  rw [List.take_take, Nat.min_eq_left h4] at h5
  rw [h5]
  have h6 : l.flatMap f = (l.take n).flatMap f ++ (l.drop n).flatMap f := by rw [← List.flatMap_append, List.take_append_drop]
  rw [h6, ← flat_length (hl.take n), List.take_left]
/-- An element is laid at the end of those that are kept. -/
theorem RowFrom.put {cur : List Value} {kept : List α} {x : α} (h : RowFrom f sz cur 0 kept) (hk : Szd f sz kept) (hx : (f x).length = sz) (hfit : (kept.length + 1) * sz ≤ cur.length) : RowFrom f sz (splice cur (kept.length * sz) (f x)) 0 (kept ++ [x]) := by
  have hfit' : kept.length * sz + (f x).length ≤ cur.length := by rw [hx, ← Nat.succ_mul]; exact hfit
  refine ⟨?_, ?_⟩
  · rw [Nat.zero_mul, List.drop_zero, List.flatMap_append, List.length_append, List.length_singleton, splice, h.head]
    have e : (kept.length + 1) * sz = (kept.flatMap f ++ f x).length := by rw [List.length_append, flat_length hk, hx, Nat.succ_mul]
    rw [e, List.take_left]
    simp
  · rw [splice_length hfit', List.length_append, List.length_singleton, Nat.zero_add]; exact hfit
/-- What lies behind isn't touched. -/
theorem RowFrom.behind {cur : List Value} {o j : Nat} {l : List α} {vs : List Value} (h : RowFrom f sz cur j l) (ho : o + vs.length ≤ j * sz) : RowFrom f sz (splice cur o vs) j l := by
  obtain ⟨h1, h2⟩ := h
  have h3 : j * sz ≤ cur.length := Nat.le_trans (Nat.mul_le_mul_right _ (by omega)) h2
  refine ⟨?_, by rw [splice_length (by omega)]; exact h2⟩
  rw [← h1]
  congr 1
  have hlen : (cur.take o ++ vs).length = o + vs.length := by rw [List.length_append, List.length_take]; omega
  rw [splice, List.drop_append, List.drop_of_length_le (by omega), List.nil_append, List.drop_drop]
  congr 1
  omega
theorem RowFrom.ahead {cur : List Value} {i o : Nat} {l : List α} {zs : List Value} (h : RowFrom f sz cur i l) (ho : (i + l.length) * sz ≤ o) (hfit : o + zs.length ≤ cur.length) : RowFrom f sz (splice cur o zs) i l := by
  obtain ⟨h1, h2⟩ := h
  refine ⟨?_, by rw [splice_length hfit]; exact h2⟩
  rw [← h1, splice, List.append_assoc]
  have h3 : i * sz + l.length * sz ≤ o := by rw [← Nat.add_mul]; exact ho
  rw [List.drop_append_of_le_length (by rw [List.length_take]; omega), List.take_append_of_le_length (by rw [List.length_drop, List.length_take]; omega), List.drop_take, List.take_take, Nat.min_eq_left (by omega)]
/-- An element is turned in its place. -/
theorem RowFrom.set {cur : List Value} {l : List α} {x : α} {j : Nat} (h : RowFrom f sz cur 0 l) (hl : Szd f sz l) (hx : (f x).length = sz) (hj : j < l.length) : RowFrom f sz (splice cur (j * sz) (f x)) 0 (l.set j x) := by
  have hb : (j + 1) * sz ≤ l.length * sz := Nat.mul_le_mul_right _ hj
  have hb' : j * sz + sz ≤ l.length * sz := by rw [← Nat.succ_mul]; exact Nat.mul_le_mul_right _ hj
  have hc : l.length * sz ≤ cur.length := by have := h.2; rwa [Nat.zero_add] at this
  have hlt : (l.take j).length = j := by rw [List.length_take]; omega
  have h1 := ((h.take hl j).put (hl.take j) hx (by rw [hlt]; omega))
  rw [hlt] at h1
  have h2 : RowFrom f sz cur (j + 1) (l.drop (j + 1)) := by
    rcases h.drop hl (j + 1) with k | k
    · rw [Nat.zero_add] at k; exact k
    · omega
  have h3 := h2.behind (o := j * sz) (vs := f x) (by rw [hx, ← Nat.succ_mul]; exact Nat.le_refl _)
  obtain ⟨a1, a2⟩ := h1
  obtain ⟨b1, b2⟩ := h3
  have hset : l.set j x = (l.take j ++ [x]) ++ l.drop (j + 1) := by rw [List.set_eq_take_append_cons_drop, if_pos hj]; simp
  have hll : (l.take j ++ [x]).length = j + 1 := by rw [List.length_append, hlt, List.length_singleton]
  rw [Nat.zero_mul, List.drop_zero, hll] at a1
  refine ⟨?_, ?_⟩
  · rw [hset, List.flatMap_append, ← a1, ← b1, Nat.zero_mul, List.drop_zero, List.length_append, hll, Nat.add_mul]
    rw [List.take_add]
  · rw [List.length_set, splice_length (by rw [hx]; omega), Nat.zero_add]; exact hc
end
end Go.Proofs.Ytakeilefbcpabaa

/- Somebody writes a sector: what Forge does; DeleteFunc at waiting writes. -/
namespace Go.Proofs.Ytakeilefbcpabaa
open Go.RowKit
attribute [local irreducible] Y OW YK OWK W WL WP X CV Ev Evs HasCell HasCells Has Met Again Kept

abbrev delV (t : Nat) : Value := .func (.func 63) #[] #[.pointer (some ⟨t, 0, none⟩)]
/-- The first write of a sector; -1: none. -/
def firstOf (i : Int) (l : List (Nat × Sec)) : Int := if l.findIdx (fun x => decide ((x.1 : Int) = i)) < l.length then (l.findIdx (fun x => decide ((x.1 : Int) = i)) : Nat) else -1
def others (i : Int) (l : List (Nat × Sec)) : List (Nat × Sec) := l.filter fun x => !decide ((x.1 : Int) = i)
theorem firstOf_hit {i : Int} {l : List (Nat × Sec)} {j : Nat} (hj : j < l.length) (h : ∀ x ∈ l.take j, (x.1 : Int) ≠ i) (hx : (l[j].1 : Int) = i) : firstOf i l = j := by
  have e : l.findIdx (fun x => decide ((x.1 : Int) = i)) = j := by
    rw [List.findIdx_eq hj]
    refine ⟨by simpa using hx, fun k hk => ?_⟩
    have := h l[k] (List.mem_take_iff_getElem.2 ⟨k, by omega, rfl⟩)
    simpa using this
  unfold firstOf
  rw [e, if_pos hj]
theorem firstOf_miss {i : Int} {l : List (Nat × Sec)} (h : ∀ x ∈ l, (x.1 : Int) ≠ i) : firstOf i l = -1 := by
  unfold firstOf
  rw [if_neg]
  intro k
  obtain ⟨x, hx, hp⟩ := List.findIdx_lt_length.1 k
  exact h x hx (by simpa using hp)
theorem none_succ {i : Int} {l : List (Nat × Sec)} {j : Nat} (hj : j < l.length) (h : ∀ x ∈ l.take j, (x.1 : Int) ≠ i) (hx : (l[j].1 : Int) ≠ i) : ∀ x ∈ l.take (j + 1), (x.1 : Int) ≠ i := by
  rw [List.take_succ_eq_append_getElem hj]
  intro x hx'
  rcases List.mem_append.1 hx' with h' | h'
  · exact h x h'
  · rw [List.mem_singleton.1 h']; exact hx
theorem others_take_hit {i : Int} {l : List (Nat × Sec)} {j : Nat} (hj : j < l.length) (hx : (l[j].1 : Int) = i) : others i (l.take (j + 1)) = others i (l.take j) := by
  unfold others; rw [List.take_succ_eq_append_getElem hj, List.filter_append, List.filter_cons_of_neg (by simpa using hx)]; simp
theorem others_take_miss {i : Int} {l : List (Nat × Sec)} {j : Nat} (hj : j < l.length) (hx : (l[j].1 : Int) ≠ i) : others i (l.take (j + 1)) = others i (l.take j) ++ [l[j]] := by
  unfold others; rw [List.take_succ_eq_append_getElem hj, List.filter_append, List.filter_cons_of_pos (by simpa using hx)]; simp
theorem others_all {i : Int} {l : List (Nat × Sec)} (h : ∀ x ∈ l, (x.1 : Int) ≠ i) : others i l = l := List.filter_eq_self.2 fun x hx => by simpa using h x hx
theorem others_le (i : Int) (l : List (Nat × Sec)) : (others i l).length ≤ l.length := List.length_filter_le _ _
theorem others_lt {i : Int} {l : List (Nat × Sec)} {j : Nat} (hj : j < l.length) (hx : (l[j].1 : Int) = i) {m : Nat} (hm : j < m) (hml : m ≤ l.length) : (others i (l.take m)).length < m := by
  have h1 : (l.take m).length = m := by rw [List.length_take]; omega
  have h2 := (List.length_filter_lt_length_iff_exists (l := l.take m) (p := fun x : Nat × Sec => !decide ((x.1 : Int) = i))).2 ⟨l[j], List.mem_take_iff_getElem.2 ⟨j, by omega, rfl⟩, by simpa using hx⟩
  unfold others; omega
theorem firstOf_cases (i : Int) (l : List (Nat × Sec)) : (firstOf i l = -1 ∧ ∀ x ∈ l, (x.1 : Int) ≠ i) ∨ ∃ j, ∃ hj : j < l.length, firstOf i l = j ∧ (l[j].1 : Int) = i ∧ ∀ x ∈ l.take j, (x.1 : Int) ≠ i := by
  by_cases h : ∀ x ∈ l, (x.1 : Int) ≠ i
  · exact .inl ⟨firstOf_miss h, h⟩
  · right
    have hlt : l.findIdx (fun x => decide ((x.1 : Int) = i)) < l.length := by
      rw [List.findIdx_lt_length]
      simp only [Classical.not_forall] at h
      obtain ⟨x, hx, hp⟩ := h
      exact ⟨x, hx, by simpa using hp⟩
    refine ⟨_, hlt, by unfold firstOf; rw [if_pos hlt], by simpa using List.findIdx_getElem (w := hlt), fun x hx => ?_⟩
    obtain ⟨k, hk, rfl⟩ := List.mem_take_iff_getElem.1 hx
    have := List.not_of_lt_findIdx (p := fun x : Nat × Sec => decide ((x.1 : Int) = i)) (xs := l) (i := k) (by omega)
    simpa using this
theorem szd_w {l : List (Nat × Sec)} (h : ∀ x ∈ l, x.2.length = 256) : Szd wcell 257 l := fun x hx => wcell_length (h x hx)
theorem wcell_one (x : Nat × Sec) : ∀ v ∈ wcell x, v.oneCell' = true := by
  intro v hv
  rcases List.mem_cons.1 hv with rfl | hv
  · rfl
  · exact bvs_oneCell _ v hv
theorem has_row {α : Type} {f : α → List Value} {sz : Nat} {H : World → Prop} {b T o : Nat} {fr : Nat × Nat} {cur : List Value} {l : List α} {i j : Nat} (h : Has H b (.cells cur.toArray T fr)) (hr : RowFrom f sz cur i l) (hl : Szd f sz l) (hj : j < l.length) (ho : o = (i + j) * sz) :
    HasCells H ⟨b, o, none⟩ (f l[j]) := by
  subst ho
  refine hasCells_bl h ?_
  rw [hl.get hj, List.toList_toArray]
  exact hr.get hl hj

section
variable {c : Con} {F : List HP} {w : World} {t g cap : Nat} {i : Int} {cur : List Value} {l : List (Nat × Sec)}
set_option maxRecDepth 100000 in
theorem del_f (x : Nat × Sec) (H : St c (Bl t 3 [.int .i64 i] :: F) w) :
    Calls Try.prog 63 #[.agg (wcell x).toArray, .pointer (some ⟨t, 0, none⟩)] w fun e w' => e = .returned (.bool (decide ((x.1 : Int) = i))) ∧ St c (Bl t 3 [.int .i64 i] :: F) w' := by
  refine calls_w (vs := [.agg (wcell x).toArray, .pointer (some ⟨t, 0, none⟩)]) Try.func63 rfl rfl rfl ?_ w H
  (repeat' (first
      | (with_reducible refine is_yk ?_; refine yk_auto (k := ?_))
      | (with_reducible refine is_owk0 ?_; refine owk0_auto (k := ?_))
      | (with_reducible refine is_owkc ?_; refine owk_auto (k := fun _ => ?_))
      | refine go1 (k := ?_)
      | (refine go2 (ka := ?_) (kb := ?_) <;> intro _)
      | fail))
  exact x_ret1 rfl rfl (fun w H => ⟨rfl, Sel.st sel_auto H⟩)

set_option maxRecDepth 100000 in
theorem index_f (hl : Szd wcell 257 l) (hn : l.length ≤ 1073741824) (hr : RowFrom wcell 257 cur 0 l) (H : St c (Bl g 111 cur :: Bl t 3 [.int .i64 i] :: F) w) :
    Calls Try.prog 68 #[.slice (some ⟨g, 0, none⟩) l.length cap, delV t] w fun e w' => e = .returned (.int .i64 (firstOf i l)) ∧ St c (Bl g 111 cur :: Bl t 3 [.int .i64 i] :: F) w' := by
  refine calls_w (vs := [.slice (some ⟨g, 0, none⟩) l.length cap, delV t]) Try.func68 rfl rfl rfl ?_ w H
  (repeat' (first
      | (with_reducible refine is_yk ?_; refine yk_auto (k := ?_))
      | (with_reducible refine is_owk0 ?_; refine owk0_auto (k := ?_))
      | (with_reducible refine is_owkc ?_; refine owk_auto (k := fun _ => ?_))
      | refine go1 (k := ?_)
      | (refine go2 (ka := ?_) (kb := ?_) <;> intro _)
      | fail))
  refine w_loop (α := Nat) (fun j => j ≤ l.length ∧ ∀ x ∈ l.take j, (x.1 : Int) ≠ i) (fun j => [(0, .slice (some ⟨g, 0, none⟩) l.length cap), (1, delV t), (7, .int .i64 l.length), (8, .int .i64 (j : Int))])
    (fun _ => _) (fun j => l.length - j) 0 ⟨Nat.zero_le _, by simp⟩ sub_auto sel_all (fun j hj => ?_)
  obtain ⟨hj, hno⟩ := hj
  by_cases hlt : j < l.length
  · (repeat' (first
      | (with_reducible refine is_owkc ?_; first | refine owk_fv1 (caps := [.pointer (some ⟨t, 0, none⟩)]) (ev_tmp rfl) evs_auto (by kernel_rfl) pick_auto rfl (fun w H => del_f l[j] H) ?_)
      | (with_reducible refine is_yk ?_; first | refine yk (y_loadN (ev_tmp rfl) (has_row has_auto hr hl hlt (by omega)) (hl.get hlt)) ?_)
      | (with_reducible refine is_yk ?_; refine yk_auto (k := ?_))
      | (with_reducible refine is_owk0 ?_; refine owk0_auto (k := ?_))
      | (with_reducible refine is_owkc ?_; refine owk_auto (k := fun _ => ?_))
      | refine go1 (k := ?_)
      | (refine go2 (ka := ?_) (kb := ?_) <;> intro _)
      | fail))
    · rename_i hx
      rw [firstOf_hit hlt hno hx]
      exact x_ret1 rfl rfl (fun w H => ⟨rfl, Sel.st sel_auto H⟩)
    · rename_i hx
      exact x_again (j + 1) ⟨hlt, none_succ hlt hno hx⟩ (by omega) sub_auto sel_auto
  · have hall : ∀ x ∈ l, (x.1 : Int) ≠ i := by rwa [List.take_of_length_le (by omega)] at hno
    (repeat' (first
      | (with_reducible refine is_yk ?_; refine yk_auto (k := ?_))
      | (with_reducible refine is_owk0 ?_; refine owk0_auto (k := ?_))
      | (with_reducible refine is_owkc ?_; refine owk_auto (k := fun _ => ?_))
      | refine go1 (k := ?_)
      | (refine go2 (ka := ?_) (kb := ?_) <;> intro _)
      | fail))
    rw [firstOf_miss hall]
    exact x_ret1 rfl rfl (fun w H => ⟨rfl, H⟩)
theorem index_is {m : Int} (hm : firstOf i l = m) (hl : Szd wcell 257 l) (hn : l.length ≤ 1073741824) (hr : RowFrom wcell 257 cur 0 l) (H : St c (Bl g 111 cur :: Bl t 3 [.int .i64 i] :: F) w) :
    Calls Try.prog 68 #[.slice (some ⟨g, 0, none⟩) l.length cap, delV t] w fun e w' => e = .returned (.int .i64 m) ∧ St c (Bl g 111 cur :: Bl t 3 [.int .i64 i] :: F) w' := by
  subst hm; exact index_f hl hn hr H

/-- What DeleteFunc leaves in the block. -/
def Left (cur : List Value) (i : Int) (l : List (Nat × Sec)) (cur' : List Value) : Prop := cur'.length = cur.length ∧ RowFrom wcell 257 cur' 0 (others i l)
set_option maxRecDepth 100000 in
set_option maxHeartbeats 1000000 in
theorem delete_f (hl : Szd wcell 257 l) (hn : l.length ≤ 1073741824) (hr : RowFrom wcell 257 cur 0 l) (hc : l.length ≤ cap) (hcap : cap ≤ 9223372036854775807) (H : St c (Bl g 111 cur :: Bl t 3 [.int .i64 i] :: F) w) :
    Calls Try.prog 62 #[.slice (some ⟨g, 0, none⟩) l.length cap, delV t] w fun e w' => ∃ cur' : { cur' // Left cur i l cur' }, e = .returned (.slice (some ⟨g, 0, none⟩) (others i l).length cap) ∧
      St c (Bl g 111 cur'.1 :: Bl t 3 [.int .i64 i] :: F) w' := by
  refine calls_w (vs := [.slice (some ⟨g, 0, none⟩) l.length cap, delV t]) Try.func62 rfl rfl rfl ?_ w H
  rcases firstOf_cases i l with ⟨h1, h2⟩ | ⟨k, hk, h1, h2, h3⟩
  · have ho := others_all h2
    (repeat' (first
      | (with_reducible refine is_owkc ?_; first | refine owk_c2 evs_auto (by kernel_rfl) pick_auto pick_auto (fun w H => index_is h1 hl hn hr H) ?_)
      | (with_reducible refine is_yk ?_; refine yk_auto (k := ?_))
      | (with_reducible refine is_owk0 ?_; refine owk0_auto (k := ?_))
      | (with_reducible refine is_owkc ?_; refine owk_auto (k := fun _ => ?_))
      | refine go1 (k := ?_)
      | (refine go2 (ka := ?_) (kb := ?_) <;> intro _)
      | fail))
    refine x_ret1 rfl rfl (fun w H => ⟨⟨cur, rfl, by rw [ho]; exact hr⟩, by rw [ho], H⟩)
  · (repeat' (first
      | (with_reducible refine is_owkc ?_; first | refine owk_c2 evs_auto (by kernel_rfl) pick_auto pick_auto (fun w H => index_is h1 hl hn hr H) ?_)
      | (with_reducible refine is_yk ?_; refine yk_auto (k := ?_))
      | (with_reducible refine is_owk0 ?_; refine owk0_auto (k := ?_))
      | (with_reducible refine is_owkc ?_; refine owk_auto (k := fun _ => ?_))
      | refine go1 (k := ?_)
      | (refine go2 (ka := ?_) (kb := ?_) <;> intro _)
      | fail))
    have hk1 : others i (l.take (k + 1)) = l.take k := by
      rw [others_take_hit hk h2, others_all h3]
    have hk2 : (l.take k).length = k := by rw [List.length_take]; omega
    have hd1 : RowFrom wcell 257 cur (k + 1) (l.drop (k + 1)) := by
      rcases hr.drop hl (k + 1) with h | h
      · rwa [Nat.zero_add] at h
      · omega
    refine w_loop (α := Nat × Nat × List Value) (fun x => k < x.1 ∧ x.1 ≤ l.length ∧ x.2.1 = (others i (l.take x.1)).length ∧ x.2.2.length = cur.length ∧ RowFrom wcell 257 x.2.2 0 (others i (l.take x.1)) ∧ RowFrom wcell 257 x.2.2 x.1 (l.drop x.1))
      (fun x => [(0, .slice (some ⟨g, 0, none⟩) l.length cap), (1, delV t), (5, .int .i64 (x.2.1 : Int)), (6, .int .i64 (x.1 : Int))])
      (fun x => Bl g 111 x.2.2 :: Bl t 3 [.int .i64 i] :: F) (fun x => l.length - x.1) (k + 1, k, cur) ⟨by omega, hk, by rw [hk1, hk2], rfl, by rw [hk1]; exact hr.take hl k, hd1⟩ sub_auto sel_auto (fun x hx => ?_)
    obtain ⟨j, m, cu⟩ := x
    obtain ⟨p1, p2, p3, p4, p5, p6⟩ := hx
    dsimp only at p1 p2 p3 p4 p5 p6 ⊢
    have hcl : cap * 0 = 0 := Nat.mul_zero _
    have hmj : m < j := by rw [p3]; exact others_lt hk h2 p1 p2
    have hlen := hr.2
    rw [Nat.zero_add, ← p4] at hlen
    by_cases hlt : j < l.length
    · have hel : (cu.drop (j * 257)).take 257 = wcell l[j] := by
        have := p6.get (hl.drop j) (j := 0) (by rw [List.length_drop]; omega)
        rw [Nat.add_zero, List.getElem_drop] at this
        simpa using this
      have hwl := hl.get hlt
      have hw1 := wcell_one l[j]
      have hfit : m * 257 + 257 ≤ cu.length := by omega
      (repeat' (first
      | ((with_reducible refine at_storeO ?_); with_reducible refine owk0 (ow_storeAll (ev_tmp rfl) (ev_tmp rfl) hw1 hwl upd_auto rfl) ?_)
      | ((with_reducible refine at_storeO ?_); with_reducible refine owk0 (ow_storeN (ev_tmp rfl) (ev_tmp rfl) hw1 hwl upd_auto (by rw [hwl]; omega)) ?_)
      | (with_reducible refine is_owkc ?_; first | refine owk_fv1 (caps := [.pointer (some ⟨t, 0, none⟩)]) (ev_tmp rfl) evs_auto (by kernel_rfl) pick_auto rfl (fun w H => del_f l[j] H) ?_)
      | (with_reducible refine is_yk ?_; first | refine yk (y_loadN (ev_tmp rfl) (hasCells_bl (o := 0 + j * 257) (cs := wcell l[j]) has_auto (by rw [hwl, Nat.zero_add]; exact hel)) hwl) ?_)
      | (with_reducible refine is_yk ?_; refine yk_auto (k := ?_))
      | (with_reducible refine is_owk0 ?_; refine owk0_auto (k := ?_))
      | (with_reducible refine is_owkc ?_; refine owk_auto (k := fun _ => ?_))
      | refine go1 (k := ?_)
      | (refine go2 (ka := ?_) (kb := ?_) <;> intro _)
      | fail))
      · rename_i b hx
        have hfl : (others i (l.take j)).length = m := p3.symm
        have hA : RowFrom wcell 257 (splice cu (0 + m * 257) (wcell l[j])) 0 (others i (l.take (j + 1))) := by
          rw [others_take_miss hlt hx, Nat.zero_add, ← hfl]
          exact p5.put ((hl.take j).filter _) hwl (by rw [hfl]; omega)
        have hB : RowFrom wcell 257 (splice cu (0 + m * 257) (wcell l[j])) (j + 1) (l.drop (j + 1)) := by
          rw [List.drop_eq_getElem_cons hlt] at p6
          exact (p6.tail hwl).behind (by rw [hwl]; omega)
        exact x_again (j + 1, m + 1, _) ⟨by show k < j + 1; omega, hlt, by show m + 1 = _; rw [others_take_miss hlt hx, List.length_append, hfl]; rfl, by show (splice _ _ _).length = _; rw [splice_length (by rw [hwl]; omega)]; exact p4, hA, hB⟩
          (by show l.length - (j + 1) < l.length - j; omega) sub_auto sel_auto
      · rename_i b hx
        have hx' : (l[j].1 : Int) = i := Classical.not_not.1 hx
        have hA : others i (l.take (j + 1)) = others i (l.take j) := others_take_hit hlt hx'
        have hB : RowFrom wcell 257 cu (j + 1) (l.drop (j + 1)) := by
          rw [List.drop_eq_getElem_cons hlt] at p6
          exact p6.tail hwl
        exact x_again (j + 1, m, cu) ⟨by show k < j + 1; omega, hlt, by show m = _; rw [hA]; exact p3, p4, by show RowFrom _ _ cu 0 (others i (l.take (j + 1))); rw [hA]; exact p5, hB⟩
          (by show l.length - (j + 1) < l.length - j; omega) sub_auto sel_auto
    · have hjl : l.take j = l := List.take_of_length_le (by omega)
      rw [hjl] at p3 p5
      have hz1 : ∀ u ∈ (zeroOf Try.prog 111).cells.toList, u.oneCell' = true := List.all_eq_true.1 (show (zeroOf Try.prog 111).cells.toList.all (·.oneCell') = true by kernel_rfl)
      have hml : m ≤ l.length := by omega
      have hAd : 0 < l.length - m → (if cap = m then some ⟨g, 0, none⟩ else (some (⟨g, 0, none⟩ : Addr)).map (·.add (m * 257))) = some (⟨g, 0 + m * 257, none⟩ : Addr) := fun h => by
        rw [if_neg (by omega), Option.map_some, add_mid]
      (repeat' (first
      | ((with_reducible refine at_builtinO (b := .clear) ?_); with_reducible refine owk (ow_clear (cur := cu) (ev_tmp rfl) hAd hz1 pick_auto (by omega)) (fun zs => ?_))
      | (with_reducible refine is_yk ?_; refine yk_auto (k := ?_))
      | (with_reducible refine is_owk0 ?_; refine owk0_auto (k := ?_))
      | (with_reducible refine is_owkc ?_; refine owk_auto (k := fun _ => ?_))
      | refine go1 (k := ?_)
      | (refine go2 (ka := ?_) (kb := ?_) <;> intro _)
      | fail))
      refine x_ret1 rfl rfl (fun w H => ⟨⟨splice cu (0 + m * 257) zs.1, ?_, ?_⟩, by rw [← p3], H⟩)
      · rw [splice_length (by rw [zs.2]; omega)]; exact p4
      · exact p5.ahead (by rw [← p3]; omega) (by rw [zs.2]; omega)
end
end Go.Proofs.Ytakeilefbcpabaa

/- Somebody writes a sector: what Forge does. -/
namespace Go.Proofs.Ytakeilefbcpabaa
open Go.RowKit
attribute [local irreducible] Y OW YK OWK W WL WP X CV Ev Evs HasCell HasCells Has Met Again Kept

theorem pad_splice (b : List UInt8) : splice (List.replicate 256 (.int .u8 0)) 0 (bvs b) = bvs (pad b) := by
  rw [replicate_bvs, splice, List.take_zero, List.nil_append, Nat.zero_add, bvs_length, pad, bvs_append]
  simp only [bvs, zeros, ← List.map_drop, List.drop_replicate]
/-- The disk's struct, written out. -/
theorem diskCells_is (n s : Nat) (wv : Value) (D : DiskM) {k : Nat} (hk : D.now.length = k) : diskCells n s wv D = [.slice (some ⟨n, 0, none⟩) k k, .slice (some ⟨s, 0, none⟩) k k, wv, .bool D.down, .int .i64 D.acts, .int .i64 D.fuse, .int .u64 D.keep].toArray := by
  subst hk; rfl
theorem forge_wf {D : DiskM} (h : D.WF) (i : Int) (b : List UInt8) : (D.forge i b).WF := by
  unfold DiskM.forge
  split
  · exact h
  · rename_i he
    have hb : b.length ≤ 256 := by
      unfold DiskM.forgeE at he
      split at he
      · omega
      · split at he <;> omega
    have hp := pad_length b hb
    have hset : ∀ (l : List Sec), (∀ s ∈ l, s.length = 256) → ∀ s ∈ l.set i.toNat (pad b), s.length = 256 := fun l hl s hs => by
      rcases List.mem_or_eq_of_mem_set hs with h' | h'
      · exact hl s h'
      · rw [h']; exact hp
    exact ⟨by simpa using h.most, by simpa using h.same, hset _ h.now, hset _ h.safe, fun x hx => by
      have := h.waits x (List.mem_filter.1 hx).1
      simpa using this, h.fuse0, h.fuse1, h.keep0, h.keep1⟩
theorem others_eq (m : Nat) (l : List (Nat × Sec)) : others (m : Int) l = l.filter fun x => x.1 != m := by
  unfold others
  congr 1
  funext x
  by_cases h : x.1 = m
  · simp [h]
  · have : ¬ ((x.1 : Int) = m) := by omega
    simp [h, this]

section
variable {c : Con} {F : List HP} {w : World} {p t : Nat} {D : DiskM} {i : Int}
set_option maxRecDepth 100000 in
theorem index_nil (H : St c F w) : Calls Try.prog 68 #[.slice none 0 0, delV t] w fun e w' => e = .returned (.int .i64 (-1)) ∧ St c F w' := by
  refine calls_w (vs := [.slice none 0 0, delV t]) Try.func68 rfl rfl rfl ?_ w H
  (repeat' (first
      | (with_reducible refine is_yk ?_; refine yk_auto (k := ?_))
      | (with_reducible refine is_owk0 ?_; refine owk0_auto (k := ?_))
      | (with_reducible refine is_owkc ?_; refine owk_auto (k := fun _ => ?_))
      | refine go1 (k := ?_)
      | (refine go2 (ka := ?_) (kb := ?_) <;> intro _)
      | fail))
  refine w_loop (α := Unit) (fun _ => True) (fun _ => [(7, .int .i64 (0 : Nat)), (8, .int .i64 0)]) (fun _ => _) (fun _ => 0) () trivial sub_auto sel_all (fun _ _ => ?_)
  (repeat' (first
      | (with_reducible refine is_yk ?_; refine yk_auto (k := ?_))
      | (with_reducible refine is_owk0 ?_; refine owk0_auto (k := ?_))
      | (with_reducible refine is_owkc ?_; refine owk_auto (k := fun _ => ?_))
      | refine go1 (k := ?_)
      | (refine go2 (ka := ?_) (kb := ?_) <;> intro _)
      | fail))
  exact x_ret1 rfl rfl (fun w H => ⟨rfl, H⟩)
set_option maxRecDepth 100000 in
theorem delete_nil (H : St c F w) : Calls Try.prog 62 #[.slice none 0 0, delV t] w fun e w' => e = .returned (.slice none 0 0) ∧ St c F w' := by
  refine calls_w (vs := [.slice none 0 0, delV t]) Try.func62 rfl rfl rfl ?_ w H
  (repeat' (first
      | (with_reducible refine is_owkc ?_; first | refine owk_c0s evs_auto (by kernel_rfl) (fun w H => index_nil H) ?_)
      | (with_reducible refine is_yk ?_; refine yk_auto (k := ?_))
      | (with_reducible refine is_owk0 ?_; refine owk0_auto (k := ?_))
      | (with_reducible refine is_owkc ?_; refine owk_auto (k := fun _ => ?_))
      | refine go1 (k := ?_)
      | (refine go2 (ka := ?_) (kb := ?_) <;> intro _)
      | fail))
  exact x_ret1 rfl rfl (fun w H => ⟨rfl, H⟩)

set_option maxRecDepth 100000 in
set_option maxHeartbeats 200000 in
theorem disk_forge (i0 : -9223372036854775808 ≤ i) (i1 : i ≤ 9223372036854775807) (v : Value) (b : List UInt8) (hb : ∀ W, St c F W → Reads W v b.length 1 (bvs b)) (hwl : D.waits.length ≤ 1073741824) (H : St c (DiskAt p D :: F) w) :
    Calls Try.prog 41 #[.pointer (some ⟨p, 0, none⟩), .int .i64 i, v] w fun e w' => e = .returned (.int .i64 (D.forgeE i b.length)) ∧ St c (DiskAt p (D.forge i b) :: F) w' := by
  obtain ⟨A, cap, rfl, hcap, hmax⟩ := (hb w H.tail).form
  obtain ⟨hw, n, s, wv, H⟩ := H.openDisk4
  have hm := hw.most
  obtain ⟨k, hk⟩ : ∃ k, D.now.length = k := ⟨_, rfl⟩
  rw [diskCells_is n s wv D hk] at H
  rw [hk] at hm
  by_cases hi : i < 0 ∨ (k : Int) ≤ i
  · have e1 : D.forgeE i b.length = 1 := by unfold DiskM.forgeE; rw [hk, if_pos hi]
    have e2 : D.forge i b = D := by unfold DiskM.forge; rw [e1]; rfl
    rw [e1, e2]
    refine calls_w (vs := [.pointer (some ⟨p, 0, none⟩), .int .i64 i, .slice A b.length cap]) Try.func41 rfl rfl rfl ?_ w H
    (repeat' (first
      | (with_reducible refine is_w ?_; first | refine w_plan (id := 3) [(0, true), (1, true), (2, true), (3, true), (4, true), (5, true), (6, true), (7, true), (8, true), (9, true), (10, true), (11, true)] _ (by kernel_rfl) (by kernel_rfl) sel_all ?_)
      | (with_reducible refine is_yk ?_; refine yk_auto (k := ?_))
      | (with_reducible refine is_owk0 ?_; refine owk0_auto (k := ?_))
      | (with_reducible refine is_owkc ?_; refine owk_auto (k := fun _ => ?_))
      | refine go1 (k := ?_)
      | (refine go2 (ka := ?_) (kb := ?_) <;> intro _)
      | fail))
    all_goals exact x_ret1 rfl rfl (fun w H => ⟨rfl, shut_disk hw (n := n) (s := s) (wv := wv) H (by rw [diskCells_is n s wv D hk]; exact sel_auto)⟩)
  · have h0 : ¬ i < 0 := fun h => hi (.inl h)
    have h1 : ¬ (k : Int) ≤ i := fun h => hi (.inr h)
    clear hi
    by_cases hlb : 256 < b.length
    · have e1 : D.forgeE i b.length = 3 := by unfold DiskM.forgeE; rw [hk, if_neg (by omega), if_pos hlb]
      have e2 : D.forge i b = D := by unfold DiskM.forge; rw [e1]; rfl
      rw [e1, e2]
      refine calls_w (vs := [.pointer (some ⟨p, 0, none⟩), .int .i64 i, .slice A b.length cap]) Try.func41 rfl rfl rfl ?_ w H
      (repeat' (first
      | (with_reducible refine is_w ?_; first | refine w_plan (id := 3) [(0, true), (1, true), (2, true), (3, true), (4, true), (5, true), (6, true), (7, true), (8, true), (9, true), (10, true), (11, true)] _ (by kernel_rfl) (by kernel_rfl) sel_all ?_)
      | (with_reducible refine is_yk ?_; refine yk_auto (k := ?_))
      | (with_reducible refine is_owk0 ?_; refine owk0_auto (k := ?_))
      | (with_reducible refine is_owkc ?_; refine owk_auto (k := fun _ => ?_))
      | refine go1 (k := ?_)
      | (refine go2 (ka := ?_) (kb := ?_) <;> intro _)
      | fail))
      all_goals exact x_ret1 rfl rfl (fun w H => ⟨rfl, shut_disk hw (n := n) (s := s) (wv := wv) H (by rw [diskCells_is n s wv D hk]; exact sel_auto)⟩)
    · obtain ⟨m, rfl⟩ := Int.eq_ofNat_of_zero_le (show 0 ≤ i by omega)
      have hmk : m < k := by omega
      have e1 : D.forgeE m b.length = 0 := by unfold DiskM.forgeE; rw [hk, if_neg (by omega), if_neg hlb]
      have e2 : D.forge m b = { D with now := D.now.set m (pad b), safe := D.safe.set m (pad b), waits := others m D.waits } := by
        unfold DiskM.forge; rw [e1, others_eq]; rfl
      have hwf := forge_wf hw (m : Int) b
      rw [e2] at hwf
      rw [e1, e2]
      have hpl := pad_length b (by omega)
      have hpv : (bvs (pad b)).length = 256 := by rw [bvs_length, hpl]
      have hone := bvs_oneCell (pad b)
      have hnl : (secs D.now).length = k * 256 := by rw [secs_length hw.now, hk]
      have hset1 : splice (secs D.now) (0 + m * 256) (bvs (pad b)) = secs (D.now.set m (pad b)) := by
        rw [Nat.zero_add]; exact (secs_set hw.now m (by omega) hpl).symm
      have hset2 : splice (secs D.safe) (0 + m * 256) (bvs (pad b)) = secs (D.safe.set m (pad b)) := by
        rw [Nat.zero_add]; exact (secs_set hw.safe m (by rw [hw.same]; omega) hpl).symm
      have hsl : (secs D.safe).length = k * 256 := by rw [secs_length hw.safe, hw.same, hk]
      rcases (St.pull3 H).openOwn with ⟨rfl, hq1, hq2, -⟩ | ⟨g, gc, cur, rfl, q1, q2, q3, q4, -, H2⟩
      · have hw0 : D.waits = [] := List.eq_nil_of_length_eq_zero hq1
        refine calls_w (vs := [.pointer (some ⟨p, 0, none⟩), .int .i64 m, .slice A b.length cap]) Try.func41 rfl rfl rfl ?_ w H
        (repeat' (first
      | ((with_reducible refine at_builtinO (b := .copy) ?_); with_reducible refine owk0 (ow_copy (cur := List.replicate 256 (.int .u8 0)) rfl (ev_tmp rfl) (ev_tmp rfl) pick_auto (fun w H => hb w (Sel.st sel_auto H)) (by omega) (by simp; omega) (bvs_oneCell b) (pad_splice b)) ?_)
      | ((with_reducible refine at_storeO ?_); with_reducible refine owk0 (ow_storeE (cs := secs D.now) (ev_tmp rfl) (ev_tmp rfl) hone hpv hset1 upd_auto (by rw [hpv]; omega)) ?_)
      | ((with_reducible refine at_storeO ?_); with_reducible refine owk0 (ow_storeE (cs := secs D.safe) (ev_tmp rfl) (ev_tmp rfl) hone hpv hset2 upd_auto (by rw [hpv]; omega)) ?_)
      | (with_reducible refine is_owkc ?_; first | refine owk_c0s evs_auto (by kernel_rfl) (fun w H => delete_nil H) ?_)
      | (with_reducible refine is_w ?_; first | refine w_plan (id := 3) [(0, true), (1, true), (2, true), (3, true), (4, true), (5, true), (6, true), (7, true), (8, true), (9, true), (10, true), (11, true)] _ (by kernel_rfl) (by kernel_rfl) sel_all ?_ | refine w_plan (id := 9) [(0, true), (1, true), (2, true), (3, true), (4, true), (5, true), (6, true), (7, true), (8, true), (9, true), (10, true), (11, true), (12, true), (13, false), (14, false), (15, false)] [Bl _ _ _, Bl _ _ _, Pt p _] (by kernel_rfl) (by kernel_rfl) sel_auto ?_)
      | (with_reducible refine is_yk ?_; refine yk_auto (k := ?_))
      | (with_reducible refine is_owk0 ?_; refine owk0_auto (k := ?_))
      | (with_reducible refine is_owkc ?_; refine owk_auto (k := fun _ => ?_))
      | refine go1 (k := ?_)
      | (refine go2 (ka := ?_) (kb := ?_) <;> intro _)
      | fail))
        have ho : others (m : Int) D.waits = D.waits := by rw [hw0]; rfl
        refine x_ret1 rfl rfl (fun w H => ⟨rfl, shut_disk hwf (n := n) (s := s) (wv := .slice none 0 0) H ?_⟩)
        rw [diskCells_is n s _ _ (k := k) (by show (D.now.set m (pad b)).length = k; rw [List.length_set]; exact hk)]
        show Sel _ (_ :: _ :: _ :: OwnP _ _ _ (others (m : Int) D.waits).length (wcells (others (m : Int) D.waits)) :: _)
        rw [ho]
        exact sel_auto
      · have hwz := szd_w fun x hx => (hw.waits x hx).2
        have hrow : RowFrom wcell 257 cur 0 D.waits := rowFrom_of rfl q4 (by rw [q3]; exact Nat.mul_le_mul_right _ q1)
        refine calls_w (vs := [.pointer (some ⟨p, 0, none⟩), .int .i64 m, .slice A b.length cap]) Try.func41 rfl rfl rfl ?_ w H2
        (repeat' (first
      | ((with_reducible refine at_builtinO (b := .copy) ?_); with_reducible refine owk0 (ow_copy (cur := List.replicate 256 (.int .u8 0)) rfl (ev_tmp rfl) (ev_tmp rfl) pick_auto (fun w H => hb w (Sel.st sel_auto H)) (by omega) (by simp; omega) (bvs_oneCell b) (pad_splice b)) ?_)
      | ((with_reducible refine at_storeO ?_); with_reducible refine owk0 (ow_storeE (cs := secs D.now) (ev_tmp rfl) (ev_tmp rfl) hone hpv hset1 upd_auto (by rw [hpv]; omega)) ?_)
      | ((with_reducible refine at_storeO ?_); with_reducible refine owk0 (ow_storeE (cs := secs D.safe) (ev_tmp rfl) (ev_tmp rfl) hone hpv hset2 upd_auto (by rw [hpv]; omega)) ?_)
      | (with_reducible refine is_owkc ?_; first | refine owk_c2x evs_auto (by kernel_rfl) pick_auto pick_auto (fun w H => delete_f (i := (m : Int)) hwz hwl hrow q1 q2 H) (fun cu => ?_))
      | (with_reducible refine is_w ?_; first | refine w_plan (id := 3) [(0, true), (1, true), (2, true), (3, true), (4, true), (5, true), (6, true), (7, true), (8, true), (9, true), (10, true), (11, true)] _ (by kernel_rfl) (by kernel_rfl) sel_all ?_ | refine w_plan (id := 9) [(0, true), (1, true), (2, true), (3, true), (4, true), (5, true), (6, true), (7, true), (8, true), (9, true), (10, true), (11, true), (12, true), (13, false), (14, false), (15, false)] [Bl _ _ _, Bl _ _ _, Pt p _] (by kernel_rfl) (by kernel_rfl) sel_auto ?_)
      | (with_reducible refine is_yk ?_; refine yk_auto (k := ?_))
      | (with_reducible refine is_owk0 ?_; refine owk0_auto (k := ?_))
      | (with_reducible refine is_owkc ?_; refine owk_auto (k := fun _ => ?_))
      | refine go1 (k := ?_)
      | (refine go2 (ka := ?_) (kb := ?_) <;> intro _)
      | fail))
        refine x_ret1 rfl rfl (fun w H => ⟨rfl, shut_disk hwf (n := n) (s := s) (wv := .slice (some ⟨g, 0, none⟩) (others (m : Int) D.waits).length gc) H ?_⟩)
        rw [diskCells_is n s _ _ (k := k) (by show (D.now.set m (pad b)).length = k; rw [List.length_set]; exact hk)]
        exact Sel.cons pickd_auto (Sel.cons pickd_auto (Sel.cons pickd_auto (Sel.imp (A := Bl g 111 cu.1) pick_auto
          (own_shut (Nat.le_trans (others_le _ _) q1) q2 (by rw [cu.2.1, q3]) cu.2.2.head) sel_auto)))
end
end Go.Proofs.Ytakeilefbcpabaa

/- Forge, as it is asked for by the laws. -/
namespace Go.Proofs.Ytakeilefbcpabaa
open Go.RowKit
section
variable {c : Con} {F : List HP} {w : World} {p : Nat} {D D' : DiskM}
theorem disk_forge_is (i : Int) (i0 : -9223372036854775808 ≤ i) (i1 : i ≤ 9223372036854775807) (v : Value) (b : List UInt8) {E : Int} (hE : D.forgeE i b.length = E) (hD : D.forge i b = D') (hb : ∀ W, St c F W → Reads W v b.length 1 (bvs b)) (hwl : D.waits.length ≤ 1073741824) (H : St c (DiskAt p D :: F) w) :
    Calls Try.prog 41 #[.pointer (some ⟨p, 0, none⟩), .int .i64 i, v] w fun e w' => e = .returned (.int .i64 E) ∧ St c (DiskAt p D' :: F) w' := by
  subst hE hD
  exact disk_forge i0 i1 v b hb hwl H
end
end Go.Proofs.Ytakeilefbcpabaa

/- ChainStops: the walk. -/
namespace Go.Proofs.Ytakeilefbcpabaa
open Go.RowKit
theorem hasR_head {H : World → Prop} {A : Option Addr} {n cap m : Nat} {l : List UInt8} (h : HasR H (.slice A n cap) n (bvs l)) (hm : m ≤ n) : HasR H (.slice A m cap) m (bvs (l.take m)) := fun w hw => by
  obtain ⟨h1, h2⟩ := h w hw
  rw [bvs_length] at h1
  refine ⟨by rw [bvs_length, List.length_take]; omega, ?_⟩
  rcases h2 with ⟨e, hn⟩ | ⟨a, cap', e, h3, h4, h5⟩
  · obtain ⟨rfl, -, rfl⟩ := Value.slice.inj e
    have : m = 0 := by omega
    subst this
    exact .inl ⟨rfl, rfl⟩
  · obtain ⟨rfl, -, rfl⟩ := Value.slice.inj e
    refine .inr ⟨a, cap, rfl, by omega, h4, fun j u hu => h5 j u ?_⟩
    simp only [bvs, List.map_take, List.getElem?_take] at hu
    split at hu
    · exact hu
    · cases hu
/-- A disk on which nothing waits. -/
structure Bare (D : DiskM) (n : Nat) : Prop where
  down : D.down = false
  len : D.now.length = n
  waits : D.waits = []
theorem Bare.forge {D : DiskM} {n : Nat} (h : Bare D n) {i : Int} (hi : 0 ≤ i ∧ i < n) {b : List UInt8} (hb : b.length ≤ 256) : D.forgeE i b.length = 0 ∧ Bare (D.forge i b) n := by
  have hE : D.forgeE i b.length = 0 := by
    unfold DiskM.forgeE
    rw [if_neg (by rw [h.len]; omega), if_neg (by omega)]
  refine ⟨hE, ?_⟩
  unfold DiskM.forge
  rw [if_neg (by rw [hE]; simp)]
  exact ⟨h.down, by simp [h.len], by simp [h.waits]⟩
theorem div_up {n k : Nat} (h : (n + 255) / 256 = k) : ((n : Int) + 255) / 256 = (k : Int) := by omega
attribute [local irreducible] Y OW YK OWK W WL WP X CV Ev Evs HasCell HasCells Has Met Again Kept
set_option maxRecDepth 100000 in
set_option maxHeartbeats 2000000 in
theorem chainStops_walk (A : Option Addr) (len cap : Nat) (zs : List BRow) (epoch : Int) (w : World) (hrow : ElemsOf IsBRow 1 w A len zs) (he : (Lit.int .i64 epoch).wf = true) :
    Calls Try.prog 14 #[.slice A len cap, .int .i64 epoch] w fun e w' => e = .returned (.bool true) ∧ Below w.heap.size w w' := by
  obtain ⟨e0, e1⟩ := wf64 he
  obtain ⟨hzl, hl63, hcell⟩ := hrow
  clear he
  by_cases hg : len ≤ 100 ∧ 0 ≤ epoch
  · obtain ⟨g1, g2⟩ := hg
    have hclip : len = clip (len : Int) := by unfold clip; omega
    have hlen0 := new_length len
    refine calls_w (vs := [.slice A len cap, .int .i64 epoch]) Try.func14 rfl rfl rfl ?_ w (St.start w)
    (repeat' (first
      | ((with_reducible refine at_fn 43 ?_); with_reducible refine owk_c0s evs_auto (by kernel_rfl) (fun w H => alive16 H) ?_)
      | ((with_reducible refine at_fn 21 ?_); with_reducible refine owk_c0x evs_auto (by kernel_rfl) (fun w H => disk_new_is len (by omega) (by omega) hclip H) (fun p => ?_))
      | (with_reducible refine is_yk ?_; refine yk_auto (k := ?_))
      | (with_reducible refine is_owk0 ?_; refine owk0_auto (k := ?_))
      | (with_reducible refine is_owkc ?_; refine owk_auto (k := fun _ => ?_))
      | refine go1 (k := ?_)
      | (refine go2 (ka := ?_) (kb := ?_) <;> intro _)
      | fail))
    refine w_loop (α := Nat × DiskM) (fun x => x.1 ≤ len ∧ Bare x.2 len)
      (fun x => [(26, .int .i64 (x.1 : Int)), (25, .int .i64 (len : Int)), (24, .slice A len cap), (5, .pointer (some ⟨p, 0, none⟩)), (1, .int .i64 epoch)])
      (fun x => [DiskAt p x.2, Old w]) (fun x => len - x.1) (0, DiskM.new len) ⟨Nat.zero_le _, rfl, hlen0, rfl⟩ sub_auto sel_auto (fun x hx => ?_)
    obtain ⟨i, D⟩ := x
    obtain ⟨hi, hD⟩ := hx
    dsimp only at hi hD ⊢
    by_cases hlt : i < len
    · obtain ⟨a, cs, rfl, ⟨hcs, hyl, hyr⟩, -, hca⟩ := hcell i zs[i] (List.getElem?_eq_getElem (by omega))
      generalize zs[i] = y at hcs hyl hyr
      obtain ⟨yA, yn, ycap, yb⟩ := y
      dsimp only at hcs hyl hyr
      obtain ⟨_, _, he', hyc, hycm⟩ := hyr.form
      obtain ⟨rfl, -, rfl⟩ := Value.slice.inj he'
      have c1 : w.cell? (a.add (i * 1)) = some (.slice yA yn ycap) := by have := hca 0 _ (by rw [hcs]; rfl); simpa [Addr.add] using this
      have hmin : min (yn : Int) 256 = ((min yn 256 : Nat) : Int) := by omega
      have hml : (yb.take (min yn 256)).length = min yn 256 := by rw [List.length_take]; omega
      obtain ⟨hE, hD'⟩ := hD.forge (i := (i : Int)) (b := yb.take (min yn 256)) ⟨by omega, by omega⟩ (by omega)
      have hwl : D.waits.length ≤ 1073741824 := by rw [hD.waits]; simp
      obtain ⟨D', hDD⟩ : ∃ D', D.forge (i : Int) (yb.take (min yn 256)) = D' := ⟨_, rfl⟩
      rw [hDD] at hD'
      have hr1 : HasR (St (conOf w) [Old w]) (.slice yA (min yn 256) ycap) (min yn 256) (bvs (yb.take (min yn 256))) := hasR_head (hasR_old hyr) (by omega)
      have hmc : min yn 256 ≤ ycap := by omega
      generalize yb.take (min yn 256) = fb at hml hE hDD hr1
      generalize min yn 256 = m at hmin hml hr1 hmc
      (repeat' (first
      | ((with_reducible refine at_fn 41 ?_); with_reducible refine owk_c1 evs_auto (by kernel_rfl) pick_auto (fun w H => disk_forge_is (i : Int) (by omega) (by omega) _ fb hE hDD (HasR.bytes hr1) hwl H) ?_)
      | (with_reducible refine at_load ?_; first | refine yk (y_load (ev_tmp rfl) (hasCell_tl (hasCell_old c1))) ?_)
      | (with_reducible refine at_call ?_; first | refine yk_eq (y_min (ev_tmp rfl) ev_const) (congrArg _ hmin) ?_)
      | (with_reducible refine at_slice ?_; first | refine yk (y_sliceHi (ev_tmp rfl) (ev_tmp rfl) hmc) ?_)
      | (with_reducible refine is_yk ?_; refine yk_auto (k := ?_))
      | (with_reducible refine is_owk0 ?_; refine owk0_auto (k := ?_))
      | (with_reducible refine is_owkc ?_; refine owk_auto (k := fun _ => ?_))
      | refine go1 (k := ?_)
      | (refine go2 (ka := ?_) (kb := ?_) <;> intro _)
      | fail))
      exact x_again (i + 1, D') ⟨by show i + 1 ≤ len; omega, hD'⟩ (by show len - (i + 1) < len - i; omega) sub_auto sel_auto
    · obtain rfl : i = len := by omega
      obtain ⟨h, hh⟩ : ∃ h, i / 2 = h := ⟨_, rfl⟩
      obtain ⟨A0, hA0⟩ : ∃ A0, halfA i epoch = A0 := ⟨_, rfl⟩
      have hA1 : A0.hi = A0.pos + h ∧ A0.lo = A0.pos ∧ A0.pos + h ≤ i := by
        rw [← hA0]; unfold halfA; rw [hh]
        refine ⟨rfl, rfl, ?_⟩
        have : (epoch % 2).toNat = 0 ∨ (epoch % 2).toNat = 1 := by omega
        rcases this with e | e <;> rw [e] <;> dsimp only <;> omega
      obtain ⟨lo, hi', pos⟩ := A0
      dsimp only at hA1
      obtain ⟨rfl, rfl, hlo⟩ := hA1
      have hDl := hD.len
      have hDd := hD.down
      (repeat' (first
      | ((with_reducible refine at_fn 44 ?_); with_reducible refine owk_c1x evs_auto (by kernel_rfl) pick_auto (fun w H => c_half epoch ⟨e0, e1⟩ hDl (by omega) hA0 H) (fun a => ?_))
      | (with_reducible refine is_yk ?_; refine yk_auto (k := ?_))
      | (with_reducible refine is_owk0 ?_; refine owk0_auto (k := ?_))
      | (with_reducible refine is_owkc ?_; refine owk_auto (k := fun _ => ?_))
      | refine go1 (k := ?_)
      | (refine go2 (ka := ?_) (kb := ?_) <;> intro _)
      | fail))
      refine w_loop (α := Nat) (fun j => j ≤ h) (fun _ => [(8, .pointer (some ⟨a, 0, none⟩))]) (fun j => [AreaAt a p ⟨lo, lo + h, lo + j⟩, DiskAt p D, Old w]) (fun j => h - j) 0 (Nat.zero_le _) sub_auto (.cons .hd (.cons .hd (.cons .hd .nil))) (fun j hj => ?_)
      refine w_disk (.tl .hd) (fun hwf => ?_)
      have hleft : ((lo + h : Nat) : Int) - ((lo + j : Nat) : Int) = (h : Int) - (j : Int) := by omega
      obtain ⟨lim, hlim⟩ : ∃ lim, min (lo + h - (lo + j)) 64 = lim := ⟨_, rfl⟩
      rcases next_split hwf.now (pos := lo + j) (lim := lim) (by omega) with ⟨k, n, f, S⟩ | hno
      · have hlt := S.lt
        have hjk : j + (k + 1) ≤ h := by omega
        have hA' : ({ lo := lo, hi := lo + h, pos := lo + j + k + 1 } : AreaM) = ⟨lo, lo + h, lo + (j + (k + 1))⟩ := by rw [show lo + j + k + 1 = lo + (j + (k + 1)) by omega]
        have hN : ∀ {c : Con} {F : List HP} {w : World}, St c (AreaAt a p ⟨lo, lo + h, lo + j⟩ :: DiskAt p D :: F) w → Calls Try.prog 48 #[.pointer (some ⟨a, 0, none⟩)] w fun e w' => ∃ g : Nat, e = .returned (.tuple #[.slice (some ⟨g, 0, none⟩) n n, .int .i64 0]) ∧ St c (BkP g f :: AreaAt a p ⟨lo, lo + h, lo + (j + (k + 1))⟩ :: DiskAt p D :: F) w' := fun H => c_next_some (A := ⟨lo, lo + h, lo + j⟩) hDd hlim (by rw [hDl]; exact hlo) S.lt S.no S.is S.n0 S.take hA' H
        have hsI := div_up S.secs
        have h0 := S.n0
        have hn16 := S.most
        have ht1 := S.lenM
        have ht2 := S.len
        have hleft2 : ((lo + h : Nat) : Int) - ((lo + (j + (k + 1)) : Nat) : Int) = (h : Int) - (j : Int) - ((k + 1 : Nat) : Int) := by omega
        clear hlim hwf S hlt hA' hclip hcell hzl hl63 hlen0 hD hDl hDd hh hA0
        (repeat' (first
      | ((with_reducible refine at_fn 46 ?_); with_reducible refine owk_c1 evs_auto (by kernel_rfl) pick_auto (fun w H => c_left hleft (by dsimp only; omega) H) ?_)
      | ((with_reducible refine at_fn 46 ?_); with_reducible refine owk_c1 evs_auto (by kernel_rfl) pick_auto (fun w H => c_left hleft2 (by dsimp only; omega) H) ?_)
      | ((with_reducible refine at_fn 48 ?_); with_reducible refine owk_c2x evs_auto (by kernel_rfl) pick_auto pick_auto (fun w H => hN H) (fun g => ?_))
      | ((with_reducible refine at_fn 49 ?_); with_reducible refine owk_c0s evs_auto (by kernel_rfl) (fun w H => ref_length ht1 H) ?_)
      | (with_reducible refine at_conv ?_; first | refine yk (y_str (l := f) (n := n) (ev_tmp rfl) (bkp_hasR ht2 h0 (by omega))) ?_)
      | (with_reducible refine at_bin ?_; first | refine yk_eq (y_quo64 (ev_tmp rfl) ev_const (by omega)) (congrArg _ hsI) ?_)
      | (with_reducible refine is_yk ?_; refine yk_auto (k := ?_))
      | (with_reducible refine is_owk0 ?_; refine owk0_auto (k := ?_))
      | (with_reducible refine is_owkc ?_; refine owk_auto (k := fun _ => ?_))
      | refine go1 (k := ?_)
      | (refine go2 (ka := ?_) (kb := ?_) <;> intro _)
      | fail))
        exact x_again (j + (k + 1)) hjk (by show h - (j + (k + 1)) < h - j; omega) sub_auto sel_auto
      · (repeat' (first
      | ((with_reducible refine at_fn 46 ?_); with_reducible refine owk_c1 evs_auto (by kernel_rfl) pick_auto (fun w H => c_left hleft (by dsimp only; omega) H) ?_)
      | ((with_reducible refine at_fn 48 ?_); with_reducible refine owk_c2 evs_auto (by kernel_rfl) pick_auto pick_auto (fun w H => c_next_none (A := ⟨lo, lo + h, lo + j⟩) hDd hlim (by rw [hDl]; exact hlo) hno H) ?_)
      | (with_reducible refine is_yk ?_; refine yk_auto (k := ?_))
      | (with_reducible refine is_owk0 ?_; refine owk0_auto (k := ?_))
      | (with_reducible refine is_owkc ?_; refine owk_auto (k := fun _ => ?_))
      | refine go1 (k := ?_)
      | (refine go2 (ka := ?_) (kb := ?_) <;> intro _)
      | fail))
        exact x_ret1 rfl rfl (fun w H => ⟨by simp, (Sel.st (T := [Old _]) sel_auto H).toBelow'⟩)
  · refine calls_w (vs := [.slice A len cap, .int .i64 epoch]) Try.func14 rfl rfl rfl ?_ w (St.start w)
    (repeat' (first
      | ((with_reducible refine at_fn 43 ?_); with_reducible refine owk_c0s evs_auto (by kernel_rfl) (fun w H => alive16 H) ?_)
      | (with_reducible refine is_yk ?_; refine yk_auto (k := ?_))
      | (with_reducible refine is_owk0 ?_; refine owk0_auto (k := ?_))
      | (with_reducible refine is_owkc ?_; refine owk_auto (k := fun _ => ?_))
      | refine go1 (k := ?_)
      | (refine go2 (ka := ?_) (kb := ?_) <;> intro _)
      | fail))
    all_goals exact x_ret1 rfl rfl (fun w H => ⟨rfl, (Sel.st (T := [Old _]) sel_auto H).toBelow'⟩)
end Go.Proofs.Ytakeilefbcpabaa

/- ChainBack: the plain law. -/
namespace Go.Proofs.Ytakeilefbcpabaa
open Go.RowKit
def mark (ob : UInt8) (j : Nat) : List UInt8 := [ob, UInt8.ofNat (j % 256)]
/-- The disk behind the first i forged sectors. -/
structure Forged (D : DiskM) (n olo : Nat) (ob : UInt8) (i : Nat) : Prop where
  down : D.down = false
  fuse : D.fuse = 0
  acts : D.acts = 0
  len : D.now.length = n
  waits : D.waits = []
  at_ : ∀ j, j < i → D.now[olo + j]? = some (pad (mark ob j))
  zero : ∀ t, t < n → (t < olo ∨ olo + i ≤ t) → D.now[t]? = some zeroSec
theorem forged_new (n olo : Nat) (ob : UInt8) : Forged (DiskM.new n) n olo ob 0 := ⟨rfl, rfl, rfl, new_length n, rfl, fun j h => by omega, fun t h _ => by simp [DiskM.new, h]⟩
theorem Forged.step {D : DiskM} {n olo i : Nat} {ob : UInt8} (h : Forged D n olo ob i) (hi : olo + i < n) : D.forgeE ((olo + i : Nat) : Int) (mark ob i).length = 0 ∧ Forged (D.forge ((olo + i : Nat) : Int) (mark ob i)) n olo ob (i + 1) := by
  have hE : D.forgeE ((olo + i : Nat) : Int) (mark ob i).length = 0 := by
    unfold DiskM.forgeE
    rw [if_neg (by rw [h.len]; omega), if_neg (by show ¬ 256 < 2; decide)]
  refine ⟨hE, ?_⟩
  unfold DiskM.forge
  rw [if_neg (by rw [hE]; simp), Int.toNat_natCast]
  refine ⟨h.down, h.fuse, h.acts, by simp [h.len], by simp [h.waits], fun j hj => ?_, fun t ht ho => ?_⟩
  · dsimp only
    rw [List.getElem?_set]
    by_cases e : j = i
    · subst e; rw [if_pos rfl, if_pos (by rw [h.len]; omega)]
    · rw [if_neg (by omega)]; exact h.at_ j (by omega)
  · dsimp only
    rw [List.getElem?_set, if_neg (by omega)]
    exact h.zero t ht (by omega)
/-- The disk behind frames. -/
structure Back (D : DiskM) (n h lo olo : Nat) (ob : UInt8) (us : List (List UInt8)) : Prop where
  steady : Steady D n ((sizeS us : Nat) : Int)
  waits : D.waits.length ≤ sizeS us
  laid : LaidAt D.now lo (us.flatMap secsOf)
  size : sizeS us ≤ h
  zero : ∀ t, lo + sizeS us ≤ t → t < lo + h → D.now[t]? = some zeroSec
  other : ∀ j, j < h → D.now[olo + j]? = some (pad (mark ob j))
  n200 : n ≤ 200
  hn : h + h ≤ n
  apart : (lo = 0 ∧ olo = h) ∨ (lo = h ∧ olo = 0)
  fs : ∀ f ∈ us, FrameOk f 4104
theorem Forged.back {D : DiskM} {n h lo olo : Nat} {ob : UInt8} (H : Forged D n olo ob h) (h200 : n ≤ 200) (hn : h + h ≤ n) (ha : (lo = 0 ∧ olo = h) ∨ (lo = h ∧ olo = 0)) : Back D n h lo olo ob [] :=
  ⟨⟨H.down, H.fuse, H.len, H.acts⟩, by rw [H.waits]; exact Nat.zero_le _, LaidAt.nil, Nat.zero_le _, fun t h1 h2 => by rw [sizeS_nil] at h1; exact H.zero t (by omega) (by omega), H.at_, h200, hn, ha, fun f hf => by cases hf⟩
theorem Back.add {D : DiskM} {n h lo olo m : Nat} {ob : UInt8} {us : List (List UInt8)} (H : Back D n h lo olo ob us) {f : List UInt8} (hf : FrameOk f 4104) (hm : (f.length + 255) / 256 = m) (hr : sizeS us + m ≤ h) :
    ∃ D', addM D ⟨lo, lo + h, lo + sizeS us⟩ f = (0, ⟨lo, lo + h, lo + sizeS (us ++ [f])⟩, D') ∧ Back D' n h lo olo ob (us ++ [f]) := by
  have h200 := H.n200
  have hn := H.hn
  have hap := H.apart
  have hlo : lo + h ≤ n := by rcases hap with ⟨rfl, rfl⟩ | ⟨rfl, rfl⟩ <;> omega
  have hsn : sizeS (us ++ [f]) = sizeS us + m := by rw [sizeS_snoc, hm]
  obtain ⟨h1, h2⟩ := addM_ok (A := ⟨lo, lo + h, lo + sizeS us⟩) H.steady hf.ne hf.is hm (by dsimp only; omega) (by dsimp only; omega) (by omega)
  have hl := laid_add (m := m) H.steady H.laid hm (by omega) (by omega)
  have hk := (frame_laid H.steady (pos := lo + sizeS us) hm (by omega) (by omega)).2
  refine ⟨_, by rw [h1, hsn, Nat.add_assoc], ⟨?_, ?_, hl, by omega, fun t t1 t2 => ?_, fun j hj => ?_, h200, hn, hap, fun x hx => ?_⟩⟩
  · have e : ((sizeS (us ++ [f]) : Nat) : Int) = ((sizeS us : Nat) : Int) + (m : Int) := by omega
    rw [e]; exact h2
  · have := wrTo_waits D (lo + sizeS us) (chunks f) m
    have := H.waits
    omega
  · rw [hk t (.inr (by omega))]; exact H.zero t (by omega) t2
  · rw [hk _ (by rcases hap with ⟨rfl, rfl⟩ | ⟨rfl, rfl⟩ <;> omega)]; exact H.other j hj
  · rcases List.mem_append.1 hx with hx | hx
    · exact H.fs x hx
    · rw [List.mem_singleton.1 hx]; exact hf
theorem Back.full {D : DiskM} {n h lo olo m : Nat} {ob : UInt8} {us : List (List UInt8)} (H : Back D n h lo olo ob us) {f : List UInt8} (hf : FrameOk f 4104) (hm : (f.length + 255) / 256 = m) (hr : ¬ sizeS us + m ≤ h) : addM D ⟨lo, lo + h, lo + sizeS us⟩ f = (7, ⟨lo, lo + h, lo + sizeS us⟩, D) :=
  addM_full H.steady hf.ne hf.is (by rw [hm]; dsimp only; omega)
/-- Behind a Sync, and a loss of power, all is there. -/
theorem synced {D : DiskM} {n : Nat} {a : Int} (h : Steady D n a) (k : Int) : D.syncE = 0 ∧ (((D.sync).off k).on).now = D.now ∧ (((D.sync).off k).on).down = false := by
  have hg := h.goes
  have e : D.sync = { D.act with safe := D.act.now, waits := [] } := by unfold DiskM.sync; rw [if_neg (by rw [h.down]; simp), if_neg (by rw [hg]; simp)]
  have ea : D.act.now = D.now ∧ D.act.down = false := by unfold DiskM.act; rw [if_neg (by rw [h.down]; simp)]; exact ⟨rfl, h.down⟩
  refine ⟨by unfold DiskM.syncE; rw [if_neg (by rw [h.down]; simp), if_neg (by rw [hg]; simp)], ?_, rfl⟩
  rw [e]
  unfold DiskM.off
  rw [if_neg (by show ¬ D.act.down = true; rw [ea.2]; simp)]
  show DiskM.kept _ k = D.now
  unfold DiskM.kept keptFrom
  exact ea.1
/-- Noughts have no frame. -/
theorem no_frame {now : List Sec} {pos lim : Nat} (h : ∀ t, pos ≤ t → t < pos + lim → now[t]? = some zeroSec) (hw : ∀ s ∈ now, s.length = 256) : ∀ j, j < lim → lengthM (accB now pos (j + 1)) = 0 := fun j hj => by
  have hL : LaidAt now pos (List.replicate (j + 1) zeroSec) := fun t s e => by
    have ht := (List.getElem?_eq_some_iff.1 e).1
    rw [List.length_replicate] at ht
    rw [List.getElem?_replicate, if_pos ht] at e
    rw [h (pos + t) (by omega) (by omega)]; exact e
  have e := accB_laid hL (k := j + 1) (by simp)
  rw [List.take_of_length_le (by simp)] at e
  have h8 : (accB now pos (j + 1)).take 8 = List.replicate 8 0 := by
    rw [e, List.replicate_succ, List.flatten_cons, List.take_append_of_le_length (by rw [zeroSec_length]; omega)]
    rfl
  have hlen : 8 ≤ (accB now pos (j + 1)).length := by rw [e, List.replicate_succ, List.flatten_cons, List.length_append, zeroSec_length]; omega
  have h0 : leInt ((accB now pos (j + 1)).take 8) = 0 := by rw [h8]; simp [leInt, leN, List.replicate, wrap64]
  unfold lengthM
  rw [if_neg]
  rintro ⟨h1, _⟩
  simp [inOk, h0] at h1
end Go.Proofs.Ytakeilefbcpabaa

/- ChainBack: the walk. -/
namespace Go.Proofs.Ytakeilefbcpabaa
open Go.RowKit
structure BkS where
  D : DiskM
  u : List (List UInt8)
  q : Option Addr × Nat
theorem wrap8_nat (i : Nat) : IntKind.u8.wrap (i : Int) = ((UInt8.ofNat (i % 256)).toNat : Int) := by
  have e : IntKind.u8.wrap (i : Int) = (i : Int) % 256 := rfl
  rw [e, UInt8.toNat_ofNat']; omega
attribute [local irreducible] Y OW YK OWK W WL WP X CV Ev Evs HasCell HasCells Has Met Again Kept
section
variable {c : Con} {F : List HP} {w : World} {p : Nat} {D D' : DiskM}
theorem disk_syncE {E : Int} (hE : D.syncE = E) (hD : D.sync = D') (H : St c (DiskAt p D :: F) w) : Calls Try.prog 32 #[.pointer (some ⟨p, 0, none⟩)] w fun e w' => e = .returned (.int .i64 E) ∧ St c (DiskAt p D' :: F) w' := by subst hE hD; exact disk_sync H
end
set_option maxRecDepth 100000 in
set_option maxHeartbeats 4000000 in
theorem chainBack_walk (n epoch : Int) (A : Option Addr) (la cap : Nat) (ta : List (List UInt8)) (keep : Int) (other : Int) (w : World) (hn : (Lit.int .i64 n).wf = true) (he : (Lit.int .i64 epoch).wf = true) (hra : ElemsOf IsText 1 w A la ta) (hk : (Lit.int .u64 keep).wf = true) (ho : (Lit.int .u8 other).wf = true) :
    Calls Try.prog 15 #[.int .i64 n, .int .i64 epoch, .slice A la cap, .int .u64 keep, .int .u8 other] w fun e w' => e = .returned (.bool true) ∧ Below w.heap.size w w' := by
  obtain ⟨n0, n1⟩ := wf64 hn
  obtain ⟨e0, e1⟩ := wf64 he
  obtain ⟨hal, ha63, hac⟩ := hra
  have hk2 : 0 ≤ keep ∧ keep < 18446744073709551616 := by simp [Lit.wf, IntKind.min, IntKind.max, IntKind.signed, IntKind.bits] at hk; omega
  obtain ⟨ob, rfl⟩ : ∃ ob : UInt8, other = (ob.toNat : Int) := by
    simp [Lit.wf, IntKind.min, IntKind.max, IntKind.signed, IntKind.bits] at ho
    exact ⟨UInt8.ofNat other.toNat, by rw [UInt8.toNat_ofNat']; omega⟩
  clear hn he hk ho
  by_cases hg : (0 ≤ n ∧ n ≤ 200) ∧ 0 ≤ epoch ∧ la ≤ 20
  · obtain ⟨⟨g1, g2⟩, g3, g4⟩ := hg
    obtain ⟨N, rfl⟩ : ∃ N : Nat, n = N := ⟨n.toNat, by omega⟩
    have hclip : N = clip (N : Int) := by unfold clip; omega
    have hlen := new_length N
    obtain ⟨h, hh⟩ : ∃ h, N / 2 = h := ⟨_, rfl⟩
    have q1 : (N : Int) / 2 = (h : Int) := by omega
    obtain ⟨e, lo, olo, he1, hhalf, hap, hmul⟩ : ∃ (e : Int) (lo olo : Nat), epoch % 2 = e ∧ halfA N epoch = ⟨lo, lo + h, lo⟩ ∧ ((lo = 0 ∧ olo = h) ∨ (lo = h ∧ olo = 0)) ∧ (1 - e) * (h : Int) = (olo : Int) := by
      have h01 : epoch % 2 = 0 ∨ epoch % 2 = 1 := by omega
      rcases h01 with h01 | h01
      · exact ⟨0, 0, h, h01, by unfold halfA; rw [hh, h01]; simp, .inl ⟨rfl, rfl⟩, by omega⟩
      · exact ⟨1, h, 0, h01, by unfold halfA; rw [hh, h01]; simp, .inr ⟨rfl, rfl⟩, by omega⟩
    have he2 : 0 ≤ e ∧ e ≤ 1 := by omega
    have hol : olo + h ≤ N := by omega
    refine calls_w (vs := [.int .i64 N, .int .i64 epoch, .slice A la cap, .int .u64 keep, .int .u8 (ob.toNat : Int)]) Try.func15 rfl rfl rfl ?_ w (St.start w)
    (repeat' (first
      | ((with_reducible refine at_fn 43 ?_); with_reducible refine owk_c0s evs_auto (by kernel_rfl) (fun w H => alive16 H) ?_)
      | ((with_reducible refine at_fn 21 ?_); with_reducible refine owk_c0x evs_auto (by kernel_rfl) (fun w H => disk_new_is N n0 n1 hclip H) (fun p => ?_))
      | (with_reducible refine at_bin ?_; first | refine yk_eq (y_quo64 (ev_tmp rfl) ev_const (by omega)) (congrArg _ q1) ?_)
      | (with_reducible refine is_yk ?_; refine yk_auto (k := ?_))
      | (with_reducible refine is_owk0 ?_; refine owk0_auto (k := ?_))
      | (with_reducible refine is_owkc ?_; refine owk_auto (k := fun _ => ?_))
      | refine go1 (k := ?_)
      | (refine go2 (ka := ?_) (kb := ?_) <;> intro _)
      | fail))
    refine w_loop (α := Nat × DiskM) (fun z => z.1 ≤ h ∧ Forged z.2 N olo ob z.1)
      (fun z => [(13, .int .i64 (z.1 : Int)), (12, .int .i64 (h : Int)), (11, .pointer (some ⟨p, 0, none⟩)), (1, .int .i64 epoch), (2, .slice A la cap), (3, .int .u64 keep), (4, .int .u8 (ob.toNat : Int))])
      (fun z => [DiskAt p z.2, Old w]) (fun z => h - z.1) (0, DiskM.new N) ⟨Nat.zero_le _, forged_new N olo ob⟩ sub_auto sel_auto (fun z hz => ?_)
    obtain ⟨i, D⟩ := z
    obtain ⟨hi, hF⟩ := hz
    dsimp only at hi hF ⊢
    by_cases hlt : i < h
    · obtain ⟨hE, hF'⟩ := hF.step (by omega)
      obtain ⟨D', hD'⟩ : ∃ D', D.forge ((olo + i : Nat) : Int) (mark ob i) = D' := ⟨_, rfl⟩
      rw [hD'] at hF'
      have hwl : D.waits.length ≤ 1073741824 := by rw [hF.waits]; simp
      have hw8 := wrap8_nat i
      have hsum : (olo : Int) + (i : Int) = ((olo + i : Nat) : Int) := by omega
      have hmk : ∀ {L : List HP} {q : Nat}, HasR (St (conOf w) (Bl q 5 (List.flatMap vcells [.int .u8 (ob.toNat : Int), .int .u8 ((UInt8.ofNat (i % 256)).toNat : Int)]) :: L)) (.slice (some ⟨q, 0, none⟩) 2 2) 2 (bvs (mark ob i)) := hasR_blAll rfl (by omega) (by omega)
      (repeat' (first
      | ((with_reducible refine at_fn 41 ?_); with_reducible refine owk_c1 evs_auto (by kernel_rfl) pick_auto (fun w H => disk_forge_is _ (by omega) (by omega) _ (mark ob i) hE hD' (HasR.bytes hmk) hwl H) ?_)
      | (with_reducible refine at_bin ?_; first | refine yk_eq (y_rem (ev_tmp rfl) ev_const (by omega)) (congrArg _ he1) ?_ | refine yk_eq (y_mul64 (ev_tmp rfl) (ev_tmp rfl) (by rw [hmul]; omega)) (congrArg _ hmul) ?_ | refine yk_eq (y_add64 (ev_tmp rfl) (ev_tmp rfl) (by omega)) (congrArg _ hsum) ?_)
      | (with_reducible refine at_conv ?_; first | refine yk_eq (y_conv_int (ev_tmp rfl)) (congrArg _ hw8) ?_)
      | (with_reducible refine is_yk ?_; refine yk_auto (k := ?_))
      | (with_reducible refine is_owk0 ?_; refine owk0_auto (k := ?_))
      | (with_reducible refine is_owkc ?_; refine owk_auto (k := fun _ => ?_))
      | refine go1 (k := ?_)
      | (refine go2 (ka := ?_) (kb := ?_) <;> intro _)
      | fail))
      exact x_again (i + 1, D') ⟨by show i + 1 ≤ h; omega, hF'⟩ (by show h - (i + 1) < h - i; omega) sub_auto sel_auto
    · obtain rfl : i = h := by omega
      have hB := hF.back (lo := lo) (by omega) (by omega) hap
      have hDl := hF.len
      clear hF hlt hi
      (repeat' (first
      | ((with_reducible refine at_fn 44 ?_); with_reducible refine owk_c1x evs_auto (by kernel_rfl) pick_auto (fun w H => c_half epoch ⟨e0, e1⟩ hDl (by omega) hhalf H) (fun a => ?_))
      | (with_reducible refine is_yk ?_; refine yk_auto (k := ?_))
      | (with_reducible refine is_owk0 ?_; refine owk0_auto (k := ?_))
      | (with_reducible refine is_owkc ?_; refine owk_auto (k := fun _ => ?_))
      | refine go1 (k := ?_)
      | (refine go2 (ka := ?_) (kb := ?_) <;> intro _)
      | fail))
      refine w_loop (α := Nat × BkS) (fun z => z.1 ≤ la ∧ Back z.2.D N i lo olo ob z.2.u ∧ z.2.u.length ≤ z.1)
        (fun z => [(74, .int .i64 (z.1 : Int)), (73, .int .i64 (la : Int)), (72, .slice A la cap), (15, .slice z.2.q.1 z.2.u.length z.2.q.2), (14, .pointer (some ⟨a, 0, none⟩)), (12, .int .i64 (i : Int)), (11, .pointer (some ⟨p, 0, none⟩)), (1, .int .i64 epoch), (3, .int .u64 keep), (4, .int .u8 (ob.toNat : Int))])
        (fun z => [AreaAt a p ⟨lo, lo + i, lo + sizeS z.2.u⟩, DiskAt p z.2.D, OwnP 9 1 (.slice z.2.q.1 z.2.u.length z.2.q.2) z.2.u.length (z.2.u.map str), Old w]) (fun z => la - z.1) (0, ⟨D, [], (none, 0)⟩)
        ⟨Nat.zero_le _, hB, Nat.le_refl _⟩ sub_auto (.cons .hd (.cons .hd (.own0 sel_all))) (fun z hz => ?_)
      clear hB hDl
      obtain ⟨j, D, u, q1', q2'⟩ := z
      obtain ⟨hj, hB, hul⟩ := hz
      dsimp only at hj hB hul ⊢
      by_cases hjl : j < la
      · obtain ⟨a', cs, rfl, hcs, -, hca⟩ := hac j ta[j] (List.getElem?_eq_getElem (by omega))
        generalize ta[j] = f0 at hcs
        have c1 : w.cell? (a'.add (j * 1)) = some (str f0) := by have := hca 0 _ (by rw [hcs]; rfl); simpa [Addr.add] using this
        by_cases h2 : f0.length ≤ 4096
        · have hfo : FrameOk (frameB f0) 4104 := frame_ok f0 (by omega) (by omega)
          obtain ⟨m, hm⟩ : ∃ m, ((frameB f0).length + 255) / 256 = m := ⟨_, rfl⟩
          have hcat : u.map str ++ List.flatMap vcells [str (frameB f0)] = (u ++ [frameB f0]).map str := by simp [vcells_str]
          have hkk : u.length + 1 = (u ++ [frameB f0]).length := by simp
          have hkb : (u ++ [frameB f0]).length ≤ 21 := by rw [← hkk]; omega
          have hb1 : (List.flatMap vcells [str (frameB f0)]).length = 1 := rfl
          have hone : ∀ v ∈ List.flatMap vcells [str (frameB f0)], v.oneCell' = true := fun v hv => by simp [vcells_str] at hv; rw [hv]; rfl
          have hle := hfo.le
          have hsz := hB.size
          have hhn := hB.hn
          have hwt := hB.waits
          by_cases h3 : sizeS u + m ≤ i
          · obtain ⟨D', hadd, hB'⟩ := hB.add hfo hm h3
            (repeat' (first
      | ((with_reducible refine at_fn 45 ?_); with_reducible refine owk_c0x evs_auto (by kernel_rfl) (fun w H => framed_ref f0 (by omega) rfl H) (fun ⟨⟨q1, q2⟩, hq⟩ => ?_))
      | ((with_reducible refine at_fn 47 ?_); with_reducible refine owk_c2 evs_auto (by kernel_rfl) pick_auto pick_auto (fun w H => c_add hadd rds_auto (by omega) (by dsimp only; omega) (by omega) H) ?_)
      | ((with_reducible refine at_builtinO (b := .append) ?_); with_reducible refine owk (ow_appendR (ev_tmp rfl) (ev_tmp rfl) (hasR_blAll hb1 (by omega) (by omega)) hone hkk hcat (by omega) pick_auto) (fun ⟨qa1, qa2⟩ => ?_))
      | (with_reducible refine at_load ?_; first | refine yk (y_load (ev_tmp rfl) old_auto) ?_)
      | (with_reducible refine at_conv ?_; first | refine yk (y_str (l := frameB f0) (n := (frameB f0).length) (ev_tmp rfl) rds_auto) ?_)
      | (with_reducible refine is_yk ?_; refine yk_auto (k := ?_))
      | (with_reducible refine is_owk0 ?_; refine owk0_auto (k := ?_))
      | (with_reducible refine is_owkc ?_; refine owk_auto (k := fun _ => ?_))
      | refine go1 (k := ?_)
      | (refine go2 (ka := ?_) (kb := ?_) <;> intro _)
      | fail))
            exact x_again (j + 1, ⟨D', u ++ [frameB f0], (qa1, qa2)⟩) ⟨by show j + 1 ≤ la; omega, hB', by show (u ++ [frameB f0]).length ≤ j + 1; omega⟩ (by show la - (j + 1) < la - j; omega) sub_auto sel_auto
          · have hadd := hB.full hfo hm h3
            (repeat' (first
      | ((with_reducible refine at_fn 45 ?_); with_reducible refine owk_c0x evs_auto (by kernel_rfl) (fun w H => framed_ref f0 (by omega) rfl H) (fun ⟨⟨q1, q2⟩, hq⟩ => ?_))
      | ((with_reducible refine at_fn 47 ?_); with_reducible refine owk_c2 evs_auto (by kernel_rfl) pick_auto pick_auto (fun w H => c_add hadd rds_auto (by omega) (by dsimp only; omega) (by omega) H) ?_)
      | (with_reducible refine at_load ?_; first | refine yk (y_load (ev_tmp rfl) old_auto) ?_)
      | (with_reducible refine is_yk ?_; refine yk_auto (k := ?_))
      | (with_reducible refine is_owk0 ?_; refine owk0_auto (k := ?_))
      | (with_reducible refine is_owkc ?_; refine owk_auto (k := fun _ => ?_))
      | refine go1 (k := ?_)
      | (refine go2 (ka := ?_) (kb := ?_) <;> intro _)
      | fail))
            exact x_again (j + 1, ⟨D, u, (q1', q2')⟩) ⟨by show j + 1 ≤ la; omega, hB, by show u.length ≤ j + 1; omega⟩ (by show la - (j + 1) < la - j; omega) sub_auto sel_auto
        · (repeat' (first
      | (with_reducible refine at_load ?_; first | refine yk (y_load (ev_tmp rfl) old_auto) ?_)
      | (with_reducible refine is_yk ?_; refine yk_auto (k := ?_))
      | (with_reducible refine is_owk0 ?_; refine owk0_auto (k := ?_))
      | (with_reducible refine is_owkc ?_; refine owk_auto (k := fun _ => ?_))
      | refine go1 (k := ?_)
      | (refine go2 (ka := ?_) (kb := ?_) <;> intro _)
      | fail))
          exact x_ret1 rfl rfl (fun w H => ⟨rfl, (Sel.st (T := [Old _]) sel_auto H).toBelow'⟩)
      · have hj0 : ¬ j < la := hjl
        clear hul hac
        obtain ⟨hS, hnow, hdn⟩ := synced hB.steady keep
        obtain ⟨D1, hD1⟩ : ∃ D1, D.sync = D1 := ⟨_, rfl⟩
        obtain ⟨D2, hD2⟩ : ∃ D2, D1.off keep = D2 := ⟨_, rfl⟩
        obtain ⟨D3, hD3⟩ : ∃ D3, D2.on = D3 := ⟨_, rfl⟩
        rw [hD1, hD2, hD3] at hnow hdn
        have hDl : D3.now.length = N := by rw [hnow, hB.steady.len]
        have hdon : ∀ {c : Con} {F : List HP} {w : World}, St c (DiskAt p D2 :: F) w → Calls Try.prog 24 #[.pointer (some ⟨p, 0, none⟩)] w fun e w' => e = .returned (.tuple #[]) ∧ St c (DiskAt p D3 :: F) w' := fun H => by rw [← hD3]; exact disk_on H
        (repeat' (first
      | ((with_reducible refine at_fn 44 ?_); with_reducible refine owk_c1x evs_auto (by kernel_rfl) pick_auto (fun w H => c_half epoch ⟨e0, e1⟩ hDl (by omega) hhalf H) (fun a2 => ?_))
      | ((with_reducible refine at_fn 32 ?_); with_reducible refine owk_c1 evs_auto (by kernel_rfl) pick_auto (fun w H => disk_syncE hS hD1 H) ?_)
      | ((with_reducible refine at_fn 22 ?_); with_reducible refine owk_c1 evs_auto (by kernel_rfl) pick_auto (fun w H => disk_off_is keep hk2.1 hk2.2 hD2 H) ?_)
      | ((with_reducible refine at_fn 24 ?_); with_reducible refine owk_c1 evs_auto (by kernel_rfl) pick_auto (fun w H => hdon H) ?_)
      | (with_reducible refine is_yk ?_; refine yk_auto (k := ?_))
      | (with_reducible refine is_owk0 ?_; refine owk0_auto (k := ?_))
      | (with_reducible refine is_owkc ?_; refine owk_auto (k := fun _ => ?_))
      | refine go1 (k := ?_)
      | (refine go2 (ka := ?_) (kb := ?_) <;> intro _)
      | fail))
        have hsm := hB.size
        have hhn := hB.hn
        have h200 := hB.n200
        have hlohi : lo + i ≤ N := by omega
        refine w_loop (α := Nat) (fun t => t ≤ u.length) (fun t => [(108, .int .i64 (t : Int)), (107, .int .i64 (u.length : Int)), (106, .slice q1' u.length q2'), (20, .pointer (some ⟨a2, 0, none⟩)), (14, .pointer (some ⟨a, 0, none⟩)), (12, .int .i64 (i : Int)), (11, .pointer (some ⟨p, 0, none⟩)), (1, .int .i64 epoch), (4, .int .u8 (ob.toNat : Int))])
          (fun t => [AreaAt a2 p ⟨lo, lo + i, lo + sizeS (u.take t)⟩, DiskAt p D3, AreaAt a p ⟨lo, lo + i, lo + sizeS u⟩, OwnP 9 1 (.slice q1' u.length q2') u.length (u.map str), Old w]) (fun t => u.length - t) 0 (Nat.zero_le _) sub_auto (.cons .hd (.cons .hd (.cons .hd (.cons .hd (.cons .hd .nil))))) (fun t ht => ?_)
        refine w_disk (.tl .hd) (fun hwf => ?_)
        by_cases htl : t < u.length
        · obtain ⟨f, hf⟩ : ∃ f, u[t]? = some f := ⟨_, List.getElem?_eq_getElem htl⟩
          have hfo := hB.fs f (List.mem_of_getElem? hf)
          have hst := sizeS_take hf
          have hle := sizeS_take_le u (t + 1)
          obtain ⟨lim, hlim⟩ : ∃ lim, min (lo + i - (lo + sizeS (u.take t))) 64 = lim := ⟨_, rfl⟩
          have hml := hfo.le
          obtain ⟨k, S, hk⟩ := stands_of hwf.now (pos := lo + sizeS (u.take t)) (lim := lim) (by rw [hnow]; exact laid_nth hB.laid hf) hfo.ne hfo.is (by omega) (by rw [hDl]; omega)
          have hA' : ({ lo := lo, hi := lo + i, pos := lo + sizeS (u.take t) + k + 1 } : AreaM) = ⟨lo, lo + i, lo + sizeS (u.take (t + 1))⟩ := by
            have : lo + sizeS (u.take t) + k + 1 = lo + sizeS (u.take (t + 1)) := by omega
            rw [this]
          have hb1 : lo + i ≤ D3.now.length := by rw [hDl]; omega
          have hN : ∀ {c : Con} {F : List HP} {w : World}, St c (AreaAt a2 p ⟨lo, lo + i, lo + sizeS (u.take t)⟩ :: DiskAt p D3 :: F) w → Calls Try.prog 48 #[.pointer (some ⟨a2, 0, none⟩)] w fun e w' => ∃ g : Nat, e = .returned (.tuple #[.slice (some ⟨g, 0, none⟩) f.length f.length, .int .i64 0]) ∧ St c (BkP g f :: AreaAt a2 p ⟨lo, lo + i, lo + sizeS (u.take (t + 1))⟩ :: DiskAt p D3 :: F) w' := fun H => c_next_some (A := ⟨lo, lo + i, lo + sizeS (u.take t)⟩) hdn hlim hb1 S.lt S.no S.is S.n0 S.take hA' H
          have h0 := S.n0
          clear S hA' hlim hwf hDl
          refine w_openOwn (.tl (.tl (.tl .hd))) (fun _ h2 _ => absurd h2 (by omega)) (fun g cap' cur e1 hc1 hc2 hc3 hc4 => ?_)
          obtain ⟨rfl, -, rfl⟩ := Value.slice.inj e1
          (repeat' (first
      | ((with_reducible refine at_fn 48 ?_); with_reducible refine owk_c2x evs_auto (by kernel_rfl) pick_auto pick_auto (fun w H => hN H) (fun g => ?_))
      | (with_reducible refine at_load ?_; first | refine yk (y_load (ev_tmp rfl) (cell_nth has_auto hc4 rfl hf rfl)) ?_)
      | (with_reducible refine at_conv ?_; first | refine yk (y_str (l := f) (n := f.length) (ev_tmp rfl) (bkp_hasR rfl h0 (by omega))) ?_)
      | (with_reducible refine is_yk ?_; refine yk_auto (k := ?_))
      | (with_reducible refine is_owk0 ?_; refine owk0_auto (k := ?_))
      | (with_reducible refine is_owkc ?_; refine owk_auto (k := fun _ => ?_))
      | refine go1 (k := ?_)
      | (refine go2 (ka := ?_) (kb := ?_) <;> intro _)
      | fail))
          exact x_again (t + 1) (by show t + 1 ≤ _; omega) (by omega) sub_auto (.cons (.tl .hd) (.cons (.tl .hd) (.cons (.tl (.tl .hd)) (.imp (.tl .hd) (shutOwn hc1 hc2 hc3 hc4) (.cons (.tl .hd) .nil)))))
        · obtain rfl : t = u.length := by omega
          have hzer : ∀ s, lo + sizeS u ≤ s → s < lo + sizeS u + min (lo + i - (lo + sizeS u)) 64 → D3.now[s]? = some zeroSec := fun s h1 h2 => by rw [hnow]; exact hB.zero s h1 (by omega)
          have hno := no_frame hzer hwf.now
          obtain ⟨lim, hlim⟩ : ∃ lim, min (lo + i - (lo + sizeS u)) 64 = lim := ⟨_, rfl⟩
          rw [hlim] at hno
          have hb1 : lo + i ≤ D3.now.length := by rw [hDl]; omega
          have hN : ∀ {c : Con} {F : List HP} {w : World}, St c (AreaAt a2 p ⟨lo, lo + i, lo + sizeS u⟩ :: DiskAt p D3 :: F) w → Calls Try.prog 48 #[.pointer (some ⟨a2, 0, none⟩)] w fun e w' => e = .returned (.tuple #[.slice none 0 0, .int .i64 0]) ∧ St c (AreaAt a2 p ⟨lo, lo + i, lo + sizeS u⟩ :: DiskAt p D3 :: F) w' := fun H => c_next_none (A := ⟨lo, lo + i, lo + sizeS u⟩) hdn hlim hb1 hno H
          rw [List.take_of_length_le (Nat.le_refl _)]
          clear hzer hno hlim hwf
          (repeat' (first
      | ((with_reducible refine at_fn 48 ?_); with_reducible refine owk_c2 evs_auto (by kernel_rfl) pick_auto pick_auto (fun w H => hN H) ?_)
      | (with_reducible refine is_yk ?_; refine yk_auto (k := ?_))
      | (with_reducible refine is_owk0 ?_; refine owk0_auto (k := ?_))
      | (with_reducible refine is_owkc ?_; refine owk_auto (k := fun _ => ?_))
      | refine go1 (k := ?_)
      | (refine go2 (ka := ?_) (kb := ?_) <;> intro _)
      | fail))
          refine w_loop (α := Nat) (fun t => t ≤ i) (fun t => [(27, .int .i64 (t : Int)), (25, .slice none 0 0), (26, .int .i64 0), (20, .pointer (some ⟨a2, 0, none⟩)), (14, .pointer (some ⟨a, 0, none⟩)), (12, .int .i64 (i : Int)), (11, .pointer (some ⟨p, 0, none⟩)), (1, .int .i64 epoch), (4, .int .u8 (ob.toNat : Int))])
            (fun _ => [AreaAt a2 p ⟨lo, lo + i, lo + sizeS u⟩, DiskAt p D3, AreaAt a p ⟨lo, lo + i, lo + sizeS u⟩, Old w]) (fun t => i - t) 0 (Nat.zero_le _) sub_auto (.cons .hd (.cons .hd (.cons .hd (.cons (.tl .hd) .nil)))) (fun t ht2 => ?_)
          by_cases hti : t < i
          · have hw8 := wrap8_nat t
            have hoth := hB.other t hti
            rw [← hnow] at hoth
            have hready : D3.ready ((olo + t : Nat) : Int) = 0 := by
              unfold DiskM.ready
              rw [hdn, if_neg (by simp), if_neg (by rw [hDl]; omega)]
            have hgd : D3.now.getD (((olo + t : Nat) : Int)).toNat [] = pad (mark ob t) := by
              rw [Int.toNat_natCast, List.getD_eq_getElem?_getD, hoth]; rfl
            have hsum : (olo : Int) + (t : Int) = ((olo + t : Nat) : Int) := by omega
            have hc0 : ((bvs (pad (mark ob t))).toArray.toList)[0 + (0 : Int).toNat * 1]? = some (.int .u8 (ob.toNat : Int)) := rfl
            have hc1 : ((bvs (pad (mark ob t))).toArray.toList)[0 + (1 : Int).toNat * 1]? = some (.int .u8 ((UInt8.ofNat (t % 256)).toNat : Int)) := rfl
            (repeat' (first
      | ((with_reducible refine at_fn 27 ?_); with_reducible refine owk_c1x evs_auto (by kernel_rfl) pick_auto (fun w H => disk_read_is _ (by omega) hready hgd H) (fun v => ?_))
      | (with_reducible refine at_bin ?_; first | refine yk_eq (y_rem (ev_tmp rfl) ev_const (by omega)) (congrArg _ he1) ?_ | refine yk_eq (y_mul64 (ev_tmp rfl) (ev_tmp rfl) (by rw [hmul]; omega)) (congrArg _ hmul) ?_ | refine yk_eq (y_add64 (ev_tmp rfl) (ev_tmp rfl) (by omega)) (congrArg _ hsum) ?_)
      | (with_reducible refine at_conv ?_; first | refine yk_eq (y_conv_int (ev_tmp rfl)) (congrArg _ hw8) ?_)
      | (with_reducible refine at_load ?_; first | refine yk (y_load (ev_tmp rfl) (hasCell_bl has_auto hc0)) ?_ | refine yk (y_load (ev_tmp rfl) (hasCell_bl has_auto hc1)) ?_)
      | (with_reducible refine is_yk ?_; refine yk_auto (k := ?_))
      | (with_reducible refine is_owk0 ?_; refine owk0_auto (k := ?_))
      | (with_reducible refine is_owkc ?_; refine owk_auto (k := fun _ => ?_))
      | refine go1 (k := ?_)
      | (refine go2 (ka := ?_) (kb := ?_) <;> intro _)
      | fail))
            exact x_again (t + 1) (by show t + 1 ≤ i; omega) (by show i - (t + 1) < i - t; omega) sub_auto sel_auto
          · have hleft : ((lo + i : Nat) : Int) - ((lo + sizeS u : Nat) : Int) = (i : Int) - (sizeS u : Int) := by omega
            (repeat' (first
      | ((with_reducible refine at_fn 46 ?_); with_reducible refine owk_c1 evs_auto (by kernel_rfl) pick_auto (fun w H => c_left hleft (by dsimp only; omega) H) ?_)
      | (with_reducible refine is_yk ?_; refine yk_auto (k := ?_))
      | (with_reducible refine is_owk0 ?_; refine owk0_auto (k := ?_))
      | (with_reducible refine is_owkc ?_; refine owk_auto (k := fun _ => ?_))
      | refine go1 (k := ?_)
      | (refine go2 (ka := ?_) (kb := ?_) <;> intro _)
      | fail))
            exact x_ret1 rfl rfl (fun w H => ⟨by simp, (Sel.st (T := [Old _]) sel_auto H).toBelow'⟩)
  · refine calls_w (vs := [.int .i64 n, .int .i64 epoch, .slice A la cap, .int .u64 keep, .int .u8 (ob.toNat : Int)]) Try.func15 rfl rfl rfl ?_ w (St.start w)
    (repeat' (first
      | ((with_reducible refine at_fn 43 ?_); with_reducible refine owk_c0s evs_auto (by kernel_rfl) (fun w H => alive16 H) ?_)
      | (with_reducible refine is_yk ?_; refine yk_auto (k := ?_))
      | (with_reducible refine is_owk0 ?_; refine owk0_auto (k := ?_))
      | (with_reducible refine is_owkc ?_; refine owk_auto (k := fun _ => ?_))
      | refine go1 (k := ?_)
      | (refine go2 (ka := ?_) (kb := ?_) <;> intro _)
      | fail))
    all_goals exact x_ret1 rfl rfl (fun w H => ⟨rfl, (Sel.st (T := [Old _]) sel_auto H).toBelow'⟩)
end Go.Proofs.Ytakeilefbcpabaa

/- Sizes of a disk kept by each call; Write, said of what reads as bytes. -/
namespace Go.Proofs.Ytakeilefbcpabaa
open Go.RowKit

def Fit (k j : Nat) (D : DiskM) : Prop := D.now.length = k ∧ D.safe.length = k ∧ D.waits.length ≤ j
theorem fit_new (k : Nat) : Fit k 0 (DiskM.new k) := ⟨by simp [DiskM.new], by simp [DiskM.new], by simp [DiskM.new]⟩
theorem fit_mono {k j j' : Nat} {D : DiskM} (h : Fit k j D) (hj : j ≤ j') : Fit k j' D := ⟨h.1, h.2.1, by have := h.2.2; omega⟩
theorem fit_act {k j : Nat} {D : DiskM} (h : Fit k j D) : Fit k j D.act := by unfold DiskM.act; split <;> exact h
theorem fit_put {k j : Nat} {D : DiskM} (h : Fit k j D) (i : Nat) (s : Sec) : Fit k (j + 1) (D.put i s) := ⟨by simp [DiskM.put, h.1], h.2.1, by have := h.2.2; simp [DiskM.put]; omega⟩
theorem fit_off {k j : Nat} {D : DiskM} (h : Fit k j D) (K : Int) : Fit k j (D.off K) := by
  unfold DiskM.off
  split
  · exact h
  · exact ⟨by simp [DiskM.kept, keptFrom_length, h.2.1], by simp [DiskM.kept, keptFrom_length, h.2.1], by simp⟩
theorem fit_on {k j : Nat} {D : DiskM} (h : Fit k j D) : Fit k j D.on := h
theorem fit_arm {k j : Nat} {D : DiskM} (h : Fit k j D) (n K : Int) : Fit k j (D.arm n K) := h
theorem fit_write {k j : Nat} {D : DiskM} (h : Fit k j D) (i : Int) (b : List UInt8) : Fit k (j + 1) (D.write i b) := by
  have h1 : Fit k (j + 1) D := fit_mono h (by omega)
  unfold DiskM.write
  split
  · exact h1
  · split
    · exact h1
    · split
      · exact fit_off (fit_put (fit_act h) _ _) _
      · exact fit_put (fit_act h) _ _
theorem fit_sync {k j : Nat} {D : DiskM} (h : Fit k j D) : Fit k j D.sync := by
  unfold DiskM.sync
  split
  · exact h
  · split
    · exact fit_off (fit_act h) _
    · exact ⟨(fit_act h).1, (fit_act h).1, by simp⟩
theorem fit_forge {k j : Nat} {D : DiskM} (h : Fit k j D) (i : Int) (b : List UInt8) : Fit k j (D.forge i b) := by
  unfold DiskM.forge
  split
  · exact h
  · exact ⟨by simp [h.1], by simp [h.2.1], Nat.le_trans (List.length_filter_le _ _) h.2.2⟩
theorem new_image (k : Nat) : (DiskM.new k).image = zeros (256 * k) := by
  show (List.replicate k (List.replicate 256 (0 : UInt8))).flatten = List.replicate (256 * k) 0
  rw [List.flatten_replicate_replicate, Nat.mul_comm]
attribute [local irreducible] Y OW YK OWK W WL WP X CV Ev Evs HasCell HasCells Has Met Again Kept
section
variable {c : Con} {F : List HP} {w : World} {p : Nat} {D D' : DiskM}
theorem disk_write_to (i : Int) (hi0 : -9223372036854775808 ≤ i) (hi1 : i ≤ 9223372036854775807) (v : Value) (b : List UInt8) {n : Nat} (hb : HasR (St c F) v n (bvs b)) (hwl : D.waits.length ≤ 1073741824) (H : St c (DiskAt p D :: F) w) :
    Calls Try.prog 30 #[.pointer (some ⟨p, 0, none⟩), .int .i64 i, v] w fun e w' => e = .returned (.int .i64 (D.writeE i b.length)) ∧ St c (DiskAt p (D.write i b) :: F) w' := disk_write H i hi0 hi1 v b hb.bytes hwl
end
end Go.Proofs.Ytakeilefbcpabaa

/- DiskForges: the plain law. -/
namespace Go.Proofs.Ytakeilefbcpabaa
open Go.RowKit

theorem flat_get : ∀ (l : List Sec), (∀ s ∈ l, s.length = 256) → ∀ j, l.flatten[j]? = (l[j / 256]?).bind (fun s => s[j % 256]?)
  | [], _, j => by simp
  | s :: l, h, j => by
    rw [List.flatten_cons]
    have hs := h s (by simp)
    by_cases hj : j < 256
    · rw [List.getElem?_append_left (by omega), Nat.div_eq_of_lt hj, Nat.mod_eq_of_lt hj]; rfl
    · rw [List.getElem?_append_right (by omega), flat_get l (fun x hx => h x (by simp [hx])), hs]
      have e1 : j / 256 = (j - 256) / 256 + 1 := by omega
      have e2 : j % 256 = (j - 256) % 256 := by omega
      rw [e1, e2]; rfl
theorem keptFrom_get (K : Int) {m : Nat} : ∀ (l : List (Nat × Sec)) (i : Nat) (s : List Sec), (∀ x ∈ l, x.1 ≠ m) → (keptFrom K i l s)[m]? = s[m]?
  | [], _, _, _ => rfl
  | x :: r, i, s, h => by
    rw [keptFrom, keptFrom_get K r (i + 1) _ (fun y hy => h y (by simp [hy]))]
    split
    · rw [List.getElem?_set_ne (h x (by simp))]
    · rfl
theorem forge_law {k j : Nat} {D : DiskM} (hD : Fit k j D) {a : Int} (h0 : 0 ≤ a) (h1 : a < k) {b : List UInt8} (hb : b.length ≤ 256) (K : Int) :
    D.forgeE a b.length = 0 ∧ (D.forge a b).acts = D.acts ∧ (D.forge a b).now = D.now.set a.toNat (pad b) ∧ Fit k j (D.forge a b) ∧ (((D.forge a b).off K).on).ready a = 0 ∧ (((D.forge a b).off K).on).now.getD a.toNat [] = pad b := by
  have e : D.forgeE a b.length = 0 := by
    unfold DiskM.forgeE
    rw [if_neg (by rw [hD.1]; omega), if_neg (by omega)]
  have hf := fit_forge hD a b
  have hfo := fit_off hf K
  have e2 : D.forge a b = { D with now := D.now.set a.toNat (pad b), safe := D.safe.set a.toNat (pad b), waits := D.waits.filter fun x => x.1 != a.toNat } := by
    unfold DiskM.forge
    rw [if_neg (by omega)]
  refine ⟨e, by rw [e2], by rw [e2], hf, ?_, ?_⟩
  · unfold DiskM.ready
    have h2 : ((D.forge a b).off K).on.down = false := rfl
    have h3 : ((D.forge a b).off K).on.now.length = k := hfo.1
    rw [h2, h3]
    simp only [Bool.false_eq_true, if_false]
    rw [if_neg (by omega)]
  · show ((D.forge a b).off K).now.getD a.toNat [] = pad b
    have ha : a.toNat < k := by omega
    unfold DiskM.off
    split
    · rw [e2]
      show (D.now.set a.toNat (pad b)).getD a.toNat [] = pad b
      rw [List.getD_eq_getElem?_getD, List.getElem?_set_self (by rw [hD.1]; exact ha)]; rfl
    · show ((D.forge a b).kept K).getD a.toNat [] = pad b
      rw [List.getD_eq_getElem?_getD, DiskM.kept, keptFrom_get K]
      · rw [e2]
        show (D.safe.set a.toNat (pad b))[a.toNat]?.getD [] = pad b
        rw [List.getElem?_set_self (by rw [hD.2.1]; exact ha)]; rfl
      · rw [e2]
        intro x hx
        have := (List.mem_filter.1 hx).2
        simpa using this
theorem pad_get (b : List UInt8) {i : Nat} (hi : i < 256) : (pad b)[i]? = some (if h : i < b.length then b[i] else 0) := by
  unfold pad
  by_cases h : i < b.length
  · rw [List.getElem?_append_left h, dif_pos h, List.getElem?_eq_getElem h]
  · rw [List.getElem?_append_right (by omega), dif_neg h, zeros, List.getElem?_replicate, if_pos (by omega)]
/-- What is at a place of the image behind a forging. -/
theorem forge_at {k : Nat} {D D' : DiskM} (hw : ∀ s ∈ D.now, s.length = 256) (hl : D.now.length = k) {m : Nat} (hm : m < k) {b : List UInt8} (hb : b.length ≤ 256) (hn : D'.now = D.now.set m (pad b)) {j : Nat} (h1 : j < D.image.length) (h2 : j < D'.image.length) :
    (j / 256 ≠ m → D'.image[j] = D.image[j]) ∧ (j / 256 = m → ∀ h : j % 256 < b.length, D'.image[j] = b[j % 256]) ∧ (j / 256 = m → ¬ j % 256 < b.length → D'.image[j] = 0) := by
  have hw' : ∀ s ∈ D'.now, s.length = 256 := by
    rw [hn]; intro s hs
    rcases List.mem_or_eq_of_mem_set hs with h | rfl
    · exact hw s h
    · exact pad_length b hb
  have f1 := flat_get D.now hw j
  have f2 := flat_get D'.now hw' j
  have g1 : D.now.flatten[j]? = some D.image[j] := List.getElem?_eq_getElem h1
  have g2 : D'.now.flatten[j]? = some D'.image[j] := List.getElem?_eq_getElem h2
  rw [g1] at f1
  rw [g2, hn] at f2
  have hmod : j % 256 < 256 := Nat.mod_lt _ (by omega)
  refine ⟨fun hne => ?_, fun he h => ?_, fun he h => ?_⟩
  · rw [List.getElem?_set_ne (Ne.symm hne), ← f1] at f2
    exact Option.some.inj f2
  · rw [he, List.getElem?_set_self (by omega)] at f2
    have f3 : some D'.image[j] = (pad b)[j % 256]? := f2
    rw [pad_get b hmod, dif_pos h] at f3
    exact Option.some.inj f3
  · rw [he, List.getElem?_set_self (by omega)] at f2
    have f3 : some D'.image[j] = (pad b)[j % 256]? := f2
    rw [pad_get b hmod, dif_neg h] at f3
    exact Option.some.inj f3
section
variable {P : Program} {N : Nat} {c : Con} {Q : Exit → Act → World → Prop} {E : Env} {L F : List HP}
theorem w_wf {p : Nat} {D : DiskM} {x : Code} (hp : Pick L (DiskAt p D) F) (h : D.WF → W P N c Q x E L) : W P N c Q x E L := fun a w hf H => h (hp.st H).openDisk.1 a w hf H
end
end Go.Proofs.Ytakeilefbcpabaa

/- Bytes of a block. -/
namespace Go.Proofs.Ytakeilefbcpabaa
open Go.RowKit
attribute [local irreducible] Y OW YK OWK W WL WP X CV Ev Evs HasCell HasCells Has Met Again Kept

theorem bvs_set (l : List UInt8) (j : Nat) (b : UInt8) : (bvs l).set j (bv b) = bvs (l.set j b) := by simp [bvs, List.map_set]
theorem bvs_getL {l : List UInt8} {j : Nat} (hj : j < l.length) : (bvs l)[j]? = some (.int .u8 (l[j].toNat : Int)) := by simp [bvs, bv, hj]
/-- A byte out of a block that begins with bytes. -/
theorem hasByte {H : World → Prop} {g T o : Nat} {fr : Nat × Nat} {l : List UInt8} {rest : List Value} {j : Nat} (h : Has H g (.cells (bvs l ++ rest).toArray T fr)) (hj : j < l.length) (ho : o = j) : HasCell H ⟨g, o, none⟩ (.int .u8 (l[j].toNat : Int)) := by
  subst ho
  refine hasCell_bl h ?_
  rw [List.toList_toArray, List.getElem?_append_left (by rw [bvs_length]; exact hj)]
  exact bvs_getL hj
theorem keeps_set {l : List UInt8} {rest : List Value} {j o : Nat} (hj : j < l.length) (ho : o = j) (x : Int) : (bvs l ++ rest).set o (.int .u8 (IntKind.u8.wrap x)) = bvs (l.set j (byteOf x)) ++ rest := by
  subst ho
  rw [← bv_byteOf, List.set_append_left _ _ (by rw [bvs_length]; exact hj), bvs_set]
/-- A store into such a block. -/
theorem ow_storeByte {P : Program} {N : Nat} {c : Con} {E : Env} {L L' : List HP} {d : Option Nat} {ty : TypeId} {pos : String} {aft : Array Edge} {g : Option (Nat × Bool)} {x y : Operand} {t T b o j : Nat} {z : Value} {l : List UInt8} {rest : List Value} {n : Int} [ht : TOne P t z]
    (hx : Ev E x (.pointer (some ⟨b, o, none⟩))) (hy : Ev E y (.int .u8 (IntKind.u8.wrap n))) (hj : j < l.length) (ho : o = j) (hu : Upd L b T (bvs l ++ rest) (bvs (l.set j (byteOf n)) ++ rest) L') :
    OW P N c E L (Oper.mk d (.store t x y) ty pos aft g) (fun _ : Unit => undef) fun _ => L' :=
  ow_store hx hy rfl (by rw [keeps_set hj ho]; exact hu) (by rw [List.length_append, bvs_length]; omega)

end Go.Proofs.Ytakeilefbcpabaa

/- DiskLoses: its arguments opened; the plain law of what is left behind a loss of power. -/
namespace Go.Proofs.Ytakeilefbcpabaa
open Go.ChangeShapes Go.WideShapes Go.ChangeAt Go.RowKit Go.Deep
end Go.Proofs.Ytakeilefbcpabaa

/- DiskLoses: the plain law of what is left behind a loss of power. -/
namespace Go.Proofs.Ytakeilefbcpabaa
open Go.RowKit

/-- Each sector is among what may be there. -/
def Among (may : Nat → List Sec) (l : List Sec) : Prop := ∀ q v, l[q]? = some v → v ∈ may q
theorem among_set {may : Nat → List Sec} {l : List Sec} (h : Among may l) {m : Nat} {s : Sec} (hs : s ∈ may m) : Among may (l.set m s) := fun q v hv => by
  by_cases hq : m = q
  · subst hq
    rw [List.getElem?_set] at hv
    simp only [if_true] at hv
    split at hv
    · cases hv; exact hs
    · cases hv
  · rw [List.getElem?_set_ne hq] at hv
    exact h q v hv
theorem among_kept (K : Int) {may : Nat → List Sec} : ∀ (l : List (Nat × Sec)) (i : Nat) (s : List Sec), Among may s → (∀ x ∈ l, x.2 ∈ may x.1) → Among may (keptFrom K i l s)
  | [], _, _, h, _ => h
  | x :: r, i, s, h, hl => by
    rw [keptFrom]
    refine among_kept K r (i + 1) _ ?_ (fun y hy => hl y (by simp [hy]))
    split
    · exact among_set h (hl x (by simp))
    · exact h
theorem among_mono {may may' : Nat → List Sec} (hm : ∀ q v, v ∈ may q → v ∈ may' q) {l : List Sec} (h : Among may l) : Among may' l := fun q v hv => hm q v (h q v hv)
/-- What the loop of DiskLoses keeps. -/
structure Held (D : DiskM) (may : Nat → List Sec) : Prop where
  now : D.now.length = 6
  same : D.safe.length = 6
  safe : Among may D.safe
  waits : ∀ x ∈ D.waits, x.2 ∈ may x.1
  dead : D.down = true → D.now = D.safe
theorem Held.off {D : DiskM} {may : Nat → List Sec} (h : Held D may) (K : Int) : Held (D.off K) may ∧ (D.off K).now = (D.off K).safe := by
  unfold DiskM.off
  split
  · rename_i hd
    exact ⟨h, h.dead hd⟩
  · have hl : (D.kept K).length = 6 := by rw [DiskM.kept, keptFrom_length, h.same]
    exact ⟨⟨hl, hl, among_kept K _ _ _ h.safe h.waits, by simp, fun _ => rfl⟩, rfl⟩
theorem Held.act {D : DiskM} {may : Nat → List Sec} (h : Held D may) : Held D.act may := by
  unfold DiskM.act
  split
  · exact h
  · exact ⟨h.now, h.same, h.safe, h.waits, h.dead⟩
/-- Behind the end: what is read is among what may be there. -/
theorem Held.read {D : DiskM} {may : Nat → List Sec} (h : Held D may) (K : Int) {q : Nat} (hq : q < 6) : ∃ v, (D.off K).on.now.getD q [] = v ∧ v ∈ may q ∧ (D.off K).on.ready q = 0 := by
  obtain ⟨h1, h2⟩ := h.off K
  have hl : q < (D.off K).now.length := by rw [h1.now]; exact hq
  refine ⟨(D.off K).now[q], ?_, ?_, ?_⟩
  · show (D.off K).now.getD q [] = _
    rw [List.getD_eq_getElem?_getD, List.getElem?_eq_getElem hl]; rfl
  · refine h1.safe q _ ?_
    rw [← h2]
    exact List.getElem?_eq_getElem hl
  · unfold DiskM.ready
    have e1 : (D.off K).on.down = false := rfl
    have e2 : (D.off K).on.now.length = 6 := h1.now
    rw [e1, e2]
    simp only [Bool.false_eq_true, if_false]
    rw [if_neg (by omega)]
theorem Held.mono {D : DiskM} {may may' : Nat → List Sec} (h : Held D may) (hm : ∀ q v, v ∈ may q → v ∈ may' q) : Held D may' := ⟨h.now, h.same, among_mono hm h.safe, fun x hx => hm _ _ (h.waits x hx), h.dead⟩
theorem Held.put {D : DiskM} {may : Nat → List Sec} (h : Held D may) (hd : D.down = false) {m : Nat} {s : Sec} (hs : s ∈ may m) : Held (D.put m s) may := by
  refine ⟨by simp [DiskM.put, h.now], h.same, h.safe, fun x hx => ?_, fun e => ?_⟩
  · rcases List.mem_append.1 hx with hx | hx
    · exact h.waits x hx
    · rw [List.mem_singleton.1 hx]; exact hs
  · have e' : D.down = true := e
    rw [hd] at e'; cases e'
theorem act_down (D : DiskM) : D.act.down = D.down := by unfold DiskM.act; split <;> rfl
theorem act_now (D : DiskM) : D.act.now = D.now := by unfold DiskM.act; split <;> rfl
theorem Held.write {D : DiskM} {may : Nat → List Sec} (h : Held D may) (i : Int) {b : List UInt8} (hs : pad b ∈ may i.toNat) : Held (D.write i b) may := by
  unfold DiskM.write
  split
  · exact h
  · rename_i hr
    have hd : D.down = false := by
      cases e : D.down with
      | false => rfl
      | true => exact absurd (by simp [DiskM.ready, e]) hr
    split
    · exact h
    · split
      · exact ((h.act.put (by rw [act_down]; exact hd) hs).off _).1
      · exact h.act.put (by rw [act_down]; exact hd) hs
theorem Held.sync {D : DiskM} {may : Nat → List Sec} (h : Held D may) : D.syncE ≠ 0 → Held D.sync may := by
  intro he
  unfold DiskM.sync
  split
  · exact h
  · rename_i hd
    split
    · exact (h.act.off _).1
    · rename_i hg
      exact absurd (by simp [DiskM.syncE, hd, hg]) he
theorem Held.synced {D : DiskM} {may may' : Nat → List Sec} (h : Held D may) (he : D.syncE = 0) (hm : Among may' D.now) : Held D.sync may' ∧ D.sync.down = false ∧ D.sync.now = D.now := by
  have hd : D.down = false := by
    cases e : D.down with
    | false => rfl
    | true => simp [DiskM.syncE, e] at he
  have hg : D.goes = false := by
    cases e : D.goes with
    | false => rfl
    | true => simp [DiskM.syncE, e] at he
  have e : D.sync = { D.act with safe := D.act.now, waits := [] } := by unfold DiskM.sync; simp [hd, hg]
  rw [e]
  refine ⟨⟨by rw [← h.now]; exact congrArg _ (act_now D), by rw [← h.now]; exact congrArg _ (act_now D), ?_, by simp, fun _ => rfl⟩, ?_, act_now D⟩
  · show Among may' D.act.now
    rw [act_now]; exact hm
  · exact (act_down D).trans hd
/-- What is there is what was written last. -/
def Last (D : DiskM) (may : Nat → List Sec) : Prop := ∀ q v, D.now[q]? = some v → (may q).getLast? = some v
def more (may : Nat → List Sec) (m : Nat) (s : Sec) : Nat → List Sec := fun q => if q = m then may q ++ [s] else may q
theorem more_mono (may : Nat → List Sec) (m : Nat) (s : Sec) : ∀ q v, v ∈ may q → v ∈ more may m s q := fun q v h => by
  unfold more; split
  · exact List.mem_append_left _ h
  · exact h
theorem more_mem (may : Nat → List Sec) (m : Nat) (s : Sec) : s ∈ more may m s m := by simp [more]
theorem Held.wrote {D : DiskM} {may : Nat → List Sec} (h : Held D may) (i : Int) (b : List UInt8) : Held (D.write i b) (more may i.toNat (pad b)) := (h.mono (more_mono may _ _)).write i (more_mem may _ _)
theorem Last.wrote {D : DiskM} {may : Nat → List Sec} (h : Last D may) {i : Int} {b : List UInt8} (he : D.writeE i b.length = 0) : Last (D.write i b) (more may i.toNat (pad b)) := by
  have hr : D.ready i = 0 := by
    unfold DiskM.writeE at he
    split at he
    · exact absurd he (by assumption)
    · rename_i hh; exact Decidable.not_not.1 hh
  have hb : ¬ 256 < b.length := by
    intro hh
    simp [DiskM.writeE, hr, hh] at he
  have hg : D.goes = false := by
    cases e : D.goes with
    | false => rfl
    | true => simp [DiskM.writeE, hr, hb, e] at he
  have e : D.write i b = D.act.put i.toNat (pad b) := by simp [DiskM.write, hr, hb, hg]
  rw [e]
  intro q v hv
  have hv' : (D.act.now.set i.toNat (pad b))[q]? = some v := hv
  rw [act_now] at hv'
  unfold more
  by_cases hq : i.toNat = q
  · subst hq
    rw [List.getElem?_set] at hv'
    simp only [if_true] at hv'
    split at hv'
    · cases hv'; simp
    · cases hv'
  · rw [List.getElem?_set_ne hq] at hv'
    rw [if_neg (Ne.symm hq)]
    exact h q v hv'
/-- Only what was written last. -/
def cut (may : Nat → List Sec) : Nat → List Sec := fun q => (may q).getLast?.toList
theorem Last.among {D : DiskM} {may : Nat → List Sec} (h : Last D may) : Among (cut may) D.now := fun q v hv => by
  unfold cut
  rw [h q v hv]; simp
theorem Last.synced {D : DiskM} {may : Nat → List Sec} (h : Last D may) (hn : D.sync.now = D.now) : Last D.sync (cut may) := fun q v hv => by
  rw [hn] at hv
  unfold cut
  rw [h q v hv]; rfl
end Go.Proofs.Ytakeilefbcpabaa

/- Rows of strings that begin anywhere in a block of their own; several of them. No program in sight. -/
namespace Go.Proofs.Ytakeilefbcpabaa
open Go.RowKit

theorem Pick.unpick {w : World} {L F : List HP} {A : HP} (h : Pick L A F) : ∀ S : Nat → Prop, Stars (A :: F) S w → Stars L S w := by
  induction h with
  | hd => exact fun _ H => H
  | tl _ ih => exact fun _ H => H.swap.under fun _ k => ih _ k
section
variable {α : Type} {f : α → HP}
theorem pick_map : ∀ {rs : List α} {k : Nat} {r : α} {F : List HP}, rs[k]? = some r → Pick (rs.map f ++ F) (f r) ((rs.eraseIdx k).map f ++ F)
  | [], _, _, _, h => by cases h
  | a :: l, 0, r, F, h => by
    obtain rfl : a = r := by simpa using h
    exact Pick.hd
  | a :: l, k + 1, r, F, h => Pick.tl (pick_map (rs := l) (by simpa using h))
theorem eraseIdx_set_same : ∀ (rs : List α) (k : Nat) (r : α), (rs.set k r).eraseIdx k = rs.eraseIdx k
  | [], _, _ => rfl
  | _ :: _, 0, _ => rfl
  | a :: l, k + 1, r => congrArg (a :: ·) (eraseIdx_set_same l k r)
def RowsP (f : α → HP) (rs : List α) : HP := Join (rs.map f)
theorem rowsP_take {c : Con} {w : World} {F : List HP} {rs : List α} {k : Nat} {r : α} (h : rs[k]? = some r) (H : St c (RowsP f rs :: F) w) : St c (f r :: RowsP f (rs.eraseIdx k) :: F) w :=
  ⟨H.con, ((pick_map h).stars _ (Stars.join.1 H.stars)).under fun _ k => Stars.join.2 k⟩
theorem rowsP_put {c : Con} {w : World} {F : List HP} {rs : List α} {k : Nat} {r : α} (h : k < rs.length) (H : St c (f r :: RowsP f (rs.eraseIdx k) :: F) w) : St c (RowsP f (rs.set k r) :: F) w := by
  have hp : Pick ((rs.set k r).map f ++ F) (f r) (((rs.set k r).eraseIdx k).map f ++ F) := pick_map (by simp [h])
  rw [eraseIdx_set_same] at hp
  exact ⟨H.con, Stars.join.2 (hp.unpick _ (H.stars.under fun _ k => Stars.join.1 k))⟩
theorem rowsP_snoc {c : Con} {w : World} {F : List HP} {rs : List α} {r : α} (H : St c (f r :: RowsP f rs :: F) w) : St c (RowsP f (rs ++ [r]) :: F) w := by
  have hp : Pick ((rs ++ [r]).map f ++ F) (f r) (((rs ++ [r]).eraseIdx rs.length).map f ++ F) := pick_map (by simp)
  have e : (rs ++ [r]).eraseIdx rs.length = rs := by rw [List.eraseIdx_append_of_length_le (Nat.le_refl _)]; simp
  rw [e] at hp
  exact ⟨H.con, Stars.join.2 (hp.unpick _ (H.stars.under fun _ k => Stars.join.1 k))⟩
theorem rows_nil {c : Con} {w : World} {F : List HP} (H : St c F w) : St c (RowsP f [] :: F) w := St.join.2 H
theorem rows_imp : ∀ {rs : List α} {k : Nat} {r r' : α}, rs[k]? = some r → (∀ h, f r h → f r' h) → ∀ h, RowsP f rs h → RowsP f (rs.set k r') h
  | [], _, _, _, hr, _, _, _ => by cases hr
  | a :: l, 0, r, r', hr, hi, h, ⟨h1, k1, s, j⟩ => by
    obtain rfl : a = r := by simpa using hr
    exact ⟨h1, hi _ k1, s, j⟩
  | a :: l, k + 1, r, r', hr, hi, h, ⟨h1, k1, s, j⟩ => ⟨h1, k1, s, rows_imp (rs := l) (by simpa using hr) hi _ j⟩
end

/-- A slice of strings in a block of its own. -/
structure SRow where
  g : Nat
  off : Nat
  cap : Nat
  xs : List (List UInt8)
def SRow.v (r : SRow) : Value := .slice (some ⟨r.g, r.off, none⟩) r.xs.length r.cap
def SRowP (e : TypeId) (r : SRow) : HP := fun h => ∃ cur : Array Value, h r.g = some (.cells cur e (0, 0)) ∧ cur.size = r.off + r.cap ∧ r.xs.length ≤ r.cap ∧ r.cap ≤ maxLen ∧ (cur.toList.drop r.off).take r.xs.length = r.xs.map str
/-- Its last alone. -/
def SRow.cut (r : SRow) : SRow := ⟨r.g, r.off + (r.xs.length - 1), r.cap - (r.xs.length - 1), r.xs.drop (r.xs.length - 1)⟩
theorem SRowP.cut {e : TypeId} {r : SRow} : ∀ h, SRowP e r h → SRowP e r.cut h := fun h ⟨cur, h1, h2, h3, h4, h5⟩ => by
  refine ⟨cur, h1, ?_, ?_, ?_, ?_⟩
  · show cur.size = (r.off + (r.xs.length - 1)) + (r.cap - (r.xs.length - 1)); omega
  · show (r.xs.drop _).length ≤ r.cap - (r.xs.length - 1); rw [List.length_drop]; omega
  · show r.cap - (r.xs.length - 1) ≤ maxLen; omega
  · show ((cur.toList.drop (r.off + (r.xs.length - 1))).take (r.xs.drop (r.xs.length - 1)).length) = (r.xs.drop (r.xs.length - 1)).map str
    rw [List.map_drop, ← h5, List.drop_take, List.drop_drop, List.length_drop]
theorem SRow.cut_v {r : SRow} (h : r.xs ≠ []) (hc : r.xs.length ≤ r.cap) {m : Nat} (hm : m = r.xs.length - 1) :
    Value.slice (if r.cap = m then some ⟨r.g, r.off, none⟩ else (some (⟨r.g, r.off, none⟩ : Addr)).map (·.add (m * 1))) (r.xs.length - m) (r.cap - m) = r.cut.v := by
  have hl : 0 < r.xs.length := List.length_pos_iff.2 h
  subst hm
  rw [if_neg (by omega)]
  simp only [SRow.v, SRow.cut, Option.map_some, Nat.mul_one, add_mid, List.length_drop]
theorem SRow.cut_xs {r : SRow} (h : r.xs ≠ []) : r.cut.xs = r.xs.getLast?.toList := by
  obtain ⟨l, a, e⟩ : ∃ l a, r.xs = l ++ [a] := ⟨_, _, (List.dropLast_concat_getLast h).symm⟩
  simp [SRow.cut, e]

section
variable {P : Program} {N : Nat} {c : Con} {E : Env} {L F : List HP} {d : Option Nat} {ty : TypeId} {pos : String} {aft : Array Edge} {g : Option (Nat × Bool)} {Q : Exit → Act → World → Prop}
theorem St.appendRow {w : World} {bytes m : Nat} {t tx ty e : TypeId} {i : TypeInfo} {z x : Value} {r : SRow} {ss : List (List UInt8)} (H : St c (SRowP e r :: F) w)
    (ht : P.underlying t = some (.slice e)) (hi : P.info? e = some i) (hz : i.zero = some z)
    (hsize : i.size = 1) (hby : i.bytes = bytes) (hzs : z.cells.size = 1) (hs : Src P 1 tx x m (ss.map str) w)
    (h63 : r.xs.length + m ≤ maxLen) (hbytes : (r.xs.length + m) * bytes ≤ 140737488355328) :
    ∃ (r' : SRow) (w' : World), r'.xs = r.xs ++ ss ∧ (Builtin.append_ #[t, tx] ty #[r.v, x]).run P w = .ok r'.v w' ∧ St c (SRowP e r' :: F) w' := by
  subst hby
  obtain ⟨h, ⟨cur, hg, hcs, hnc, hcm, htake⟩, l, u⟩ := H.upd
  have hl := hs.newsLen
  rw [List.length_map, Nat.mul_one] at hl
  have hsl : (ss.map str).length = m := by rw [List.length_map, hl]
  have hlen : (r.xs ++ ss).length = r.xs.length + m := by rw [List.length_append, hl]
  have hgw := l r.g _ hg
  have hx : (r.xs.map str).length = r.xs.length := List.length_map ..
  by_cases hroom : r.xs.length + m ≤ r.cap
  · have hst := run_storeCells_at P r.g (r.off + r.xs.length) e (ss.map str) 0 cur w hgw (by simp; omega) hs.one
    simp only [Nat.add_zero] at hst
    refine ⟨⟨r.g, r.off, r.cap, r.xs ++ ss⟩, w.setRow r.g (cur.toList.take (r.off + r.xs.length) ++ ss.map str ++ cur.toList.drop (r.off + r.xs.length + (ss.map str).length)).toArray, rfl, ?_, ?_⟩
    · rcases hs.kind with ⟨e', hk⟩ | hk <;> simp only [SRow.v, hlen] <;> simp [Builtin.append_, run_underlying ht, run_underlying hk, sizeOf, typeInfo, hi, hsize, hs.len, hroom, hs.cells, add_mid, hst]
    · refine u _ _ rfl (fun b hb hn => setRow_other w r.g b _ ?_) ⟨(cur.toList.take (r.off + r.xs.length) ++ ss.map str ++ cur.toList.drop (r.off + r.xs.length + (ss.map str).length)).toArray, ?_, ?_, ?_, hcm, ?_⟩
      · rintro rfl; rw [hg] at hn; cases hn
      · exact (if_pos (Or.inl (by rw [hg]; rfl))).trans (setRow_heap w r.g cur _ e _ hgw)
      · simp only [List.size_toArray, List.length_append, List.length_take, List.length_drop, Array.length_toList, List.length_map]
        omega
      · show (r.xs ++ ss).length ≤ r.cap; omega
      · show ((cur.toList.take (r.off + r.xs.length) ++ ss.map str ++ cur.toList.drop (r.off + r.xs.length + (ss.map str).length)).drop r.off).take (r.xs ++ ss).length = (r.xs ++ ss).map str
        have e1 : (cur.toList.take (r.off + r.xs.length)).drop r.off = r.xs.map str := by rw [List.drop_take, ← htake]; congr 1; omega
        rw [List.append_assoc, List.drop_append_of_le_length (by simp; omega), e1, ← List.append_assoc, List.map_append]
        rw [List.take_append_of_le_length (by simp), List.take_of_length_le (by simp)]
  · have holds : ∀ j u, (r.xs.map str)[j]? = some u → w.drew.cell? ((⟨r.g, r.off, none⟩ : Addr).add j) = some u := by
      intro j u hu
      rw [add_mid]
      show w.cell? _ = _
      rw [cell_of_row w r.g (r.off + j) cur e (0, 0) hgw]
      rw [← htake, List.getElem?_take] at hu
      split at hu
      · rw [List.getElem?_drop] at hu; simpa using hu
      · cases hu
    have hr := run_append_grow_src (P := P) w t tx ty e i z ht hi hz (some ⟨r.g, r.off, none⟩) r.xs.length r.cap (r.xs.map str) (run_firstCells_some w.drew i.size r.xs.length _ r.xs.length r.cap (r.xs.map str) (by rw [hsize, hx, Nat.mul_one]) (by intro j u hu; exact holds j u hu)) x m (ss.map str) (by rw [hsize]; exact hs) (by omega) (by simp only [maxLen] at h63; omega)
      (growslice_fits (by omega) hbytes)
    refine ⟨⟨w.heap.size, 0, grownCap w (r.xs.length + m) r.cap e, r.xs ++ ss⟩, _, rfl, by simp only [SRow.v, hlen]; exact hr, ?_⟩
    have hge := grownCap_ge w (r.xs.length + m) r.cap e
    have hcm := grownCap_le_maxLen w (r.xs.length + m) r.cap e h63
    refine u _ _ rfl (fun b hb _ => Below.heap_alloc w.drew _ b hb) ⟨_, (if_pos (Or.inr (Nat.le_refl _))).trans (heap_alloc_new w.drew _), ?_, ?_, hcm, ?_⟩
    · simp only [Array.size_append, List.size_toArray, size_zeroCells, hzs, List.length_append, List.length_map]
      omega
    · show (r.xs ++ ss).length ≤ _; rw [hlen]; exact hge
    · simp only [Array.toList_append, List.drop_zero]
      rw [List.take_append_of_le_length (by simp), List.take_of_length_le (by simp), List.map_append]

/-- append onto one of the rows. -/
theorem ow_appendRow {s x : Operand} {t tx e bytes e' s' b' n cap k m l : Nat} {z z' v : Value} {A : Option Addr} {r : SRow} {rs : List SRow} {ss : List (List UInt8)} [ht : TSlice P t e 1 bytes z] [htx : TSlice P tx e' s' b' z'] (hs : Ev E s (.slice A n cap)) (hv : Value.slice A n cap = r.v) (hx : Ev E x v)
    (hr : HasR (St c L) v m (ss.map str)) (hk : rs[k]? = some r) (hb : r.xs.length + m = l) (hl : l ≤ 1000) (hby : bytes ≤ 1000) (hp : Pick L (RowsP (SRowP e) rs) F) :
    OW P N c E L (Oper.mk d (.call { callee := .builtin .append, args := #[s, x], argTypes := #[t, tx] }) ty pos aft g) (fun r' : { r' : SRow // r'.xs = r.xs ++ ss } => .slice (some ⟨r'.1.g, r'.1.off, none⟩) l r'.1.cap) fun r' => RowsP (SRowP e) (rs.set k r'.1) :: F := fun Q K a w hf H hh => by
  have hi := ht.i
  have hlt : k < rs.length := (List.getElem?_eq_some_iff.1 hk).1
  cases hq : P.info? e with
  | none => simp [hq] at hi
  | some ie =>
    simp only [hq, Option.map_some, Option.some.injEq, Prod.mk.injEq] at hi
    have hsrc : Src P 1 tx v m (ss.map str) w := src_reads htx.u (hr w H) (by intro u hu; obtain ⟨q, _, rfl⟩ := List.mem_map.1 hu; rfl)
    have h63 : r.xs.length + m ≤ maxLen := by simp only [maxLen]; omega
    have hbb : (r.xs.length + m) * bytes ≤ 140737488355328 := Nat.le_trans (Nat.mul_le_mul (by omega : _ ≤ 1000) hby) (by decide)
    obtain ⟨r', w', h1, h2, h3⟩ := (rowsP_take hk (hp.st H)).appendRow (P := P) (t := t) (tx := tx) (ty := ty) (i := ie) (x := v) (m := m) (ss := ss) ht.u hq hi.1 hi.2.1 hi.2.2 ht.zs hsrc h63 hbb
    have hl' : r'.xs.length = l := by
      have h4 := hsrc.newsLen
      rw [List.length_map, Nat.mul_one] at h4
      rw [h1, List.length_append, h4, hb]
    have e1 : r'.v = .slice (some ⟨r'.g, r'.off, none⟩) l r'.cap := by rw [SRow.v, hl']
    rw [← hv] at h2
    unfold Oper.wp execOp
    simp only [resolve, invoke, builtin, Sem.run_bind, Sem.run_pure, Result.andThen_ok, List.map_toArray, List.map_cons, List.map_nil, hs N a hf, hx N a hf, h2, e1]
    exact hh ⟨r', h1⟩ w' (rowsP_put hlt h3)
/-- A new row. -/
theorem ow_buildRow {t e bytes : Nat} {z : Value} {x : Operand} {s : List UInt8} {rs : List SRow} [ht : TSlice P t e 1 bytes z] (hx : Ev E x (str s)) (hp : Pick L (RowsP (SRowP e) rs) F) :
    OW P N c E L (Oper.mk d (.buildSlice t 1 #[(0, x)]) ty pos aft g) (fun b => .slice (some ⟨b, 0, none⟩) 1 1) fun b => RowsP (SRowP e) (rs ++ [⟨b, 0, 1, [s]⟩]) :: F := fun Q K a w hf H hk => by
  have h0 := ow_buildSlice (P := P) (N := N) (c := c) (E := E) (L := L) (d := d) (ty := ty) (pos := pos) (aft := aft) (g := g) (t := t) (e := e) (size := 1) (bytes := bytes) (n := 1) (z := z) (ps := [(0, x)]) (vs := [str s]) (.cons hx .nil) rfl (by intro v hv; simp at hv; subst hv; rfl) (by decide) (by decide)
  refine h0 Q K a w hf H fun b w' H' => hk b w' (rowsP_snoc ((Pick.tl hp).st H' |>.swap.imp fun h hb => ?_))
  exact ⟨#[str s], hb, rfl, Nat.le_refl _, (by decide : 1 ≤ maxLen), rfl⟩
/-- A slice of one string. -/
theorem ow_buildStr {t e bytes : Nat} {z : Value} {x : Operand} {s : List UInt8} [ht : TSlice P t e 1 bytes z] (hx : Ev E x (str s)) :
    OW P N c E L (Oper.mk d (.buildSlice t 1 #[(0, x)]) ty pos aft g) (fun b => .slice (some ⟨b, 0, none⟩) 1 1) fun b => Bl b e ([s].map str) :: L := fun Q K a w hf H hk => by
  have h0 := ow_buildSlice (P := P) (N := N) (c := c) (E := E) (L := L) (d := d) (ty := ty) (pos := pos) (aft := aft) (g := g) (t := t) (e := e) (size := 1) (bytes := bytes) (n := 1) (z := z) (ps := [(0, x)]) (vs := [str s]) (.cons hx .nil) rfl (by intro v hv; simp at hv; subst hv; rfl) (by decide) (by decide)
  exact h0 Q K a w hf H hk
theorem w_rows {α : Type} {f : α → HP} {x : Code} (h : W P N c Q x E (RowsP f [] :: L)) : W P N c Q x E L := fun a w hf H => h a w hf (rows_nil H)
theorem w_rowCap {x : Code} {e : TypeId} {rs : List SRow} {r : SRow} {k : Nat} (hp : Pick L (RowsP (SRowP e) rs) F) (hk : rs[k]? = some r) (h : r.xs.length ≤ r.cap ∧ r.cap ≤ 9223372036854775807 → W P N c Q x E L) : W P N c Q x E L := fun a w hf H => by
  obtain ⟨h0, ⟨cur, h1, h2, h3, h4, h5⟩, l⟩ := (rowsP_take hk (hp.st H)).get
  exact h ⟨h3, by simpa [maxLen] using h4⟩ a w hf H
theorem hasCell_row {e : TypeId} {rs : List SRow} {r : SRow} {k i : Nat} {s : List UInt8} (hk : rs[k]? = some r) (hi : r.xs[i]? = some s) : HasCell (St c (RowsP (SRowP e) rs :: L)) ⟨r.g, r.off + i * 1, none⟩ (str s) := fun w H => by
  obtain ⟨h0, ⟨cur, h1, h2, h3, h4, h5⟩, l⟩ := (rowsP_take hk H).get
  have e1 : (r.xs.map str)[i]? = some (str s) := by rw [List.getElem?_map, hi]; rfl
  rw [l.cell h1, Nat.mul_one]
  rw [← h5, List.getElem?_take] at e1
  split at e1
  · rw [List.getElem?_drop] at e1; simpa using e1
  · cases e1
end
end Go.Proofs.Ytakeilefbcpabaa

/- The reference disk (coffretref11) in memory: a struct, and blocks that never change again. -/
namespace Go.Proofs.Ytakeilefbcpabaa
open Go.RowKit

/-! ### Blocks that never change again -/
abbrev Blocks := List (Nat × Obj)
def Bag (m : Blocks) : HP := fun h => ∀ x ∈ m, h x.1 = some x.2
section
variable {c : Con} {L F : List HP} {w : World} {A B : HP}
theorem has_bag {b : Nat} {o : Obj} {m : Blocks} (h : (b, o) ∈ m) : Has (St c (Bag m :: L)) b o := fun w H => by
  obtain ⟨h0, a, l⟩ := H.get
  exact l b o (a _ h)
/-- Two parties made one. -/
theorem St.merge {C : HP} (H : St c (A :: B :: F) w) (k : ∀ h h1 h2, A h1 → B h2 → (∀ b o, h1 b = some o → h b = some o) → (∀ b o, h2 b = some o → h b = some o) → C h) : St c (C :: F) w := by
  obtain ⟨h1, a1, l1, h2, a2, l2, r⟩ := H.stars
  refine ⟨H.con, fun b => if h1 b = none then h2 b else h1 b, k _ h1 h2 a1 a2 (fun b o e => ?_) (fun b o e => ?_), fun b o e => ?_, r.mono (fun b k => ⟨trivial, ?_⟩) fun _ _ _ e => e⟩
  · show (if h1 b = none then h2 b else h1 b) = some o
    rw [if_neg (by rw [e]; simp)]; exact e
  · show (if h1 b = none then h2 b else h1 b) = some o
    rw [if_pos (l2 b o e).1.2]; exact e
  · replace e : (if h1 b = none then h2 b else h1 b) = some o := e
    split at e
    · exact ⟨trivial, (l2 b o e).2⟩
    · exact l1 b o e
  · show (if h1 b = none then h2 b else h1 b) = none
    rw [if_pos k.1.2]; exact k.2
theorem St.bag {b : Nat} {o : Obj} {m : Blocks} (H : St c (Pt b o :: Bag m :: F) w) : St c (Bag ((b, o) :: m) :: F) w :=
  H.merge fun h h1 h2 a1 a2 s1 s2 x hx => by
    rcases List.mem_cons.1 hx with rfl | hx
    · exact s1 _ _ a1
    · exact s2 _ _ (a2 x hx)
theorem St.bag0 (H : St c F w) : St c (Bag [] :: F) w := H.new w _ rfl (fun _ _ => rfl) (fun x hx => by cases hx)

/-- The slice v of n elements, of size cells each, reads as xs in the bag. -/
def InBag (m : Blocks) (size : Nat) (v : Value) (n : Nat) (xs : List Value) : Prop :=
  xs.length = n * size ∧ ((v = .slice none 0 0 ∧ n = 0) ∨ ∃ (g cap : Nat) (cs : List Value) (T : TypeId), v = .slice (some ⟨g, 0, none⟩) n cap ∧ (g, Obj.cells cs.toArray T (0, 0)) ∈ m ∧ n ≤ cap ∧ cap ≤ 9223372036854775807 ∧ cs.take (n * size) = xs)
theorem InBag.mono {m m' : Blocks} {size n : Nat} {v : Value} {xs : List Value} (h : InBag m size v n xs) (k : ∀ x ∈ m, x ∈ m') : InBag m' size v n xs :=
  ⟨h.1, h.2.imp id fun ⟨g, cap, cs, T, h1, h2, h3⟩ => ⟨g, cap, cs, T, h1, k _ h2, h3⟩⟩
theorem InBag.one {m : Blocks} {size n : Nat} {v : Value} {xs : List Value} (h : InBag m size v n xs) : v.oneCell' = true := by
  rcases h.2 with ⟨rfl, _⟩ | ⟨g, cap, cs, T, rfl, _⟩ <;> rfl
theorem InBag.nil (m : Blocks) (size : Nat) : InBag m size (.slice none 0 0) 0 [] := ⟨by simp, .inl ⟨rfl, rfl⟩⟩
theorem InBag.form {m : Blocks} {size n : Nat} {v : Value} {xs : List Value} (h : InBag m size v n xs) : ∃ A cap, v = .slice A n cap ∧ n ≤ cap ∧ cap ≤ 9223372036854775807 := by
  rcases h.2 with ⟨rfl, rfl⟩ | ⟨g, cap, cs, T, rfl, _, h1, h2, _⟩
  · exact ⟨_, _, rfl, Nat.le_refl _, by omega⟩
  · exact ⟨_, _, rfl, h1, h2⟩
theorem InBag.reads {m : Blocks} {size n : Nat} {v : Value} {xs : List Value} (h : InBag m size v n xs) (H : St c (Bag m :: F) w) : Reads w v n size xs := by
  refine ⟨h.1, ?_⟩
  rcases h.2 with ⟨rfl, rfl⟩ | ⟨g, cap, cs, T, rfl, h2, h3, h4, h5⟩
  · exact .inl ⟨rfl, rfl⟩
  · refine .inr ⟨_, cap, rfl, h3, h4, fun j u hu => ?_⟩
    rw [add_mid, Nat.zero_add, cell_of_row w g j _ _ _ (has_bag h2 w H)]
    rw [← h5, List.getElem?_take] at hu
    split at hu
    · simpa using hu
    · cases hu
theorem InBag.hasR {m : Blocks} {n : Nat} {v : Value} {xs : List Value} (h : InBag m 1 v n xs) : HasR (St c (Bag m :: F)) v n xs := fun _ H => h.reads H
/-- The j-th element of a slice that has elements. -/
theorem InBag.at {m : Blocks} {size n j : Nat} {v : Value} {xs ys : List Value} (h : InBag m size v n xs) (hj : j < n) (hy : (xs.drop (j * size)).take size = ys) (hl : ys.length = size) :
    ∃ ad cap, v = .slice (some ad) n cap ∧ ∀ (c : Con) (F : List HP), HasCells (St c (Bag m :: F)) (ad.add (j * size)) ys := by
  rcases h.2 with ⟨rfl, rfl⟩ | ⟨g, cap, cs, T, rfl, h2, h3, h4, h5⟩
  · omega
  · refine ⟨_, cap, rfl, fun c F => ?_⟩
    rw [add_mid, Nat.zero_add]
    refine hasCells_bl (has_bag h2) ?_
    show (cs.drop (j * size)).take ys.length = ys
    have hle : j * size + size ≤ n * size := by rw [← Nat.succ_mul]; exact Nat.mul_le_mul_right _ hj
    rw [hl, ← hy, ← h5, List.drop_take, List.take_take, Nat.min_eq_left (by omega)]

theorem bag_of {m : Blocks} {g size n cap : Nat} {T : TypeId} {cs xs : List Value} (h1 : cs.take (n * size) = xs) (h2 : n * size ≤ cs.length) (h3 : n ≤ cap) (h4 : cap ≤ 9223372036854775807) :
    InBag ((g, Obj.cells cs.toArray T (0, 0)) :: m) size (.slice (some ⟨g, 0, none⟩) n cap) n xs :=
  ⟨by rw [← h1, List.length_take]; omega, .inr ⟨g, cap, cs, T, rfl, List.mem_cons_self, h3, h4, h1⟩⟩
/-- A slice of one's own goes into the bag. -/
theorem St.ownBag {e : TypeId} {size n : Nat} {v : Value} {xs : List Value} {m : Blocks} (H : St c (OwnP e size v n xs :: Bag m :: F) w) : ∃ m', InBag m' size v n xs ∧ (∀ x ∈ m, x ∈ m') ∧ St c (Bag m' :: F) w := by
  rcases H.openOwn with ⟨rfl, rfl, rfl, H2⟩ | ⟨g, cap, cur, rfl, h1, h2, h3, h4, h5, H2⟩
  · exact ⟨m, InBag.nil m size, fun _ h => h, H2⟩
  · have hle : n * size ≤ cur.length := by rw [h3]; exact Nat.mul_le_mul_right _ h1
    exact ⟨_, bag_of h4 hle h1 h2, fun _ h => List.mem_cons_of_mem _ h, H2.bag⟩
end

/-! ### The disk -/
def rwcells (l : List (Nat × Sec)) : List Value := l.flatMap fun x => [.int .i64 (x.1 : Int), str x.2]
theorem rwcells_length : ∀ l : List (Nat × Sec), (rwcells l).length = l.length * 2
  | [] => rfl
  | x :: l => by
    have := rwcells_length l
    simp only [rwcells, List.flatMap_cons, List.length_append, List.length_cons, List.length_nil] at this ⊢
    rw [this]; omega
theorem rwcells_append (l l' : List (Nat × Sec)) : rwcells (l ++ l') = rwcells l ++ rwcells l' := by simp [rwcells]
theorem rwcells_at : ∀ {l : List (Nat × Sec)} {j : Nat} {x : Nat × Sec}, l[j]? = some x → ((rwcells l).drop (j * 2)).take 2 = [.int .i64 (x.1 : Int), str x.2]
  | y :: l, 0, x, h => by
    obtain rfl : y = x := by simpa using h
    rfl
  | y :: l, j + 1, x, h => by
    have h' : l[j]? = some x := by simpa using h
    have e : (rwcells (y :: l)).drop ((j + 1) * 2) = (rwcells l).drop (j * 2) := by
      rw [show (j + 1) * 2 = j * 2 + 2 by omega]
      rfl
    rw [e]; exact rwcells_at h'
def refCells (sN sS sW : Value) (D : DiskM) : List Value := [sN, sS, sW, .bool D.down, .int .i64 D.acts, .int .i64 D.fuse, .int .u64 D.keep]
structure RefIn (m : Blocks) (sN sS sW : Value) (D : DiskM) : Prop where
  now : InBag m 1 sN D.now.length (D.now.map str)
  safe : InBag m 1 sS D.safe.length (D.safe.map str)
  waits : InBag m 2 sW D.waits.length (rwcells D.waits)
def RefAt (p : Nat) (D : DiskM) : HP := Pure D.WF (Ex fun m => Ex fun sN => Ex fun sS => Ex fun sW => Pure (RefIn m sN sS sW D) (Join [Bl p 67 (refCells sN sS sW D), Bag m]))
section
variable {c : Con} {L F : List HP} {w : World} {p : Nat} {D : DiskM}
theorem St.openRef (H : St c (RefAt p D :: F) w) : D.WF ∧ ∃ m sN sS sW, RefIn m sN sS sW D ∧ St c (Bl p 67 (refCells sN sS sW D) :: Bag m :: F) w := by
  obtain ⟨h0, H⟩ := St.pure H
  obtain ⟨m, H⟩ := St.ex H
  obtain ⟨sN, H⟩ := St.ex H
  obtain ⟨sS, H⟩ := St.ex H
  obtain ⟨sW, H⟩ := St.ex H
  obtain ⟨h1, H⟩ := St.pure H
  exact ⟨h0, m, sN, sS, sW, h1, St.join.1 H⟩
theorem St.shutRef {m : Blocks} {sN sS sW : Value} (h : D.WF) (h1 : RefIn m sN sS sW D) (H : St c (Bl p 67 (refCells sN sS sW D) :: Bag m :: F) w) : St c (RefAt p D :: F) w :=
  St.toPure h (St.toEx m (St.toEx sN (St.toEx sS (St.toEx sW (St.toPure h1 (St.join.2 H))))))
end
section
variable {P : Program} {N : Nat} {c : Con} {Q : Exit → Act → World → Prop} {E : Env} {L F : List HP}
/-- Other words for what lies there. -/
theorem W.conv {x : Code} {L' : List HP} (k : W P N c Q x E L') (h : ∀ w, St c L w → St c L' w) : W P N c Q x E L := fun a w hf H => k a w hf (h w H)
theorem w_ex {β : Type} {x : Code} {L' : β → List HP} (h : ∀ w, St c L w → ∃ y, St c (L' y) w) (k : ∀ y, W P N c Q x E (L' y)) : W P N c Q x E L := fun a w hf H => by
  obtain ⟨y, H'⟩ := h w H
  exact k y a w hf H'
end
section
variable {P : Program} {N : Nat} {c : Con} {E : Env} {L F : List HP} {d : Option Nat} {ty : TypeId} {pos : String} {aft : Array Edge} {g : Option (Nat × Bool)}
/-- What an append of one-cell elements makes, if it has elements: a block. -/
theorem ow_appendB {s x : Operand} {t tx e bytes e' s' b' n m k cap : Nat} {z z' v : Value} {A : Option Addr} {xs news ys : List Value} [ht : TSlice P t e 1 bytes z] [htx : TSlice P tx e' s' b' z'] (hs : Ev E s (.slice A n cap)) (hx : Ev E x v)
    (hr : HasR (St c L) v m news) (h1 : ∀ u ∈ news, u.oneCell' = true) (hk : n + m = k) (he : xs ++ news = ys) (hb : k ≤ 9223372036854775807 ∧ k * bytes ≤ 140737488355328) (hp : Pick L (OwnP e 1 (.slice A n cap) n xs) F) (h0 : 0 < k) :
    OW P N c E L (Oper.mk d (.call { callee := .builtin .append, args := #[s, x], argTypes := #[t, tx] }) ty pos aft g) (fun q : { q : Nat × List Value // q.2.take k = ys ∧ k ≤ q.2.length ∧ q.2.length ≤ 9223372036854775807 } => .slice (some ⟨q.1.1, 0, none⟩) k q.1.2.length) fun q => Bl q.1.1 e q.1.2 :: F := fun Q K a w hf H hh => by
  refine ow_appendR hs hx hr h1 hk he hb hp Q K a w hf H fun q w' H' => ?_
  obtain ⟨q1, q2⟩ := q
  rcases H'.openOwn with ⟨_, h2, _⟩ | ⟨g, cap, cur, h2, h3, h4, h5, h6, h7, H2⟩
  · omega
  · cases h2
    rw [Nat.mul_one] at h5 h6
    subst h5
    exact hh ⟨(g, cur), h6, h3, h4⟩ w' H2
end
end Go.Proofs.Ytakeilefbcpabaa

/- The reference disk: put, Act, may, Arm, Lose. -/
namespace Go.Proofs.Ytakeilefbcpabaa
open Go.RowKit
theorem strs_one (l : List Sec) : ∀ u ∈ l.map str, u.oneCell' = true := by
  intro u hu
  obtain ⟨q, _, rfl⟩ := List.mem_map.1 hu
  rfl
theorem wrap_add (x : Int) : IntKind.i64.wrap x = wrap64 x := IntWalk.i64_left x
/-- A bag that has more, and a slice in it. -/
abbrev BagV (m : Blocks) (size n : Nat) (xs : List Value) := { q : Blocks × Value // InBag q.1 size q.2 n xs ∧ ∀ x ∈ m, x ∈ q.1 }
attribute [local irreducible] Y OW YK OWK W WL WP X CV Ev Evs HasCell HasCells Has Met Again Kept
section
variable {c : Con} {F : List HP} {w : World} {p : Nat} {D D' : DiskM}
set_option maxRecDepth 100000 in
theorem ref_put {m : Blocks} {v : Value} {l : List Sec} {n i : Nat} (s : Sec) (hn : l.length = n) (hin : InBag m 1 v n (l.map str)) (hi : i < n) (hl : n ≤ 4096) (H : St c (Bag m :: F) w) :
    Calls Try.prog 60 #[v, .int .i64 (i : Int), str s] w fun e w' => ∃ q : BagV m 1 n ((l.set i s).map str), e = .returned q.1.2 ∧ St c (Bag q.1.1 :: F) w' := by
  have h1 := strs_one l
  have hb : n ≤ 9223372036854775807 ∧ n * 16 ≤ 140737488355328 := by omega
  have h0 : 0 < n := by omega
  have hfit : ∀ q : { q : Nat × List Value // q.2.take n = l.map str ∧ n ≤ q.2.length ∧ q.2.length ≤ 9223372036854775807 }, 0 + i * 1 < q.1.2.length := fun q => by have := q.2.2.1; omega
  refine calls_w (vs := [v, .int .i64 (i : Int), str s]) Try.func60 rfl rfl rfl ?_ w H
  (repeat' (first
      | ((with_reducible refine at_builtinO (b := .append) ?_); with_reducible refine owk (ow_appendB (xs := []) (ev_tmp rfl) (ev_tmp rfl) (hasR_tl hin.hasR) h1 (Nat.zero_add _) (List.nil_append _) hb pick_auto h0) (fun q => ?_))
      | ((with_reducible refine at_storeO ?_); with_reducible refine owk0 (ow_store (ev_tmp rfl) (ev_tmp rfl) rfl upd_auto (hfit q)) ?_)
      | (with_reducible refine at_index ?_; first | refine yk (y_indexN (ev_tmp rfl) (ev_tmp rfl) hi) ?_)
      | (with_reducible refine is_yk ?_; refine yk_auto (k := ?_))
      | (with_reducible refine is_owk0 ?_; refine owk0_auto (k := ?_))
      | (with_reducible refine is_owkc ?_; refine owk_auto (k := fun _ => ?_))
      | refine go1 (k := ?_)
      | (refine go2 (ka := ?_) (kb := ?_) <;> intro _)
      | fail))
  obtain ⟨⟨g, cur⟩, hq1, hq2, hq3⟩ := q
  dsimp only at hq1 hq2 hq3
  refine x_ret1 rfl rfl (fun w H => ⟨⟨(_, _), bag_of (size := 1) ?_ ?_ ?_ hq3, fun _ h => List.mem_cons_of_mem _ h⟩, rfl, H.bag⟩)
  · rw [Nat.zero_add, Nat.mul_one, Nat.mul_one, List.take_set, hq1, List.map_set]
  · rw [List.length_set]; show n * 1 ≤ cur.length; omega
  · exact hq2
set_option maxRecDepth 100000 in
theorem ref_act (H : St c (RefAt p D :: F) w) :
    Calls Try.prog 59 #[.pointer (some ⟨p, 0, none⟩)] w fun e w' => e = .returned (.bool D.goes) ∧ St c (RefAt p D.act :: F) w' := by
  obtain ⟨hw, m, sN, sS, sW, hin, H⟩ := H.openRef
  have hwa := hw.act
  obtain ⟨now, safe, waits, down, acts, fuse, keep⟩ := D
  have f0 := hw.fuse0
  have f1 := hw.fuse1
  dsimp only [refCells] at f0 f1 H
  refine calls_w (vs := [.pointer (some ⟨p, 0, none⟩)]) Try.func59 rfl rfl rfl ?_ w H
  (repeat' (first
      | (with_reducible refine is_yk ?_; refine yk_auto (k := ?_))
      | (with_reducible refine is_owk0 ?_; refine owk0_auto (k := ?_))
      | (with_reducible refine is_owkc ?_; refine owk_auto (k := fun _ => ?_))
      | refine go1 (k := ?_)
      | (refine go2 (ka := ?_) (kb := ?_) <;> intro _)
      | fail))
  · rename_i hd
    subst hd
    exact x_ret1 rfl rfl (fun w H => ⟨rfl, H.shutRef (D := ⟨now, safe, waits, true, acts, fuse, keep⟩) hw hin⟩)
  · rename_i hd hf
    subst hd hf
    have e := wrap_add (acts + 1)
    rw [e]
    exact x_ret1 rfl rfl (fun w H => ⟨rfl, H.shutRef (D := ⟨now, safe, waits, false, wrap64 (acts + 1), 0, keep⟩) hwa ⟨hin.now, hin.safe, hin.waits⟩⟩)
  · rename_i hd hf
    subst hd
    have e := wrap_add (acts + 1)
    have ha : DiskM.act ⟨now, safe, waits, false, acts, fuse, keep⟩ = ⟨now, safe, waits, false, wrap64 (acts + 1), fuse - 1, keep⟩ := by simp [DiskM.act, hf]
    rw [ha] at hwa
    rw [e, ha]
    refine x_ret1 rfl rfl (fun w H => ⟨?_, H.shutRef (D := ⟨now, safe, waits, false, wrap64 (acts + 1), fuse - 1, keep⟩) hwa ⟨hin.now, hin.safe, hin.waits⟩⟩)
    have e2 : decide (fuse - 1 = 0) = decide (fuse = 1) := decide_eq_decide.2 ⟨fun h => by omega, fun h => by omega⟩
    simp [DiskM.goes, e2]
set_option maxRecDepth 100000 in
theorem ref_may (i : Int) (H : St c (RefAt p D :: F) w) :
    Calls Try.prog 61 #[.pointer (some ⟨p, 0, none⟩), .int .i64 i] w fun e w' => e = .returned (.int .i64 (D.ready i)) ∧ St c (RefAt p D :: F) w' := by
  obtain ⟨hw, m, sN, sS, sW, hin, H⟩ := H.openRef
  obtain ⟨A, cap, rfl, hcap⟩ := hin.now.form
  dsimp only [refCells] at H
  refine calls_w (vs := [.pointer (some ⟨p, 0, none⟩), .int .i64 i]) Try.func61 rfl rfl rfl ?_ w H
  (repeat' (first
      | (with_reducible refine is_yk ?_; refine yk_auto (k := ?_))
      | (with_reducible refine is_owk0 ?_; refine owk0_auto (k := ?_))
      | (with_reducible refine is_owkc ?_; refine owk_auto (k := fun _ => ?_))
      | refine go1 (k := ?_)
      | (refine go2 (ka := ?_) (kb := ?_) <;> intro _)
      | fail))
  · rename_i h1
    exact x_ret1 rfl rfl (fun w H => ⟨by simp [DiskM.ready, h1], H.shutRef hw hin⟩)
  · rename_i h1 h2
    exact x_ret1 rfl rfl (fun w H => ⟨by simp [DiskM.ready, h1, h2], H.shutRef hw hin⟩)
  · rename_i h1 h2 h3
    exact x_ret1 rfl rfl (fun w H => ⟨by simp [DiskM.ready, h1, h3], H.shutRef hw hin⟩)
  · rename_i h1 h2 h3
    have h4 : ¬ (i < 0 ∨ (D.now.length : Int) ≤ i) := by omega
    exact x_ret1 rfl rfl (fun w H => ⟨by simp only [DiskM.ready, h1, h4]; rfl, H.shutRef hw hin⟩)
set_option maxRecDepth 100000 in
theorem ref_arm (n k : Int) (h1 : n ≤ 9223372036854775807) (h2 : 0 ≤ k) (h3 : k < 18446744073709551616) (H : St c (RefAt p D :: F) w) :
    Calls Try.prog 37 #[.pointer (some ⟨p, 0, none⟩), .int .i64 n, .int .u64 k] w fun e w' => e = .returned (.tuple #[]) ∧ St c (RefAt p (D.arm n k) :: F) w' := by
  obtain ⟨hw, m, sN, sS, sW, hin, H⟩ := H.openRef
  dsimp only [refCells] at H
  refine calls_w (vs := [.pointer (some ⟨p, 0, none⟩), .int .i64 n, .int .u64 k]) Try.func37 rfl rfl rfl ?_ w H
  (repeat' (first
      | (with_reducible refine is_yk ?_; refine yk_auto (k := ?_))
      | (with_reducible refine is_owk0 ?_; refine owk0_auto (k := ?_))
      | (with_reducible refine is_owkc ?_; refine owk_auto (k := fun _ => ?_))
      | refine go1 (k := ?_)
      | (refine go2 (ka := ?_) (kb := ?_) <;> intro _)
      | fail))
  · rename_i hn
    have e : max n 0 = n := by omega
    have hwa := hw.arm (n := n) (k := k) h1 h2 h3
    have e2 : refCells sN sS sW (D.arm n k) = [sN, sS, sW, .bool D.down, .int .i64 D.acts, .int .i64 n, .int .u64 k] := by simp only [refCells, DiskM.arm, e]
    exact x_end0 rfl (fun w H => ⟨rfl, St.shutRef (D := D.arm n k) (sN := sN) (sS := sS) (sW := sW) hwa ⟨hin.now, hin.safe, hin.waits⟩ (by rw [e2]; exact H)⟩)
  · rename_i hn
    have e : max n 0 = 0 := by omega
    have hwa := hw.arm (n := n) (k := k) h1 h2 h3
    have e2 : refCells sN sS sW (D.arm n k) = [sN, sS, sW, .bool D.down, .int .i64 D.acts, .int .i64 0, .int .u64 k] := by simp only [refCells, DiskM.arm, e]
    exact x_end0 rfl (fun w H => ⟨rfl, St.shutRef (D := D.arm n k) (sN := sN) (sS := sS) (sW := sW) hwa ⟨hin.now, hin.safe, hin.waits⟩ (by rw [e2]; exact H)⟩)
end
end Go.Proofs.Ytakeilefbcpabaa

/- The reference disk: Lose. -/
namespace Go.Proofs.Ytakeilefbcpabaa
open Go.RowKit
theorem ref_one (x : Nat × Sec) : ∀ v ∈ [Value.int .i64 (x.1 : Int), str x.2], v.oneCell' = true := by
  intro v hv
  simp only [List.mem_cons, List.not_mem_nil, or_false] at hv
  rcases hv with rfl | rfl <;> rfl
attribute [local irreducible] Y OW YK OWK W WL WP X CV Ev Evs HasCell HasCells Has Met Again Kept
section
variable {c : Con} {F : List HP} {w : World} {p : Nat} {D D' : DiskM}
set_option maxRecDepth 100000 in
set_option maxHeartbeats 1000000 in
theorem ref_lose (K : Int) (h0 : 0 ≤ K) (h1 : K < 18446744073709551616) (H : St c (RefAt p D :: F) w) :
    Calls Try.prog 36 #[.pointer (some ⟨p, 0, none⟩), .int .u64 K] w fun e w' => e = .returned (.tuple #[]) ∧ St c (RefAt p (D.off K) :: F) w' := by
  obtain ⟨hw, m, sN, sS, sW, hin, H⟩ := H.openRef
  have hwo := hw.off K
  obtain ⟨A, cap, rfl, hcap⟩ := hin.waits.form
  obtain ⟨now, safe, waits, down, acts, fuse, keep⟩ := D
  obtain ⟨hi1, hi2, hi3⟩ := hin
  obtain ⟨n, hn⟩ : ∃ n, n = waits.length := ⟨_, rfl⟩
  dsimp only [refCells] at hcap hi1 hi2 hi3 H hwo
  rw [← hn] at hcap hi3 H
  have hsame : safe.length = now.length := hw.same
  have hmost : now.length ≤ 4096 := hw.most
  refine calls_w (vs := [.pointer (some ⟨p, 0, none⟩), .int .u64 K]) Try.func36 rfl rfl rfl ?_ w H
  (repeat' (first
      | (with_reducible refine is_yk ?_; refine yk_auto (k := ?_))
      | (with_reducible refine is_owk0 ?_; refine owk0_auto (k := ?_))
      | (with_reducible refine is_owkc ?_; refine owk_auto (k := fun _ => ?_))
      | refine go1 (k := ?_)
      | (refine go2 (ka := ?_) (kb := ?_) <;> intro _)
      | fail))
  · rename_i hd
    subst hd
    exact x_ret0 rfl (fun w H => ⟨rfl, H.shutRef (D := ⟨now, safe, waits, true, acts, fuse, keep⟩) hw ⟨hi1, hi2, by rw [← hn]; exact hi3⟩⟩)
  · rename_i hd
    subst hd
    refine w_loop (α := Nat × List Sec × Blocks × Value) (fun x => x.1 ≤ n ∧ x.2.1 = keptFrom K 0 (waits.take x.1) safe ∧ InBag x.2.2.1 1 x.2.2.2 safe.length (x.2.1.map str) ∧ ∀ y ∈ m, y ∈ x.2.2.1)
      (fun x => [(15, .int .i64 (x.1 : Int)), (14, .int .i64 n), (13, .slice A n cap), (0, .pointer (some ⟨p, 0, none⟩)), (1, .int .u64 K)])
      (fun x => Bl p 67 [sN, x.2.2.2, .slice A n cap, .bool false, .int .i64 acts, .int .i64 fuse, .int .u64 keep] :: Bag x.2.2.1 :: F) (fun x => n - x.1) (0, safe, m, sS)
      ⟨Nat.zero_le _, rfl, hi2, fun _ h => h⟩ sub_auto sel_auto (fun x hx => ?_)
    obtain ⟨j, s, m', sS'⟩ := x
    obtain ⟨hj, hs, hS, hm⟩ := hx
    dsimp only at hj hs hS hm ⊢
    have hsl : s.length = safe.length := by rw [hs, keptFrom_length]
    by_cases hlt : j < n
    · have hlt' : j < waits.length := by omega
      obtain ⟨x, hx⟩ : ∃ x, waits[j]? = some x := ⟨_, List.getElem?_eq_getElem hlt'⟩
      have hxw : x.1 < now.length ∧ x.2.length = 256 := hw.waits x (List.mem_of_getElem? hx)
      have hxs : x.1 < safe.length := by omega
      obtain ⟨ad, cap', e, hcell⟩ := (hi3.mono hm).at hlt (rwcells_at hx) rfl
      cases e
      have hconv : Value.int .u64 (IntKind.u64.wrap ((j : Int) % 64)) = .int .u64 ((j % 64 : Nat) : Int) := by
        congr 1
        simp [IntKind.wrap, IntKind.signed, IntKind.bits]; omega
      have hp64 : (0 : Int) < 2 ^ (j % 64) := Int.pow_pos (by omega)
      have hshr : Value.int .u64 (K.fdiv (2 ^ ((j % 64 : Nat) : Int).toNat)) = .int .u64 (K / 2 ^ (j % 64)) := by
        congr 1
        rw [Int.toNat_natCast]; exact Int.fdiv_eq_ediv_of_nonneg _ (Int.le_of_lt hp64)
      have hq0 : 0 ≤ K / 2 ^ (j % 64) := Int.ediv_nonneg h0 (Int.le_of_lt hp64)
      have hbits : ((j % 64 : Nat) : Int).toNat ≤ 64 := by omega
      have hone := ref_one x
      have hnext : keptFrom K 0 (waits.take (j + 1)) safe = if bitAt K j then (keptFrom K 0 (waits.take j) safe).set x.1 x.2 else keptFrom K 0 (waits.take j) safe := by
        rw [List.take_add_one, hx]
        show keptFrom K 0 (waits.take j ++ [x]) safe = _
        rw [keptFrom_snoc, List.length_take, Nat.zero_add, Nat.min_eq_left (by omega)]
      have hlen2 : [Value.int .i64 (x.1 : Int), str x.2].length = 2 := rfl
      have hlen2' : [Value.int .i64 0, str []].length = 2 := rfl
      (repeat' (first
      | ((with_reducible refine at_fn 60 ?_); with_reducible refine owk_c1x evs_auto (by kernel_rfl) pick_auto (fun w H => ref_put x.2 hsl hS hxs (by omega) H) (fun q => ?_))
      | ((with_reducible refine at_storeO ?_); with_reducible refine owk0 (ow_storeAll (ev_tmp rfl) (ev_tmp rfl) hone hlen2 upd_auto hlen2') ?_)
      | ((with_reducible refine at_storeO ?_); with_reducible refine owk0 (ow_store (ev_tmp rfl) (ev_tmp rfl) (q.2.1.one) upd_auto (by simp)) ?_)
      | (with_reducible refine at_load ?_; first | refine yk (y_loadN (ev_tmp rfl) (hasCells_tl (hcell _ _)) hlen2) ?_)
      | (with_reducible refine at_conv ?_; first | refine yk_eq (y_conv_int (ev_tmp rfl)) hconv ?_)
      | (with_reducible refine at_bin ?_; first | refine yk_eq (y_shr (ev_tmp rfl) (ev_tmp rfl) (by omega) hbits) hshr ?_ | refine yk (y_rem (ev_tmp rfl) ev_const ⟨hq0, by omega⟩) ?_)
      | (with_reducible refine is_w ?_; first | refine w_plan (id := 5) [(0, true), (1, true), (2, true), (3, true), (4, true), (5, true), (6, true), (7, true), (8, true), (9, false), (10, false), (11, false), (12, false)] [Bl p 67 [sN, sS', .slice (some ad) n cap, .bool false, .int .i64 acts, .int .i64 fuse, .int .u64 keep], Bl _ 114 [.int .i64 (x.1 : Int), str x.2]] (by kernel_rfl) (by kernel_rfl) sel_auto ?_)
      | (with_reducible refine is_yk ?_; refine yk_auto (k := ?_))
      | (with_reducible refine is_owk0 ?_; refine owk0_auto (k := ?_))
      | (with_reducible refine is_owkc ?_; refine owk_auto (k := fun _ => ?_))
      | refine go1 (k := ?_)
      | (refine go2 (ka := ?_) (kb := ?_) <;> intro _)
      | fail))
      · rename_i hb
        have hbit : bitAt K j = true := decide_eq_true hb
        refine x_again (j + 1, s.set x.1 x.2, q.1.1, q.1.2) ⟨hlt, ?_, q.2.1, fun y hy => q.2.2 y (hm y hy)⟩ (show n - (j + 1) < n - j by omega) sub_auto sel_auto
        show s.set x.1 x.2 = keptFrom K 0 (waits.take (j + 1)) safe
        rw [hnext, hbit, hs]; rfl
      · rename_i hb
        have hbit : bitAt K j = false := decide_eq_false hb
        refine x_again (j + 1, s, m', sS') ⟨hlt, ?_, hS, hm⟩ (show n - (j + 1) < n - j by omega) sub_auto sel_auto
        show s = keptFrom K 0 (waits.take (j + 1)) safe
        rw [hnext, hbit, hs]; rfl
    · have hone := hS.one
      (repeat' (first
      | ((with_reducible refine at_storeO ?_); with_reducible refine owk0 (ow_store (ev_tmp rfl) (ev_tmp rfl) hone upd_auto (by simp)) ?_)
      | (with_reducible refine is_yk ?_; refine yk_auto (k := ?_))
      | (with_reducible refine is_owk0 ?_; refine owk0_auto (k := ?_))
      | (with_reducible refine is_owkc ?_; refine owk_auto (k := fun _ => ?_))
      | refine go1 (k := ?_)
      | (refine go2 (ka := ?_) (kb := ?_) <;> intro _)
      | fail))
      have hjn : waits.take j = waits := List.take_of_length_le (by omega)
      rw [hjn] at hs
      have e : DiskM.off ⟨now, safe, waits, false, acts, fuse, keep⟩ K = ⟨s, s, [], true, acts, 0, keep⟩ := by simp [DiskM.off, DiskM.kept, hs]
      rw [e] at hwo ⊢
      rw [← hsl] at hS
      exact x_end0 rfl (fun w H => ⟨rfl, St.shutRef (D := ⟨s, s, [], true, acts, 0, keep⟩) (sN := sS') (sS := sS') (sW := .slice none 0 0) hwo ⟨hS, hS, InBag.nil _ _⟩ H⟩)
end
end Go.Proofs.Ytakeilefbcpabaa

/- The reference disk: Write, Sync, New; its fields. -/
namespace Go.Proofs.Ytakeilefbcpabaa
open Go.RowKit
theorem rwcells_one (l : List (Nat × Sec)) : ∀ u ∈ rwcells l, u.oneCell' = true := by
  intro u hu
  obtain ⟨x, _, hx⟩ := List.mem_flatMap.1 hu
  exact ref_one x u hx
section
variable {P : Program} {N : Nat} {c : Con} {E : Env} {L F : List HP} {d : Option Nat} {ty : TypeId} {pos : String} {aft : Array Edge} {g : Option (Nat × Bool)} {w : World} {p : Nat} {D D' : DiskM}
/-- A slice of one struct. -/
theorem ow_buildAgg {t e size bytes : Nat} {z : Value} {x : Operand} {cs : List Value} [ht : TSlice P t e size bytes z] (hx : Ev E x (.agg cs.toArray)) (hl : cs.length = size) (h0 : 0 < size) (h1 : size ≤ 1000) :
    OW P N c E L (Oper.mk d (.buildSlice t 1 #[(0, x)]) ty pos aft g) (fun b => .slice (some ⟨b, 0, none⟩) 1 1) fun b => Bl b e cs :: L := fun Q K a w hf H hk => by
  have hn := ow_buildSlice (P := P) (N := N) (c := c) (E := E) (L := L) (d := d) (ty := ty) (pos := pos) (aft := aft) (g := g) (t := t) (e := e) (size := size) (bytes := bytes) (n := 1) (z := z) (ps := [(0, x)]) (vs := [.agg cs.toArray]) (.cons hx .nil) rfl (by intro v hv; simp at hv; subst hv; simpa [Value.cells] using hl) (by omega) (by omega)
  refine hn Q K a w hf H fun b w' H' => hk b w' ?_
  simpa [vcells, Value.cells] using H'
theorem y_buildZero {H : World → Prop} {t : Nat} {ps : List (Nat × Nat)} {z : List Value} [ht : TPlaces P t ps z] : Y P H E (Oper.mk d (.build t #[]) ty pos aft g) (.agg z.toArray) := y_build .nil
theorem y_buildTwo {H : World → Prop} {t : Nat} {z0 z1 v0 v1 : Value} {x0 x1 : Operand} [ht : TPlaces P t [(0, 1), (1, 1)] [z0, z1]] (h0 : Ev E x0 v0) (h1 : Ev E x1 v1) (k0 : vcells v0 = [v0]) (k1 : vcells v1 = [v1]) :
    Y P H E (Oper.mk d (.build t #[(0, x0), (1, x1)]) ty pos aft g) (.agg [v0, v1].toArray) := by
  have hl : Lay E [(0, 1), (1, 1)] [z0, z1] [(0, x0), (1, x1)] (splice (splice [z0, z1] 0 (vcells v0)) 1 (vcells v1)) :=
    .cons h0 rfl (by rw [k0]; rfl) (by simp) (.cons h1 rfl (by rw [k1]; rfl) (by rw [k0]; simp [splice]) .nil)
  have e : splice (splice [z0, z1] 0 (vcells v0)) 1 (vcells v1) = [v0, v1] := by rw [k0, k1]; rfl
  rw [e] at hl
  exact y_build hl
theorem hasCell_ref {i : Nat} {v : Value} (h : ∀ sN sS sW, (refCells sN sS sW D)[i]? = some v) : HasCell (St c (RefAt p D :: L)) ⟨p, i, none⟩ v := fun w H => by
  obtain ⟨_, m, sN, sS, sW, _, H⟩ := H.openRef
  exact hasCell_bl has_hd (h sN sS sW) w H
theorem ref_down : HasCell (St c (RefAt p D :: L)) ⟨p, 0 + 3, none⟩ (.bool D.down) := hasCell_ref fun _ _ _ => rfl
theorem ref_acts : HasCell (St c (RefAt p D :: L)) ⟨p, 0 + 4, none⟩ (.int .i64 D.acts) := hasCell_ref fun _ _ _ => rfl
theorem ref_keep : HasCell (St c (RefAt p D :: L)) ⟨p, 0 + 6, none⟩ (.int .u64 D.keep) := hasCell_ref fun _ _ _ => rfl
/-- One field alone. -/
def Fld (p i : Nat) (v : Value) : HP := fun h => ∃ (cs : List Value) (T : TypeId), h p = some (.cells cs.toArray T (0, 0)) ∧ cs[i]? = some v
theorem hasCell_fld {i : Nat} {v : Value} : HasCell (St c (Fld p i v :: L)) ⟨p, i, none⟩ v := fun w H => by
  obtain ⟨h, ⟨cs, T, h1, h2⟩, l⟩ := H.get
  rw [l.cell h1]; simpa using h2
theorem ref_fld {i : Nat} {v : Value} (hv : ∀ sN sS sW, (refCells sN sS sW D)[i]? = some v) : ∀ h, RefAt p D h → Fld p i v h := fun h ⟨_, m, sN, sS, sW, _, h1, a1, s1, _⟩ => ⟨_, _, s1 _ _ a1, hv sN sS sW⟩
theorem off_keep (D : DiskM) (K : Int) : (D.off K).keep = D.keep := by unfold DiskM.off; split <;> rfl
/-- e.Off = false. -/
theorem ow_ref_on {x y : Operand} {t : Nat} {z : Value} [ht : TOne P t z] (hx : Ev E x (.pointer (some ⟨p, 0 + 3, none⟩))) (hy : Ev E y (.bool false)) (hp : Pick L (RefAt p D) F) :
    OW P N c E L (Oper.mk d (.store t x y) ty pos aft g) (fun _ : Unit => undef) fun _ => RefAt p D.on :: F := fun Q K a w hf H hk => by
  obtain ⟨hw, m, sN, sS, sW, hin, H⟩ := (hp.st H).openRef
  refine ow_store (P := P) (L := Bl p 67 (refCells sN sS sW D) :: Bag m :: F) hx hy rfl Upd.hd (by simp [refCells]) Q K a w hf H fun _ w' H' => hk () w' ?_
  exact St.shutRef (D := D.on) (sN := sN) (sS := sS) (sW := sW) hw.on ⟨hin.now, hin.safe, hin.waits⟩ H'
/-- The disk, opened: what its fields hold. -/
abbrev RefO (D : DiskM) := { q : Blocks × Value × Value × Value // RefIn q.1 q.2.1 q.2.2.1 q.2.2.2 D }
theorem ref_opened (H : St c (RefAt p D :: F) w) : ∃ q : RefO D, St c (Bl p 67 [q.1.2.1, q.1.2.2.1, q.1.2.2.2, .bool D.down, .int .i64 D.acts, .int .i64 D.fuse, .int .u64 D.keep] :: Bag q.1.1 :: F) w := by
  obtain ⟨_, m, sN, sS, sW, hin, H⟩ := H.openRef
  exact ⟨⟨(m, sN, sS, sW), hin⟩, H⟩
/-- Shut again behind a write. -/
theorem ref_wrote {m m0 : Blocks} {sN sN' sS sW v : Value} {k n : Nat} {s : Sec} (hw : D.WF) (hk : k < D.now.length) (hs : s.length = 256) (hin : RefIn m0 sN sS sW D) (hm : ∀ x ∈ m0, x ∈ m) (hN : InBag m 1 sN' D.now.length ((D.now.set k s).map str)) (hn : D.waits.length + 1 = n)
    (H : St c (OwnP 114 2 v n (rwcells D.waits ++ [.int .i64 (k : Int), str s]) :: Bag m :: Bl p 67 [sN', sS, v, .bool D.down, .int .i64 D.acts, .int .i64 D.fuse, .int .u64 D.keep] :: F) w) : St c (RefAt p (D.put k s) :: F) w := by
  subst hn
  obtain ⟨m2, h1, h2, H2⟩ := H.ownBag
  refine St.shutRef (D := D.put k s) (m := m2) (sN := sN') (sS := sS) (sW := v) (hw.put k s hk hs) ⟨?_, ?_, ?_⟩ H2.swap
  · have e : (D.put k s).now.length = D.now.length := by simp [DiskM.put]
    rw [e]; exact hN.mono h2
  · exact hin.safe.mono fun x hx => h2 x (hm x hx)
  · have e : (D.put k s).waits = D.waits ++ [(k, s)] := rfl
    rw [e, rwcells_append, List.length_append]
    exact h1
/-- A new one. -/
theorem ref_made {n : Nat} (hn : n ≤ 4096) {v v' : Value}
    (H : St c (Bl p 67 [v, v', .slice none 0 0, .bool false, .int .i64 0, .int .i64 0, .int .u64 0] :: OwnP 9 1 v n ((List.replicate n zeroSec).map str) :: OwnP 9 1 v' n ((List.replicate n zeroSec).map str) :: F) w) : St c (RefAt p (DiskM.new n) :: F) w := by
  have H1 : St c (OwnP 9 1 v n ((List.replicate n zeroSec).map str) :: Bag [] :: OwnP 9 1 v' n ((List.replicate n zeroSec).map str) :: Bl p 67 [v, v', .slice none 0 0, .bool false, .int .i64 0, .int .i64 0, .int .u64 0] :: F) w :=
    Sel.st (.cons (.tl (.tl .hd)) (.cons .hd (.cons (.tl .hd) sel_all))) H.bag0
  obtain ⟨m1, h1, _, H2⟩ := H1.ownBag
  obtain ⟨m2, h3, h4, H3⟩ := H2.swap.ownBag
  have el : (DiskM.new n).now.length = n := by simp [DiskM.new]
  have el' : (DiskM.new n).safe.length = n := by simp [DiskM.new]
  exact St.shutRef (D := DiskM.new n) (sN := v) (sS := v') (sW := .slice none 0 0) (DiskM.WF.new n hn) ⟨by rw [el]; exact h1.mono h4, by rw [el']; exact h3, InBag.nil _ _⟩ H3.swap
theorem ref_act_is (hD : D.act = D') {g : Bool} (hg : D.goes = g) (H : St c (RefAt p D :: F) w) :
    Calls Try.prog 59 #[.pointer (some ⟨p, 0, none⟩)] w fun e w' => e = .returned (.bool g) ∧ St c (RefAt p D' :: F) w' := by
  subst hD hg; exact ref_act H
theorem ref_may_is {i E : Int} (hE : D.ready i = E) (H : St c (RefAt p D :: F) w) :
    Calls Try.prog 61 #[.pointer (some ⟨p, 0, none⟩), .int .i64 i] w fun e w' => e = .returned (.int .i64 E) ∧ St c (RefAt p D :: F) w' := by
  subst hE; exact ref_may i H
end
attribute [local irreducible] Y OW YK OWK W WL WP X CV Ev Evs HasCell HasCells Has Met Again Kept
section
variable {c : Con} {F : List HP} {w : World} {p : Nat} {D D' : DiskM}
set_option maxRecDepth 100000 in
set_option maxHeartbeats 1000000 in
theorem ref_write (i : Int) (b : List UInt8) (hwl : D.waits.length ≤ 1073741824) (H : St c (RefAt p D :: F) w) :
    Calls Try.prog 38 #[.pointer (some ⟨p, 0, none⟩), .int .i64 i, str b] w fun e w' => e = .returned (.int .i64 (D.writeE i b.length)) ∧ St c (RefAt p (D.write i b) :: F) w' := by
  have hw := H.openRef.1
  obtain ⟨E, hE⟩ : ∃ E, D.ready i = E := ⟨_, rfl⟩
  by_cases h0 : E = 0
  · subst h0
    have hq := DiskM.ready_zero hE
    obtain ⟨k, rfl⟩ : ∃ k : Nat, i = k := ⟨i.toNat, by omega⟩
    have hk : k < D.now.length := by omega
    by_cases hb : 256 < b.length
    · refine calls_w (vs := [.pointer (some ⟨p, 0, none⟩), .int .i64 (k : Int), str b]) Try.func38 rfl rfl rfl ?_ w H
      (repeat' (first
      | ((with_reducible refine at_fn 61 ?_); with_reducible refine owk_c1 evs_auto (by kernel_rfl) pick_auto (fun w H => ref_may_is hE H) ?_)
      | (with_reducible refine is_yk ?_; refine yk_auto (k := ?_))
      | (with_reducible refine is_owk0 ?_; refine owk0_auto (k := ?_))
      | (with_reducible refine is_owkc ?_; refine owk_auto (k := fun _ => ?_))
      | refine go1 (k := ?_)
      | (refine go2 (ka := ?_) (kb := ?_) <;> intro _)
      | fail))
      exact x_ret1 rfl rfl (fun w H => ⟨by simp [DiskM.writeE, hE, hb], by simpa [DiskM.write, hE, hb] using H⟩)
    · obtain ⟨D1, hD1⟩ : ∃ D1, D.act = D1 := ⟨_, rfl⟩
      obtain ⟨g, hg⟩ : ∃ g, D.goes = g := ⟨_, rfl⟩
      have hw1 : D1.WF := hD1 ▸ hw.act
      have hn1 : D1.now = D.now := by rw [← hD1]; exact act_now D
      have hk1 : k < D1.now.length := by rw [hn1]; exact hk
      have hws : D1.waits.length ≤ 1073741824 := by rw [← hD1]; unfold DiskM.act; split <;> exact hwl
      have hkeep : D1.keep = D.keep := by rw [← hD1]; unfold DiskM.act; split <;> rfl
      have hK0 := hw1.keep0
      have hK1 := hw1.keep1
      have h4096 := hw1.most
      have hpad : (pad b).length = 256 := pad_length b (by omega)
      have hwr : D.write k b = if g then (D1.put k (pad b)).off D1.keep else D1.put k (pad b) := by rw [hkeep, ← hD1, ← hg]; simp [DiskM.write, hE, hb]
      have hwe : D.writeE k b.length = if g then 8 else 0 := by rw [← hg]; simp [DiskM.writeE, hE, hb]
      rw [hwr, hwe]
      have hone := ref_one (k, pad b)
      refine calls_w (vs := [.pointer (some ⟨p, 0, none⟩), .int .i64 (k : Int), str b]) Try.func38 rfl rfl rfl ?_ w H
      (repeat' (first
      | ((with_reducible refine at_fn 61 ?_); with_reducible refine owk_c1 evs_auto (by kernel_rfl) pick_auto (fun w H => ref_may_is hE H) ?_)
      | ((with_reducible refine at_fn 59 ?_); with_reducible refine owk_c1 evs_auto (by kernel_rfl) pick_auto (fun w H => ref_act_is hD1 hg H) ?_)
      | (with_reducible refine is_w ?_; first | refine w_ex (x := .seq (.region 7 _ _) _) (β := RefO D1) (fun w H => ref_opened H) (fun q => ?_))
      | (with_reducible refine is_yk ?_; refine yk_auto (k := ?_))
      | (with_reducible refine is_owk0 ?_; refine owk0_auto (k := ?_))
      | (with_reducible refine is_owkc ?_; refine owk_auto (k := fun _ => ?_))
      | refine go1 (k := ?_)
      | (refine go2 (ka := ?_) (kb := ?_) <;> intro _)
      | fail))
      obtain ⟨⟨m, sN, sS, sW⟩, hin⟩ := q
      dsimp only at hin ⊢
      have hb1 : D1.waits.length ≤ 9223372036854775807 ∧ D1.waits.length * 24 ≤ 140737488355328 := by omega
      have hb2 : D1.waits.length + 1 ≤ 9223372036854775807 ∧ (D1.waits.length + 1) * 24 ≤ 140737488355328 := by omega
      have hb' : b.length ≤ 256 := by omega
      have hc1 : vcells (.int .i64 (k : Int)) = [.int .i64 (k : Int)] := rfl
      have hc2 : vcells (str (pad b)) = [str (pad b)] := rfl
      have hl2 : [Value.int .i64 (k : Int), str (pad b)].length = 1 * 2 := rfl
      have hK0' : 0 ≤ (D1.put k (pad b)).keep := hw1.keep0
      have hK1' : (D1.put k (pad b)).keep < 18446744073709551616 := hw1.keep1
      (repeat' (first
      | ((with_reducible refine at_fn 31 ?_); with_reducible refine owk_c0s evs_auto (by kernel_rfl) (fun w H => ref_full b hb' H) ?_)
      | ((with_reducible refine at_fn 60 ?_); with_reducible refine owk_c1x evs_auto (by kernel_rfl) pick_auto (fun w H => ref_put (pad b) rfl hin.now hk1 h4096 H) (fun q => ?_))
      | ((with_reducible refine at_storeO ?_); with_reducible refine owk0 (ow_store (ev_tmp rfl) (ev_tmp rfl) (q.2.1.one) upd_auto (by simp)) ?_)
      | ((with_reducible refine at_builtinO (b := .append) ?_); with_reducible refine owk (ow_append (xs := []) (m := D1.waits.length) (news := rwcells D1.waits) (ev_tmp rfl) (ev_tmp rfl) (fun w H => src_reads Try.underlying65 ((hin.waits.mono q.2.2).reads H.tail) (rwcells_one _)) (Nat.zero_add _) (List.nil_append _) hb1 pick_auto) (fun r => ?_))
      | ((with_reducible refine at_buildSliceO ?_); with_reducible refine owk (ow_buildAgg (cs := [.int .i64 (k : Int), str (pad b)]) (ev_tmp rfl) hl2 (by decide) (by decide)) (fun bb => ?_))
      | ((with_reducible refine at_builtinO (b := .append) ?_); with_reducible refine owk (ow_append (xs := rwcells D1.waits) (m := 1) (news := [.int .i64 (k : Int), str (pad b)]) (ev_tmp rfl) (ev_tmp rfl) (src_has Try.underlying65 (hasCells_all has_auto) hl2 (Nat.le_refl _) (by decide) hone) rfl rfl hb2 pick_auto) (fun r => ?_))
      | (with_reducible refine at_build ?_; first | refine yk (y_buildTwo (ev_tmp rfl) (ev_tmp rfl) hc1 hc2) ?_)
      | (with_reducible refine is_w ?_; first | refine w_plan (id := 7) [(0, true), (1, true), (2, true), (3, true), (4, true), (5, true), (6, true), (7, false), (8, false), (9, false), (10, false), (11, false)] [Bl p 67 [sN, sS, sW, .bool D1.down, .int .i64 D1.acts, .int .i64 D1.fuse, .int .u64 D1.keep]] (by kernel_rfl) (by kernel_rfl) sel_auto ?_)
      | (with_reducible refine is_yk ?_; refine yk_auto (k := ?_))
      | (with_reducible refine is_owk0 ?_; refine owk0_auto (k := ?_))
      | (with_reducible refine is_owkc ?_; refine owk_auto (k := fun _ => ?_))
      | refine go1 (k := ?_)
      | (refine go2 (ka := ?_) (kb := ?_) <;> intro _)
      | fail))
      · rename_i hgt
        subst hgt
        refine owk0 (ow_call0 evs_auto (by kernel_rfl) (fun w H => ref_lose D1.keep hK0 hK1 (ref_wrote hw1 hk1 hpad hin q.2.2 q.2.1 rfl (Sel.st sel_auto H)))) ?_
        (repeat' (first
      | (with_reducible refine is_yk ?_; refine yk_auto (k := ?_))
      | (with_reducible refine is_owk0 ?_; refine owk0_auto (k := ?_))
      | (with_reducible refine is_owkc ?_; refine owk_auto (k := fun _ => ?_))
      | refine go1 (k := ?_)
      | (refine go2 (ka := ?_) (kb := ?_) <;> intro _)
      | fail))
        exact x_ret1 rfl rfl (fun w H => ⟨rfl, Sel.st (T := RefAt p ((D1.put k (pad b)).off D1.keep) :: F) (.cons .hd (.tl sel_all)) H⟩)
      · rename_i hgt
        subst hgt
        exact x_ret1 rfl rfl (fun w H => ⟨rfl, ref_wrote hw1 hk1 hpad hin q.2.2 q.2.1 rfl (Sel.st sel_auto H)⟩)
  · refine calls_w (vs := [.pointer (some ⟨p, 0, none⟩), .int .i64 i, str b]) Try.func38 rfl rfl rfl ?_ w H
    (repeat' (first
      | ((with_reducible refine at_fn 61 ?_); with_reducible refine owk_c1 evs_auto (by kernel_rfl) pick_auto (fun w H => ref_may_is hE H) ?_)
      | (with_reducible refine is_yk ?_; refine yk_auto (k := ?_))
      | (with_reducible refine is_owk0 ?_; refine owk0_auto (k := ?_))
      | (with_reducible refine is_owkc ?_; refine owk_auto (k := fun _ => ?_))
      | refine go1 (k := ?_)
      | (refine go2 (ka := ?_) (kb := ?_) <;> intro _)
      | fail))
    exact x_ret1 rfl rfl (fun w H => ⟨by simp [DiskM.writeE, hE, h0], by simpa [DiskM.write, hE, h0] using H⟩)
set_option maxRecDepth 100000 in
set_option maxHeartbeats 1000000 in
theorem ref_new (n : Int) (H : St c F w) :
    Calls Try.prog 33 #[.int .i64 n] w fun e w' => ∃ p, e = .returned (.pointer (some ⟨p, 0, none⟩)) ∧ St c (RefAt p (DiskM.new (clip n)) :: F) w' := by
  refine calls_w (vs := [.int .i64 n]) Try.func33 rfl rfl rfl ?_ w H
  (repeat' (first
      | (with_reducible refine at_build ?_; first | refine yk y_buildZero ?_)
      | (with_reducible refine is_yk ?_; refine yk_auto (k := ?_))
      | (with_reducible refine is_owk0 ?_; refine owk0_auto (k := ?_))
      | (with_reducible refine is_owkc ?_; refine owk_auto (k := fun _ => ?_))
      | refine go1 (k := ?_)
      | (refine go2 (ka := ?_) (kb := ?_) <;> intro _)
      | fail))
  rename_i p
  obtain ⟨k, hk⟩ : ∃ k, k = clip n := ⟨_, rfl⟩
  have hk1 : k ≤ 4096 := by rw [hk]; unfold clip; omega
  rw [← hk]
  have hz' : bvs zeroSec = List.replicate 256 (.int .u8 0) := rfl
  have hz33 : (List.replicate 256 (Value.int .u8 0)).length = 256 := List.length_replicate
  have ho1 : ([zeroSec].map str).length = 1 := rfl
  have ho2 := strs_one [zeroSec]
  refine w_loop (α := Nat × (Option Addr × Nat) × (Option Addr × Nat)) (fun x => x.1 ≤ k)
    (fun x => [(4, .int .i64 (x.1 : Int)), (0, .int .i64 n), (3, .pointer (some ⟨p, 0, none⟩))])
    (fun x => Bl p 67 [.slice x.2.1.1 x.1 x.2.1.2, .slice x.2.2.1 x.1 x.2.2.2, .slice none 0 0, .bool false, .int .i64 0, .int .i64 0, .int .u64 0] ::
      OwnP 9 1 (.slice x.2.1.1 x.1 x.2.1.2) x.1 ((List.replicate x.1 zeroSec).map str) :: OwnP 9 1 (.slice x.2.2.1 x.1 x.2.2.2) x.1 ((List.replicate x.1 zeroSec).map str) :: F) (fun x => k - x.1) (0, (none, 0), (none, 0))
    (Nat.zero_le _) sub_auto (.cons .hd (.own0 (.own0 sel_all))) (fun x hx => ?_)
  obtain ⟨i, ⟨a1, a2⟩, ⟨b1, b2⟩⟩ := x
  dsimp only at hx ⊢
  by_cases hlt : i < k
  · have hin : (i : Int) < n := by rw [hk] at hlt; unfold clip at hlt; omega
    have hi4 : (i : Int) < 4096 := by omega
    have hrep : (List.replicate i zeroSec).map str ++ [zeroSec].map str = (List.replicate (i + 1) zeroSec).map str := by rw [← List.map_append, ← List.replicate_succ']
    have hb : i + 1 ≤ 9223372036854775807 ∧ (i + 1) * 16 ≤ 140737488355328 := by omega
    (repeat' (first
      | ((with_reducible refine at_makeSliceO ?_); with_reducible refine owk (ow_makeSliceI (m := 256) (n := 256) ev_const ev_const rfl (by omega) (by omega)) (fun _ => ?_))
      | ((with_reducible refine at_builtinO (b := .append) ?_); with_reducible refine owk (ow_appendR (xs := (List.replicate i zeroSec).map str) (news := [zeroSec].map str) (m := 1) (ev_tmp rfl) (ev_tmp rfl) rds_auto ho2 rfl hrep hb pick_auto) (fun q => ?_))
      | (with_reducible refine is_owkc ?_; first | refine owk (ow_buildStr (s := zeroSec) (ev_tmp rfl)) (fun _ => ?_))
      | (with_reducible refine at_conv ?_; first | refine yk (y_str (n := 256) (l := zeroSec) (ev_tmp rfl) (by rw [hz']; exact rds_auto)) ?_)
      | (with_reducible refine is_w ?_; first | refine w_plan (id := 5) [(0, true), (1, true), (2, true), (3, true), (4, true), (5, false), (6, false), (7, false), (8, false), (9, false), (10, false), (11, false)] [Bl p 67 _] (by kernel_rfl) (by kernel_rfl) sel_auto ?_ | refine w_plan (id := 6) [(0, true), (1, true), (2, true), (3, true), (4, true), (5, false), (6, false), (7, false), (8, false), (9, false), (10, false), (11, false)] [Bl p 67 _] (by kernel_rfl) (by kernel_rfl) sel_auto ?_)
      | (with_reducible refine is_yk ?_; refine yk_auto (k := ?_))
      | (with_reducible refine is_owk0 ?_; refine owk0_auto (k := ?_))
      | (with_reducible refine is_owkc ?_; refine owk_auto (k := fun _ => ?_))
      | refine go1 (k := ?_)
      | (refine go2 (ka := ?_) (kb := ?_) <;> intro _)
      | fail))
    rename_i _ _ q1 _ _
    exact x_again (i + 1, q1, q) (show i + 1 ≤ k by omega) (show k - (i + 1) < k - i by omega) sub_auto sel_auto
  · have hkk : ¬ ((i : Int) < n ∧ (i : Int) < 4096) := by rw [hk] at hlt; unfold clip at hlt; omega
    obtain rfl : i = k := by omega
    (repeat' (first
      | (with_reducible refine is_yk ?_; refine yk_auto (k := ?_))
      | (with_reducible refine is_owk0 ?_; refine owk0_auto (k := ?_))
      | (with_reducible refine is_owkc ?_; refine owk_auto (k := fun _ => ?_))
      | refine go1 (k := ?_)
      | (refine go2 (ka := ?_) (kb := ?_) <;> intro _)
      | fail))
    all_goals first | exact x_ret1 rfl rfl (fun w H => ⟨p, rfl, ref_made hk1 H⟩) | exact absurd ⟨by assumption, by assumption⟩ hkk
end
end Go.Proofs.Ytakeilefbcpabaa
