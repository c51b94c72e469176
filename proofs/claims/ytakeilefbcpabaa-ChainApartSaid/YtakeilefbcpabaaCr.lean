/- The reader of bytes (package code): Read, Take, Num, In, Good. -/
import Derived.Test.YtakeilefbcpabaaSx
import Derived.Test.YtakeilefbcpabaaTy
namespace Go.Proofs.Ytakeilefbcpabaa
open Go.RowKit

/-- The block g holds these bytes, from its start on; none: there is no such block. -/
def BkP (g : Nat) (D : List UInt8) : HP := fun h => D = [] ∨ ∃ cs T fr, h g = some (.cells cs T fr) ∧ cs.toList.take D.length = bvs D
/-- The slice v lies in that block: it reads as l. -/
def SubOf (g : Nat) (D : List UInt8) (v : Value) (l : List UInt8) : Prop :=
  ∃ A cap, v = .slice A l.length cap ∧ l.length ≤ cap ∧ cap ≤ 9223372036854775807 ∧ (A = none → cap = 0) ∧ (l = [] ∨ ∃ o, A = some ⟨g, o, none⟩ ∧ (D.drop o).take l.length = l)
theorem SubOf.hasR {g : Nat} {D l : List UInt8} {v : Value} {n : Nat} {c : Con} {L : List HP} (h : SubOf g D v l) (hn : l.length = n) : HasR (St c (BkP g D :: L)) v n (bvs l) := fun w H => by
  subst hn
  obtain ⟨A, cap, rfl, h1, h2, h3, h4⟩ := h
  refine ⟨by simp [bvs_length], ?_⟩
  rcases h4 with rfl | ⟨o, rfl, h5⟩
  · cases A with
    | none => have := h3 rfl; subst this; exact .inl ⟨rfl, rfl⟩
    | some ad => exact .inr ⟨ad, cap, rfl, h1, h2, fun j u hu => by simp [bvs] at hu⟩
  · refine .inr ⟨_, cap, rfl, h1, h2, fun j u hu => ?_⟩
    obtain ⟨h, hb, l'⟩ := H.get
    have hl : l ≠ [] := by rintro rfl; simp [bvs] at hu
    rcases hb with rfl | ⟨cs, T, fr, hg, hcs⟩
    · rw [List.drop_nil, List.take_nil] at h5; exact absurd h5.symm hl
    · rw [add_mid, l'.cell hg]
      have hj : j < l.length := by have := (List.getElem?_eq_some_iff.1 hu).1; rwa [bvs_length] at this
      have e : (bvs D)[o + j]? = some u := by
        rw [← hu, bvs, bvs, List.getElem?_map, List.getElem?_map]
        congr 1
        rw [← h5, List.getElem?_take, if_pos hj, List.getElem?_drop]
      rw [← hcs, List.getElem?_take] at e
      split at e
      · simpa using e
      · cases e
theorem sub_take {g : Nat} {D l a b : List UInt8} {A : Option Addr} {n cap : Nat} (h : SubOf g D (.slice A n cap) l) (hl : l = a ++ b) {m : Nat} (hm : a.length = m) : SubOf g D (.slice A m m) a := by
  subst hm
  obtain ⟨A', cap', e, h1, h2, h3, h4⟩ := h
  cases e
  subst hl
  have hle : a.length ≤ (a ++ b).length := by simp
  refine ⟨A, a.length, rfl, Nat.le_refl _, by omega, fun e => ?_, ?_⟩
  · have := h3 e; omega
  · rcases h4 with h4 | ⟨o, e, h5⟩
    · exact .inl (List.append_eq_nil_iff.1 h4).1
    · refine .inr ⟨o, e, ?_⟩
      have := congrArg (List.take a.length) h5
      rwa [List.take_take, Nat.min_eq_left hle, List.take_left] at this
theorem sub_drop {g : Nat} {D l a b : List UInt8} {A : Option Addr} {n cap s : Nat} (h : SubOf g D (.slice A n cap) l) (hs : s = 1) (hl : l = a ++ b) {m : Nat} (hm : a.length = m) : SubOf g D (.slice (if cap = m then A else A.map (·.add (m * s))) (n - m) (cap - m)) b := by
  subst hm hs
  obtain ⟨A', cap', e, h1, h2, h3, h4⟩ := h
  cases e
  subst hl
  have hn : (a ++ b).length - a.length = b.length := by simp
  rw [List.length_append] at h1
  refine ⟨_, cap - a.length, by rw [hn], by omega, by omega, fun e => ?_, ?_⟩
  · split at e
    · omega
    · cases A with
      | none => have := h3 rfl; omega
      | some ad => cases e
  · rcases h4 with h4 | ⟨o, e, h5⟩
    · exact .inl (List.append_eq_nil_iff.1 h4).2
    · by_cases hb : b = []
      · exact .inl hb
      · refine .inr ⟨o + a.length, ?_, ?_⟩
        · have : 0 < b.length := List.length_pos_iff.2 hb
          rw [if_neg (by omega), e, Option.map_some, add_mid, Nat.mul_one]
        · have := congrArg (List.drop a.length) h5
          rw [List.drop_take, List.drop_drop, List.drop_left, List.length_append, Nat.add_sub_cancel_left] at this
          exact this
/-- The reader r: what is left, of the block's bytes; none: there was a fault. -/
def RdAt (r g : Nat) (D : List UInt8) : Option (List UInt8) → HP
  | some l => Ex fun v => Pure (SubOf g D v l) (Bl r 135 [v, .bool false])
  | none => Bl r 135 [.slice none 0 0, .bool true]
attribute [local irreducible] Y OW YK OWK W WL WP X CV Ev Evs HasCell HasCells Has Met Again Kept
section
variable {c : Con} {F : List HP} {w : World} {r g : Nat} {D : List UInt8}
theorem St.openRd {l : List UInt8} (H : St c (RdAt r g D (some l) :: F) w) : ∃ A cap, SubOf g D (.slice A l.length cap) l ∧ St c (Bl r 135 [.slice A l.length cap, .bool false] :: F) w := by
  obtain ⟨v, H⟩ := St.ex H
  obtain ⟨h, H⟩ := St.pure H
  obtain ⟨A, cap, rfl, k⟩ := id h
  exact ⟨A, cap, h, H⟩
theorem St.shutRd {l : List UInt8} {v : Value} (h : SubOf g D v l) (H : St c (Bl r 135 [v, .bool false] :: F) w) : St c (RdAt r g D (some l) :: F) w := St.toEx v (St.toPure h H)
theorem rd_take_ok {l a b : List UInt8} {n : Nat} {k : Int} (hl : l = a ++ b) (hn : a.length = n) (hk : (n : Int) = k) (H : St c (RdAt r g D (some l) :: F) w) : Calls Try.prog 75 #[.pointer (some ⟨r, 0, none⟩), .int .i64 k] w fun e w' =>
    ∃ q : { q : Option Addr × Nat // SubOf g D (.slice q.1 n q.2) a }, e = .returned (.tuple #[.slice q.1.1 n q.1.2, .bool true]) ∧ St c (RdAt r g D (some b) :: F) w' := by
  subst hk
  obtain ⟨A, cap, hs, H⟩ := H.openRd
  obtain ⟨m, hm⟩ : ∃ m, l.length = m := ⟨_, rfl⟩
  rw [hm] at hs H
  have hcap : m ≤ cap ∧ cap ≤ 9223372036854775807 := by obtain ⟨A', cap', e, h1, h2, _⟩ := id hs; cases e; omega
  have hnm : n ≤ m := by rw [← hm, hl, List.length_append]; omega
  have hsd := sub_drop hs rfl hl hn
  refine calls_w (vs := [.pointer (some ⟨r, 0, none⟩), .int .i64 n]) Try.func75 rfl rfl rfl ?_ w H
  (repeat' (first
      | (with_reducible refine at_slice ?_; first | refine yk (y_slice3h (ev_tmp rfl) (ev_tmp rfl) (ev_tmp rfl) (by omega)) ?_)
      | (with_reducible refine is_yk ?_; refine yk_auto (k := ?_))
      | (with_reducible refine is_owk0 ?_; refine owk0_auto (k := ?_))
      | (with_reducible refine is_owkc ?_; refine owk_auto (k := fun _ => ?_))
      | refine go1 (k := ?_)
      | (refine go2 (ka := ?_) (kb := ?_) <;> intro _)
      | fail))
  exact x_ret2 rfl rfl rfl (fun w H => ⟨⟨(A, n), sub_take hs hl hn⟩, rfl, St.shutRd hsd H⟩)
theorem rd_take_bad {R : Option (List UInt8)} {n : Int} (hn : ∀ l, R = some l → n < 0 ∨ (l.length : Int) < n) (H : St c (RdAt r g D R :: F) w) : Calls Try.prog 75 #[.pointer (some ⟨r, 0, none⟩), .int .i64 n] w fun e w' =>
    e = .returned (.tuple #[.slice none 0 0, .bool false]) ∧ St c (RdAt r g D none :: F) w' := by
  cases R with
  | none =>
    replace H : St c (Bl r 135 [.slice none 0 0, .bool true] :: F) w := H
    refine calls_w (vs := [.pointer (some ⟨r, 0, none⟩), .int .i64 n]) Try.func75 rfl rfl rfl ?_ w H
    (repeat' (first
      | (with_reducible refine is_yk ?_; refine yk_auto (k := ?_))
      | (with_reducible refine is_owk0 ?_; refine owk0_auto (k := ?_))
      | (with_reducible refine is_owkc ?_; refine owk_auto (k := fun _ => ?_))
      | refine go1 (k := ?_)
      | (refine go2 (ka := ?_) (kb := ?_) <;> intro _)
      | fail))
    exact x_ret2 rfl rfl rfl (fun w H => ⟨rfl, H⟩)
  | some l =>
    obtain ⟨A, cap, hs, H⟩ := H.openRd
    have hn := hn l rfl
    obtain ⟨m, hm⟩ : ∃ m, l.length = m := ⟨_, rfl⟩
    rw [hm] at hs H hn
    refine calls_w (vs := [.pointer (some ⟨r, 0, none⟩), .int .i64 n]) Try.func75 rfl rfl rfl ?_ w H
    by_cases h0 : n < 0
    · (repeat' (first
      | (with_reducible refine is_yk ?_; refine yk_auto (k := ?_))
      | (with_reducible refine is_owk0 ?_; refine owk0_auto (k := ?_))
      | (with_reducible refine is_owkc ?_; refine owk_auto (k := fun _ => ?_))
      | refine go1 (k := ?_)
      | (refine go2 (ka := ?_) (kb := ?_) <;> intro _)
      | fail))
      exact x_ret2 rfl rfl rfl (fun w H => ⟨rfl, H⟩)
    · have h1 : (m : Int) < n := by omega
      (repeat' (first
      | (with_reducible refine is_yk ?_; refine yk_auto (k := ?_))
      | (with_reducible refine is_owk0 ?_; refine owk0_auto (k := ?_))
      | (with_reducible refine is_owkc ?_; refine owk_auto (k := fun _ => ?_))
      | refine go1 (k := ?_)
      | (refine go2 (ka := ?_) (kb := ?_) <;> intro _)
      | fail))
      exact x_ret2 rfl rfl rfl (fun w H => ⟨rfl, H⟩)
theorem rd_good {R : Option (List UInt8)} {b : Bool} (hb : R.isSome = b) (H : St c (RdAt r g D R :: F) w) : Calls Try.prog 76 #[.pointer (some ⟨r, 0, none⟩)] w fun e w' =>
    e = .returned (.bool b) ∧ St c (RdAt r g D R :: F) w' := by
  subst hb
  cases R with
  | none =>
    replace H : St c (Bl r 135 [.slice none 0 0, .bool true] :: F) w := H
    refine calls_w (vs := [.pointer (some ⟨r, 0, none⟩)]) Try.func76 rfl rfl rfl ?_ w H
    (repeat' (first
      | (with_reducible refine is_yk ?_; refine yk_auto (k := ?_))
      | (with_reducible refine is_owk0 ?_; refine owk0_auto (k := ?_))
      | (with_reducible refine is_owkc ?_; refine owk_auto (k := fun _ => ?_))
      | refine go1 (k := ?_)
      | (refine go2 (ka := ?_) (kb := ?_) <;> intro _)
      | fail))
    exact x_ret1 rfl rfl (fun w H => ⟨rfl, H⟩)
  | some l =>
    obtain ⟨A, cap, hs, H⟩ := H.openRd
    refine calls_w (vs := [.pointer (some ⟨r, 0, none⟩)]) Try.func76 rfl rfl rfl ?_ w H
    (repeat' (first
      | (with_reducible refine is_yk ?_; refine yk_auto (k := ?_))
      | (with_reducible refine is_owk0 ?_; refine owk0_auto (k := ?_))
      | (with_reducible refine is_owkc ?_; refine owk_auto (k := fun _ => ?_))
      | refine go1 (k := ?_)
      | (refine go2 (ka := ?_) (kb := ?_) <;> intro _)
      | fail))
    exact x_ret1 rfl rfl (fun w H => ⟨rfl, St.shutRd hs H⟩)
/-- The number that stands next. -/
def numV : Option (List UInt8) → Int
  | some l => if 8 ≤ l.length then leInt (l.take 8) else 0
  | none => 0
def numR : Option (List UInt8) → Option (List UInt8)
  | some l => if 8 ≤ l.length then some (l.drop 8) else none
  | none => none
theorem rd_num_bad {R : Option (List UInt8)} (hn : ∀ l, R = some l → l.length < 8) (H : St c (RdAt r g D R :: F) w) : Calls Try.prog 74 #[.pointer (some ⟨r, 0, none⟩)] w fun e w' =>
    e = .returned (.int .i64 0) ∧ St c (RdAt r g D none :: F) w' := by
  refine calls_w (vs := [.pointer (some ⟨r, 0, none⟩)]) Try.func74 rfl rfl rfl ?_ w H
  (repeat' (first
      | ((with_reducible refine at_fn 75 ?_); with_reducible refine owk_c1 evs_auto (by kernel_rfl) pick_auto (fun w H => rd_take_bad (n := 8) (fun l e => by have := hn l e; omega) H) ?_)
      | (with_reducible refine is_yk ?_; refine yk_auto (k := ?_))
      | (with_reducible refine is_owk0 ?_; refine owk0_auto (k := ?_))
      | (with_reducible refine is_owkc ?_; refine owk_auto (k := fun _ => ?_))
      | refine go1 (k := ?_)
      | (refine go2 (ka := ?_) (kb := ?_) <;> intro _)
      | fail))
  exact x_ret1 rfl rfl (fun w H => ⟨rfl, H⟩)
set_option maxRecDepth 100000 in
theorem rd_num_ok {l a b : List UInt8} (hl : l = a ++ b) (ha : a.length = 8) (H : St c (RdAt r g D (some l) :: BkP g D :: F) w) : Calls Try.prog 74 #[.pointer (some ⟨r, 0, none⟩)] w fun e w' =>
    e = .returned (.int .i64 (leInt a)) ∧ St c (RdAt r g D (some b) :: BkP g D :: F) w' := by
  have h8 : (8 : Int) = ((8 : Nat) : Int) := rfl
  refine calls_w (vs := [.pointer (some ⟨r, 0, none⟩)]) Try.func74 rfl rfl rfl ?_ w H
  (repeat' (first
      | ((with_reducible refine at_fn 75 ?_); with_reducible refine owk_c1x evs_auto (by kernel_rfl) pick_auto (fun w H => rd_take_ok (n := 8) hl ha (by omega) H) (fun q => ?_))
      | (with_reducible refine is_yk ?_; refine yk_auto (k := ?_))
      | (with_reducible refine is_owk0 ?_; refine owk0_auto (k := ?_))
      | (with_reducible refine is_owkc ?_; refine owk_auto (k := fun _ => ?_))
      | refine go1 (k := ?_)
      | (refine go2 (ka := ?_) (kb := ?_) <;> intro _)
      | fail))
  obtain ⟨⟨A, cap⟩, hq⟩ := q
  have hA : A ≠ none := by
    rintro rfl
    obtain ⟨A', cap', e, h1, _, h3, _⟩ := hq
    obtain ⟨e1, e2, e3⟩ := Value.slice.inj e
    have := h3 e1.symm; omega
  obtain ⟨ad, rfl⟩ : ∃ ad, A = some ad := by cases A with | none => exact absurd rfl hA | some x => exact ⟨x, rfl⟩
  dsimp only at hq ⊢
  have hR : ∀ {L : List HP}, HasR (St c (BkP g D :: L)) (.slice (some ad) 8 cap) 8 (bvs a) := hq.hasR ha
  refine w_loop (α := Nat) (fun i => i ≤ 8)
    (fun i => [(17, .int .i64 (i : Int)), (16, .int .i64 8), (15, .slice (some ad) 8 cap), (5, .int .u64 ((leN (a.take i) : Nat) : Int))]) (fun _ => RdAt r g D (some b) :: BkP g D :: F) (fun i => 8 - i) 0 (by omega) sub_auto sel_auto (fun i hi => ?_)
  by_cases hlt : i < 8
  · have hil : i < a.length := by omega
    have hc := bvs_get hil
    have hb := a[i].toNat_lt
    have hx := leN_lt (a.take i)
    have hs : leN (a.take (i + 1)) = leN (a.take i) + a[i].toNat * 256 ^ i := by
      rw [List.take_succ_eq_append_getElem hil, leN_snoc, List.length_take, Nat.min_eq_left (by omega)]
    rw [List.length_take, Nat.min_eq_left (by omega)] at hx
    have hy := leN_lt (a.take (i + 1))
    rw [List.length_take, Nat.min_eq_left (by omega), hs] at hy
    have hp : 256 ^ i = 2 ^ (8 * i) := by rw [Nat.pow_mul]
    have hp64 : (256 : Nat) ^ (i + 1) ≤ 2 ^ 64 := by
      rw [show (2 : Nat) ^ 64 = 256 ^ 8 from rfl]; exact Nat.pow_le_pow_right (by omega) (by omega)
    rw [hp] at hx hs hy
    generalize a[i].toNat = y at hc hb hs hy
    generalize leN (a.take i) = x at hx hs hy ⊢
    have k1 : IntKind.u64.wrap (y : Int) = y := by show (y : Int) % 18446744073709551616 = y; omega
    have k2 : IntKind.u64.wrap ((y : Int) * 2 ^ (8 * (i : Int)).toNat) = ((y * 2 ^ (8 * i) : Nat) : Int) := by
      have e : (8 * (i : Int)).toNat = 8 * i := by omega
      rw [e]
      have e2 : (y : Int) * 2 ^ (8 * i) = ((y * 2 ^ (8 * i) : Nat) : Int) := by rw [Int.natCast_mul, Int.natCast_pow]; rfl
      rw [e2]
      generalize y * 2 ^ (8 * i) = q at hy
      show (q : Int) % 18446744073709551616 = q
      omega
    have k3 : bits .or .u64 (x : Int) ((y * 2 ^ (8 * i) : Nat) : Int) = ((leN (a.take (i + 1)) : Nat) : Int) := by rw [bits_or_u64 hx (by omega), hs]
    (repeat' (first
      | (with_reducible refine at_conv ?_; first | refine yk_eq (y_conv_int (ev_tmp rfl)) (congrArg _ k1) ?_)
      | (with_reducible refine at_load ?_; first | refine yk (y_load (ev_tmp rfl) (hasCell_tl (hasR_cell hR hc rfl))) ?_)
      | (with_reducible refine at_bin ?_; first | refine yk_eq (y_shl (ev_tmp rfl) (ev_tmp rfl) (by omega) (by simp [IntKind.bits]; omega)) (congrArg _ k2) ?_ | refine yk_eq (y_bits (.inr (.inl rfl)) (ev_tmp rfl) (ev_tmp rfl)) (congrArg _ k3) ?_)
      | (with_reducible refine is_yk ?_; refine yk_auto (k := ?_))
      | (with_reducible refine is_owk0 ?_; refine owk0_auto (k := ?_))
      | (with_reducible refine is_owkc ?_; refine owk_auto (k := fun _ => ?_))
      | refine go1 (k := ?_)
      | (refine go2 (ka := ?_) (kb := ?_) <;> intro _)
      | fail))
    exact x_again (i + 1) (by omega) (by omega) sub_auto sel_auto
  · have : i = 8 := by omega
    subst this
    rw [List.take_of_length_le (by omega)]
    have k4 : IntKind.i64.wrap (leN a : Int) = leInt a := by rw [leInt, IntWalk.i64_left]
    (repeat' (first
      | (with_reducible refine at_conv ?_; first | refine yk_eq (y_conv_int (ev_tmp rfl)) (congrArg _ k4) ?_)
      | (with_reducible refine is_yk ?_; refine yk_auto (k := ?_))
      | (with_reducible refine is_owk0 ?_; refine owk0_auto (k := ?_))
      | (with_reducible refine is_owkc ?_; refine owk_auto (k := fun _ => ?_))
      | refine go1 (k := ?_)
      | (refine go2 (ka := ?_) (kb := ?_) <;> intro _)
      | fail))
    exact x_ret1 rfl rfl (fun w H => ⟨rfl, H⟩)
end
end Go.Proofs.Ytakeilefbcpabaa
