/- Package chain: areas, Half, Left, Add. -/
import Derived.Test.YtakeilefbcpabaaCk
namespace Go.Proofs.Ytakeilefbcpabaa
open Go.RowKit
/-- An area of the disk at d. -/
structure AreaM where
  lo : Nat
  hi : Nat
  pos : Nat
abbrev areaCells (d : Nat) (A : AreaM) : List Value := [.pointer (some ⟨d, 0, none⟩), .int .i64 A.lo, .int .i64 A.hi, .int .i64 A.pos]
abbrev AreaAt (b d : Nat) (A : AreaM) : HP := Bl b 119 (areaCells d A)
/-- The half of n sectors that an epoch has. -/
def halfA (n : Nat) (epoch : Int) : AreaM := ⟨(epoch % 2).toNat * (n / 2), (epoch % 2).toNat * (n / 2) + n / 2, (epoch % 2).toNat * (n / 2)⟩
theorem bits_and1 (x : Int) (h : -9223372036854775808 ≤ x ∧ x ≤ 9223372036854775807) : bits .and .i64 x 1 = x % 2 := by
  show IntKind.i64.wrap (((BitVec.ofInt 64 x) &&& (BitVec.ofInt 64 1)).toNat : Int) = x % 2
  have e1 : (BitVec.ofInt 64 1) = 1#64 := rfl
  rw [e1, BitVec.toNat_and]
  have e2 : (1#64).toNat = 1 := rfl
  rw [e2, Nat.and_one_is_mod, BitVec.toNat_ofInt]
  rw [IntWalk.i64_left]
  have : ((2 : Nat) ^ 64 : Nat) = 18446744073709551616 := rfl
  unfold wrap64
  omega
attribute [local irreducible] Y OW YK OWK W WL WP X CV WG XG CVG Ev Evs HasCell HasCells Has Met Again Kept
section
variable {c : Con} {F : List HP} {w : World} {p b : Nat} {D : DiskM} {A : AreaM}
theorem disk_downE {b : Bool} (hd : D.down = b) (H : St c (DiskAt p D :: F) w) : Calls Try.prog 40 #[.pointer (some ⟨p, 0, none⟩)] w fun e w' => e = .returned (.bool b) ∧ w = w' := by subst hd; exact disk_down H
theorem disk_actsE {b : Int} (hd : D.acts = b) (H : St c (DiskAt p D :: F) w) : Calls Try.prog 39 #[.pointer (some ⟨p, 0, none⟩)] w fun e w' => e = .returned (.int .i64 b) ∧ w = w' := by subst hd; exact disk_acts H
theorem c_half {n : Nat} {R : AreaM} (epoch : Int) (he : -9223372036854775808 ≤ epoch ∧ epoch ≤ 9223372036854775807) (hn : D.now.length = n) (hmax : n ≤ 4096) (hR : halfA n epoch = R) (H : St c (DiskAt p D :: F) w) : Calls Try.prog 44 #[.pointer (some ⟨p, 0, none⟩), .int .i64 epoch] w fun e w' =>
    ∃ b, e = .returned (.pointer (some ⟨b, 0, none⟩)) ∧ St c (AreaAt b p R :: DiskAt p D :: F) w' := by
  subst hR
  have hq : (n : Int) / 2 = ((n / 2 : Nat) : Int) := by omega
  have ha := bits_and1 epoch he
  obtain ⟨k, hk⟩ : ∃ k : Nat, epoch % 2 = (k : Int) := ⟨(epoch % 2).toNat, by omega⟩
  have hk2 : k = 0 ∨ k = 1 := by omega
  obtain ⟨m, hm⟩ : ∃ m, n / 2 = m := ⟨_, rfl⟩
  have hR : halfA n epoch = ⟨k * m, k * m + m, k * m⟩ := by unfold halfA; rw [hk, hm]; rfl
  rw [hR]
  rw [hm] at hq
  rw [hk] at ha
  have hmul : (k : Int) * (m : Int) = ((k * m : Nat) : Int) := by rw [Int.natCast_mul]
  have hb : k * m ≤ 4096 := by rcases hk2 with rfl | rfl <;> omega
  generalize k * m = f at hmul hb ⊢
  have hadd : (f : Int) + (m : Int) = ((f + m : Nat) : Int) := by omega
  refine calls_w (vs := [.pointer (some ⟨p, 0, none⟩), .int .i64 epoch]) Try.func44 rfl rfl rfl ?_ w H
  (repeat' (first
      | ((with_reducible refine at_fn 28 ?_); with_reducible refine owk_c1q evs_auto (by kernel_rfl) pick_auto (fun w H => disk_size_is hn H) ?_)
      | (with_reducible refine at_bin ?_; first | refine yk_eq (y_quo64 (ev_tmp rfl) ev_const (by omega)) (congrArg _ hq) ?_ | refine yk_eq (y_bits (.inl rfl) (ev_tmp rfl) ev_const) (congrArg _ ha) ?_ | refine yk_eq (y_mul64 (ev_tmp rfl) (ev_tmp rfl) (by rw [hmul]; omega)) (congrArg _ hmul) ?_ | refine yk_eq (y_add64 (ev_tmp rfl) (ev_tmp rfl) (by omega)) (congrArg _ hadd) ?_)
      | (with_reducible refine is_yk ?_; refine yk_auto (k := ?_))
      | (with_reducible refine is_owk0 ?_; refine owk0_auto (k := ?_))
      | (with_reducible refine is_owkc ?_; refine owk_auto (k := fun _ => ?_))
      | refine go1 (k := ?_)
      | (refine go2 (ka := ?_) (kb := ?_) <;> intro _)
      | refine gg1 (k := ?_)
      | (refine gg2 (ka := ?_) (kb := ?_) <;> intro _)
      | fail))
  exact x_ret1 rfl rfl (fun w H => ⟨_, rfl, H⟩)
theorem c_left {n : Int} (hn : (A.hi : Int) - A.pos = n) (hb : A.hi ≤ 1073741824 ∧ A.pos ≤ 1073741824) (H : St c (AreaAt b p A :: F) w) : Calls Try.prog 46 #[.pointer (some ⟨b, 0, none⟩)] w fun e w' => e = .returned (.int .i64 n) ∧ St c (AreaAt b p A :: F) w' := by
  subst hn
  replace H : St c (Bl b 119 [.pointer (some ⟨p, 0, none⟩), .int .i64 A.lo, .int .i64 A.hi, .int .i64 A.pos] :: F) w := H
  refine calls_w (vs := [.pointer (some ⟨b, 0, none⟩)]) Try.func46 rfl rfl rfl ?_ w H
  (repeat' (first
      | (with_reducible refine is_w ?_; first | refine w_plan (id := 3) [(0, true), (1, true), (2, true), (3, true), (4, true), (5, true), (6, true), (7, true), (8, true), (9, true)] _ (by kernel_rfl) (by kernel_rfl) sel_all ?_)
      | (with_reducible refine is_yk ?_; refine yk_auto (k := ?_))
      | (with_reducible refine is_owk0 ?_; refine owk0_auto (k := ?_))
      | (with_reducible refine is_owkc ?_; refine owk_auto (k := fun _ => ?_))
      | refine go1 (k := ?_)
      | (refine go2 (ka := ?_) (kb := ?_) <;> intro _)
      | refine gg1 (k := ?_)
      | (refine gg2 (ka := ?_) (kb := ?_) <;> intro _)
      | fail))
  exact x_ret1 rfl rfl (fun w H => ⟨rfl, H⟩)
end
end Go.Proofs.Ytakeilefbcpabaa
