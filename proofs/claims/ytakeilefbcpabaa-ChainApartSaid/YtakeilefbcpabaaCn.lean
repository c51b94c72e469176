/- coffretref01.Num: a number's bytes, the lowest first; framed: some bytes as long as a frame of them. -/
import Derived.Test.YtakeilefbcpabaaYp
import Derived.Test.YtakeilefbcpabaaRd
import Derived.Test.YtakeilefbcpabaaBy
import Derived.Test.YtakeilefbcpabaaTy
namespace Go.Proofs.Ytakeilefbcpabaa
open Go.RowKit

def leB : Nat → Nat → List UInt8
  | 0, _ => []
  | k + 1, x => UInt8.ofNat (x % 256) :: leB k (x / 256)
theorem leB_length : ∀ k x, (leB k x).length = k
  | 0, _ => rfl
  | k + 1, x => by rw [leB, List.length_cons, leB_length k]
theorem leB_snoc : ∀ k x, leB (k + 1) x = leB k x ++ [UInt8.ofNat (x / 256 ^ k % 256)]
  | 0, x => by simp [leB]
  | k + 1, x => by
    rw [leB, leB_snoc k (x / 256), leB, List.cons_append]
    rw [Nat.div_div_eq_div_mul, Nat.pow_succ, Nat.mul_comm 256]
section
variable {P : Program} {H : World → Prop} {E : Env} {d : Option Nat} {ty : TypeId} {pos : String} {aft : Array Edge} {g : Option (Nat × Bool)}
theorem y_quoK {k : IntKind} {x y : Operand} {t t' : TypeId} {m n q : Int} (hx : Ev E x (.int k m)) (hy : Ev E y (.int k n)) (h : 0 ≤ m ∧ 0 < n) (hq : m / n = q) (hw : k.wrap q = q) :
    Y P H E (Oper.mk d (.binOp .quo t x y t') ty pos aft g) (.int k q) := fun N a w hf _ => by
  have h1 : m.tdiv n = m / n := Int.tdiv_eq_ediv_of_nonneg h.1
  have h0 : n ≠ 0 := by omega
  unfold execOp; simp [hx N a hf, hy N a hf, eqGuard, binOp, Op.intDiv, h0, h1, hq, hw]
end
theorem wrap64_nat {x : Nat} (h : x < 18446744073709551616) : IntKind.u64.wrap (x : Int) = x := by
  have e : IntKind.u64.wrap (x : Int) = (x : Int) % 18446744073709551616 := rfl
  rw [e]; omega
theorem wrap8_byte (y : Nat) : IntKind.u8.wrap ((y : Int) % 256) = ((UInt8.ofNat (y % 256)).toNat : Int) := by
  have e : IntKind.u8.wrap ((y : Int) % 256) = (y : Int) % 256 % 256 := rfl
  rw [e, UInt8.toNat_ofNat']; omega
attribute [local irreducible] Y OW YK OWK W WL WP X CV Ev Evs HasCell HasCells Has Met Again Kept
section
variable {c : Con} {F : List HP} {w : World}
set_option maxRecDepth 100000 in
theorem num_ref (x : Nat) (hx : x < 9223372036854775808) (H : St c F w) : Calls Try.prog 64 #[.int .i64 x] w fun e w' => e = .returned (str (leB 8 x)) ∧ St c F w' := by
  have hw0 : IntKind.u64.wrap (x : Int) = ((x / 256 ^ 0 : Nat) : Int) := by rw [wrap64_nat (by omega)]; simp
  refine calls_w (vs := [.int .i64 x]) Try.func64 rfl rfl rfl ?_ w H
  (repeat' (first
      | (with_reducible refine at_conv ?_; first | refine yk_eq (y_conv_int (ev_tmp rfl)) (congrArg _ hw0) ?_)
      | (with_reducible refine is_yk ?_; refine yk_auto (k := ?_))
      | (with_reducible refine is_owk0 ?_; refine owk0_auto (k := ?_))
      | (with_reducible refine is_owkc ?_; refine owk_auto (k := fun _ => ?_))
      | refine go1 (k := ?_)
      | (refine go2 (ka := ?_) (kb := ?_) <;> intro _)
      | fail))
  refine w_loop (α := Nat) (fun k => k ≤ 8)
    (fun k => [(5, .int .i64 (k : Int)), (4, str (leB k x)), (3, .int .u64 ((x / 256 ^ k : Nat) : Int))]) (fun _ => F) (fun k => 8 - k) 0 (by omega) sub_auto sel_auto (fun k hk => ?_)
  have hle : x / 256 ^ k ≤ x := Nat.div_le_self _ _
  have hq : (x / 256 ^ k) / 256 = x / 256 ^ (k + 1) := by rw [Nat.div_div_eq_div_mul, Nat.pow_succ]
  have hs := leB_snoc k x
  have hlen := leB_length k x
  generalize x / 256 ^ k = y at hle hq hs ⊢
  generalize hd : x / 256 ^ (k + 1) = y' at hq ⊢
  have hq' : (y : Int) / 256 = (y' : Int) := by omega
  have hy' : IntKind.u64.wrap (y' : Int) = y' := wrap64_nat (by omega)
  have h8 := wrap8_byte y
  have hb1 : (([UInt8.ofNat (y % 256)] : List UInt8)).length = 1 := rfl
  generalize hB : UInt8.ofNat (y % 256) = b at hs h8 hb1
  have hsz : (leB k x).length + [b].length ≤ 9223372036854775807 := by rw [hlen]; show k + 1 ≤ _; omega
  generalize hl0 : leB k x = l0 at hs hsz ⊢
  generalize hl1 : leB (k + 1) x = l1 at hs
  have hR : ∀ (q T : Nat) (G : List HP), HasR (St c (Bl q T (List.flatMap vcells [Value.int .u8 b.toNat]) :: G)) (.slice (some ⟨q, 0, none⟩) 1 1) 1 (bvs [b]) := fun q T G => reads_has (hasCells_bl has_hd rfl) rfl (by decide) (by decide)
  by_cases h8k : k < 8
  · (repeat' (first
      | (with_reducible refine at_conv ?_; first | refine yk_eq (y_conv_int (ev_tmp rfl)) (congrArg _ h8) ?_ | refine yk (y_str (n := 1) (l := [b]) (ev_tmp rfl) (hR _ _ _)) ?_)
      | (with_reducible refine at_bin ?_; first | refine yk (y_rem (ev_tmp rfl) ev_const (by omega)) ?_ | refine yk (y_quoK (ev_tmp rfl) ev_const (by omega) hq' hy') ?_ | refine yk_eq (y_add_s (ev_tmp rfl) (ev_tmp rfl) hsz) rfl ?_)
      | (with_reducible refine is_yk ?_; refine yk_auto (k := ?_))
      | (with_reducible refine is_owk0 ?_; refine owk0_auto (k := ?_))
      | (with_reducible refine is_owkc ?_; refine owk_auto (k := fun _ => ?_))
      | refine go1 (k := ?_)
      | (refine go2 (ka := ?_) (kb := ?_) <;> intro _)
      | fail))
    exact x_again (k + 1) (by omega) (by omega) (by rw [hl1, hs, hd]; exact sub_auto) sel_auto
  · have : k = 8 := by omega
    subst this
    (repeat' (first
      | (with_reducible refine is_yk ?_; refine yk_auto (k := ?_))
      | (with_reducible refine is_owk0 ?_; refine owk0_auto (k := ?_))
      | (with_reducible refine is_owkc ?_; refine owk_auto (k := fun _ => ?_))
      | refine go1 (k := ?_)
      | (refine go2 (ka := ?_) (kb := ?_) <;> intro _)
      | fail))
    exact x_ret1 rfl rfl (fun w H => ⟨by rw [hl0], H⟩)

/-- Some bytes as long as a frame of them. -/
def frameB (s : List UInt8) : List UInt8 := leB 8 (max s.length 40 + 8) ++ s ++ List.replicate (max s.length 40 - s.length) 0
theorem frameB_length (s : List UInt8) : (frameB s).length = max s.length 40 + 8 := by
  simp [frameB, leB_length]; omega
set_option maxRecDepth 100000 in
theorem framed_ref (s : List UInt8) (hs : s.length ≤ 16777216) {sv : Value} (hsv : sv = str s) (H : St c F w) : Calls Try.prog 45 #[sv] w fun e w' =>
    ∃ q : { q : Nat × Nat // (frameB s).length ≤ q.2 ∧ q.2 ≤ 9223372036854775807 }, e = .returned (.slice (some ⟨q.1.1, 0, none⟩) (frameB s).length q.1.2) ∧ St c (BytesP q.1.1 q.1.2 5 (frameB s) :: F) w' := by
  subst hsv
  have hfl := frameB_length s
  have hmx : max (s.length : Int) 40 + 8 = ((max s.length 40 + 8 : Nat) : Int) := by omega
  have hpad : ((max s.length 40 + 8 : Nat) : Int) - 8 - (s.length : Int) = ((max s.length 40 - s.length : Nat) : Int) := by omega
  have hfb : str (leB 8 (max s.length 40 + 8) ++ s ++ List.replicate (max s.length 40 - s.length) 0) = str (frameB s) := rfl
  have hRR : ∀ (b T : Nat) (G : List HP), HasR (St c (Bl b T (List.replicate (max s.length 40 - s.length) (.int .u8 0)) :: G)) (.slice (some ⟨b, 0, none⟩) (max s.length 40 - s.length) (max s.length 40 - s.length)) (max s.length 40 - s.length) (bvs (List.replicate (max s.length 40 - s.length) 0)) := fun b T G => by
    rw [replicate_bvs]; exact hasR_blAll (by simp [bvs_length, zeros_length]) (by omega) (by omega)
  have hsz2 : (leB 8 (max s.length 40 + 8) ++ s).length + (List.replicate (max s.length 40 - s.length) (0 : UInt8)).length ≤ 9223372036854775807 := by simp [leB_length]; omega
  have hl8 := leB_length 8 (max s.length 40 + 8)
  have hsz1 : (leB 8 (max s.length 40 + 8)).length + s.length ≤ 9223372036854775807 := by omega
  refine calls_w (vs := [str s]) Try.func45 rfl rfl rfl ?_ w H
  (repeat' (first
      | (with_reducible refine at_bin ?_; first | refine yk_eq (y_add64 (ev_tmp rfl) ev_const (by omega)) (congrArg _ hmx) ?_)
      | (with_reducible refine is_w ?_; first | refine w_looks [(0, true), (2, true), (4, true), (5, true), (6, true), (7, true), (8, true)] [0, 2, 3, 4, 5, 6, 7, 8, 10, 11, 13] [] (by kernel_rfl) (by kernel_rfl) (by kernel_rfl) (by kernel_rfl) (by kernel_rfl) Sel.nil ?_)
      | (with_reducible refine is_yk ?_; refine yk_auto (k := ?_))
      | (with_reducible refine is_owk0 ?_; refine owk0_auto (k := ?_))
      | (with_reducible refine is_owkc ?_; refine owk_auto (k := fun _ => ?_))
      | refine go1 (k := ?_)
      | (refine go2 (ka := ?_) (kb := ?_) <;> intro _)
      | fail))
  refine x_two (i := 1) (j := 9) (n := 6) (by kernel_rfl) rfl rfl rfl rfl rfl ?_ ?_
  · refine owk_c0s evs_auto (by kernel_rfl) (fun w H => num_ref _ (by omega) H) ⟨Sel.nil, ?_⟩
    refine x_tail [] [(3, true), (9, false), (10, true), (11, true), (12, false), (13, true)] Sel.nil (by kernel_rfl) (by kernel_rfl) rfl (by kernel_rfl) Sel.nil ?_
    (repeat' (first
      | (with_reducible refine is_owkc ?_; first | refine owk (ow_makeSliceI (ev_tmp rfl) (ev_tmp rfl) hpad (by omega) (by omega)) (fun b => ?_))
      | (with_reducible refine at_bin ?_; first | refine yk (y_add_s (ev_tmp rfl) (ev_tmp rfl) hsz1) ?_ | refine yk_eq (y_add_s (ev_tmp rfl) (ev_tmp rfl) hsz2) hfb ?_)
      | (with_reducible refine at_conv ?_; first | refine yk (y_str (l := List.replicate (max s.length 40 - s.length) 0) (n := max s.length 40 - s.length) (ev_tmp rfl) (hRR _ _ _)) ?_)
      | (with_reducible refine is_kept ?_; first | refine kept_more [Bl _ _ _] sel_auto sel_auto ?_)
      | (with_reducible refine is_yk ?_; refine yk_auto (k := ?_))
      | (with_reducible refine is_owk0 ?_; refine owk0_auto (k := ?_))
      | (with_reducible refine is_owkc ?_; refine owk_auto (k := fun _ => ?_))
      | refine go1 (k := ?_)
      | (refine go2 (ka := ?_) (kb := ?_) <;> intro _)
      | fail))
    exact x_ret1 rfl rfl (fun w H => ⟨_, rfl, Sel.st (.cons .hd (.tl sel_all)) H⟩)
  · refine owk (ow_makeSliceI (ev_tmp rfl) (ev_tmp rfl) hpad (by omega) (by omega)) (fun b => ⟨Sel.nil, ?_⟩)
    refine x_tail [Bl _ _ _] [(10, true), (1, false), (3, true), (11, true), (12, false), (13, true)] Sel.nil (by kernel_rfl) (by kernel_rfl) rfl (by kernel_rfl) sel_auto ?_
    (repeat' (first
      | ((with_reducible refine at_fn 64 ?_); with_reducible refine owk_c0s evs_auto (by kernel_rfl) (fun w H => num_ref _ (by omega) H) ?_)
      | (with_reducible refine at_bin ?_; first | refine yk (y_add_s (ev_tmp rfl) (ev_tmp rfl) hsz1) ?_ | refine yk_eq (y_add_s (ev_tmp rfl) (ev_tmp rfl) hsz2) hfb ?_)
      | (with_reducible refine at_conv ?_; first | refine yk (y_str (l := List.replicate (max s.length 40 - s.length) 0) (n := max s.length 40 - s.length) (ev_tmp rfl) (hRR _ _ _)) ?_)
      | (with_reducible refine is_yk ?_; refine yk_auto (k := ?_))
      | (with_reducible refine is_owk0 ?_; refine owk0_auto (k := ?_))
      | (with_reducible refine is_owkc ?_; refine owk_auto (k := fun _ => ?_))
      | refine go1 (k := ?_)
      | (refine go2 (ka := ?_) (kb := ?_) <;> intro _)
      | fail))
    exact x_ret1 rfl rfl (fun w H => ⟨_, rfl, Sel.st (.cons .hd (.tl sel_all)) H⟩)
end
end Go.Proofs.Ytakeilefbcpabaa
