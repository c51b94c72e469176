/- The document's Full; what was handed in and what was answered, written over. -/
import Derived.Test.YtakeilefbcpabaaDl
import Derived.Test.YtakeilefbcpabaaRd
import Derived.Test.YtakeilefbcpabaaMs
namespace Go.Proofs.Ytakeilefbcpabaa
open Go.RowKit
attribute [local irreducible] Y OW YK OWK W WL WP X CV Ev Evs HasCell HasCells Has Met Again Kept

section
variable {c : Con} {F : List HP} {w : World} {p : Nat} {D D' : DiskM}
set_option maxRecDepth 100000 in
theorem ref_full (l : List UInt8) (hl : l.length ≤ 256) (H : St c F w) : Calls Try.prog 31 #[str l] w fun e w' => e = .returned (str (pad l)) ∧ St c F w' := by
  refine calls_w (vs := [str l]) Try.func31 rfl rfl rfl ?_ w H
  have hz : (bvs (zeros (256 - l.length))).length = 256 - l.length := by rw [bvs_length, zeros_length]
  (repeat' (first
      | (with_reducible refine is_owkc ?_; first | refine owk (ow_makeSliceI (n := 256 - l.length) (ev_tmp rfl) (ev_tmp rfl) (by omega) (by omega) (by omega)) (fun b => ?_))
      | (with_reducible refine at_conv ?_; first | refine yk (y_str (l := zeros (256 - l.length)) (n := 256 - l.length) (ev_tmp rfl) (by rw [← replicate_bvs]; exact hasR_blAll (by simp) (by omega) (by omega))) ?_)
      | (with_reducible refine at_bin ?_; first | refine yk (y_add_s (ev_tmp rfl) (ev_tmp rfl) (by rw [zeros_length]; omega)) ?_)
      | (with_reducible refine is_yk ?_; refine yk_auto (k := ?_))
      | (with_reducible refine is_owk0 ?_; refine owk0_auto (k := ?_))
      | (with_reducible refine is_owkc ?_; refine owk_auto (k := fun _ => ?_))
      | refine go1 (k := ?_)
      | (refine go2 (ka := ?_) (kb := ?_) <;> intro _)
      | fail))
  exact x_ret1 rfl rfl (fun w H => ⟨rfl, Sel.st sel_auto H⟩)
end
end Go.Proofs.Ytakeilefbcpabaa
