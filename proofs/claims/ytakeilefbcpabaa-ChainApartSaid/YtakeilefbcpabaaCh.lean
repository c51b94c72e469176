/- Package chain: the length of a frame; areas. -/
import Derived.Test.YtakeilefbcpabaaCs
import Derived.Test.YtakeilefbcpabaaCn
import Derived.Test.YtakeilefbcpabaaDl
namespace Go.Proofs.Ytakeilefbcpabaa
open Go.RowKit
/-- How many bytes the frame has that bytes begin with. -/
def lengthM (b : List UInt8) : Int := if inOk 48 16384 (some b) = true ∧ leInt (b.take 8) ≤ b.length then leInt (b.take 8) else 0
attribute [local irreducible] Y OW YK OWK W WL WP X CV Ev Evs HasCell HasCells Has Met Again Kept
section
variable {c : Con} {F : List HP} {w : World}
theorem seg_length {v : Value} {A : Option Addr} {n cap : Nat} {D : List UInt8} {E : Int} (hv : v = .slice A n cap) (hE : lengthM D = E) (hr : HasR (St c F) v n (bvs D)) (hn : n ≤ 1073741824) (H : St c F w) : Calls Try.prog 65 #[v] w fun e w' =>
    e = .returned (.int .i64 E) ∧ St c F w' := by
  subst hv hE
  have hD : D.length = n := by
    obtain ⟨h1, -⟩ := hr w H
    rw [bvs_length] at h1; omega
  refine calls_w (vs := [.slice A n cap]) Try.func65 rfl rfl rfl ?_ w H
  cases hb : inOk 48 16384 (some D)
  · have hl : lengthM D = 0 := by simp [lengthM, hb]
    rw [hl]
    (repeat' (first
      | ((with_reducible refine at_fn 69 ?_); with_reducible refine owk (ow_callx evs_auto (by kernel_rfl) (fun w H => rd_read rfl hr hn H)) (fun q => ?_))
      | ((with_reducible refine at_fn 70 ?_); with_reducible refine owk_c2 evs_auto (by kernel_rfl) pick_auto pick_auto (fun w H => rd_in_bad hb (.inl (by omega)) H) ?_)
      | (with_reducible refine is_yk ?_; refine yk_auto (k := ?_))
      | (with_reducible refine is_owk0 ?_; refine owk0_auto (k := ?_))
      | (with_reducible refine is_owkc ?_; refine owk_auto (k := fun _ => ?_))
      | refine go1 (k := ?_)
      | (refine go2 (ka := ?_) (kb := ?_) <;> intro _)
      | fail))
    exact x_ret1 rfl rfl (fun w H => ⟨rfl, H.tail.tail⟩)
  · have h8 : 8 ≤ D.length ∧ 48 ≤ leInt (D.take 8) ∧ leInt (D.take 8) ≤ 16384 := by simp [inOk] at hb; omega
    have hl : D = D.take 8 ++ D.drop 8 := (List.take_append_drop 8 D).symm
    have ha : (D.take 8).length = 8 := by simp; omega
    obtain ⟨m, hm⟩ : ∃ m, leInt (D.take 8) = m := ⟨_, rfl⟩
    have hlm : lengthM D = if m ≤ (n : Int) then m else 0 := by simp [lengthM, hb, hm, hD]
    rw [hlm]
    rw [hm] at h8
    (repeat' (first
      | ((with_reducible refine at_fn 69 ?_); with_reducible refine owk (ow_callx evs_auto (by kernel_rfl) (fun w H => rd_read rfl hr hn H)) (fun q => ?_))
      | ((with_reducible refine at_fn 70 ?_); with_reducible refine owk_c2 evs_auto (by kernel_rfl) pick_auto pick_auto (fun w H => rd_in_ok hl ha hm h8.2 H) ?_)
      | (with_reducible refine is_yk ?_; refine yk_auto (k := ?_))
      | (with_reducible refine is_owk0 ?_; refine owk0_auto (k := ?_))
      | (with_reducible refine is_owkc ?_; refine owk_auto (k := fun _ => ?_))
      | refine go1 (k := ?_)
      | (refine go2 (ka := ?_) (kb := ?_) <;> intro _)
      | fail))

    · rename_i k
      exact x_ret1 rfl rfl (fun w H => ⟨by rw [if_neg (by omega)], H.tail.tail⟩)
    · rename_i k
      exact x_ret1 rfl rfl (fun w H => ⟨by rw [if_pos (by omega)], H.tail.tail⟩)
end
end Go.Proofs.Ytakeilefbcpabaa
