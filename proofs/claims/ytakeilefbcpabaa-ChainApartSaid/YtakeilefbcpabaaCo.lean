/- Package chain: Add on a disk whose power stays; the laws' alive. -/
import Derived.Test.YtakeilefbcpabaaCm
import Derived.Test.YtakeilefbcpabaaL1
namespace Go.Proofs.Ytakeilefbcpabaa
open Go.RowKit
theorem Stars.fold {F : List HP} {w : World} (X : List HP) {S : Nat → Prop} : Stars (X ++ F) S w ↔ Stars (X ++ [Join F]) S w :=
  ⟨Stars.append (fun _ h => Stars.join.2 (by rw [List.append_nil]; exact h)) X, Stars.append (fun _ h => by have := Stars.join.1 h; rwa [List.append_nil] at this) X⟩
theorem St.fold {c : Con} {F : List HP} {w : World} (X : List HP) : St c (X ++ F) w ↔ St c (X ++ [Join F]) w :=
  ⟨fun H => ⟨H.con, (Stars.fold X).1 H.stars⟩, fun H => ⟨H.con, (Stars.fold X).2 H.stars⟩⟩
theorem hasR_fold {c : Con} {F : List HP} {v : Value} {n : Nat} {cs : List Value} (h : HasR (St c F) v n cs) : HasR (St c [Join F]) v n cs := fun w H => h w ((St.fold (X := [])).2 H)
/-- A disk whose power is on, and stays. -/
structure Steady (D : DiskM) (n : Nat) (acts : Int) : Prop where
  down : D.down = false
  fuse : D.fuse = 0
  len : D.now.length = n
  acts : D.acts = acts
theorem Steady.goes {D : DiskM} {n : Nat} {a : Int} (h : Steady D n a) : D.goes = false := by simp [DiskM.goes, h.fuse]
theorem Steady.ready {D : DiskM} {n : Nat} {a : Int} (h : Steady D n a) {i : Int} (hi : 0 ≤ i ∧ i < n) : D.ready i = 0 := by
  unfold DiskM.ready
  rw [h.down, if_neg (by simp), if_neg (by rw [h.len]; omega)]
theorem Steady.writeE {D : DiskM} {n : Nat} {a : Int} (h : Steady D n a) {i : Int} (hi : 0 ≤ i ∧ i < n) {k : Nat} (hk : k ≤ 256) : D.writeE i k = 0 := by
  unfold DiskM.writeE
  rw [h.ready hi, if_neg (by simp), if_neg (by omega), h.goes]; rfl
theorem Steady.write_eq {D : DiskM} {n : Nat} {a : Int} (h : Steady D n a) {i : Int} (hi : 0 ≤ i ∧ i < n) {b : List UInt8} (hk : b.length ≤ 256) (ha : 0 ≤ a ∧ a < 4611686018427387904) :
    D.write i b = { D with now := D.now.set i.toNat (pad b), waits := D.waits ++ [(i.toNat, pad b)], acts := a + 1 } := by
  unfold DiskM.write
  rw [h.ready hi, if_neg (by simp), if_neg (by omega), h.goes, if_neg (by simp)]
  unfold DiskM.act
  rw [if_neg (by rw [h.down]; simp), h.fuse, if_pos rfl, h.acts]
  have : wrap64 (a + 1) = a + 1 := by unfold wrap64; omega
  rw [this]
  simp [DiskM.put, h.fuse]
theorem Steady.write {D : DiskM} {n : Nat} {a : Int} (h : Steady D n a) {i : Int} (hi : 0 ≤ i ∧ i < n) {b : List UInt8} (hk : b.length ≤ 256) (ha : 0 ≤ a ∧ a < 4611686018427387904) : Steady (D.write i b) n (a + 1) := by
  rw [h.write_eq hi hk ha]
  exact ⟨h.down, h.fuse, by simp [h.len], rfl⟩
theorem Steady.wrTo {D : DiskM} {n pos : Nat} {a : Int} (h : Steady D n a) {cs : List (List UInt8)} (hc : ∀ i, i < cs.length → (cs.getD i []).length ≤ 256) (hp : pos + cs.length ≤ n) (ha : 0 ≤ a ∧ a + cs.length < 4611686018427387904) :
    ∀ i, i ≤ cs.length → Steady (wrTo D pos cs i) n (a + i)
  | 0, _ => by
    have e : a + ((0 : Nat) : Int) = a := by omega
    rw [e]; exact h
  | i + 1, hi => by
    have h1 := Steady.wrTo h hc hp ha i (by omega)
    have h2 := h1.write (i := ((pos + i : Nat) : Int)) ⟨by omega, by omega⟩ (hc i (by omega)) (by omega)
    have e : a + ((i + 1 : Nat) : Int) = a + i + 1 := by omega
    rw [e]; exact h2
theorem Steady.wrE {D : DiskM} {n pos : Nat} {a : Int} (h : Steady D n a) {cs : List (List UInt8)} (hc : ∀ i, i < cs.length → (cs.getD i []).length ≤ 256) (hp : pos + cs.length ≤ n) (ha : 0 ≤ a ∧ a + cs.length < 4611686018427387904)
    {i : Nat} (hi : i < cs.length) : wrE D pos cs i = 0 := (h.wrTo hc hp ha i (by omega)).writeE ⟨by omega, by omega⟩ (hc i hi)
theorem chunks_le (f : List UInt8) (i : Nat) (hi : i < (chunks f).length) : ((chunks f).getD i []).length ≤ 256 := by
  rw [chunks_length] at hi
  rw [chunks_get f hi, chunkB_length]; omega
theorem leN_leB : ∀ k x, x < 256 ^ k → leN (leB k x) = x
  | 0, x, h => by simp [leB, leN]; omega
  | k + 1, x, h => by
    rw [leB, leN, leN_leB k (x / 256) (by rw [Nat.pow_succ] at h; omega), UInt8.toNat_ofNat']
    omega
theorem frame_take (s : List UInt8) : (frameB s).take 8 = leB 8 (max s.length 40 + 8) := by
  rw [frameB, List.append_assoc, List.take_left' (leB_length 8 _)]
theorem leInt_leB {x : Nat} (h : x < 9223372036854775808) : leInt (leB 8 x) = x := by
  rw [leInt, leN_leB 8 x (by have : (256 : Nat) ^ 8 = 18446744073709551616 := rfl; omega)]
  unfold wrap64; omega
theorem lengthM_frame (s : List UInt8) (hs : s.length ≤ 16376) : lengthM (frameB s) = ((frameB s).length : Int) := by
  have h1 := frameB_length s
  have h2 : leInt ((frameB s).take 8) = ((max s.length 40 + 8 : Nat) : Int) := by rw [frame_take, leInt_leB (by omega)]
  unfold lengthM inOk
  rw [h2, h1, if_pos]
  refine ⟨?_, Int.le_refl _⟩
  simp; omega
theorem frame_ne (s : List UInt8) : frameB s ≠ [] := fun h => by have := frameB_length s; rw [h] at this; simp at this
/-- There is room. -/
theorem addM_ok {D : DiskM} {A : AreaM} {f : List UInt8} {n m : Nat} {a : Int} (h : Steady D n a) (hf : f ≠ []) (hl : lengthM f = f.length) (hm : (f.length + 255) / 256 = m) (hr : A.pos + m ≤ A.hi) (hn : A.hi ≤ n) (ha : 0 ≤ a ∧ a + m < 4611686018427387904) :
    addM D A f = (0, { A with pos := A.pos + m }, wrTo D A.pos (chunks f) m) ∧ Steady (wrTo D A.pos (chunks f) m) n (a + m) := by
  have hcl : (chunks f).length = m := by rw [chunks_length, hm]
  have hw := writes_ok (chunks f) D A.pos (fun i hi => h.wrE (chunks_le f) (by omega) (by omega) hi)
  rw [hcl] at hw
  constructor
  · unfold addM
    rw [if_neg (by simp [hf, hl]), if_neg (by simp [h.down]), hm, if_neg (by omega), hw, if_pos rfl]
  · have := h.wrTo (pos := A.pos) (chunks_le f) (by omega) (by omega) m (by omega)
    exact this
theorem addM_full {D : DiskM} {A : AreaM} {f : List UInt8} {n : Nat} {a : Int} (h : Steady D n a) (hf : f ≠ []) (hl : lengthM f = f.length) (hr : (A.hi : Int) - A.pos < ((f.length + 255) / 256 : Nat)) : addM D A f = (7, A, D) := by
  unfold addM
  rw [if_neg (by simp [hf, hl]), if_neg (by simp [h.down]), if_pos hr]
theorem new_calm (n : Nat) : Steady (DiskM.new n) n 0 := ⟨rfl, rfl, by simp [DiskM.new], rfl⟩
attribute [local irreducible] Y OW YK OWK W WL WP X CV Ev Evs HasCell HasCells Has Met Again Kept
section
variable {c : Con} {F : List HP} {w : World} {p b : Nat} {D D' : DiskM} {A A' : AreaM}
theorem c_add {v : Value} {f : List UInt8} {n : Nat} {E : Int} (hA : addM D A f = (E, A', D')) (hr : HasR (St c F) v n (bvs f)) (hn : n ≤ 1073741824) (hb : A.hi ≤ 1073741824 ∧ A.pos ≤ 1073741824) (hwl : D.waits.length ≤ 536870912) (H : St c (AreaAt b p A :: DiskAt p D :: F) w) : Calls Try.prog 47 #[.pointer (some ⟨b, 0, none⟩), v] w fun e w' =>
    e = .returned (.int .i64 E) ∧ St c (AreaAt b p A' :: DiskAt p D' :: F) w' :=
  (c_add1 hA (hasR_fold hr) hn hb hwl ((St.fold [AreaAt b p A, DiskAt p D]).1 H)).mono fun _ _ h => ⟨h.1, (St.fold [AreaAt b p A', DiskAt p D']).2 h.2⟩

def xB : List UInt8 := [120]
abbrev kD0 : DiskM := DiskM.new 9
def kD1 : DiskM := wrTo kD0 0 (chunks (frameB xB)) 1
theorem kadd : addM kD0 ⟨0, 4, 0⟩ (frameB xB) = (0, ⟨0, 4, 1⟩, kD1) ∧ Steady kD1 9 1 := by
  have h := addM_ok (D := kD0) (A := halfA 9 0) (f := frameB xB) (n := 9) (m := 1) (a := 0) (new_calm 9) (frame_ne _) (lengthM_frame _ (by decide)) (by rw [frameB_length]; rfl) (by decide) (by decide) (by decide)
  exact h
set_option maxRecDepth 100000 in
theorem alive16 (H : St c F w) : Calls Try.prog 43 #[] w fun e w' => e = .returned (.bool true) ∧ St c F w' := by
  have h9 := new_length 9
  have hl : (frameB xB).length = 48 := by rw [frameB_length]; rfl
  have h9' := kadd.2.len
  have hxs : Value.string ⟨#[120]⟩ = str xB := rfl
  refine calls_w (vs := []) Try.func43 rfl rfl rfl ?_ w H
  (repeat' (first
      | ((with_reducible refine at_fn 21 ?_); with_reducible refine owk_c0x evs_auto (by kernel_rfl) (fun w H => disk_new_is 9 (by omega) (by omega) (k := 9) (by decide) H) (fun p => ?_))
      | ((with_reducible refine at_fn 44 ?_); with_reducible refine owk_c1x evs_auto (by kernel_rfl) pick_auto (fun w H => c_half (D := kD0) 0 (by omega) h9 (by omega) (R := ⟨0, 4, 0⟩) rfl H) (fun a => ?_))
      | ((with_reducible refine at_fn 44 ?_); with_reducible refine owk_c1x evs_auto (by kernel_rfl) pick_auto (fun w H => c_half (D := kD0) 3 (by omega) h9 (by omega) (R := ⟨4, 8, 4⟩) rfl H) (fun a => ?_))
      | ((with_reducible refine at_fn 45 ?_); with_reducible refine owk_c0x evs_auto (by kernel_rfl) (fun w H => framed_ref xB (by decide) hxs H) (fun q => ?_))
      | ((with_reducible refine at_fn 46 ?_); with_reducible refine owk_c1 evs_auto (by kernel_rfl) pick_auto (fun w H => c_left (A := ⟨0, 4, 0⟩) (n := 4) (by decide) (by decide) H) ?_)
      | ((with_reducible refine at_fn 46 ?_); with_reducible refine owk_c1 evs_auto (by kernel_rfl) pick_auto (fun w H => c_left (A := ⟨4, 8, 4⟩) (n := 4) (by decide) (by decide) H) ?_)
      | ((with_reducible refine at_fn 46 ?_); with_reducible refine owk_c1 evs_auto (by kernel_rfl) pick_auto (fun w H => c_left (A := ⟨0, 4, 1⟩) (n := 3) (by decide) (by decide) H) ?_)
      | ((with_reducible refine at_fn 47 ?_); with_reducible refine owk_c2 evs_auto (by kernel_rfl) pick_auto pick_auto (fun w H => c_add (f := frameB xB) (n := (frameB xB).length) kadd.1 rds_auto (by omega) (by decide) (by decide) H) ?_)
      | ((with_reducible refine at_fn 28 ?_); with_reducible refine owk_c1q evs_auto (by kernel_rfl) pick_auto (fun w H => disk_size_is h9' H) ?_)
      | (with_reducible refine is_yk ?_; refine yk_auto (k := ?_))
      | (with_reducible refine is_owk0 ?_; refine owk0_auto (k := ?_))
      | (with_reducible refine is_owkc ?_; refine owk_auto (k := fun _ => ?_))
      | refine go1 (k := ?_)
      | (refine go2 (ka := ?_) (kb := ?_) <;> intro _)
      | fail))
  exact x_ret1 rfl rfl (fun w H => ⟨rfl, Sel.st sel_auto H⟩)
end
end Go.Proofs.Ytakeilefbcpabaa
