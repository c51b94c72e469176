/- Package chain: what Next answers, in two ways; how long a frame is. -/
import Derived.Test.YtakeilefbcpabaaCt
import Derived.Test.YtakeilefbcpabaaCu
namespace Go.Proofs.Ytakeilefbcpabaa
open Go.RowKit
theorem first_or_none (p : Nat → Prop) [DecidablePred p] : ∀ lim, ∃ k, k ≤ lim ∧ (∀ j, j < k → ¬ p j) ∧ (k < lim → p k)
  | 0 => ⟨0, Nat.le_refl _, fun j h => by omega, fun h => by omega⟩
  | lim + 1 => by
    obtain ⟨k, h1, h2, h3⟩ := first_or_none p lim
    by_cases h : k < lim
    · exact ⟨k, by omega, h2, fun _ => h3 h⟩
    · by_cases hp : p k
      · exact ⟨k, by omega, h2, fun _ => hp⟩
      · exact ⟨k + 1, by omega, fun j hj => by rcases Nat.lt_or_eq_of_le (Nat.lt_succ_iff.1 hj) with h' | rfl; exact h2 j h'; exact hp, fun h' => by omega⟩
theorem lengthM_pos {b : List UInt8} (h : 0 < lengthM b) : lengthM b = leInt (b.take 8) ∧ 8 ≤ b.length ∧ 48 ≤ lengthM b ∧ lengthM b ≤ 16384 ∧ lengthM b ≤ b.length := by
  unfold lengthM at h ⊢
  split at h
  · rename_i k
    rw [if_pos k]
    have h1 := k.1
    simp [inOk] at h1
    exact ⟨rfl, h1.1.1, h1.1.2, h1.2, k.2⟩
  · omega
theorem lengthM_of {b : List UInt8} {n : Int} (h8 : 8 ≤ b.length) (hn : leInt (b.take 8) = n) (h : 48 ≤ n ∧ n ≤ 16384) : lengthM b = if n ≤ b.length then n else 0 := by
  unfold lengthM inOk
  simp [h8, hn, h.1, h.2]
theorem lengthM_take {b : List UInt8} {n : Nat} (h : lengthM b = n) (h0 : 0 < n) : lengthM (b.take n) = n ∧ (b.take n).length = n := by
  obtain ⟨h1, h2, h3, h4, h5⟩ := lengthM_pos (b := b) (by omega)
  have hl : (b.take n).length = n := by simp; omega
  refine ⟨?_, hl⟩
  rw [lengthM_of (n := n) (by omega) (by rw [List.take_take, Nat.min_eq_left (by omega), ← h1, h]) (by omega), hl, if_pos (Int.le_refl _)]
/-- The first sectors that have a frame are as many as it takes. -/
theorem first_sectors {now : List Sec} (hw : ∀ s ∈ now, s.length = 256) {pos k n : Nat} (hk : pos + k < now.length) (hno : ∀ j, j < k → lengthM (accB now pos (j + 1)) = 0) (hn : lengthM (accB now pos (k + 1)) = n) (h0 : 0 < n) : (n + 255) / 256 = k + 1 := by
  obtain ⟨h1, h2, h3, h4, h5⟩ := lengthM_pos (b := accB now pos (k + 1)) (by omega)
  rw [accB_length hw (by omega)] at h5
  have hlow : 256 * k < n := by
    cases k with
    | zero => omega
    | succ k =>
      have h := hno k (by omega)
      have hl := accB_length hw (pos := pos) (k := k + 1) (by omega)
      have he : (accB now pos (k + 1)).take 8 = (accB now pos (k + 1 + 1)).take 8 := by rw [accB_succ (k := k + 1) (by omega), List.take_append_of_le_length (by omega)]
      rw [lengthM_of (n := n) (by omega) (by rw [he, ← h1, hn]) (by omega), hl] at h
      split at h <;> omega
  omega
/-- A frame stands next, or none. -/
structure Stands (now : List Sec) (pos lim k n : Nat) (f : List UInt8) : Prop where
  lt : k < lim
  no : ∀ j, j < k → lengthM (accB now pos (j + 1)) = 0
  is : lengthM (accB now pos (k + 1)) = n
  n0 : 0 < n
  most : n ≤ 16384
  take : (accB now pos (k + 1)).take n = f
  len : f.length = n
  lenM : lengthM f = n
  secs : (n + 255) / 256 = k + 1
theorem next_split {now : List Sec} (hw : ∀ s ∈ now, s.length = 256) {pos lim : Nat} (h : pos + lim ≤ now.length) : (∃ k n f, Stands now pos lim k n f) ∨ ∀ j, j < lim → lengthM (accB now pos (j + 1)) = 0 := by
  obtain ⟨k, hk1, hk2, hk3⟩ := first_or_none (fun k => 0 < lengthM (accB now pos (k + 1))) lim
  have hk2' : ∀ t, t < k → lengthM (accB now pos (t + 1)) = 0 := fun t ht => by
    have h1 := hk2 t ht
    have h2 := (lengthM_nonneg (accB now pos (t + 1))).1
    omega
  by_cases hk : k < lim
  · have hpos := hk3 hk
    obtain ⟨n, hn⟩ : ∃ n : Nat, lengthM (accB now pos (k + 1)) = n := ⟨_, (Int.toNat_of_nonneg (lengthM_nonneg _).1).symm⟩
    have hb := lengthM_pos hpos
    rw [hn] at hb hpos
    have h0 : 0 < n := by omega
    obtain ⟨ht1, ht2⟩ := lengthM_take hn h0
    exact .inl ⟨k, n, _, hk, hk2', hn, h0, by omega, rfl, ht2, ht1, first_sectors hw (by omega) hk2' hn h0⟩
  · obtain rfl : k = lim := by omega
    exact .inr hk2'
/-- What a party knows of its disk. -/
theorem w_disk {P : Program} {N : Nat} {c : Con} {Q : Exit → Act → World → Prop} {code : Code} {E : Env} {L F : List HP} {p : Nat} {D : DiskM} (hp : Pick L (DiskAt p D) F) (h : D.WF → W P N c Q code E L) : W P N c Q code E L := fun a w hf H => h (St.openDisk (hp.st H)).1 a w hf H
attribute [local irreducible] Y OW YK OWK W WL WP X CV Ev Evs HasCell HasCells Has Met Again Kept
section
variable {c : Con} {F : List HP} {w : World} {p b : Nat} {D D' : DiskM} {A A' : AreaM}
theorem c_next_some {k lim n : Nat} {f : List UInt8} (hd : D.down = false) (hlim : min (A.hi - A.pos) 64 = lim) (hb : A.hi ≤ D.now.length) (hk : k < lim) (hno : ∀ j, j < k → lengthM (accB D.now A.pos (j + 1)) = 0) (hn : lengthM (accB D.now A.pos (k + 1)) = n) (h0 : 0 < n) (hf : (accB D.now A.pos (k + 1)).take n = f) (hA : { A with pos := A.pos + k + 1 } = A')
    (H : St c (AreaAt b p A :: DiskAt p D :: F) w) : Calls Try.prog 48 #[.pointer (some ⟨b, 0, none⟩)] w fun e w' =>
    ∃ g : Nat, e = .returned (.tuple #[.slice (some ⟨g, 0, none⟩) n n, .int .i64 0]) ∧ St c (BkP g f :: AreaAt b p A' :: DiskAt p D :: F) w' := by
  subst hf hA
  refine (c_next hd hlim hb (by omega) hno (fun _ => by rw [hn]; omega) H).mono fun e w' h => ?_
  rcases h with ⟨_, g, h1, h2⟩ | ⟨h1, _⟩
  · rw [hn, Int.toNat_natCast] at h1 h2
    exact ⟨g, h1, h2⟩
  · omega
theorem c_next_none {lim : Nat} (hd : D.down = false) (hlim : min (A.hi - A.pos) 64 = lim) (hb : A.hi ≤ D.now.length) (hno : ∀ j, j < lim → lengthM (accB D.now A.pos (j + 1)) = 0)
    (H : St c (AreaAt b p A :: DiskAt p D :: F) w) : Calls Try.prog 48 #[.pointer (some ⟨b, 0, none⟩)] w fun e w' =>
    e = .returned (.tuple #[.slice none 0 0, .int .i64 0]) ∧ St c (AreaAt b p A :: DiskAt p D :: F) w' := by
  refine (c_next hd hlim hb (Nat.le_refl _) hno (fun h => by omega) H).mono fun e w' h => ?_
  rcases h with ⟨h1, _⟩ | ⟨_, h1⟩
  · omega
  · exact h1
theorem bkp_hasR {g n : Nat} {f : List UInt8} (hn : f.length = n) (h0 : 0 < n) (h1 : n ≤ 9223372036854775807) : HasR (St c (BkP g f :: F)) (.slice (some ⟨g, 0, none⟩) n n) n (bvs f) := by
  subst hn
  exact SubOf.hasR ⟨_, _, rfl, Nat.le_refl _, h1, fun e => (by cases e), .inr ⟨0, rfl, by simp⟩⟩ rfl
end
end Go.Proofs.Ytakeilefbcpabaa
