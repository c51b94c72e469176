/- DiskForges: the plain law. -/
import Derived.Test.YtakeilefbcpabaaTv
namespace Go.Proofs.Ytakeilefbcpabaa
open Go.RowKit

theorem flat_get : ∀ (l : List Sec), (∀ s ∈ l, s.length = 256) → ∀ j, l.flatten[j]? = (l[j / 256]?).bind (fun s => s[j % 256]?)
  | [], _, j => by simp
  | s :: l, h, j => by
    rw [List.flatten_cons]
    have hs := h s (by simp)
    by_cases hj : j < 256
    · rw [List.getElem?_append_left (by omega), Nat.div_eq_of_lt hj, Nat.mod_eq_of_lt hj]; rfl
    · rw [List.getElem?_append_right (by omega), flat_get l (fun x hx => h x (by simp [hx])), hs]
      have e1 : j / 256 = (j - 256) / 256 + 1 := by omega
      have e2 : j % 256 = (j - 256) % 256 := by omega
      rw [e1, e2]; rfl
theorem keptFrom_get (K : Int) {m : Nat} : ∀ (l : List (Nat × Sec)) (i : Nat) (s : List Sec), (∀ x ∈ l, x.1 ≠ m) → (keptFrom K i l s)[m]? = s[m]?
  | [], _, _, _ => rfl
  | x :: r, i, s, h => by
    rw [keptFrom, keptFrom_get K r (i + 1) _ (fun y hy => h y (by simp [hy]))]
    split
    · rw [List.getElem?_set_ne (h x (by simp))]
    · rfl
theorem forge_law {k j : Nat} {D : DiskM} (hD : Fit k j D) {a : Int} (h0 : 0 ≤ a) (h1 : a < k) {b : List UInt8} (hb : b.length ≤ 256) (K : Int) :
    D.forgeE a b.length = 0 ∧ (D.forge a b).acts = D.acts ∧ (D.forge a b).now = D.now.set a.toNat (pad b) ∧ Fit k j (D.forge a b) ∧ (((D.forge a b).off K).on).ready a = 0 ∧ (((D.forge a b).off K).on).now.getD a.toNat [] = pad b := by
  have e : D.forgeE a b.length = 0 := by
    unfold DiskM.forgeE
    rw [if_neg (by rw [hD.1]; omega), if_neg (by omega)]
  have hf := fit_forge hD a b
  have hfo := fit_off hf K
  have e2 : D.forge a b = { D with now := D.now.set a.toNat (pad b), safe := D.safe.set a.toNat (pad b), waits := D.waits.filter fun x => x.1 != a.toNat } := by
    unfold DiskM.forge
    rw [if_neg (by omega)]
  refine ⟨e, by rw [e2], by rw [e2], hf, ?_, ?_⟩
  · unfold DiskM.ready
    have h2 : ((D.forge a b).off K).on.down = false := rfl
    have h3 : ((D.forge a b).off K).on.now.length = k := hfo.1
    rw [h2, h3]
    simp only [Bool.false_eq_true, if_false]
    rw [if_neg (by omega)]
  · show ((D.forge a b).off K).now.getD a.toNat [] = pad b
    have ha : a.toNat < k := by omega
    unfold DiskM.off
    split
    · rw [e2]
      show (D.now.set a.toNat (pad b)).getD a.toNat [] = pad b
      rw [List.getD_eq_getElem?_getD, List.getElem?_set_self (by rw [hD.1]; exact ha)]; rfl
    · show ((D.forge a b).kept K).getD a.toNat [] = pad b
      rw [List.getD_eq_getElem?_getD, DiskM.kept, keptFrom_get K]
      · rw [e2]
        show (D.safe.set a.toNat (pad b))[a.toNat]?.getD [] = pad b
        rw [List.getElem?_set_self (by rw [hD.2.1]; exact ha)]; rfl
      · rw [e2]
        intro x hx
        have := (List.mem_filter.1 hx).2
        simpa using this
theorem pad_get (b : List UInt8) {i : Nat} (hi : i < 256) : (pad b)[i]? = some (if h : i < b.length then b[i] else 0) := by
  unfold pad
  by_cases h : i < b.length
  · rw [List.getElem?_append_left h, dif_pos h, List.getElem?_eq_getElem h]
  · rw [List.getElem?_append_right (by omega), dif_neg h, zeros, List.getElem?_replicate, if_pos (by omega)]
/-- What is at a place of the image behind a forging. -/
theorem forge_at {k : Nat} {D D' : DiskM} (hw : ∀ s ∈ D.now, s.length = 256) (hl : D.now.length = k) {m : Nat} (hm : m < k) {b : List UInt8} (hb : b.length ≤ 256) (hn : D'.now = D.now.set m (pad b)) {j : Nat} (h1 : j < D.image.length) (h2 : j < D'.image.length) :
    (j / 256 ≠ m → D'.image[j] = D.image[j]) ∧ (j / 256 = m → ∀ h : j % 256 < b.length, D'.image[j] = b[j % 256]) ∧ (j / 256 = m → ¬ j % 256 < b.length → D'.image[j] = 0) := by
  have hw' : ∀ s ∈ D'.now, s.length = 256 := by
    rw [hn]; intro s hs
    rcases List.mem_or_eq_of_mem_set hs with h | rfl
    · exact hw s h
    · exact pad_length b hb
  have f1 := flat_get D.now hw j
  have f2 := flat_get D'.now hw' j
  have g1 : D.now.flatten[j]? = some D.image[j] := List.getElem?_eq_getElem h1
  have g2 : D'.now.flatten[j]? = some D'.image[j] := List.getElem?_eq_getElem h2
  rw [g1] at f1
  rw [g2, hn] at f2
  have hmod : j % 256 < 256 := Nat.mod_lt _ (by omega)
  refine ⟨fun hne => ?_, fun he h => ?_, fun he h => ?_⟩
  · rw [List.getElem?_set_ne (Ne.symm hne), ← f1] at f2
    exact Option.some.inj f2
  · rw [he, List.getElem?_set_self (by omega)] at f2
    have f3 : some D'.image[j] = (pad b)[j % 256]? := f2
    rw [pad_get b hmod, dif_pos h] at f3
    exact Option.some.inj f3
  · rw [he, List.getElem?_set_self (by omega)] at f2
    have f3 : some D'.image[j] = (pad b)[j % 256]? := f2
    rw [pad_get b hmod, dif_neg h] at f3
    exact Option.some.inj f3
section
variable {P : Program} {N : Nat} {c : Con} {Q : Exit → Act → World → Prop} {E : Env} {L F : List HP}
theorem w_wf {p : Nat} {D : DiskM} {x : Code} (hp : Pick L (DiskAt p D) F) (h : D.WF → W P N c Q x E L) : W P N c Q x E L := fun a w hf H => h (hp.st H).openDisk.1 a w hf H
end
end Go.Proofs.Ytakeilefbcpabaa
