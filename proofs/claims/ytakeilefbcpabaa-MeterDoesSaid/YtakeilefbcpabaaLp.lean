/- DiskLoses: the plain law of what is left behind a loss of power. -/
import Derived.Test.YtakeilefbcpabaaLo
namespace Go.Proofs.Ytakeilefbcpabaa
open Go.RowKit

/-- Each sector is among what may be there. -/
def Among (may : Nat → List Sec) (l : List Sec) : Prop := ∀ q v, l[q]? = some v → v ∈ may q
theorem among_set {may : Nat → List Sec} {l : List Sec} (h : Among may l) {m : Nat} {s : Sec} (hs : s ∈ may m) : Among may (l.set m s) := fun q v hv => by
  by_cases hq : m = q
  · subst hq
    rw [List.getElem?_set] at hv
    simp only [if_true] at hv
    split at hv
    · cases hv; exact hs
    · cases hv
  · rw [List.getElem?_set_ne hq] at hv
    exact h q v hv
theorem among_kept (K : Int) {may : Nat → List Sec} : ∀ (l : List (Nat × Sec)) (i : Nat) (s : List Sec), Among may s → (∀ x ∈ l, x.2 ∈ may x.1) → Among may (keptFrom K i l s)
  | [], _, _, h, _ => h
  | x :: r, i, s, h, hl => by
    rw [keptFrom]
    refine among_kept K r (i + 1) _ ?_ (fun y hy => hl y (by simp [hy]))
    split
    · exact among_set h (hl x (by simp))
    · exact h
theorem among_mono {may may' : Nat → List Sec} (hm : ∀ q v, v ∈ may q → v ∈ may' q) {l : List Sec} (h : Among may l) : Among may' l := fun q v hv => hm q v (h q v hv)
/-- What the loop of DiskLoses keeps. -/
structure Held (D : DiskM) (may : Nat → List Sec) : Prop where
  now : D.now.length = 6
  same : D.safe.length = 6
  safe : Among may D.safe
  waits : ∀ x ∈ D.waits, x.2 ∈ may x.1
  dead : D.down = true → D.now = D.safe
theorem Held.off {D : DiskM} {may : Nat → List Sec} (h : Held D may) (K : Int) : Held (D.off K) may ∧ (D.off K).now = (D.off K).safe := by
  unfold DiskM.off
  split
  · rename_i hd
    exact ⟨h, h.dead hd⟩
  · have hl : (D.kept K).length = 6 := by rw [DiskM.kept, keptFrom_length, h.same]
    exact ⟨⟨hl, hl, among_kept K _ _ _ h.safe h.waits, by simp, fun _ => rfl⟩, rfl⟩
theorem Held.act {D : DiskM} {may : Nat → List Sec} (h : Held D may) : Held D.act may := by
  unfold DiskM.act
  split
  · exact h
  · exact ⟨h.now, h.same, h.safe, h.waits, h.dead⟩
/-- Behind the end: what is read is among what may be there. -/
theorem Held.read {D : DiskM} {may : Nat → List Sec} (h : Held D may) (K : Int) {q : Nat} (hq : q < 6) : ∃ v, (D.off K).on.now.getD q [] = v ∧ v ∈ may q ∧ (D.off K).on.ready q = 0 := by
  obtain ⟨h1, h2⟩ := h.off K
  have hl : q < (D.off K).now.length := by rw [h1.now]; exact hq
  refine ⟨(D.off K).now[q], ?_, ?_, ?_⟩
  · show (D.off K).now.getD q [] = _
    rw [List.getD_eq_getElem?_getD, List.getElem?_eq_getElem hl]; rfl
  · refine h1.safe q _ ?_
    rw [← h2]
    exact List.getElem?_eq_getElem hl
  · unfold DiskM.ready
    have e1 : (D.off K).on.down = false := rfl
    have e2 : (D.off K).on.now.length = 6 := h1.now
    rw [e1, e2]
    simp only [Bool.false_eq_true, if_false]
    rw [if_neg (by omega)]
theorem Held.mono {D : DiskM} {may may' : Nat → List Sec} (h : Held D may) (hm : ∀ q v, v ∈ may q → v ∈ may' q) : Held D may' := ⟨h.now, h.same, among_mono hm h.safe, fun x hx => hm _ _ (h.waits x hx), h.dead⟩
theorem Held.put {D : DiskM} {may : Nat → List Sec} (h : Held D may) (hd : D.down = false) {m : Nat} {s : Sec} (hs : s ∈ may m) : Held (D.put m s) may := by
  refine ⟨by simp [DiskM.put, h.now], h.same, h.safe, fun x hx => ?_, fun e => ?_⟩
  · rcases List.mem_append.1 hx with hx | hx
    · exact h.waits x hx
    · rw [List.mem_singleton.1 hx]; exact hs
  · have e' : D.down = true := e
    rw [hd] at e'; cases e'
theorem act_down (D : DiskM) : D.act.down = D.down := by unfold DiskM.act; split <;> rfl
theorem act_now (D : DiskM) : D.act.now = D.now := by unfold DiskM.act; split <;> rfl
theorem Held.write {D : DiskM} {may : Nat → List Sec} (h : Held D may) (i : Int) {b : List UInt8} (hs : pad b ∈ may i.toNat) : Held (D.write i b) may := by
  unfold DiskM.write
  split
  · exact h
  · rename_i hr
    have hd : D.down = false := by
      cases e : D.down with
      | false => rfl
      | true => exact absurd (by simp [DiskM.ready, e]) hr
    split
    · exact h
    · split
      · exact ((h.act.put (by rw [act_down]; exact hd) hs).off _).1
      · exact h.act.put (by rw [act_down]; exact hd) hs
theorem Held.sync {D : DiskM} {may : Nat → List Sec} (h : Held D may) : D.syncE ≠ 0 → Held D.sync may := by
  intro he
  unfold DiskM.sync
  split
  · exact h
  · rename_i hd
    split
    · exact (h.act.off _).1
    · rename_i hg
      exact absurd (by simp [DiskM.syncE, hd, hg]) he
theorem Held.synced {D : DiskM} {may may' : Nat → List Sec} (h : Held D may) (he : D.syncE = 0) (hm : Among may' D.now) : Held D.sync may' ∧ D.sync.down = false ∧ D.sync.now = D.now := by
  have hd : D.down = false := by
    cases e : D.down with
    | false => rfl
    | true => simp [DiskM.syncE, e] at he
  have hg : D.goes = false := by
    cases e : D.goes with
    | false => rfl
    | true => simp [DiskM.syncE, e] at he
  have e : D.sync = { D.act with safe := D.act.now, waits := [] } := by unfold DiskM.sync; simp [hd, hg]
  rw [e]
  refine ⟨⟨by rw [← h.now]; exact congrArg _ (act_now D), by rw [← h.now]; exact congrArg _ (act_now D), ?_, by simp, fun _ => rfl⟩, ?_, act_now D⟩
  · show Among may' D.act.now
    rw [act_now]; exact hm
  · exact (act_down D).trans hd
/-- What is there is what was written last. -/
def Last (D : DiskM) (may : Nat → List Sec) : Prop := ∀ q v, D.now[q]? = some v → (may q).getLast? = some v
def more (may : Nat → List Sec) (m : Nat) (s : Sec) : Nat → List Sec := fun q => if q = m then may q ++ [s] else may q
theorem more_mono (may : Nat → List Sec) (m : Nat) (s : Sec) : ∀ q v, v ∈ may q → v ∈ more may m s q := fun q v h => by
  unfold more; split
  · exact List.mem_append_left _ h
  · exact h
theorem more_mem (may : Nat → List Sec) (m : Nat) (s : Sec) : s ∈ more may m s m := by simp [more]
theorem Held.wrote {D : DiskM} {may : Nat → List Sec} (h : Held D may) (i : Int) (b : List UInt8) : Held (D.write i b) (more may i.toNat (pad b)) := (h.mono (more_mono may _ _)).write i (more_mem may _ _)
theorem Last.wrote {D : DiskM} {may : Nat → List Sec} (h : Last D may) {i : Int} {b : List UInt8} (he : D.writeE i b.length = 0) : Last (D.write i b) (more may i.toNat (pad b)) := by
  have hr : D.ready i = 0 := by
    unfold DiskM.writeE at he
    split at he
    · exact absurd he (by assumption)
    · rename_i hh; exact Decidable.not_not.1 hh
  have hb : ¬ 256 < b.length := by
    intro hh
    simp [DiskM.writeE, hr, hh] at he
  have hg : D.goes = false := by
    cases e : D.goes with
    | false => rfl
    | true => simp [DiskM.writeE, hr, hb, e] at he
  have e : D.write i b = D.act.put i.toNat (pad b) := by simp [DiskM.write, hr, hb, hg]
  rw [e]
  intro q v hv
  have hv' : (D.act.now.set i.toNat (pad b))[q]? = some v := hv
  rw [act_now] at hv'
  unfold more
  by_cases hq : i.toNat = q
  · subst hq
    rw [List.getElem?_set] at hv'
    simp only [if_true] at hv'
    split at hv'
    · cases hv'; simp
    · cases hv'
  · rw [List.getElem?_set_ne hq] at hv'
    rw [if_neg (Ne.symm hq)]
    exact h q v hv'
/-- Only what was written last. -/
def cut (may : Nat → List Sec) : Nat → List Sec := fun q => (may q).getLast?.toList
theorem Last.among {D : DiskM} {may : Nat → List Sec} (h : Last D may) : Among (cut may) D.now := fun q v hv => by
  unfold cut
  rw [h q v hv]; simp
theorem Last.synced {D : DiskM} {may : Nat → List Sec} (h : Last D may) (hn : D.sync.now = D.now) : Last D.sync (cut may) := fun q v hv => by
  rw [hn] at hv
  unfold cut
  rw [h q v hv]; rfl
end Go.Proofs.Ytakeilefbcpabaa
