/- Ownership of blocks of memory: a world is parted among parties, each of which has blocks of its own. No program in sight. -/
import Derived.WalkKit
import Derived.Deep.MidRow
import Derived.Deep.QuietTactic
import Derived.BigQuiet
import Derived.WalkSmall
import Derived.Handy
import Derived.Lib.Hide
import Derived.Deep.Cut
import Derived.Deep.DeepCutAuto
import Derived.Deep.CutBlock
import Derived.Deep.RegionWith
import Derived.Deep.RegionLaw
import Derived.Deep.RegionHeld3
import Derived.Deep.DeepFit
import Derived.Deep.Light
import Derived.Deep.LoopGhost
import Derived.StillTailTactics
import Derived.Deep.WholeRow
namespace Go.Proofs.Ytakeilefbcpabaa
open Go.RowKit

abbrev Con := Os × (Nat → Question → Nat) × Array (Nat × ByteArray)
/-- What a world never changes. -/
def conOf (w : World) : Con := (w.os, w.tape, w.output)

/-- A party: what its blocks hold. -/
abbrev HP := (Nat → Option Obj) → Prop

/-- The blocks of h lie in the world. -/
def Lies (h : Nat → Option Obj) (w : World) : Prop := ∀ b o, h b = some o → w.heap[b]? = some o

/-- The parties of a list have blocks of their own among those of S. -/
def Stars : List HP → (Nat → Prop) → World → Prop
  | [], _, _ => True
  | A :: L, S, w => ∃ h : Nat → Option Obj, A h ∧ (∀ b o, h b = some o → S b ∧ w.heap[b]? = some o) ∧ Stars L (fun b => S b ∧ h b = none) w

theorem Stars.mono : ∀ {L : List HP} {S S' : Nat → Prop} {w w' : World}, Stars L S w → (∀ b, S b → S' b) → (∀ b o, S b → w.heap[b]? = some o → w'.heap[b]? = some o) → Stars L S' w'
  | [], _, _, _, _, _, _, _ => trivial
  | _ :: _, _, _, _, _, ⟨h, ha, hl, hr⟩, hS, hw =>
    ⟨h, ha, fun b o e => ⟨hS b (hl b o e).1, hw b o (hl b o e).1 (hl b o e).2⟩, Stars.mono hr (fun b k => ⟨hS b k.1, k.2⟩) (fun b o k => hw b o k.1)⟩

theorem Stars.bounded {w : World} : ∀ {L : List HP} {S : Nat → Prop}, Stars L S w → Stars L (fun b => S b ∧ b < w.heap.size) w
  | [], _, _ => trivial
  | _ :: _, _, ⟨h, a, l, r⟩ => ⟨h, a, fun b o e => ⟨⟨(l b o e).1, (Array.getElem?_eq_some_iff.1 (l b o e).2).1⟩, (l b o e).2⟩,
      (Stars.bounded r).mono (fun _ k => ⟨⟨k.1.1, k.2⟩, k.1.2⟩) (fun _ _ _ e => e)⟩

/-- The state of a walk: the parties, and what never changes. -/
structure St (c : Con) (L : List HP) (w : World) : Prop where
  con : conOf w = c
  stars : Stars L (fun _ => True) w

section
variable {c : Con} {A B C D E A' : HP} {L : List HP} {w w' : World}

theorem Stars.swap {S : Nat → Prop} (H : Stars (A :: B :: L) S w) : Stars (B :: A :: L) S w := by
  obtain ⟨h1, a1, l1, h2, a2, l2, r⟩ := H
  refine ⟨h2, a2, fun b o e => ⟨(l2 b o e).1.1, (l2 b o e).2⟩, h1, a1, fun b o e => ⟨⟨(l1 b o e).1, ?_⟩, (l1 b o e).2⟩, ?_⟩
  · cases k : h2 b with
    | none => rfl
    | some o' => have := (l2 b o' k).1.2; rw [e] at this; cases this
  · exact r.mono (fun b k => ⟨⟨k.1.1, k.2⟩, k.1.2⟩) (fun _ _ _ e => e)

theorem Stars.tail {S : Nat → Prop} (H : Stars (A :: L) S w) : Stars L S w := by
  obtain ⟨h1, _, _, r⟩ := H
  exact r.mono (fun b k => k.1) (fun _ _ _ e => e)

theorem Stars.under {L' : List HP} (k : ∀ S, Stars L S w → Stars L' S w) {S : Nat → Prop} (H : Stars (A :: L) S w) : Stars (A :: L') S w := by
  obtain ⟨h1, a1, l1, r⟩ := H
  exact ⟨h1, a1, l1, k _ r⟩

theorem St.swap (H : St c (A :: B :: L) w) : St c (B :: A :: L) w := ⟨H.con, H.stars.swap⟩
theorem St.pull2 (H : St c (A :: B :: C :: L) w) : St c (C :: A :: B :: L) w := ⟨H.con, (H.stars.under fun _ h => h.swap).swap⟩
theorem St.push2 (H : St c (C :: A :: B :: L) w) : St c (A :: B :: C :: L) w := ⟨H.con, H.stars.swap.under fun _ h => h.swap⟩
theorem St.pull3 (H : St c (A :: B :: C :: D :: L) w) : St c (D :: A :: B :: C :: L) w := ⟨H.con, (H.stars.under fun _ h => (h.under fun _ h => h.swap).swap).swap⟩
theorem St.push3 (H : St c (D :: A :: B :: C :: L) w) : St c (A :: B :: C :: D :: L) w := ⟨H.con, H.stars.swap.under fun _ h => h.swap.under fun _ h => h.swap⟩
theorem St.pull4 (H : St c (A :: B :: C :: D :: E :: L) w) : St c (E :: A :: B :: C :: D :: L) w := ⟨H.con, (H.stars.under fun _ h => (h.under fun _ h => (h.under fun _ h => h.swap).swap).swap).swap⟩
theorem St.push4 (H : St c (E :: A :: B :: C :: D :: L) w) : St c (A :: B :: C :: D :: E :: L) w := ⟨H.con, H.stars.swap.under fun _ h => h.swap.under fun _ h => h.swap.under fun _ h => h.swap⟩
theorem St.tail (H : St c (A :: L) w) : St c L w := ⟨H.con, H.stars.tail⟩
theorem St.under {L' : List HP} (k : ∀ S, Stars L S w → Stars L' S w) (H : St c (A :: L) w) : St c (A :: L') w := ⟨H.con, H.stars.under k⟩

/-- What the first party's blocks hold. -/
theorem St.get (H : St c (A :: L) w) : ∃ h, A h ∧ Lies h w := by
  obtain ⟨h, a, l, _⟩ := H.stars
  exact ⟨h, a, fun b o e => (l b o e).2⟩

/-- A weaker word on the first party. -/
theorem St.imp (H : St c (A :: L) w) (k : ∀ h, A h → A' h) : St c (A' :: L) w := by
  obtain ⟨h, a, l, r⟩ := H.stars
  exact ⟨H.con, h, k h a, l, r⟩

/-- THE STEP: of what was there only the first party's blocks may be turned; it gets what is new. -/
theorem St.upd (H : St c (A :: L) w) : ∃ h, A h ∧ Lies h w ∧
    ∀ (w' : World) (A' : HP), conOf w' = conOf w → (∀ b, b < w.heap.size → h b = none → w'.heap[b]? = w.heap[b]?) →
      A' (fun b => if (h b).isSome ∨ w.heap.size ≤ b then w'.heap[b]? else none) → St c (A' :: L) w' := by
  obtain ⟨h, a, l, r⟩ := H.stars
  refine ⟨h, a, fun b o e => (l b o e).2, fun w' A' hc hk ha => ⟨hc.trans H.con, _, ha, fun b o e => ⟨trivial, ?_⟩, ?_⟩⟩
  · split at e
    · exact e
    · cases e
  · refine r.bounded.mono (fun b k => ⟨trivial, ?_⟩) (fun b o k e => ?_)
    · have h1 : h b = none := k.1.2
      rw [if_neg]
      rintro (h2 | h2)
      · simp [h1] at h2
      · exact absurd k.2 (by omega)
    · rw [hk b k.2 k.1.2]; exact e

/-- THE STEP that turns nothing that was there: a new party gets what is new. -/
theorem St.new (H : St c L w) (w' : World) (A' : HP) (hc : conOf w' = conOf w)
    (hk : ∀ b, b < w.heap.size → w'.heap[b]? = w.heap[b]?) (ha : A' (fun b => if w.heap.size ≤ b then w'.heap[b]? else none)) : St c (A' :: L) w' := by
  refine ⟨hc.trans H.con, _, ha, fun b o e => ⟨trivial, ?_⟩, ?_⟩
  · split at e
    · exact e
    · cases e
  · refine H.stars.bounded.mono (fun b k => ⟨trivial, ?_⟩) (fun b o k e => ?_)
    · rw [if_neg (by have := k.2; omega)]
    · rw [hk b k.2]; exact e

/-- What is new is nobody's. -/
theorem St.grow (H : St c L w) (w' : World) (hc : conOf w' = conOf w) (hk : ∀ b, b < w.heap.size → w'.heap[b]? = w.heap[b]?) : St c L w' :=
  ⟨hc.trans H.con, H.stars.bounded.mono (fun _ _ => trivial) fun b o k e => by rw [hk b k.2]; exact e⟩

theorem St.below (H : St c L w) (hb : Below w.heap.size w w') : St c L w' :=
  H.grow w' (by simp [conOf, hb.os, hb.tape, hb.output]) hb.block
theorem St.drewN (H : St c L w) (n : Nat) : St c L (w.drewN n) := H.below (below_drewN (Below.refl _ _) n)
theorem St.drew (H : St c L w) : St c L w.drew := H.below (Below.refl _ _).drew
theorem St.alloc (H : St c L w) (o : Obj) : St c L (w.alloc o) := H.below ((Below.refl _ _).alloc (Nat.le_refl _) o)

/-- A new block is a party. -/
def Pt (b : Nat) (o : Obj) : HP := fun h => h b = some o
theorem St.allocPt (H : St c L w) (o : Obj) : St c (Pt w.heap.size o :: L) (w.alloc o) :=
  H.new _ _ rfl (fun b hb => Below.heap_alloc w o b hb) (by simp only [Pt]; rw [if_pos (Nat.le_refl _)]; exact heap_alloc_new w o)
theorem St.pt {b : Nat} {o : Obj} (H : St c (Pt b o :: L) w) : w.heap[b]? = some o := by
  obtain ⟨h, a, l⟩ := H.get; exact l b o a
/-- A store into a block that is a party. -/
theorem St.setPt {b : Nat} {cs : Array Value} {T : TypeId} {fr : Nat × Nat} (H : St c (Pt b (.cells cs T fr) :: L) w) (j : Nat) (v : Value) :
    St c (Pt b (.cells (cs.setIfInBounds j v) T fr) :: L) (w.setCell ⟨b, j, none⟩ v) := by
  obtain ⟨h, a, l, u⟩ := H.upd
  have hb := l b _ a
  refine u _ _ rfl (fun k hk hn => Below.heap_setCell _ _ _ _ ?_) ?_
  · rintro rfl; rw [a] at hn; cases hn
  · simp only [Pt]
    rw [if_pos (.inl (by rw [a]; rfl))]
    simp [World.setCell, Array.getElem?_modify, hb]

/-- All that was there ahead is as it was. -/
def Old (w0 : World) : HP := fun h => ∀ b, b < w0.heap.size → h b = w0.heap[b]?
theorem St.start (w : World) : St (conOf w) [Old w] w :=
  ⟨rfl, fun b => w.heap[b]?, fun _ _ => rfl, fun _ _ e => ⟨trivial, e⟩, trivial⟩
theorem St.old {w0 : World} (H : St c (Old w0 :: L) w) (b : Nat) (hb : b < w0.heap.size) : w.heap[b]? = w0.heap[b]? := by
  obtain ⟨h, a, l⟩ := H.get
  have e := a b hb
  rw [Array.getElem?_eq_getElem hb] at e ⊢
  exact l b _ e
theorem St.toBelow {w0 : World} (H : St (conOf w0) (Old w0 :: L) w) (hs : w0.heap.size ≤ w.heap.size) : Below w0.heap.size w0 w := by
  have hc := H.con
  simp only [conOf, Prod.mk.injEq] at hc
  exact ⟨hc.1, hc.2.1, hc.2.2, hs, fun b hb => H.old b hb⟩
theorem St.oldSize {w0 : World} (H : St c (Old w0 :: L) w) : w0.heap.size ≤ w.heap.size := by
  rcases Nat.lt_or_ge w.heap.size w0.heap.size with h | h
  · have e := H.old w.heap.size h
    rw [Array.getElem?_eq_none (Nat.le_refl _), Array.getElem?_eq_getElem h] at e
    cases e
  · exact h
theorem St.toBelow' {w0 : World} (H : St (conOf w0) (Old w0 :: L) w) : Below w0.heap.size w0 w := H.toBelow H.oldSize

theorem Lies.cell {h : Nat → Option Obj} (l : Lies h w) {b : Nat} {cs : Array Value} {T : TypeId} {fr : Nat × Nat} (e : h b = some (.cells cs T fr)) (j : Nat) : w.cell? ⟨b, j, none⟩ = cs[j]? :=
  cell_of_row w b j cs T fr (l b _ e)
theorem Lies.frozen {h : Nat → Option Obj} (l : Lies h w) {b : Nat} {cs : Array Value} {T : TypeId} (e : h b = some (.cells cs T (0, 0))) (j : Nat) : w.frozen? ⟨b, j, none⟩ = false := by
  simp [World.frozen?, l b _ e]
end

/-! ### Worlds written out -/
theorem heap_set (w : World) (b j : Nat) (v : Value) (k : Nat) : (w.setCell ⟨b, j, none⟩ v).heap[k]? =
    if k = b then (w.heap[b]?).map (fun o => match o with | .cells cs T fr => .cells (cs.setIfInBounds j v) T fr | o => o) else w.heap[k]? := by
  simp only [World.setCell, Array.getElem?_modify]
  by_cases e : b = k
  · subst e; rw [if_pos rfl, if_pos rfl]; cases w.heap[b]? with
    | none => rfl
    | some o => cases o <;> rfl
  · rw [if_neg e, if_neg (fun h => e h.symm)]
theorem heap_setRow (w : World) (b : Nat) (cs : Array Value) (k : Nat) : (w.setRow b cs).heap[k]? =
    if k = b then (w.heap[b]?).map (fun o => match o with | .cells _ T fr => .cells cs T fr | o => o) else w.heap[k]? := by
  simp only [World.setRow, Array.getElem?_modify]
  by_cases e : b = k
  · subst e; rw [if_pos rfl, if_pos rfl]; cases w.heap[b]? with
    | none => rfl
    | some o => cases o <;> rfl
  · rw [if_neg e, if_neg (fun h => e h.symm)]
theorem heap_drewN (w : World) (n : Nat) : (w.drewN n).heap = w.heap := rfl
theorem heap_drew' (w : World) : w.drew.heap = w.heap := rfl
theorem conOf_drewN (w : World) (n : Nat) : conOf (w.drewN n) = conOf w := rfl
theorem conOf_set (w : World) (a : Addr) (v : Value) : conOf (w.setCell a v) = conOf w := rfl
theorem conOf_setRow (w : World) (b : Nat) (cs : Array Value) : conOf (w.setRow b cs) = conOf w := rfl
theorem conOf_alloc (w : World) (o : Obj) : conOf (w.alloc o) = conOf w := rfl
theorem conOf_drew (w : World) : conOf w.drew = conOf w := rfl
end Go.Proofs.Ytakeilefbcpabaa
