/- Part 1 of what the statement rests on: each piece below begins with its own remark. -/
import Derived.WalkKit
import Derived.Deep.MidRow
import Derived.Deep.QuietTactic
import Derived.BigQuiet
import Derived.WalkSmall
import Derived.Handy
import Derived.Lib.Hide
import Derived.Deep.Cut
import Derived.Deep.DeepCutAuto
import Derived.Deep.CutBlock
import Derived.Deep.RegionWith
import Derived.Deep.RegionLaw
import Derived.Deep.RegionHeld3
import Derived.Deep.DeepFit
import Derived.Deep.Light
import Derived.Deep.LoopGhost
import Derived.StillTailTactics
import Derived.Deep.WholeRow
import Derived.OrdersHeld
import Derived.Great.BuildSlice
import Derived.Deep.AppendSrc
import Derived.Laws.BytesString
/- Ownership of blocks of memory: a world is parted among parties, each of which has blocks of its own. No program in sight. -/
namespace Go.Proofs.Ytjofjkjghakcoaa
open Go.RowKit

abbrev Con := Os × (Nat → Question → Nat) × Array (Nat × ByteArray)
/-- What a world never changes. -/
def conOf (w : World) : Con := (w.os, w.tape, w.output)

/-- A party: what its blocks hold. -/
abbrev HP := (Nat → Option Obj) → Prop

/-- The blocks of h lie in the world. -/
def Lies (h : Nat → Option Obj) (w : World) : Prop := ∀ b o, h b = some o → w.heap[b]? = some o

/-- The parties of a list have blocks of their own among those of S. -/
def Stars : List HP → (Nat → Prop) → World → Prop
  | [], _, _ => True
  | A :: L, S, w => ∃ h : Nat → Option Obj, A h ∧ (∀ b o, h b = some o → S b ∧ w.heap[b]? = some o) ∧ Stars L (fun b => S b ∧ h b = none) w

theorem Stars.mono : ∀ {L : List HP} {S S' : Nat → Prop} {w w' : World}, Stars L S w → (∀ b, S b → S' b) → (∀ b o, S b → w.heap[b]? = some o → w'.heap[b]? = some o) → Stars L S' w'
  | [], _, _, _, _, _, _, _ => trivial
  | _ :: _, _, _, _, _, ⟨h, ha, hl, hr⟩, hS, hw =>
    ⟨h, ha, fun b o e => ⟨hS b (hl b o e).1, hw b o (hl b o e).1 (hl b o e).2⟩, Stars.mono hr (fun b k => ⟨hS b k.1, k.2⟩) (fun b o k => hw b o k.1)⟩

theorem Stars.bounded {w : World} : ∀ {L : List HP} {S : Nat → Prop}, Stars L S w → Stars L (fun b => S b ∧ b < w.heap.size) w
  | [], _, _ => trivial
  | _ :: _, _, ⟨h, a, l, r⟩ => ⟨h, a, fun b o e => ⟨⟨(l b o e).1, (Array.getElem?_eq_some_iff.1 (l b o e).2).1⟩, (l b o e).2⟩,
      (Stars.bounded r).mono (fun _ k => ⟨⟨k.1.1, k.2⟩, k.1.2⟩) (fun _ _ _ e => e)⟩

/-- The state of a walk: the parties, and what never changes. -/
structure St (c : Con) (L : List HP) (w : World) : Prop where
  con : conOf w = c
  stars : Stars L (fun _ => True) w

section
variable {c : Con} {A B C D E A' : HP} {L : List HP} {w w' : World}

theorem Stars.swap {S : Nat → Prop} (H : Stars (A :: B :: L) S w) : Stars (B :: A :: L) S w := by
  obtain ⟨h1, a1, l1, h2, a2, l2, r⟩ := H
  refine ⟨h2, a2, fun b o e => ⟨(l2 b o e).1.1, (l2 b o e).2⟩, h1, a1, fun b o e => ⟨⟨(l1 b o e).1, ?_⟩, (l1 b o e).2⟩, ?_⟩
  · cases k : h2 b with
    | none => rfl
    | some o' => have := (l2 b o' k).1.2; rw [e] at this; cases this
  · exact r.mono (fun b k => ⟨⟨k.1.1, k.2⟩, k.1.2⟩) (fun _ _ _ e => e)

theorem Stars.tail {S : Nat → Prop} (H : Stars (A :: L) S w) : Stars L S w := by
  obtain ⟨h1, _, _, r⟩ := H
  exact r.mono (fun b k => k.1) (fun _ _ _ e => e)

theorem Stars.under {L' : List HP} (k : ∀ S, Stars L S w → Stars L' S w) {S : Nat → Prop} (H : Stars (A :: L) S w) : Stars (A :: L') S w := by
  obtain ⟨h1, a1, l1, r⟩ := H
  exact ⟨h1, a1, l1, k _ r⟩

theorem St.swap (H : St c (A :: B :: L) w) : St c (B :: A :: L) w := ⟨H.con, H.stars.swap⟩
theorem St.pull2 (H : St c (A :: B :: C :: L) w) : St c (C :: A :: B :: L) w := ⟨H.con, (H.stars.under fun _ h => h.swap).swap⟩
theorem St.push2 (H : St c (C :: A :: B :: L) w) : St c (A :: B :: C :: L) w := ⟨H.con, H.stars.swap.under fun _ h => h.swap⟩
theorem St.pull3 (H : St c (A :: B :: C :: D :: L) w) : St c (D :: A :: B :: C :: L) w := ⟨H.con, (H.stars.under fun _ h => (h.under fun _ h => h.swap).swap).swap⟩
theorem St.push3 (H : St c (D :: A :: B :: C :: L) w) : St c (A :: B :: C :: D :: L) w := ⟨H.con, H.stars.swap.under fun _ h => h.swap.under fun _ h => h.swap⟩
theorem St.pull4 (H : St c (A :: B :: C :: D :: E :: L) w) : St c (E :: A :: B :: C :: D :: L) w := ⟨H.con, (H.stars.under fun _ h => (h.under fun _ h => (h.under fun _ h => h.swap).swap).swap).swap⟩
theorem St.push4 (H : St c (E :: A :: B :: C :: D :: L) w) : St c (A :: B :: C :: D :: E :: L) w := ⟨H.con, H.stars.swap.under fun _ h => h.swap.under fun _ h => h.swap.under fun _ h => h.swap⟩
theorem St.tail (H : St c (A :: L) w) : St c L w := ⟨H.con, H.stars.tail⟩
theorem St.under {L' : List HP} (k : ∀ S, Stars L S w → Stars L' S w) (H : St c (A :: L) w) : St c (A :: L') w := ⟨H.con, H.stars.under k⟩

/-- What the first party's blocks hold. -/
theorem St.get (H : St c (A :: L) w) : ∃ h, A h ∧ Lies h w := by
  obtain ⟨h, a, l, _⟩ := H.stars
  exact ⟨h, a, fun b o e => (l b o e).2⟩

/-- A weaker word on the first party. -/
theorem St.imp (H : St c (A :: L) w) (k : ∀ h, A h → A' h) : St c (A' :: L) w := by
  obtain ⟨h, a, l, r⟩ := H.stars
  exact ⟨H.con, h, k h a, l, r⟩

/-- THE STEP: of what was there only the first party's blocks may be turned; it gets what is new. -/
theorem St.upd (H : St c (A :: L) w) : ∃ h, A h ∧ Lies h w ∧
    ∀ (w' : World) (A' : HP), conOf w' = conOf w → (∀ b, b < w.heap.size → h b = none → w'.heap[b]? = w.heap[b]?) →
      A' (fun b => if (h b).isSome ∨ w.heap.size ≤ b then w'.heap[b]? else none) → St c (A' :: L) w' := by
  obtain ⟨h, a, l, r⟩ := H.stars
  refine ⟨h, a, fun b o e => (l b o e).2, fun w' A' hc hk ha => ⟨hc.trans H.con, _, ha, fun b o e => ⟨trivial, ?_⟩, ?_⟩⟩
  · split at e
    · exact e
    · cases e
  · refine r.bounded.mono (fun b k => ⟨trivial, ?_⟩) (fun b o k e => ?_)
    · have h1 : h b = none := k.1.2
      rw [if_neg]
      rintro (h2 | h2)
      · simp [h1] at h2
      · exact absurd k.2 (by omega)
    · rw [hk b k.2 k.1.2]; exact e

/-- THE STEP that turns nothing that was there: a new party gets what is new. -/
theorem St.new (H : St c L w) (w' : World) (A' : HP) (hc : conOf w' = conOf w)
    (hk : ∀ b, b < w.heap.size → w'.heap[b]? = w.heap[b]?) (ha : A' (fun b => if w.heap.size ≤ b then w'.heap[b]? else none)) : St c (A' :: L) w' := by
  refine ⟨hc.trans H.con, _, ha, fun b o e => ⟨trivial, ?_⟩, ?_⟩
  · split at e
    · exact e
    · cases e
  · refine H.stars.bounded.mono (fun b k => ⟨trivial, ?_⟩) (fun b o k e => ?_)
    · rw [if_neg (by have := k.2; omega)]
    · rw [hk b k.2]; exact e

/-- What is new is nobody's. -/
theorem St.grow (H : St c L w) (w' : World) (hc : conOf w' = conOf w) (hk : ∀ b, b < w.heap.size → w'.heap[b]? = w.heap[b]?) : St c L w' :=
  ⟨hc.trans H.con, H.stars.bounded.mono (fun _ _ => trivial) fun b o k e => by rw [hk b k.2]; exact e⟩

theorem St.below (H : St c L w) (hb : Below w.heap.size w w') : St c L w' :=
  H.grow w' (by simp [conOf, hb.os, hb.tape, hb.output]) hb.block
theorem St.drewN (H : St c L w) (n : Nat) : St c L (w.drewN n) := H.below (below_drewN (Below.refl _ _) n)
theorem St.drew (H : St c L w) : St c L w.drew := H.below (Below.refl _ _).drew
theorem St.alloc (H : St c L w) (o : Obj) : St c L (w.alloc o) := H.below ((Below.refl _ _).alloc (Nat.le_refl _) o)

/-- A new block is a party. -/
def Pt (b : Nat) (o : Obj) : HP := fun h => h b = some o
theorem St.allocPt (H : St c L w) (o : Obj) : St c (Pt w.heap.size o :: L) (w.alloc o) :=
  H.new _ _ rfl (fun b hb => Below.heap_alloc w o b hb) (by simp only [Pt]; rw [if_pos (Nat.le_refl _)]; exact heap_alloc_new w o)
theorem St.pt {b : Nat} {o : Obj} (H : St c (Pt b o :: L) w) : w.heap[b]? = some o := by
  obtain ⟨h, a, l⟩ := H.get; exact l b o a
/-- A store into a block that is a party. -/
theorem St.setPt {b : Nat} {cs : Array Value} {T : TypeId} {fr : Nat × Nat} (H : St c (Pt b (.cells cs T fr) :: L) w) (j : Nat) (v : Value) :
    St c (Pt b (.cells (cs.setIfInBounds j v) T fr) :: L) (w.setCell ⟨b, j, none⟩ v) := by
  obtain ⟨h, a, l, u⟩ := H.upd
  have hb := l b _ a
  refine u _ _ rfl (fun k hk hn => Below.heap_setCell _ _ _ _ ?_) ?_
  · rintro rfl; rw [a] at hn; cases hn
  · simp only [Pt]
    rw [if_pos (.inl (by rw [a]; rfl))]
    simp [World.setCell, Array.getElem?_modify, hb]

/-- All that was there ahead is as it was. -/
def Old (w0 : World) : HP := fun h => ∀ b, b < w0.heap.size → h b = w0.heap[b]?
theorem St.start (w : World) : St (conOf w) [Old w] w :=
  ⟨rfl, fun b => w.heap[b]?, fun _ _ => rfl, fun _ _ e => ⟨trivial, e⟩, trivial⟩
theorem St.old {w0 : World} (H : St c (Old w0 :: L) w) (b : Nat) (hb : b < w0.heap.size) : w.heap[b]? = w0.heap[b]? := by
  obtain ⟨h, a, l⟩ := H.get
  have e := a b hb
  rw [Array.getElem?_eq_getElem hb] at e ⊢
  exact l b _ e
theorem St.toBelow {w0 : World} (H : St (conOf w0) (Old w0 :: L) w) (hs : w0.heap.size ≤ w.heap.size) : Below w0.heap.size w0 w := by
  have hc := H.con
  simp only [conOf, Prod.mk.injEq] at hc
  exact ⟨hc.1, hc.2.1, hc.2.2, hs, fun b hb => H.old b hb⟩
theorem St.oldSize {w0 : World} (H : St c (Old w0 :: L) w) : w0.heap.size ≤ w.heap.size := by
  rcases Nat.lt_or_ge w.heap.size w0.heap.size with h | h
  · have e := H.old w.heap.size h
    rw [Array.getElem?_eq_none (Nat.le_refl _), Array.getElem?_eq_getElem h] at e
    cases e
  · exact h
theorem St.toBelow' {w0 : World} (H : St (conOf w0) (Old w0 :: L) w) : Below w0.heap.size w0 w := H.toBelow H.oldSize

theorem Lies.cell {h : Nat → Option Obj} (l : Lies h w) {b : Nat} {cs : Array Value} {T : TypeId} {fr : Nat × Nat} (e : h b = some (.cells cs T fr)) (j : Nat) : w.cell? ⟨b, j, none⟩ = cs[j]? :=
  cell_of_row w b j cs T fr (l b _ e)
theorem Lies.frozen {h : Nat → Option Obj} (l : Lies h w) {b : Nat} {cs : Array Value} {T : TypeId} (e : h b = some (.cells cs T (0, 0))) (j : Nat) : w.frozen? ⟨b, j, none⟩ = false := by
  simp [World.frozen?, l b _ e]
end

/-! ### Worlds written out -/
theorem heap_set (w : World) (b j : Nat) (v : Value) (k : Nat) : (w.setCell ⟨b, j, none⟩ v).heap[k]? =
    if k = b then (w.heap[b]?).map (fun o => match o with | .cells cs T fr => .cells (cs.setIfInBounds j v) T fr | o => o) else w.heap[k]? := by
  simp only [World.setCell, Array.getElem?_modify]
  by_cases e : b = k
  · subst e; rw [if_pos rfl, if_pos rfl]; cases w.heap[b]? with
    | none => rfl
    | some o => cases o <;> rfl
  · rw [if_neg e, if_neg (fun h => e h.symm)]
theorem heap_setRow (w : World) (b : Nat) (cs : Array Value) (k : Nat) : (w.setRow b cs).heap[k]? =
    if k = b then (w.heap[b]?).map (fun o => match o with | .cells _ T fr => .cells cs T fr | o => o) else w.heap[k]? := by
  simp only [World.setRow, Array.getElem?_modify]
  by_cases e : b = k
  · subst e; rw [if_pos rfl, if_pos rfl]; cases w.heap[b]? with
    | none => rfl
    | some o => cases o <;> rfl
  · rw [if_neg e, if_neg (fun h => e h.symm)]
theorem heap_drewN (w : World) (n : Nat) : (w.drewN n).heap = w.heap := rfl
theorem heap_drew' (w : World) : w.drew.heap = w.heap := rfl
theorem conOf_drewN (w : World) (n : Nat) : conOf (w.drewN n) = conOf w := rfl
theorem conOf_set (w : World) (a : Addr) (v : Value) : conOf (w.setCell a v) = conOf w := rfl
theorem conOf_setRow (w : World) (b : Nat) (cs : Array Value) : conOf (w.setRow b cs) = conOf w := rfl
theorem conOf_alloc (w : World) (o : Obj) : conOf (w.alloc o) = conOf w := rfl
theorem conOf_drew (w : World) : conOf w.drew = conOf w := rfl
end Go.Proofs.Ytjofjkjghakcoaa

/- Parties made of parties; rows of memory: what a load, a store, a copy, an append do to a party. No program in sight. -/
namespace Go.Proofs.Ytjofjkjghakcoaa
open Go.RowKit

/-- A party made of parties. -/
def Join : List HP → HP
  | [] => fun _ => True
  | A :: L => fun h => ∃ h1 : Nat → Option Obj, A h1 ∧ (∀ b o, h1 b = some o → h b = some o) ∧ Join L (fun b => if h1 b = none then h b else none)
def Ex {α : Type} (A : α → HP) : HP := fun h => ∃ x, A x h
def Pure (p : Prop) (A : HP) : HP := fun h => p ∧ A h

section
variable {c : Con} {A B C D E A' : HP} {L F : List HP} {w w' : World}

theorem Stars.congr : ∀ {L : List HP} {S S' : Nat → Prop} {w : World}, Stars L S w → (∀ b, S b ↔ S' b) → Stars L S' w :=
  fun h k => h.mono (fun b e => (k b).1 e) fun _ _ _ e => e

theorem Stars.join : ∀ {Ls F : List HP} {S : Nat → Prop} {w : World}, Stars (Join Ls :: F) S w ↔ Stars (Ls ++ F) S w
  | [], F, S, w => ⟨fun h => h.tail, fun h => ⟨fun _ => none, trivial, fun _ _ e => (by cases e), h.congr fun b => by simp⟩⟩
  | A :: Ls, F, S, w => by
    constructor
    · rintro ⟨h, ⟨h1, a1, s1, j⟩, l, r⟩
      refine ⟨h1, a1, fun b o e => l b o (s1 b o e), Stars.join.1 ?_⟩
      refine ⟨_, j, fun b o e => ?_, r.mono (fun b k => ⟨⟨k.1, ?_⟩, ?_⟩) fun _ _ _ e => e⟩
      · split at e
        · rename_i h0; exact ⟨⟨(l b o e).1, h0⟩, (l b o e).2⟩
        · cases e
      · cases e : h1 b with
        | none => rfl
        | some o => have := s1 b o e; rw [k.2] at this; cases this
      · split
        · exact k.2
        · rfl
    · rintro ⟨h1, a1, l1, r⟩
      obtain ⟨h2, a2, l2, r⟩ := Stars.join.2 r
      refine ⟨fun b => if h1 b = none then h2 b else h1 b, ⟨h1, a1, fun b o e => ?_, ?_⟩, fun b o e => ?_, r.mono (fun b k => ⟨k.1.1, ?_⟩) fun _ _ _ e => e⟩
      · show (if h1 b = none then h2 b else h1 b) = some o
        rw [if_neg (by rw [e]; simp)]; exact e
      · have : (fun b => if h1 b = none then (if h1 b = none then h2 b else h1 b) else none) = h2 := by
          funext b
          by_cases e : h1 b = none
          · rw [if_pos e, if_pos e]
          · rw [if_neg e]
            cases k : h2 b with
            | none => rfl
            | some o => exact absurd (l2 b o k).1.2 e
        rw [this]; exact a2
      · replace e : (if h1 b = none then h2 b else h1 b) = some o := e
        split at e
        · exact ⟨(l2 b o e).1.1, (l2 b o e).2⟩
        · exact l1 b o e
      · show (if h1 b = none then h2 b else h1 b) = none
        rw [if_pos k.1.2]; exact k.2

theorem St.join {Ls : List HP} : St c (Join Ls :: F) w ↔ St c (Ls ++ F) w :=
  ⟨fun H => ⟨H.con, Stars.join.1 H.stars⟩, fun H => ⟨H.con, Stars.join.2 H.stars⟩⟩
theorem St.ex {α : Type} {A : α → HP} (H : St c (Ex A :: F) w) : ∃ x, St c (A x :: F) w := by
  obtain ⟨h, ⟨x, a⟩, l, r⟩ := H.stars
  exact ⟨x, H.con, h, a, l, r⟩
theorem St.pure {p : Prop} (H : St c (Pure p A :: F) w) : p ∧ St c (A :: F) w := by
  obtain ⟨h, ⟨x, a⟩, l, r⟩ := H.stars
  exact ⟨x, H.con, h, a, l, r⟩
theorem St.toEx {α : Type} {A : α → HP} (x : α) (H : St c (A x :: F) w) : St c (Ex A :: F) w := H.imp fun _ a => ⟨x, a⟩
theorem St.toPure {p : Prop} (k : p) (H : St c (A :: F) w) : St c (Pure p A :: F) w := H.imp fun _ a => ⟨k, a⟩

theorem St.ne {a b : Nat} {o o' : Obj} (H : St c (Pt a o :: Pt b o' :: F) w) : a ≠ b := by
  obtain ⟨h1, a1, _, h2, a2, l2, _⟩ := H.stars
  rintro rfl
  have := (l2 a o' a2).1.2
  rw [show h1 a = some o from a1] at this; cases this
end

theorem add_mid (b o j : Nat) : (⟨b, o, none⟩ : Addr).add j = ⟨b, o + j, none⟩ := by unfold Addr.add; split <;> simp_all

/-! ### Cells -/
/-- A row with cells laid over it. -/
def splice (cur : List Value) (o : Nat) (vs : List Value) : List Value := cur.take o ++ vs ++ cur.drop (o + vs.length)
theorem splice_length {cur : List Value} {o : Nat} {vs : List Value} (h : o + vs.length ≤ cur.length) : (splice cur o vs).length = cur.length := by
  simp [splice]; omega

section
variable {P : Program}
/-- A whole array or struct out of a block. -/
theorem load_row (w : World) (b o : Nat) (ty : TypeId) (C : Array Value) (T : TypeId) (fr : Nat × Nat) (n : Nat) (d : TypeDesc) (hb : w.heap[b]? = some (.cells C T fr)) (hn : o + n ≤ C.size)
    (hu : P.underlying ty = some d) (hd : d.isRow = true) (hi : (P.info? ty).map (·.size) = some n) :
    (Instr.loadAt ty (.pointer (some ⟨b, o, none⟩))).run P w = .ok (.agg (C.extract o (o + n))) w := by
  have h := run_loadAt_mid (P := P) w b o ty (C.extract o (o + n)).toList d (World.rangeAt_of_block hb o n) hu hd (by rw [hi]; simp; omega)
  rw [Array.toArray_toList] at h; exact h
/-- A whole array or struct into a block. -/
theorem store_row (w : World) (b o : Nat) (ty : TypeId) (cells C : Array Value) (T : TypeId) (hb : w.heap[b]? = some (.cells C T (0, 0))) (hn : o + cells.size ≤ C.size)
    (hi : (P.info? ty).map (·.size) = some cells.size) (h1 : cells.all (·.oneCell') = true) :
    (Instr.storeAt ty (.pointer (some ⟨b, o, none⟩)) (.agg cells)).run P w = .ok () (w.setRow b (splice C.toList o cells.toList).toArray) := by
  have hst := run_storeCells_at P b o T cells.toList 0 C w hb (by simpa using hn) (fun v hv => (Array.all_eq_true_iff_forall_mem.1 h1) v (by simpa using hv))
  cases hq : P.info? ty with
  | none => simp [hq] at hi
  | some i =>
    have hs : cells.size = i.size := by simp [hq] at hi; omega
    simp only [Nat.add_zero] at hst
    simp [Instr.storeAt, Instr.sureAddr, storeVar, sizeOf, typeInfo, hq, Value.cells, hs, hst, splice]

/-- A new variable, whatever its size. -/
theorem alloc_new {t : TypeId} {z : Array Value} {n : Nat} (h : (P.info? t).map (fun i => (i.zero, i.size)) = some (some (.agg z), n)) (w : World) :
    (Instr.alloc t true (.tuple #[])).run P w = .ok (.pointer (some ⟨w.heap.size, 0, none⟩)) (w.alloc (.cells z t)) := by
  have hz := (zero_of_info h).1
  simp [Instr.alloc, Sem.run_bind, hz w, newVar, Value.cells, newRow]

/-- copy of elements of any size, block onto block. -/
theorem run_copy_rows (w : World) (dT sT ty elem : TypeId) (g o dLen dCap : Nat) (a : Addr) (sLen sCap : Nat) (cur : Array Value) (t : TypeId) (size n : Nat) (cs : List Value)
    (hu : P.underlying dT = some (.slice elem)) (hs : (P.info? elem).map (·.size) = some size)
    (hg : w.heap[g]? = some (.cells cur t (0, 0))) (hn : n = Nat.min sLen dLen) (hl : cs.length = n * size)
    (hsrc : ∀ j v, cs[j]? = some v → w.cell? (a.add j) = some v) (hfit : o + cs.length ≤ cur.size) (h1 : ∀ v ∈ cs, v.oneCell' = true) :
    (Builtin.copy_ #[dT, sT] ty #[.slice (some ⟨g, o, none⟩) dLen dCap, .slice (some a) sLen sCap]).run P w =
      .ok (goInt n) (w.setRow g (splice cur.toList o cs).toArray) := by
  have hlo := run_loadCells_list (P := P) w a cs hsrc
  have hst := run_storeCells_at P g o t cs 0 cur w hg (by simpa using hfit) h1
  cases hq : P.info? elem with
  | none => simp [hq] at hs
  | some i =>
    have hi : i.size = size := by simpa [hq] using hs
    rw [hl] at hlo
    simp [Builtin.copy_, run_underlying hu, Builtin.lenOf, Builtin.firstCells, sizeOf, typeInfo, hq, hi, ← hn, hlo, hst, splice]

/-! As a walk meets them. -/
variable {ops : Array Oper} {rest : List Oper} {op : Oper} {a : Act} {w : World} {Q : Exit → Act → World → Prop}
theorem go_load_row (hgd : op.guard = none) (ty : TypeId) (x : Operand) (ho : op.op = .load ty x)
    (b o n : Nat) (hx : a.eval x = .pointer (some ⟨b, o, none⟩)) (C v : Array Value) (T : TypeId) (fr : Nat × Nat) (d : TypeDesc) (hb : w.heap[b]? = some (.cells C T fr)) (hn : o + n ≤ C.size)
    (hv : C.extract o (o + n) = v) (hu : P.underlying ty = some d) (hd : d.isRow = true) (hi : (P.info? ty).map (·.size) = some n)
    (h : wpList P ops Q rest (a.put op.dst (.agg v)) w) : wpList P ops Q (op :: rest) a w :=
  wpList_plain hgd fun _ hK => by
    unfold Oper.wp execOp
    simp only [ho, hx, Sem.run_bind, load_row w b o ty C T fr n d hb hn hu hd hi, hv, Result.andThen_ok, Sem.run_pure]
    exact hK _ _ h
theorem go_store_row (hgd : op.guard = none) (ty : TypeId) (x y : Operand) (ho : op.op = .store ty x y)
    (b o : Nat) (cells C : Array Value) (hx : a.eval x = .pointer (some ⟨b, o, none⟩)) (hy : a.eval y = .agg cells) (T : TypeId) (hb : w.heap[b]? = some (.cells C T (0, 0))) (hn : o + cells.size ≤ C.size)
    (hi : (P.info? ty).map (·.size) = some cells.size) (h1 : cells.all (·.oneCell') = true)
    (h : wpList P ops Q rest (a.put op.dst undef) (w.setRow b (splice C.toList o cells.toList).toArray)) : wpList P ops Q (op :: rest) a w :=
  wpList_plain hgd fun _ hK => by
    unfold Oper.wp execOp
    simp only [ho, hx, hy, Sem.run_bind, store_row w b o ty cells C T hb hn hi h1, Result.andThen_ok, Sem.run_pure]
    exact hK _ _ h
/-- The same in a region that draws its order (behind 'wp_region_still_tail'). -/
theorem still_load_row {K : Act → Prop} (hgd : op.guard = none) (ty : TypeId) (x : Operand) (ho : op.op = .load ty x)
    (b o n : Nat) (hx : a.eval x = .pointer (some ⟨b, o, none⟩)) (C v : Array Value) (T : TypeId) (fr : Nat × Nat) (d : TypeDesc) (hb : w.heap[b]? = some (.cells C T fr)) (hn : o + n ≤ C.size)
    (hv : C.extract o (o + n) = v) (hu : P.underlying ty = some d) (hd : d.isRow = true) (hi : (P.info? ty).map (·.size) = some n)
    (h : wpStill P ops w K rest (a.put op.dst (.agg v))) : wpStill P ops w K (op :: rest) a :=
  wpStill_step fun _ hK => by
    rw [if_pos (by simp [Region.wanted, hgd])]
    unfold Oper.still execOp
    simp only [ho, hx, Sem.run_bind, load_row w b o ty C T fr n d hb hn hu hd hi, hv, Result.andThen_ok, Sem.run_pure]
    exact ⟨rfl, hK _ h⟩
theorem region_tail {id : Nat} {l : List Oper} (n : Nat) (hm : P.follows .mixedOrders = true) (hB : Region.lexTailB .any l.toArray n = true)
    (h : wpStill P l.toArray w.drew (fun a' => wpList P l.toArray Q (l.drop n) a' w.drew) (l.take n) a) : (Code.region id l.toArray true).wp P Q a w :=
  wp_region_still_tail n hm hB h
theorem go_alloc_big (hgd : op.guard = none) (t : TypeId) (ho : op.op = .alloc t) {z : Array Value} {n : Nat} (hi : (P.info? t).map (fun i => (i.zero, i.size)) = some (some (.agg z), n))
    (h : wpList P ops Q rest (a.put op.dst (.pointer (some ⟨w.heap.size, 0, none⟩))) (w.alloc (.cells z t))) : wpList P ops Q (op :: rest) a w :=
  wpList_plain hgd fun _ hK => by
    unfold Oper.wp execOp
    simp only [ho, Sem.run_bind, alloc_new hi w, Result.andThen_ok, Sem.run_pure]
    exact hK _ _ h
/-- A whole value into the variable that was made last. -/
theorem go_store_new (hgd : op.guard = none) (ty : TypeId) (x y : Operand) (ho : op.op = .store ty x y)
    (W : World) (z cells : Array Value) (hw : w = W.alloc (.cells z ty)) (hx : a.eval x = .pointer (some ⟨W.heap.size, 0, none⟩)) (hy : a.eval y = .agg cells)
    (hi : (P.info? ty).map (·.size) = some cells.size) (hz : z.size = cells.size) (h1 : cells.all (·.oneCell') = true)
    (h : wpList P ops Q rest (a.put op.dst undef) (W.alloc (.cells cells ty))) : wpList P ops Q (op :: rest) a w :=
  wpList_plain hgd fun _ hK => by
    subst hw
    unfold Oper.wp execOp
    simp only [ho, hx, hy, Sem.run_bind, run_storeAt_new W ty z cells hi hz h1, Result.andThen_ok, Sem.run_pure]
    exact hK _ _ h
/-- copy(x, y), rows onto a block. -/
theorem go_copy_rows (hgd : op.guard = none) (x y : Operand) (dT sT : TypeId) (ho : op.op = .call { callee := .builtin .copy, args := #[x, y], argTypes := #[dT, sT] })
    (elem : TypeId) (g o dLen dCap : Nat) (ad : Addr) (sLen sCap : Nat) (hx : a.eval x = .slice (some ⟨g, o, none⟩) dLen dCap) (hy : a.eval y = .slice (some ad) sLen sCap)
    (cur : Array Value) (t : TypeId) (size n : Nat) (cs : List Value)
    (hu : P.underlying dT = some (.slice elem)) (hs : (P.info? elem).map (·.size) = some size)
    (hg : w.heap[g]? = some (.cells cur t (0, 0))) (hn : n = Nat.min sLen dLen) (hl : cs.length = n * size)
    (hsrc : ∀ j v, cs[j]? = some v → w.cell? (ad.add j) = some v) (hfit : o + cs.length ≤ cur.size) (h1 : ∀ v ∈ cs, v.oneCell' = true)
    (h : wpList P ops Q rest (a.put op.dst (goInt n)) (w.setRow g (splice cur.toList o cs).toArray)) : wpList P ops Q (op :: rest) a w :=
  wpList_plain hgd fun _ hK => by
    have hr := run_copy_rows (P := P) w dT sT op.type elem g o dLen dCap ad sLen sCap cur t size n cs hu hs hg hn hl hsrc hfit h1
    unfold Oper.wp execOp
    simp only [ho, resolve, invoke, builtin, Sem.run_bind, Sem.run_pure, Result.andThen_ok, List.map_toArray, List.map_cons, List.map_nil, hx, hy, hr]
    exact hK _ _ h
end

section
variable {c : Con} {L F : List HP} {w w' : World}
/-- THE WORLD UNDER A NEW NAME: what is known of it is what the parties tell. -/
theorem wp_gen {P : Program} {code : Code} {Q : Exit → Act → World → Prop} {a : Act} (H : St c L w) (h : ∀ W, St c L W → code.wp P Q a W) : code.wp P Q a w := h w H
theorem ex_gen' {R : World → Prop} (H : St c L w) (h : ∀ W, St c L W → R W) : R w := h w H
theorem ex_gen {R : Exit → Act → World → Prop} {x : Exit} {a : Act} (H : St c L w) (h : ∀ W, St c L W → R x a W) : R x a w := h w H
theorem St.setRowPt {b : Nat} {cs : Array Value} {T : TypeId} {fr : Nat × Nat} (H : St c (Pt b (.cells cs T fr) :: L) w) (cs' : Array Value) :
    St c (Pt b (.cells cs' T fr) :: L) (w.setRow b cs') := by
  obtain ⟨h, a, l, u⟩ := H.upd
  have hb := l b _ a
  refine u _ _ rfl (fun k hk hn => setRow_other _ _ _ _ ?_) ?_
  · rintro rfl; rw [a] at hn; cases hn
  · simp only [Pt]
    rw [if_pos (.inl (by rw [a]; rfl))]
    exact setRow_heap w b cs cs' T fr hb

/-! ### A slice of one's own -/
/-- The slice v has n elements of size cells each, xs in all, and is nil or the head of a block of its own. -/
def OwnP (e : TypeId) (size : Nat) (v : Value) (n : Nat) (xs : List Value) : HP := fun h =>
  xs.length = n * size ∧ ((v = .slice none 0 0 ∧ n = 0) ∨
    ∃ g cap cur, v = .slice (some ⟨g, 0, none⟩) n cap ∧ h g = some (.cells cur e (0, 0)) ∧ n ≤ cap ∧ cap ≤ maxLen ∧ cur.size = cap * size ∧ cur.toList.take (n * size) = xs)

theorem OwnP.nil (e : TypeId) (size : Nat) (h) : OwnP e size (.slice none 0 0) 0 [] h := ⟨by simp, .inl ⟨rfl, rfl⟩⟩
theorem St.addNil (e : TypeId) (size : Nat) (H : St c L w) : St c (OwnP e size (.slice none 0 0) 0 [] :: L) w :=
  H.new w _ rfl (fun _ _ => rfl) (OwnP.nil e size _)

/-- A slice of one's own that has elements. -/
theorem owned_some {e : TypeId} {size n m cap : Nat} {A : Option Addr} {xs : List Value} (H : St c (OwnP e size (.slice A m cap) n xs :: L) w) (hn : 0 < n) :
    ∃ g cur, A = some ⟨g, 0, none⟩ ∧ w.heap[g]? = some (.cells cur e (0, 0)) ∧ cur.size = cap * size ∧ cur.toList.take (n * size) = xs ∧ n = m ∧ n ≤ cap ∧ cap ≤ 9223372036854775807 := by
  obtain ⟨h, ⟨hx, ho⟩, l⟩ := H.get
  rcases ho with ⟨_, e⟩ | ⟨g, cap', cur, e, hg, h1, h2, h3, h4⟩
  · omega
  · cases e
    exact ⟨g, cur, rfl, l _ _ hg, h3, h4, rfl, h1, by simpa [maxLen] using h2⟩

theorem owned_form {e : TypeId} {size n : Nat} {v : Value} {xs : List Value} (H : St c (OwnP e size v n xs :: L) w) : ∃ A cap, v = .slice A n cap := by
  obtain ⟨h, ⟨hx, ho⟩, l⟩ := H.get
  rcases ho with ⟨e1, e⟩ | ⟨g, cap', cur, e, _⟩
  · subst e; exact ⟨_, _, e1⟩
  · exact ⟨_, _, e⟩

/-- append onto it. -/
theorem St.append {P : Program} {size bytes n : Nat} {t ty e : TypeId} {i : TypeInfo} {z v : Value} {xs : List Value} (H : St c (OwnP e size v n xs :: L) w)
    (ht : P.underlying t = some (.slice e)) (hi : P.info? e = some i) (hz : i.zero = some z)
    (hsize : i.size = size) (hby : i.bytes = bytes) (hzs : z.cells.size = size) (hsz : 0 < size)
    (a : Addr) (m cc : Nat) (news : List Value) (hl : news.length = m * size) (hnews : ∀ j u, news[j]? = some u → w.cell? (a.add j) = some u) (h1 : ∀ u ∈ news, u.oneCell' = true)
    (h63 : n + m ≤ maxLen) (hbytes : (n + m) * bytes ≤ 140737488355328) :
    ∃ v' w', (Builtin.append_ #[t, t] ty #[v, .slice (some a) m cc]).run P w = .ok v' w' ∧ St c (OwnP e size v' (n + m) (xs ++ news) :: L) w' ∧ w.heap.size ≤ w'.heap.size ∧
      (v' = .slice none 0 0 ↔ v = .slice none 0 0 ∧ m = 0) := by
  subst hsize
  subst hby
  obtain ⟨h, ⟨hx, ho⟩, l, u⟩ := H.upd
  have hsmall : n + m ≤ 9223372036854775807 := by simp only [maxLen] at h63; omega
  have hlen : (xs ++ news).length = (n + m) * i.size := by rw [List.length_append, hx, hl, Nat.add_mul]
  have grown : ∀ (old : Nat), St c (OwnP e i.size (.slice (some ⟨w.heap.size, 0, none⟩) (n + m) (grownCap w (n + m) old e)) (n + m) (xs ++ news) :: L)
      (w.drew.alloc (.cells (xs.toArray ++ news.toArray ++ Builtin.zeroCells z.cells (grownCap w (n + m) old e - (n + m))) e)) := by
    intro old
    have hge := grownCap_ge w (n + m) old e
    have hcm : grownCap w (n + m) old e ≤ maxLen := grownCap_le_maxLen w (n + m) old e h63
    refine u _ _ rfl (fun b hb _ => Below.heap_alloc w.drew _ b hb) ⟨hlen, .inr ⟨w.heap.size, _, xs.toArray ++ news.toArray ++ Builtin.zeroCells z.cells (grownCap w (n + m) old e - (n + m)), rfl, ?_, hge, hcm, ?_, ?_⟩⟩
    · exact (if_pos (Or.inr (Nat.le_refl _))).trans (heap_alloc_new w.drew _)
    · simp only [Array.size_append, List.size_toArray, size_zeroCells, hzs, hx, hl, ← Nat.add_mul]
      congr 1
      omega
    · simp only [Array.toList_append, List.append_assoc]
      rw [← List.append_assoc, ← hlen]
      exact List.take_left
  rcases ho with ⟨rfl, rfl⟩ | ⟨g, cap, cur, rfl, hg, hnc, hcm, hcs, htake⟩
  · have hx' : xs = [] := List.eq_nil_of_length_eq_zero (by simpa using hx)
    subst hx'
    by_cases hm : m = 0
    · subst hm
      have hn : news = [] := List.eq_nil_of_length_eq_zero (by simpa using hl)
      subst hn
      refine ⟨.slice none 0 0, w, ?_, H, Nat.le_refl _, by simp⟩
      simp [Builtin.append_, run_underlying ht, sizeOf, typeInfo, hi, Builtin.lenOf, Builtin.firstCells, loadCells, loadCellsFrom]
    · have hr := run_append_nil (P := P) w t ty e i z ht hi hz a m cc news hl hnews (by omega) (by omega) (by have hb := hbytes; simp only [Nat.zero_add] at hb; omega)
      have hgr := grown 0
      simp only [Nat.zero_add, List.nil_append, Array.empty_append] at hgr ⊢
      exact ⟨_, _, hr, hgr, by simp, by simp [hm]⟩
  · have hgw := l g _ hg
    by_cases hroom : n + m ≤ cap
    · have hfit : n * i.size + news.length ≤ cur.size := by rw [hl, hcs, ← Nat.add_mul]; exact Nat.mul_le_mul_right _ hroom
      have hr := run_append_room (P := P) w t ty e i ht hi g n cap cur hgw a m cc news hl hnews h1 hroom hfit
      refine ⟨_, _, hr, ?_, by simp, by simp⟩
      refine u _ _ rfl (fun b hb hn => setRow_other w g b _ ?_) ⟨hlen, .inr ⟨g, cap, (cur.toList.take (n * i.size) ++ news ++ cur.toList.drop (n * i.size + news.length)).toArray, rfl, ?_, hroom, hcm, ?_, ?_⟩⟩
      · rintro rfl; rw [hg] at hn; cases hn
      · exact (if_pos (Or.inl (by rw [hg]; rfl))).trans (setRow_heap w g cur _ e _ hgw)
      · simp only [List.size_toArray, List.length_append, List.length_take, List.length_drop, Array.length_toList]
        omega
      · rw [htake, ← hlen]
        exact List.take_left
    · have holds : ∀ j u, xs[j]? = some u → w.cell? ((⟨g, 0, none⟩ : Addr).add j) = some u := by
        intro j u hu
        rw [add_mid, Nat.zero_add, cell_of_row w g j cur e (0, 0) hgw]
        rw [← htake, List.getElem?_take] at hu
        split at hu
        · simpa using hu
        · cases hu
      have hr := run_append_grow (P := P) w t ty e i z ht hi hz ⟨g, 0, none⟩ n cap xs hx holds a m cc news hl hnews (by omega) (by omega) (growslice_fits (by omega) hbytes)
      exact ⟨_, _, hr, grown cap, by simp, by simp⟩
end
end Go.Proofs.Ytjofjkjghakcoaa

/- A region that draws its order: loads may be taken first where the few operations that may come up among them leave what they read as it is. No program in sight. -/
namespace Go.Proofs.Ytjofjkjghakcoaa
open Go.RowKit

section
variable {P : Program} {ops : Array Oper} {Q : Exit → Act → World → Prop} {md : Region.Mode} {S : World → Prop}

/-- 'wpAny', and S holds behind each operation below m. -/
def wpAnyE (P : Program) (md : Region.Mode) (ops : Array Oper) (Q : Exit → Act → World → Prop) (S : World → Prop) (m : Nat) : Nat → Array Bool → Act → World → Prop
  | 0, listed, a, w => Region.ready md ops listed = [] ∧ Q .normal a w
  | fuel + 1, listed, a, w =>
    (Region.ready md ops listed = [] → Q .normal a w) ∧
    ∀ i ∈ Region.ready md ops listed, wpOp P ops Q i (fun a' w' => (i < m → S w') ∧ wpAnyE P md ops Q S m fuel (listed.setIfInBounds i true) a' w') a w

theorem wpAny_of_E {m : Nat} : ∀ (fuel : Nat) (listed : Array Bool) (a : Act) (w : World), wpAnyE P md ops Q S m fuel listed a w → wpAny P md ops Q fuel listed a w
  | 0, _, _, _, h => h
  | fuel + 1, _, _, _, h => ⟨h.1, fun i hi => wpOp_mono (fun a' w' h' => wpAny_of_E fuel _ a' w' h'.2) (h.2 i hi)⟩

theorem wpAnyE_first {m i : Nat} {oi : Oper} {v : Value} (hi : ops[i]? = some oi) (hsel : ∀ (j : Nat) (o : Oper) cs b, ops[j]? = some o → o.op ≠ .select cs b)
    (hQ : ∀ c a w, Q (.panic c) (a.put oi.dst v) w → Q (.panic c) a w)
    (hlate : ∀ j oj, ops[j]? = some oj → m ≤ j → ∃ e ∈ oj.after, Region.binds md e = true ∧ e.on = i) :
    ∀ (fuel : Nat) (listed : Array Bool) (a : Act) (w : World),
      (∀ j oj, ops[j]? = some oj → j ≠ i → listed.getD j true = false → (∀ e ∈ oj.after, Region.binds md e = true → e.on ≠ i) → oi.apart ops oj = true) →
      i ∈ Region.ready md ops listed → YieldsIf P ops S oi v a → S w →
      wpAnyE P md ops Q S m fuel (listed.setIfInBounds i true) (a.put oi.dst v) w → (∀ k, i < k → k < ops.size → True) → wpAnyE P md ops Q (fun w => S w) m (fuel + 1) listed a w := by
  intro fuel
  induction fuel with
  | zero =>
    intro listed a w _ hr hy hS H _
    refine ⟨fun h => (by rw [h] at hr; cases hr), fun j hj => ?_⟩
    by_cases hji : j = i
    · subst hji; exact hy.wpOp hi hS ⟨fun _ => hS, H⟩
    · have := ready_mono hj hji
      rw [H.1] at this
      cases this
  | succ fuel ih =>
    intro listed a w hfree hr hy hS H ht
    refine ⟨fun h => (by rw [h] at hr; cases hr), fun j hj => ?_⟩
    by_cases hji : j = i
    · subst hji; exact hy.wpOp hi hS ⟨fun _ => hS, H⟩
    · have h1 := H.2 j (ready_mono hj hji)
      obtain ⟨hjun, oj, hoj, hall⟩ := mem_ready.1 hj
      have hnot : ∀ e ∈ oj.after, Region.binds md e = true → e.on ≠ i := fun e he hb heq => by
        have h1 := hall e he hb
        have h0 := (mem_ready.1 hr).1
        rw [heq] at h1
        rcases Nat.lt_or_ge i listed.size with h' | h'
        · simp [h'] at h0 h1; rw [h0] at h1; cases h1
        · simp [Array.getElem?_eq_none h'] at h1
      have hjm : j < m := by
        rcases Nat.lt_or_ge j m with h | h
        · exact h
        · obtain ⟨e, he, hb, ho⟩ := hlate j oj hoj h
          exact absurd ho (hnot e he hb)
      have h2 := wpOp_putIf hoj (hfree j oj hoj hji hjun hnot) (fun cs b => hsel i oi cs b hi) (fun cs b => hsel j oj cs b hoj) hQ hy h1
      have hfree' : ∀ k ok, ops[k]? = some ok → k ≠ i → (listed.setIfInBounds j true).getD k true = false →
          (∀ e ∈ ok.after, Region.binds md e = true → e.on ≠ i) → oi.apart ops ok = true := fun k ok hk hki hun hno => by
        refine hfree k ok hk hki ?_ hno
        by_cases hjk : j = k
        · subst hjk; exact hjun
        · rw [getD_set_ne true hjk] at hun; exact hun
      refine wpOp_mono (fun a' w' h3 => ⟨fun _ => h3.2.1 hjm, ih (listed.setIfInBounds j true) a' w' hfree' (ready_mono hr (Ne.symm hji)) h3.1 (h3.2.1 hjm) ?_ ht⟩) h2
      rw [Array.setIfInBounds_comm _ _ hji]
      exact h3.2.2

/-- The first operations, in the text's order: each yields its value in every world that meets S. -/
def wpHeads (P : Program) (ops : Array Oper) (S : World → Prop) (Kf : Act → Prop) : List Oper → Act → Prop
  | [], a => Kf a
  | o :: rest, a => ∃ v, YieldsIf P ops S o v a ∧ wpHeads P ops S Kf rest (a.put o.dst v)

theorem heads_nil {Kf : Act → Prop} {a : Act} (h : Kf a) : wpHeads P ops S Kf [] a := h
theorem heads_step {Kf : Act → Prop} {a : Act} {o : Oper} {rest : List Oper} {v : Value} (hg : o.guard = none) (hv : ∀ w, S w → (execOp a.eval o).run P w = .ok (.value v) w)
    (h : wpHeads P ops S Kf rest (a.put o.dst v)) : wpHeads P ops S Kf (o :: rest) a :=
  ⟨v, .inl ⟨by simp [Region.wanted, hg], hv⟩, h⟩

/-- The operations behind them, in the text's order: S holds behind each of the first e. -/
def wpListE (P : Program) (ops : Array Oper) (Q : Exit → Act → World → Prop) (S : World → Prop) : Nat → List Oper → Act → World → Prop
  | 0, l, a, w => wpList P ops Q l a w
  | _ + 1, [], a, w => Q .normal a w
  | e + 1, o :: rest, a, w =>
    if Region.wanted o (yielded ops a.tmps) then o.wp P a w (fun a' w' => S w' ∧ wpListE P ops Q S e rest a' w') Q
    else S w ∧ wpListE P ops Q S e rest (a.put o.dst undef) w

theorem listE_step {e : Nat} {a : Act} {w : World} {o : Oper} {rest : List Oper} (hg : o.guard = none)
    (h : ∀ K : Act → World → Prop, (∀ a w, S w → wpListE P ops Q S e rest a w → K a w) → o.wp P a w K Q) : wpListE P ops Q S (e + 1) (o :: rest) a w := by
  rw [wpListE, if_pos (by simp [Region.wanted, hg])]
  exact h _ fun a w h1 h2 => ⟨h1, h2⟩

/-- The order from number k on is forced. -/
theorem wpAnyE_of_seq {m : Nat} : ∀ (l : List Oper) (e k : Nat) (listed : Array Bool) (a : Act) (w : World), (∀ j, l[j]? = ops[k + j]?) → m ≤ k + e →
    Region.seqB md ops l.length k listed = true → wpListE P ops Q S e l a w → wpAnyE P md ops Q S m l.length listed a w
  | [], e, k, listed, a, w, _, _, hB, h => by
    cases e <;> exact ⟨by simpa [Region.seqB] using hB, h⟩
  | o :: l, 0, k, listed, a, w, hl, hm, hB, h => by
    have h0 : ops[k]? = some o := by simpa using (hl 0).symm
    simp only [List.length_cons, Region.seqB, Bool.and_eq_true, decide_eq_true_eq] at hB
    refine ⟨fun h1 => (by rw [hB.1] at h1; cases h1), fun i hi => ?_⟩
    rw [hB.1] at hi
    have hik : i = k := by simpa using hi
    subst hik
    have hw : wpOp P ops Q i (wpList P ops Q l) a w := by unfold wpOp; simp only [h0]; exact h
    exact wpOp_mono (fun a' w' h' => ⟨fun hlt => by omega, wpAnyE_of_seq l 0 (i + 1) _ a' w' (fun j => by have := hl (j + 1); simpa [Nat.add_assoc, Nat.add_comm 1 j] using this) (by omega) hB.2 h'⟩) hw
  | o :: l, e + 1, k, listed, a, w, hl, hm, hB, h => by
    have h0 : ops[k]? = some o := by simpa using (hl 0).symm
    simp only [List.length_cons, Region.seqB, Bool.and_eq_true, decide_eq_true_eq] at hB
    refine ⟨fun h1 => (by rw [hB.1] at h1; cases h1), fun i hi => ?_⟩
    rw [hB.1] at hi
    have hik : i = k := by simpa using hi
    subst hik
    have hw : wpOp P ops Q i (fun a' w' => S w' ∧ wpListE P ops Q S e l a' w') a w := by
      unfold wpOp
      simp only [h0]
      unfold wpListE at h
      by_cases hg : Region.wanted o (yielded ops a.tmps) = true
      · rw [if_pos hg] at h ⊢; exact .inl h
      · rw [if_neg hg] at h ⊢; exact h
    exact wpOp_mono (fun a' w' h' => ⟨fun _ => h'.1, wpAnyE_of_seq l e (i + 1) _ a' w' (fun j => by have := hl (j + 1); simpa [Nat.add_assoc, Nat.add_comm 1 j] using this) (by omega) hB.2 h'.2⟩) hw

/-- Each operation from m on waits for each below n. -/
def lateB (md : Region.Mode) (ops : Array Oper) (n m : Nat) : Bool :=
  (List.range ops.size).all fun j => decide (j < m) || (List.range n).all fun i => Region.waitsFor md ops j i

theorem lateB_spec {n m : Nat} (h : lateB md ops n m = true) {i : Nat} (hi : i < n) (j : Nat) (oj : Oper) (hj : ops[j]? = some oj) (hm : m ≤ j) : ∃ e ∈ oj.after, Region.binds md e = true ∧ e.on = i := by
  have h1 := List.all_eq_true.1 h j (List.mem_range.2 (Array.getElem?_eq_some_iff.1 hj).1)
  simp only [Bool.or_eq_true, decide_eq_true_eq] at h1
  rcases h1 with h1 | h1
  · omega
  · obtain ⟨o', ho', e, he, hb, ho⟩ := Region.waitsFor_spec (List.all_eq_true.1 h1 i (List.mem_range.2 hi))
    obtain rfl : o' = oj := Option.some.inj (ho'.symm.trans hj)
    exact ⟨e, he, hb, ho⟩

theorem wpAnyE_lex {n m g : Nat} {Kf : Act → Prop} (hsel : Region.noSelect ops = true) (hl : lateB md ops n m = true)
    (hQ : ∀ c (d : Option Tmp) (v : Value) a w, Q (.panic c) (a.put d v) w → Q (.panic c) a w) (w : World) (hS : S w)
    (hK : ∀ listed a, Region.seqB md ops g n listed = true → Kf a → wpAnyE P md ops Q S m g listed a w) :
    ∀ (l : List Oper) (k : Nat) (listed : Array Bool) (a : Act), (∀ j, j < l.length → l[j]? = ops[k + j]?) → k + l.length = n →
      Region.lexHead md ops g l.length k listed = true → wpHeads P ops S Kf l a → wpAnyE P md ops Q S m (l.length + g) listed a w
  | [], k, listed, a, _, hk, hB, h => by
    obtain rfl : k = n := by simpa using hk
    rw [List.length_nil, Nat.zero_add]
    exact hK _ _ (by simpa [Region.lexHead] using hB) h
  | o :: l, k, listed, a, hlk, hk, hB, h => by
    have h0 : ops[k]? = some o := by simpa using (hlk 0 (by simp)).symm
    simp only [List.length_cons, Region.lexHead, Bool.and_eq_true] at hB
    obtain ⟨⟨hr, hf⟩, hB'⟩ := hB
    obtain ⟨v, hy, h'⟩ := h
    have hkn : k < n := by simp only [List.length_cons] at hk; omega
    rw [List.length_cons, show l.length + 1 + g = (l.length + g) + 1 by omega]
    exact wpAnyE_first h0 (Region.noSelect_spec hsel) (fun c a w => hQ c _ _ a w) (fun j oj hj hm => lateB_spec hl hkn j oj hj hm) _ listed a w (Region.free_spec h0 hf) (by simpa using hr) hy hS
      (wpAnyE_lex hsel hl hQ w hS hK l (k + 1) _ _ (fun j hj => by have := hlk (j + 1) (by simp; omega); simpa [Nat.add_assoc, Nat.add_comm 1 j] using this) (by simp only [List.length_cons] at hk; omega) hB' h') (fun _ _ _ => trivial)

/-- What the kernel reckons of a region: n loads ahead, of the rest m - n may come up among them. -/
def takeB (md : Region.Mode) (ops : Array Oper) (n m : Nat) : Bool :=
  Region.noSelect ops && decide (n ≤ ops.size) && lateB md ops n m && Region.lexHead md ops (ops.size - n) n 0 (Array.replicate ops.size false)

/-- THE LAW: the first n operations in the text's order, in every world that meets S; then the rest in the text's order, S kept by those below m. -/
theorem region_take {id : Nat} {l : List Oper} {a : Act} {w : World} (n m : Nat) (S : World → Prop) (hm : P.follows .mixedOrders = true) (hB : takeB .any l.toArray n m = true)
    (hS : S w.drew)
    (h : wpHeads P l.toArray S (fun a' => wpListE P l.toArray (NoPanic Q) S (m - n) (l.drop n) a' w.drew) (l.take n) a) : (Code.region id l.toArray true).wp P Q a w := by
  refine wp_region_noPanic ?_
  have hQ : ∀ c (d : Option Tmp) (v : Value) a w, NoPanic Q (.panic c) (a.put d v) w → NoPanic Q (.panic c) a w := fun _ _ _ _ _ h => h
  simp only [takeB, Bool.and_eq_true, decide_eq_true_eq] at hB
  obtain ⟨⟨⟨hsel, hn⟩, hl⟩, hlex⟩ := hB
  have hn' : n ≤ l.length := by simpa using hn
  have htl : (l.take n).length = n := by simp; omega
  have hdl : (l.drop n).length = l.toArray.size - n := by simp
  refine wp_region_any hm ?_
  have H := wpAnyE_lex (md := .any) (m := m) (g := l.toArray.size - n) hsel hl hQ w.drew hS (fun listed a' hB' hK => by
      have := wpAnyE_of_seq (P := P) (md := .any) (Q := NoPanic Q) (S := S) (m := m) (l.drop n) (m - n) n listed a' w.drew (fun j => by simp [List.getElem?_drop]) (by omega) (by rw [hdl]; exact hB') hK
      rwa [hdl] at this) (l.take n) 0 _ a (fun j hj => by
        have hj' : j < n := by rw [htl] at hj; exact hj
        simp [hj']) (by simpa using htl) (by rw [htl]; exact hlex) h
  have := wpAny_of_E _ _ _ _ H
  rw [htl, show n + (l.toArray.size - n) = l.toArray.size by simp; omega] at this
  exact this
end
end Go.Proofs.Ytjofjkjghakcoaa

/- Operations on values of many cells, one by one, wherever they stand (a plain region, a region that draws). No program in sight. -/
namespace Go.Proofs.Ytjofjkjghakcoaa
open Go.RowKit

theorem fold_set (off : Nat) : ∀ (l : List Value) (k : Nat) (zs : Array Value), off + k + l.length ≤ zs.size →
    (l.zipIdx k).foldl (fun (cs : Array Value) x => cs.setIfInBounds (off + x.2) x.1) zs = (splice zs.toList (off + k) l).toArray
  | [], k, zs, _ => by simp [splice]
  | v :: l, k, zs, h => by
    rw [List.zipIdx_cons, List.foldl_cons, fold_set off l (k + 1) _ (by simp at h ⊢; omega)]
    have e := list_seg_step zs.toList (off + k) v l (by simp at h ⊢; omega)
    congr 1
    simp only [splice, Array.toList_setIfInBounds, List.length_cons, ← Nat.add_assoc]
    simpa [Nat.add_assoc] using e
theorem fill_cons (place : Nat → Option (Nat × Nat)) (z cells : Array Value) (i off : Nat) (rest : List (Nat × Value)) (hp : place i = some (off, cells.size)) (h : off + cells.size ≤ z.size) :
    Instr.fill place z ((i, .agg cells) :: rest) = Instr.fill place (splice z.toList off cells.toList).toArray rest := by
  have e := fold_set off cells.toList 0 z (by simpa using h)
  rw [← Array.toList_zipIdx, Nat.add_zero, Array.foldl_toList] at e
  rw [← e]
  have hz : ((decide ((Value.agg cells).cells.size ≠ cells.size) || decide (off + (Value.agg cells).cells.size > z.size)) = true) = False := by
    simp [Value.cells]; omega
  simp only [Instr.fill, hp]
  rw [if_neg (by rw [hz]; exact id)]
  rfl
theorem fold_arr (off n : Nat) (cells zs : Array Value) (hn : cells.size = n) (h : off + cells.size ≤ zs.size) :
    Array.foldl (fun (cs : Array Value) x => cs.setIfInBounds (off + x.2) x.1) zs (cells.zipIdx 0) 0 n = (splice zs.toList off cells.toList).toArray := by
  subst hn
  have e := fold_set off cells.toList 0 zs (by simpa using h)
  rw [← Array.toList_zipIdx, Nat.add_zero, Array.foldl_toList, Array.size_zipIdx] at e
  exact e
theorem fill_nil (place : Nat → Option (Nat × Nat)) (z : Array Value) : Instr.fill place z [] = some z := by simp [Instr.fill]
theorem splice_whole (z v : List Value) (h : z.length = v.length) : splice z 0 v = v := by
  rw [splice, List.take_zero, List.nil_append, Nat.zero_add, ← h, List.drop_length, List.append_nil]
theorem fill_one (z cells : Array Value) (n : Nat) (hz : z.size = n) (hc : cells.size = n) : Instr.fill (fun i => some (i * n, n)) z [(0, .agg cells)] = some cells := by
  rw [fill_cons _ _ _ 0 0 _ (by rw [hc, Nat.zero_mul]) (by omega), fill_nil, splice_whole _ _ (by simp; omega)]

section
variable {P : Program} {op : Oper} {a : Act} {w : World} {K : Act → World → Prop} {Q : Exit → Act → World → Prop}
/-- A slice of one element of many cells. -/
theorem op_slice_one (t e : TypeId) (x : Operand) (ho : op.op = .buildSlice t 1 #[(0, x)]) (cells : Array Value) (n : Nat) (z : Value) (hx : a.eval x = .agg cells)
    (hu : P.underlying t = some (.slice e)) (hi : (P.info? e).map (fun i => (i.zero, i.size)) = some (some z, n)) (hc : cells.size = n) (hn : 0 < n) (hn2 : n ≤ 16777216)
    (h : K (a.put op.dst (.slice (some ⟨w.heap.size, 0, none⟩) 1 1)) (w.alloc (.cells cells e))) : op.wp P a w K Q := by
  cases hq : P.info? e with
  | none => simp [hq] at hi
  | some ie =>
    simp only [hq, Option.map_some, Option.some.injEq, Prod.mk.injEq] at hi
    refine wp_buildSlice t e 1 _ ho cells ie z hu hq hi.1 (by rw [hi.2]; omega) (by rw [hi.2]; omega) ?_ h
    rw [hi.2]
    have e : ((#[(0, x)] : Array (Nat × Operand)).map fun (i, x) => (i, a.eval x)).toList = [(0, .agg cells)] := by simp [hx]
    rw [e]
    exact fill_one _ _ _ (by simp) hc
/-- A whole array or struct out of a block. -/
theorem op_load_row (ty : TypeId) (x : Operand) (ho : op.op = .load ty x)
    (b o n : Nat) (hx : a.eval x = .pointer (some ⟨b, o, none⟩)) (C v : Array Value) (T : TypeId) (fr : Nat × Nat) (d : TypeDesc) (hb : w.heap[b]? = some (.cells C T fr)) (hn : o + n ≤ C.size)
    (hv : C.extract o (o + n) = v) (hu : P.underlying ty = some d) (hd : d.isRow = true) (hi : (P.info? ty).map (·.size) = some n)
    (h : K (a.put op.dst (.agg v)) w) : op.wp P a w K Q := by
  unfold Oper.wp execOp
  simp only [ho, hx, Sem.run_bind, load_row w b o ty C T fr n d hb hn hu hd hi, hv, Result.andThen_ok, Sem.run_pure]
  exact h
theorem op_store_row (ty : TypeId) (x y : Operand) (ho : op.op = .store ty x y)
    (b o : Nat) (cells C : Array Value) (hx : a.eval x = .pointer (some ⟨b, o, none⟩)) (hy : a.eval y = .agg cells) (T : TypeId) (hb : w.heap[b]? = some (.cells C T (0, 0))) (hn : o + cells.size ≤ C.size)
    (hi : (P.info? ty).map (·.size) = some cells.size) (h1 : cells.all (·.oneCell') = true)
    (h : K (a.put op.dst undef) (w.setRow b (splice C.toList o cells.toList).toArray)) : op.wp P a w K Q := by
  unfold Oper.wp execOp
  simp only [ho, hx, hy, Sem.run_bind, store_row w b o ty cells C T hb hn hi h1, Result.andThen_ok, Sem.run_pure]
  exact h
theorem op_alloc_big (t : TypeId) (ho : op.op = .alloc t) {z : Array Value} {n : Nat} (hi : (P.info? t).map (fun i => (i.zero, i.size)) = some (some (.agg z), n))
    (h : K (a.put op.dst (.pointer (some ⟨w.heap.size, 0, none⟩))) (w.alloc (.cells z t))) : op.wp P a w K Q := by
  unfold Oper.wp execOp
  simp only [ho, Sem.run_bind, alloc_new hi w, Result.andThen_ok, Sem.run_pure]
  exact h
theorem op_store_new (ty : TypeId) (x y : Operand) (ho : op.op = .store ty x y)
    (W : World) (z cells : Array Value) (hw : w = W.alloc (.cells z ty)) (hx : a.eval x = .pointer (some ⟨W.heap.size, 0, none⟩)) (hy : a.eval y = .agg cells)
    (hi : (P.info? ty).map (·.size) = some cells.size) (hz : z.size = cells.size) (h1 : cells.all (·.oneCell') = true)
    (h : K (a.put op.dst undef) (W.alloc (.cells cells ty))) : op.wp P a w K Q := by
  subst hw
  unfold Oper.wp execOp
  simp only [ho, hx, hy, Sem.run_bind, run_storeAt_new W ty z cells hi hz h1, Result.andThen_ok, Sem.run_pure]
  exact h
/-- Its yield, for a region that draws. -/
theorem run_load_row (ty : TypeId) (x : Operand) (ho : op.op = .load ty x)
    (b o n : Nat) (hx : a.eval x = .pointer (some ⟨b, o, none⟩)) (C v : Array Value) (T : TypeId) (fr : Nat × Nat) (d : TypeDesc) (hb : w.heap[b]? = some (.cells C T fr)) (hn : o + n ≤ C.size)
    (hv : C.extract o (o + n) = v) (hu : P.underlying ty = some d) (hd : d.isRow = true) (hi : (P.info? ty).map (·.size) = some n) :
    (execOp a.eval op).run P w = .ok (.value (.agg v)) w := by
  unfold execOp
  simp only [ho, hx, Sem.run_bind, load_row w b o ty C T fr n d hb hn hu hd hi, hv, Result.andThen_ok, Sem.run_pure]
/-- append onto a slice of one's own. -/
theorem op_append {c : Con} {L : List HP} {size bytes n : Nat} {e : TypeId} {z v : Value} {xs : List Value} (H : St c (OwnP e size v n xs :: L) w)
    (s x : Operand) (t : TypeId) (ho : op.op = .call { callee := .builtin .append, args := #[s, x], argTypes := #[t, t] })
    (ht : P.underlying t = some (.slice e)) (hi : (P.info? e).map (fun i => (i.zero, i.size, i.bytes)) = some (some z, size, bytes)) (hzs : z.cells.size = size) (hsz : 0 < size)
    (ad : Addr) (m cc : Nat) (news : List Value) (hs : a.eval s = v) (hx : a.eval x = .slice (some ad) m cc) (hl : news.length = m * size)
    (hnews : ∀ j u, news[j]? = some u → w.cell? (ad.add j) = some u) (h1 : ∀ u ∈ news, u.oneCell' = true)
    (h63 : n + m ≤ 9223372036854775807) (hbytes : (n + m) * bytes ≤ 140737488355328)
    (h : ∀ v' w', St c (OwnP e size v' (n + m) (xs ++ news) :: L) w' → w.heap.size ≤ w'.heap.size → K (a.put op.dst v') w') : op.wp P a w K Q := by
  cases hq : P.info? e with
  | none => simp [hq] at hi
  | some ie =>
    simp only [hq, Option.map_some, Option.some.injEq, Prod.mk.injEq] at hi
    obtain ⟨v', w', hr, h2, h3, _⟩ := H.append (P := P) (t := t) (ty := op.type) (i := ie) ht hq hi.1 hi.2.1 hi.2.2 hzs hsz ad m cc news hl hnews h1 (by simpa [maxLen] using h63) hbytes
    unfold Oper.wp execOp
    simp only [ho, resolve, invoke, builtin, Sem.run_bind, Sem.run_pure, Result.andThen_ok, List.map_toArray, List.map_cons, List.map_nil, hs, hx, hr]
    exact h v' w' h2 h3
/-- A struct or array put together. -/
theorem op_build (t : TypeId) (parts : Array (Nat × Operand)) (ho : op.op = .build t parts) (vals : Array (Nat × Value)) (hp : (parts.map fun (i, x) => (i, a.eval x)) = vals) (v : Value)
    (hr : (Instr.build t vals).run P w = .ok v w) (h : K (a.put op.dst v) w) : op.wp P a w K Q := by
  subst hp
  unfold Oper.wp execOp
  simp only [ho, Sem.run_bind, hr, Result.andThen_ok, Sem.run_pure]
  exact h
theorem op_build_one (t : TypeId) (k : Nat) (x : Operand) (ho : op.op = .build t #[(k, x)]) (val v : Value) (hx : a.eval x = val)
    (hr : (Instr.build t #[(k, val)]).run P w = .ok v w) (h : K (a.put op.dst v) w) : op.wp P a w K Q :=
  op_build t _ ho #[(k, val)] (by simp [hx]) v hr h
theorem run_build3 (t : TypeId) (k0 k1 k2 : Nat) (x0 x1 x2 : Operand) (ho : op.op = .build t #[(k0, x0), (k1, x1), (k2, x2)]) (v0 v1 v2 v : Value) (h0 : a.eval x0 = v0) (h1 : a.eval x1 = v1) (h2 : a.eval x2 = v2)
    (hr : (Instr.build t #[(k0, v0), (k1, v1), (k2, v2)]).run P w = .ok v w) : (execOp a.eval op).run P w = .ok (.value v) w := by
  subst h0 h1 h2
  unfold execOp
  simp only [ho, List.map_toArray, List.map_cons, List.map_nil, Sem.run_bind, hr, Result.andThen_ok, Sem.run_pure]
theorem op_value {v : Value} (hr : (execOp a.eval op).run P w = .ok (.value v) w) (h : K (a.put op.dst v) w) : op.wp P a w K Q := by
  unfold Oper.wp; rw [hr]; exact h
theorem still_value {ops : Array Oper} {rest : List Oper} {K : Act → Prop} (hgd : op.guard = none) {v : Value} (hr : (execOp a.eval op).run P w = .ok (.value v) w)
    (h : wpStill P ops w K rest (a.put op.dst v)) : wpStill P ops w K (op :: rest) a :=
  wpStill_step fun _ hK => by
    rw [if_pos (by simp [Region.wanted, hgd])]
    unfold Oper.still
    rw [hr]
    exact ⟨rfl, hK _ h⟩
/-- copy out of a nil slice. -/
theorem op_copy_nil (x y : Operand) (dT sT : TypeId) (ho : op.op = .call { callee := .builtin .copy, args := #[x, y], argTypes := #[dT, sT] })
    (elem : TypeId) (ad : Addr) (dLen dCap n : Nat) (hx : a.eval x = .slice (some ad) dLen dCap) (hy : a.eval y = .slice none 0 0)
    (hu : P.underlying dT = some (.slice elem)) (hs : (P.info? elem).map (·.size) = some n) (h : K (a.put op.dst (goInt 0)) w) : op.wp P a w K Q := by
  have hr := run_copy_nil P w dT sT op.type elem ad dLen dCap hu (by rw [hs]; rfl)
  unfold Oper.wp execOp
  simp only [ho, resolve, invoke, builtin, Sem.run_bind, Sem.run_pure, Result.andThen_ok, List.map_toArray, List.map_cons, List.map_nil, hx, hy, hr]
  exact h
end

/-! ### Results that lie in memory -/
theorem results_ct {P : Program} {fn : Func} {p u : Tmp} {ty : TypeId} (h : fn.results = #[.cell p ty, .tmp u]) (tmps : Array Value) (w : World) (g : Nat) (t : TypeId) (cs : Array Value) (fr : Nat × Nat) (d : TypeDesc)
    (hp : tmps.getD p undef = .pointer (some ⟨g, 0, none⟩)) (hg : w.heap[g]? = some (.cells cs t fr))
    (hu : P.underlying ty = some d) (hd : d.isRow = true) (hi : (P.info? ty).map (·.size) = some cs.size) :
    (results fn tmps).run P w = .ok (.tuple #[.agg cs, tmps.getD u undef]) w := by
  have hp' : tmps[p]?.getD undef = .pointer (some ⟨g, 0, none⟩) := by simpa using hp
  have hr : w.rangeAt g 0 cs.toList := fun j v hv => by rw [Nat.zero_add, cell_of_row w g j cs t fr hg]; simpa using hv
  have hl := run_loadVar_mid (P := P) w g 0 ty cs.toList d hr hu hd (by rw [hi, Array.length_toList])
  rw [Array.toArray_toList] at hl
  simp [results, h, hp', asAddr, hl]

/-- The slice v reads as n elements of size cells each, cs in all. -/
def Reads (w : World) (v : Value) (n size : Nat) (cs : List Value) : Prop :=
  cs.length = n * size ∧ ((v = .slice none 0 0 ∧ n = 0) ∨
    ∃ a cap, v = .slice (some a) n cap ∧ n ≤ cap ∧ cap ≤ 9223372036854775807 ∧ ∀ j u, cs[j]? = some u → w.cell? (a.add j) = some u)
theorem Reads.form {w : World} {v : Value} {n size : Nat} {cs : List Value} (h : Reads w v n size cs) : ∃ A cap, v = .slice A n cap ∧ n ≤ cap ∧ cap ≤ 9223372036854775807 := by
  rcases h.2 with ⟨rfl, rfl⟩ | ⟨a, cap, rfl, h1, h2, _⟩
  · exact ⟨_, _, rfl, Nat.le_refl _, by omega⟩
  · exact ⟨_, _, rfl, h1, h2⟩
theorem Reads.keep {w w' : World} {v : Value} {n size : Nat} {cs : List Value} (h : Reads w v n size cs) (hk : ∀ b, b < w.heap.size → w'.heap[b]? = w.heap[b]?) : Reads w' v n size cs := by
  refine ⟨h.1, ?_⟩
  rcases h.2 with h0 | ⟨a, cap, hv, h1, h2, h3⟩
  · exact .inl h0
  · refine .inr ⟨a, cap, hv, h1, h2, fun j u hu => ?_⟩
    have e := h3 j u hu
    rw [World.cell?_of_block (w := w) (hk _ (World.block_lt_of_cell? w _ e))]
    exact e
section
variable {P : Program} {op : Oper} {a : Act} {w : World} {K : Act → World → Prop} {Q : Exit → Act → World → Prop}
/-- copy of one-cell elements onto a part of a block, all of them. -/
theorem op_copy {c : Con} {L : List HP} {g o : Nat} {cur : Array Value} {T : TypeId} (H : St c (Pt g (.cells cur T (0, 0)) :: L) w)
    (x y : Operand) (dT sT : TypeId) (ho : op.op = .call { callee := .builtin .copy, args := #[x, y], argTypes := #[dT, sT] })
    (elem : TypeId) (dLen dCap n : Nat) (v : Value) (cs : List Value) (hx : a.eval x = .slice (some ⟨g, o, none⟩) dLen dCap) (hy : a.eval y = v) (hr : Reads w v n 1 cs)
    (hu : P.underlying dT = some (.slice elem)) (hs : (P.info? elem).map (·.size) = some 1) (hn : n ≤ dLen) (hfit : o + n ≤ cur.size) (h1 : ∀ u ∈ cs, u.oneCell' = true)
    (h : ∀ W, St c (Pt g (.cells (splice cur.toList o cs).toArray T (0, 0)) :: L) W → K (a.put op.dst (goInt n)) W) : op.wp P a w K Q := by
  have hl : cs.length = n := by rw [hr.1]; omega
  rcases hr.2 with ⟨rfl, rfl⟩ | ⟨ad, cap, rfl, h2, h3, h4⟩
  · have e : cs = [] := List.eq_nil_of_length_eq_zero hl
    subst e
    refine op_copy_nil x y dT sT ho elem _ dLen dCap 1 hx hy hu hs (h w ?_)
    have e : (splice cur.toList o []).toArray = cur := by simp [splice]
    rw [e]; exact H
  · have hr := run_copy_rows (P := P) w dT sT op.type elem g o dLen dCap ad n cap cur T 1 n cs hu hs H.pt (Nat.min_eq_left hn).symm (by omega) h4 (by omega) h1
    unfold Oper.wp execOp
    simp only [ho, resolve, invoke, builtin, Sem.run_bind, Sem.run_pure, Result.andThen_ok, List.map_toArray, List.map_cons, List.map_nil, hx, hy, hr]
    exact h _ (H.setRowPt _)
end
end Go.Proofs.Ytjofjkjghakcoaa

/- A region that draws its order, by a plan: what only looks is taken early, what acts is taken where nothing else can come. No program in sight. -/
namespace Go.Proofs.Ytjofjkjghakcoaa
open Go.RowKit

section
variable {P : Program} {ops : Array Oper} {Q : Exit → Act → World → Prop} {md : Region.Mode} {S : World → Prop}

/-- 'wpAny', and S holds behind each operation that er names. -/
def wpAnyR (P : Program) (md : Region.Mode) (ops : Array Oper) (Q : Exit → Act → World → Prop) (S : World → Prop) (er : Nat → Bool) : Nat → Array Bool → Act → World → Prop
  | 0, listed, a, w => Region.ready md ops listed = [] ∧ Q .normal a w
  | fuel + 1, listed, a, w =>
    (Region.ready md ops listed = [] → Q .normal a w) ∧
    ∀ i ∈ Region.ready md ops listed, wpOp P ops Q i (fun a' w' => (er i = true → S w') ∧ wpAnyR P md ops Q S er fuel (listed.setIfInBounds i true) a' w') a w

theorem wpAny_of_R {er : Nat → Bool} : ∀ (fuel : Nat) (listed : Array Bool) (a : Act) (w : World), wpAnyR P md ops Q S er fuel listed a w → wpAny P md ops Q fuel listed a w
  | 0, _, _, _, h => h
  | fuel + 1, _, _, _, h => ⟨h.1, fun i hi => wpOp_mono (fun a' w' h' => wpAny_of_R fuel _ a' w' h'.2) (h.2 i hi)⟩

theorem wpAnyR_mono {er : Nat → Bool} {S' : World → Prop} (hs : ∀ w, S' w → S w) : ∀ (fuel : Nat) (listed : Array Bool) (a : Act) (w : World), wpAnyR P md ops Q S' er fuel listed a w → wpAnyR P md ops Q S er fuel listed a w
  | 0, _, _, _, h => h
  | fuel + 1, _, _, _, h => ⟨h.1, fun i hi => wpOp_mono (fun a' w' h' => ⟨fun e => hs _ (h'.1 e), wpAnyR_mono hs fuel _ a' w' h'.2⟩) (h.2 i hi)⟩

theorem wpAnyR_first {er : Nat → Bool} {i : Nat} {oi : Oper} {v : Value} (hi : ops[i]? = some oi) (hsel : ∀ (j : Nat) (o : Oper) cs b, ops[j]? = some o → o.op ≠ .select cs b)
    (hQ : ∀ c a w, Q (.panic c) (a.put oi.dst v) w → Q (.panic c) a w)
    (hlate : ∀ j oj, ops[j]? = some oj → j ≠ i → er j = false → ∃ e ∈ oj.after, Region.binds md e = true ∧ e.on = i) :
    ∀ (fuel : Nat) (listed : Array Bool) (a : Act) (w : World),
      (∀ j oj, ops[j]? = some oj → j ≠ i → listed.getD j true = false → (∀ e ∈ oj.after, Region.binds md e = true → e.on ≠ i) → oi.apart ops oj = true) →
      i ∈ Region.ready md ops listed → YieldsIf P ops S oi v a → S w →
      wpAnyR P md ops Q S er fuel (listed.setIfInBounds i true) (a.put oi.dst v) w → wpAnyR P md ops Q S er (fuel + 1) listed a w := by
  intro fuel
  induction fuel with
  | zero =>
    intro listed a w _ hr hy hS H
    refine ⟨fun h => (by rw [h] at hr; cases hr), fun j hj => ?_⟩
    by_cases hji : j = i
    · subst hji; exact hy.wpOp hi hS ⟨fun _ => hS, H⟩
    · have := ready_mono hj hji
      rw [H.1] at this
      cases this
  | succ fuel ih =>
    intro listed a w hfree hr hy hS H
    refine ⟨fun h => (by rw [h] at hr; cases hr), fun j hj => ?_⟩
    by_cases hji : j = i
    · subst hji; exact hy.wpOp hi hS ⟨fun _ => hS, H⟩
    · have h1 := H.2 j (ready_mono hj hji)
      obtain ⟨hjun, oj, hoj, hall⟩ := mem_ready.1 hj
      have hnot : ∀ e ∈ oj.after, Region.binds md e = true → e.on ≠ i := fun e he hb heq => by
        have h1 := hall e he hb
        have h0 := (mem_ready.1 hr).1
        rw [heq] at h1
        rcases Nat.lt_or_ge i listed.size with h' | h'
        · simp [h'] at h0 h1; rw [h0] at h1; cases h1
        · simp [Array.getElem?_eq_none h'] at h1
      have hjm : er j = true := by
        cases h : er j with
        | true => rfl
        | false =>
          obtain ⟨e, he, hb, ho⟩ := hlate j oj hoj hji h
          exact absurd ho (hnot e he hb)
      have h2 := wpOp_putIf hoj (hfree j oj hoj hji hjun hnot) (fun cs b => hsel i oi cs b hi) (fun cs b => hsel j oj cs b hoj) hQ hy h1
      have hfree' : ∀ k ok, ops[k]? = some ok → k ≠ i → (listed.setIfInBounds j true).getD k true = false →
          (∀ e ∈ ok.after, Region.binds md e = true → e.on ≠ i) → oi.apart ops ok = true := fun k ok hk hki hun hno => by
        refine hfree k ok hk hki ?_ hno
        by_cases hjk : j = k
        · subst hjk; exact hjun
        · rw [getD_set_ne true hjk] at hun; exact hun
      refine wpOp_mono (fun a' w' h3 => ⟨fun _ => h3.2.1 hjm, ih (listed.setIfInBounds j true) a' w' hfree' (ready_mono hr (Ne.symm hji)) h3.1 (h3.2.1 hjm) ?_⟩) h2
      rw [Array.setIfInBounds_comm _ _ hji]
      exact h3.2.2

/-- A plan: the operations one by one; true: it only looks. -/
abbrev Plan := List (Nat × Bool)
def Plan.looks (p : Plan) : List Nat := (p.filter (·.2)).map (·.1)
/-- May the operation j come ahead of one of those that only look? -/
def earlyB (md : Region.Mode) (ops : Array Oper) (q : List Nat) (j : Nat) : Bool := q.any fun i => i != j && !Region.waitsFor md ops j i
def planOk (md : Region.Mode) (ops : Array Oper) (er : Nat → Bool) : Plan → Array Bool → Bool
  | [], listed => (Region.ready md ops listed).isEmpty
  | (i, true) :: r, listed => (Region.ready md ops listed).contains i && Region.free md ops listed i && planOk md ops er r (listed.setIfInBounds i true)
  | (i, false) :: r, listed => decide (Region.ready md ops listed = [i]) && planOk md ops er r (listed.setIfInBounds i true)

/-- Must what the looks read lie there still? -/
def needB (er : Nat → Bool) (i : Nat) (r : Plan) : Bool := er i || r.any (·.2)
/-- What a plan's way asks: S, what the looks read, may grow behind an act. -/
def wpPlan (P : Program) (ops : Array Oper) (Q : Exit → Act → World → Prop) (er : Nat → Bool) : Plan → (World → Prop) → Act → World → Prop
  | [], _, a, w => Q .normal a w
  | (i, true) :: r, S, a, w => ∃ o v, ops[i]? = some o ∧ YieldsIf P ops S o v a ∧ wpPlan P ops Q er r S (a.put o.dst v) w
  | (i, false) :: r, S, a, w => ∃ o, ops[i]? = some o ∧
      if Region.wanted o (yielded ops a.tmps) then o.wp P a w (fun a' w' => ∃ S' : World → Prop, (∀ w, S' w → S w) ∧ (needB er i r = true → S' w') ∧ wpPlan P ops Q er r S' a' w') Q
      else (needB er i r = true → S w) ∧ wpPlan P ops Q er r S (a.put o.dst undef) w

theorem wpAnyR_plan {er : Nat → Bool} (hsel : Region.noSelect ops = true)
    (hQ : ∀ c (d : Option Tmp) (v : Value) a w, Q (.panic c) (a.put d v) w → Q (.panic c) a w) :
    ∀ (p : Plan) (S : World → Prop) (listed : Array Bool) (a : Act) (w : World), (∀ i, (i, true) ∈ p → ∀ j, j ≠ i → er j = false → Region.waitsFor md ops j i = true) →
      planOk md ops er p listed = true → (p.any (·.2) = true → S w) → wpPlan P ops Q er p S a w → wpAnyR P md ops Q S er p.length listed a w
  | [], _, listed, a, w, _, hB, _, h => ⟨by simpa [planOk] using hB, h⟩
  | (i, true) :: r, S, listed, a, w, hl, hB, hS, h => by
    obtain ⟨o, v, ho, hy, h⟩ := h
    simp only [planOk, Bool.and_eq_true] at hB
    obtain ⟨⟨hr, hf⟩, hB⟩ := hB
    have hSw := hS (by simp)
    refine wpAnyR_first ho (Region.noSelect_spec hsel) (fun c a w => hQ c _ _ a w) (fun j oj hj hji he => ?_) _ listed a w (Region.free_spec ho hf) (by simpa using hr) hy hSw
      (wpAnyR_plan hsel hQ r S _ _ w (fun k hk => hl k (List.mem_cons_of_mem _ hk)) hB (fun _ => hSw) h)
    obtain ⟨o', ho', e, he', hb, hon⟩ := Region.waitsFor_spec (hl i List.mem_cons_self j hji he)
    obtain rfl : o' = oj := Option.some.inj (ho'.symm.trans hj)
    exact ⟨e, he', hb, hon⟩
  | (i, false) :: r, S, listed, a, w, hl, hB, hS, h => by
    obtain ⟨o, ho, h⟩ := h
    simp only [planOk, Bool.and_eq_true, decide_eq_true_eq] at hB
    obtain ⟨hr, hB⟩ := hB
    refine ⟨fun h1 => (by rw [hr] at h1; cases h1), fun j hj => ?_⟩
    rw [hr] at hj
    obtain rfl : j = i := by simpa using hj
    have go : ∀ (S' : World → Prop) a' w', (∀ w, S' w → S w) → (needB er j r = true → S' w') → wpPlan P ops Q er r S' a' w' → (er j = true → S w') ∧ wpAnyR P md ops Q S er r.length (listed.setIfInBounds j true) a' w' := fun S' a' w' h1 h2 h3 =>
      ⟨fun e => h1 _ (h2 (by simp [needB, e])), wpAnyR_mono h1 _ _ _ _ (wpAnyR_plan hsel hQ r S' _ a' w' (fun k hk => hl k (List.mem_cons_of_mem _ hk)) hB (fun hq => h2 (by simp only [needB, hq, Bool.or_true])) h3)⟩
    have main : wpOp P ops Q j (fun a' w' => ∃ S' : World → Prop, (∀ w, S' w → S w) ∧ (needB er j r = true → S' w') ∧ wpPlan P ops Q er r S' a' w') a w := by
      unfold wpOp
      simp only [ho]
      split
      · rename_i hw; rw [if_pos hw] at h; exact .inl h
      · rename_i hw; rw [if_neg hw] at h; exact ⟨S, fun _ k => k, h.1, h.2⟩
    exact wpOp_mono (fun a' w' ⟨S', h1, h2, h3⟩ => go S' a' w' h1 h2 h3) main

def planB (md : Region.Mode) (ops : Array Oper) (p : Plan) : Bool :=
  Region.noSelect ops && decide (p.length = ops.size) && planOk md ops (earlyB md ops p.looks) p (Array.replicate ops.size false)

theorem region_plan {id : Nat} {ops : Array Oper} {a : Act} {w : World} (p : Plan) (S : World → Prop) (hm : P.follows .mixedOrders = true) (hB : planB .any ops p = true)
    (hS : p.any (·.2) = true → S w.drew) (h : wpPlan P ops (NoPanic Q) (earlyB .any ops p.looks) p S a w.drew) : (Code.region id ops true).wp P Q a w := by
  refine wp_region_noPanic ?_
  have hQ : ∀ c (d : Option Tmp) (v : Value) a w, NoPanic Q (.panic c) (a.put d v) w → NoPanic Q (.panic c) a w := fun _ _ _ _ _ h => h
  simp only [planB, Bool.and_eq_true, decide_eq_true_eq] at hB
  obtain ⟨⟨hsel, hn⟩, hp⟩ := hB
  refine wp_region_any hm ?_
  have H := wpAnyR_plan (md := .any) hsel hQ p S _ a w.drew (fun i hi j hji he => by
    have h0 := List.any_eq_false.1 he i (List.mem_map.2 ⟨(i, true), List.mem_filter.2 ⟨hi, rfl⟩, rfl⟩)
    cases hw : Region.waitsFor .any ops j i with
    | true => rfl
    | false => rw [hw] at h0; simp at h0; exact absurd h0.symm hji) hp hS h
  rw [hn] at H
  exact wpAny_of_R _ _ _ _ H
end
end Go.Proofs.Ytjofjkjghakcoaa

/- The walk by what is known: a frame by the slots that are known, a world by its parties. No program in sight. -/
namespace Go.Proofs.Ytjofjkjghakcoaa
open Go.RowKit

/-! ### What is known of a frame -/
abbrev Env := List (Nat × Value)
def look : Env → Nat → Option Value
  | [], _ => none
  | (s, v) :: r, t => cond (Nat.beq s t) (some v) (look r t)
theorem look_hit {r : Env} {d : Nat} {v : Value} : look ((d, v) :: r) d = some v := by simp [look]
theorem beq_ne {d t : Nat} (h : d ≠ t) : Nat.beq d t = false := by
  cases e : Nat.beq d t with
  | false => rfl
  | true => exact absurd (Nat.eq_of_beq_eq_true e) h
theorem look_miss {r : Env} {d t : Nat} {v : Value} (h : d ≠ t) : look ((d, v) :: r) t = look r t := by simp [look, beq_ne h]

structure Fr (N : Nat) (E : Env) (a : Act) : Prop where
  defers : a.defers = []
  size : a.tmps.size = N
  get : ∀ t v, look E t = some v → a.tmps.getD t undef = v
theorem Fr.put {N : Nat} {E : Env} {a : Act} {d : Nat} {v : Value} (h : Fr N E a) (hd : Nat.blt d N = true) : Fr N ((d, v) :: E) (a.put (some d) v) := by
  have hd' : d < N := by simp [Nat.blt] at hd; omega
  refine ⟨h.defers, by simp [Act.put, h.size], fun t u hl => ?_⟩
  by_cases e : d = t
  · subst e
    rw [look_hit] at hl
    cases hl
    simp [Act.put, h.size, hd']
  · rw [look_miss e] at hl
    have := h.get t u hl
    simp only [Act.put, Array.getD_eq_getD_getElem?] at this ⊢
    rw [Array.getElem?_setIfInBounds_ne e]; exact this
/-- One knows less. -/
def Sub (E' E : Env) : Prop := ∀ t v, look E' t = some v → look E t = some v
theorem Fr.sub {N : Nat} {E E' : Env} {a : Act} (h : Fr N E a) (s : Sub E' E) : Fr N E' a := ⟨h.defers, h.size, fun t v hl => h.get t v (s t v hl)⟩
theorem sub_nil {E : Env} : Sub [] E := fun _ _ h => by cases h
theorem sub_cons {E E' : Env} {d : Nat} {v : Value} (h : look E d = some v) (s : Sub E' E) : Sub ((d, v) :: E') E := fun t u hl => by
  by_cases e : d = t
  · subst e; rw [look_hit] at hl; cases hl; exact h
  · rw [look_miss e] at hl; exact s t u hl
theorem sub_refl {E : Env} : Sub E E := fun _ _ h => h
theorem Sub.trans {E E' E'' : Env} (h : Sub E E') (k : Sub E' E'') : Sub E E'' := fun t v e => k t v (h t v e)

/-- An operand's value. -/
def Ev (E : Env) (x : Operand) (v : Value) : Prop := ∀ N a, Fr N E a → a.eval x = v
theorem ev_tmp {E : Env} {t : Nat} {v : Value} (h : look E t = some v) : Ev E (.tmp t) v := fun _ _ hf => hf.get t v h
theorem ev_const {E : Env} {v : Value} : Ev E (.const v) v := fun _ _ _ => rfl
theorem ev_func {E : Env} {f : FuncId} : Ev E (.func f) (.func (.func f) #[] #[]) := fun _ _ _ => rfl
/-- Of several operands. -/
def Evs (E : Env) (xs : Array Operand) (vs : List Value) : Prop := ∀ N a, Fr N E a → xs.map a.eval = vs.toArray
theorem evs_nil {E : Env} : Evs E #[] [] := fun _ _ _ => by simp
theorem evs_cons {E : Env} {x : Operand} {xs : List Operand} {v : Value} {vs : List Value} (h : Ev E x v) (k : Evs E xs.toArray vs) : Evs E (x :: xs).toArray (v :: vs) := fun N a hf => by
  have h1 := h N a hf
  have h2 := k N a hf
  simp only [List.map_toArray, List.map_cons, h1] at h2 ⊢
  congr 2
  simpa using h2

/-! ### What lies in a world -/
def HasCell (H : World → Prop) (a : Addr) (v : Value) : Prop := ∀ w, H w → w.cell? a = some v
def HasCells (H : World → Prop) (a : Addr) (cs : List Value) : Prop := ∀ i u, cs[i]? = some u → HasCell H (a.add i) u
def Has (H : World → Prop) (b : Nat) (o : Obj) : Prop := ∀ w, H w → w.heap[b]? = some o
/-- A block of one's own. -/
abbrev Bl (b : Nat) (T : TypeId) (cs : List Value) : HP := Pt b (.cells cs.toArray T (0, 0))

section
variable {c : Con} {A B A' : HP} {L F : List HP}
/-- One party out of many. -/
inductive Pick : List HP → HP → List HP → Prop where
  | hd {A : HP} {F : List HP} : Pick (A :: F) A F
  | tl {L : List HP} {A B : HP} {F : List HP} (h : Pick L A F) : Pick (B :: L) A (B :: F)
theorem Pick.stars {w : World} {L F : List HP} {A : HP} (h : Pick L A F) : ∀ S : Nat → Prop, Stars L S w → Stars (A :: F) S w := by
  induction h with
  | hd => exact fun _ H => H
  | tl _ ih => exact fun _ H => (H.under fun _ k => ih _ k).swap
theorem Pick.st {w : World} {L F : List HP} {A : HP} (h : Pick L A F) (H : St c L w) : St c (A :: F) w := ⟨H.con, h.stars _ H.stars⟩
/-- Some parties out of many, in an order of one's own. -/
inductive Sel : List HP → List HP → Prop where
  | nil {L : List HP} : Sel L []
  | cons {L F T : List HP} {A : HP} (h : Pick L A F) (k : Sel F T) : Sel L (A :: T)
  | own0 {L T : List HP} {e : TypeId} {size : Nat} (k : Sel L T) : Sel L (OwnP e size (.slice none 0 0) 0 [] :: T)
  | tl {L T : List HP} {A : HP} (k : Sel L T) : Sel (A :: L) T
  | imp {L F T : List HP} {A A' : HP} (h : Pick L A F) (i : ∀ h, A h → A' h) (k : Sel F T) : Sel L (A' :: T)
theorem Sel.stars {w : World} {L T : List HP} (h : Sel L T) : ∀ S : Nat → Prop, Stars L S w → Stars T S w := by
  induction h with
  | nil => exact fun _ _ => trivial
  | cons h _ ih => exact fun _ H => (h.stars _ H).under fun _ k => ih _ k
  | own0 _ ih => exact fun _ H => ⟨fun _ => none, OwnP.nil _ _ _, (fun _ _ e => by cases e), ih _ (H.mono (fun _ k => ⟨k, rfl⟩) fun _ _ _ e => e)⟩
  | tl _ ih => exact fun _ H => ih _ H.tail
  | imp h i _ ih =>
    intro _ H
    obtain ⟨h0, a, l, r⟩ := (h.stars _ H).under fun _ k => ih _ k
    exact ⟨h0, i _ a, l, r⟩
theorem Sel.st {L T : List HP} (h : Sel L T) {w : World} (H : St c L w) : St c T w := ⟨H.con, h.stars _ H.stars⟩
theorem sel_all {L : List HP} : Sel L L := by
  induction L with
  | nil => exact .nil
  | cons _ _ ih => exact .cons .hd ih

theorem has_hd {b : Nat} {o : Obj} : Has (St c (Pt b o :: L)) b o := fun _ H => H.pt
theorem has_tl {b : Nat} {o : Obj} (h : Has (St c L) b o) : Has (St c (A :: L)) b o := fun _ H => h _ H.tail
theorem hasCell_tl {a : Addr} {v : Value} (h : HasCell (St c L) a v) : HasCell (St c (A :: L)) a v := fun _ H => h _ H.tail
theorem hasCells_tl {a : Addr} {cs : List Value} (h : HasCells (St c L) a cs) : HasCells (St c (A :: L)) a cs := fun i u e => hasCell_tl (h i u e)
theorem hasCell_bl {H : World → Prop} {b o : Nat} {T : TypeId} {fr : Nat × Nat} {C : Array Value} {v : Value} (h : Has H b (.cells C T fr)) (hv : C.toList[o]? = some v) : HasCell H ⟨b, o, none⟩ v := fun w k => by
  rw [cell_of_row w b o C T fr (h w k)]; simpa using hv
theorem hasCells_bl {H : World → Prop} {b o : Nat} {T : TypeId} {fr : Nat × Nat} {C : Array Value} {cs : List Value} (h : Has H b (.cells C T fr)) (hv : (C.toList.drop o).take cs.length = cs) : HasCells H ⟨b, o, none⟩ cs := fun i u e w k => by
  rw [add_mid, cell_of_row w b (o + i) C T fr (h w k)]
  rw [← hv, List.getElem?_take] at e
  split at e
  · rw [List.getElem?_drop] at e; simpa using e
  · cases e
theorem hasCells_all {H : World → Prop} {b T : Nat} {fr : Nat × Nat} {cs : List Value} (h : Has H b (.cells cs.toArray T fr)) : HasCells H ⟨b, 0, none⟩ cs := hasCells_bl h (by simp)
theorem hasCell_old {w0 : World} {a : Addr} {v : Value} (h : w0.cell? a = some v) : HasCell (St c (Old w0 :: L)) a v := fun w H => by
  rw [World.cell?_of_block (w := w0) (H.old _ (World.block_lt_of_cell? w0 _ h))]; exact h
theorem hasCells_old {w0 : World} {a : Addr} {cs : List Value} (h : ∀ i u, cs[i]? = some u → w0.cell? (a.add i) = some u) : HasCells (St c (Old w0 :: L)) a cs := fun i u e => hasCell_old (h i u e)

/-- Cells are stored into a block. -/
inductive Upd : List HP → Nat → TypeId → List Value → List Value → List HP → Prop where
  | hd {L : List HP} {b : Nat} {T : TypeId} {cs cs' : List Value} : Upd (Bl b T cs :: L) b T cs cs' (Bl b T cs' :: L)
  | tl {L L' : List HP} {A : HP} {b : Nat} {T : TypeId} {cs cs' : List Value} (h : Upd L b T cs cs' L') : Upd (A :: L) b T cs cs' (A :: L')
theorem Upd.pick {L L' : List HP} {b : Nat} {T : TypeId} {cs cs' : List Value} (h : Upd L b T cs cs' L') : ∃ F, (∀ (w : World) (S : Nat → Prop), Stars L S w → Stars (Bl b T cs :: F) S w) ∧ ∀ (w : World) (S : Nat → Prop), Stars (Bl b T cs' :: F) S w → Stars L' S w := by
  induction h with
  | hd => exact ⟨_, fun _ _ h => h, fun _ _ h => h⟩
  | tl _ ih =>
    obtain ⟨F, h1, h2⟩ := ih
    exact ⟨_, fun _ _ k => (k.under fun _ k => h1 _ _ k).swap, fun _ _ k => k.swap.under fun _ k => h2 _ _ k⟩
theorem Upd.has {L L' : List HP} {b : Nat} {T : TypeId} {cs cs' : List Value} (h : Upd L b T cs cs' L') : Has (St c L) b (.cells cs.toArray T (0, 0)) := fun w H => by
  obtain ⟨F, h1, _⟩ := h.pick
  exact St.pt (c := c) ⟨H.con, h1 _ _ H.stars⟩
theorem Upd.row {L L' : List HP} {b : Nat} {T : TypeId} {cs cs' : List Value} (h : Upd L b T cs cs' L') {w : World} (H : St c L w) : St c L' (w.setRow b cs'.toArray) := by
  obtain ⟨F, h1, h2⟩ := h.pick
  have k := St.setRowPt (c := c) (L := F) ⟨H.con, h1 _ _ H.stars⟩ cs'.toArray
  exact ⟨k.con, h2 _ _ k.stars⟩
theorem Upd.cell {L L' : List HP} {b j : Nat} {T : TypeId} {cs : List Value} {v : Value} (h : Upd L b T cs (cs.set j v) L') {w : World} (H : St c L w) : St c L' (w.setCell ⟨b, j, none⟩ v) := by
  obtain ⟨F, h1, h2⟩ := h.pick
  have k := St.setPt (c := c) (L := F) ⟨H.con, h1 _ _ H.stars⟩ j v
  rw [List.setIfInBounds_toArray] at k
  exact ⟨k.con, h2 _ _ k.stars⟩
end

/-! ### Operations -/
/-- The operation yields v and leaves the world. -/
def Y (P : Program) (H : World → Prop) (E : Env) (o : Oper) (v : Value) : Prop := ∀ N a w, Fr N E a → H w → (execOp a.eval o).run P w = .ok (.value v) w
/-- The operation acts: it yields r x, and the parties are L' x then. -/
def OW (P : Program) (N : Nat) (c : Con) (E : Env) (L : List HP) (o : Oper) {β : Type} (r : β → Value) (L' : β → List HP) : Prop :=
  ∀ (Q : Exit → Act → World → Prop) (K : Act → World → Prop) (a : Act) (w : World), Fr N E a → St c L w → (∀ x w1, St c (L' x) w1 → K (a.put o.dst (r x)) w1) → o.wp P a w K Q

section
variable {P : Program} {N : Nat} {c : Con} {E : Env} {L : List HP} {Q : Exit → Act → World → Prop} {ops : Array Oper}
def W (P : Program) (N : Nat) (c : Con) (Q : Exit → Act → World → Prop) (code : Code) (E : Env) (L : List HP) : Prop := ∀ a w, Fr N E a → St c L w → code.wp P Q a w
def WL (P : Program) (N : Nat) (c : Con) (ops : Array Oper) (Q : Exit → Act → World → Prop) (l : List Oper) (E : Env) (L : List HP) : Prop := ∀ a w, Fr N E a → St c L w → wpList P ops Q l a w
def WP (P : Program) (N : Nat) (c : Con) (ops : Array Oper) (Q : Exit → Act → World → Prop) (R : List HP) (er : Nat → Bool) (p : Plan) (E : Env) (L : List HP) : Prop :=
  ∀ a w, Fr N E a → St c L w → wpPlan P ops Q er p (St c R) a w
def X (N : Nat) (c : Con) (Q : Exit → Act → World → Prop) (e : Exit) (E : Env) (L : List HP) : Prop := ∀ a w, Fr N E a → St c L w → Q e a w

theorem Y.ow {E : Env} {o : Oper} {v : Value} (h : Y P (St c L) E o v) : OW P N c E L o (fun _ : Unit => v) fun _ => L := fun Q K a w hf H hk => by
  unfold Oper.wp
  rw [h N a w hf H, Oper.upon_value]
  exact hk () w H

/-! In a list -/
theorem wl_nil (h : X N c Q .normal E L) : WL P N c ops Q [] E L := h
section
variable {d : Nat} {op : Op} {ty : TypeId} {pos : String} {aft : Array Edge} {rest : List Oper}
theorem wl_y {v : Value} (hy : Y P (St c L) E ⟨some d, op, ty, pos, aft, none⟩ v) (hd : Nat.blt d N = true) (h : WL P N c ops Q rest ((d, v) :: E) L) :
    WL P N c ops Q (⟨some d, op, ty, pos, aft, none⟩ :: rest) E L := fun a w hf H =>
  wpList_plain rfl fun K hK => by
    unfold Oper.wp
    rw [hy N a w hf H, Oper.upon_value]
    exact hK _ _ (h _ _ (hf.put hd) H)
theorem wl_ow {β : Type} {r : β → Value} {L' : β → List HP} (ho : OW P N c E L ⟨some d, op, ty, pos, aft, none⟩ r L') (hd : Nat.blt d N = true) (h : ∀ x, WL P N c ops Q rest ((d, r x) :: E) (L' x)) :
    WL P N c ops Q (⟨some d, op, ty, pos, aft, none⟩ :: rest) E L := fun a w hf H =>
  wpList_plain rfl fun K hK => ho Q K a w hf H fun x _ H' => hK _ _ (h x _ _ (hf.put hd) H')
theorem wl_ow0 {r : Value} {L' : List HP} (ho : OW P N c E L ⟨some d, op, ty, pos, aft, none⟩ (fun _ : Unit => r) fun _ => L') (hd : Nat.blt d N = true) (h : WL P N c ops Q rest ((d, r) :: E) L') :
    WL P N c ops Q (⟨some d, op, ty, pos, aft, none⟩ :: rest) E L := wl_ow ho hd fun _ => h
theorem wl_os {r : Value} {L' : List HP} (ho : OW P N c E L ⟨none, op, ty, pos, aft, none⟩ (fun _ : Unit => r) fun _ => L') (h : WL P N c ops Q rest E L') :
    WL P N c ops Q (⟨none, op, ty, pos, aft, none⟩ :: rest) E L := fun a w hf H =>
  wpList_plain rfl fun K hK => ho Q K a w hf H fun _ _ H' => hK _ _ (h _ _ hf H')
/-- The slot of a guard. -/
def guardSlot (ops : Array Oper) (i : Nat) : Option Nat := (ops[i]?).bind (·.dst)
theorem wanted_of {N : Nat} {E : Env} {a : Act} {o : Oper} {i t : Nat} {b b' : Bool} (hf : Fr N E a) (hg : o.guard = some (i, b)) (hs : guardSlot ops i = some t) (hl : look E t = some (.bool b')) :
    Region.wanted o (yielded ops a.tmps) = (b' == b) := by
  have h1 := hf.get t _ hl
  unfold guardSlot at hs
  cases ho : ops[i]? with
  | none => rw [ho] at hs; cases hs
  | some oi =>
    rw [ho] at hs
    simp only [Option.bind_some] at hs
    have h2 : a.tmps[t]? = some (.bool b') := by
      rw [Array.getD_eq_getD_getElem?] at h1
      cases e : a.tmps[t]? with
      | none => rw [e] at h1; cases h1
      | some u => rw [e] at h1; exact congrArg some h1
    simp [Region.wanted, hg, yielded, ho, hs, h2]
/-- A guard that is decided. -/
theorem wl_in {i t : Nat} {b : Bool} {dst : Option Nat} (hs : guardSlot ops i = some t) (hl : look E t = some (.bool b)) (h : WL P N c ops Q (⟨dst, op, ty, pos, aft, none⟩ :: rest) E L) :
    WL P N c ops Q (⟨dst, op, ty, pos, aft, some (i, b)⟩ :: rest) E L := fun a w hf H => by
  have h0 := h a w hf H
  have hw := wanted_of (o := ⟨dst, op, ty, pos, aft, some (i, b)⟩) hf rfl hs hl
  unfold wpList at h0 ⊢
  rw [if_pos (by simp [Region.wanted])] at h0
  rw [if_pos (by rw [hw]; simp)]
  exact h0
theorem wl_out {i t : Nat} {b b' : Bool} (hs : guardSlot ops i = some t) (hl : look E t = some (.bool b')) (hb : (b' == b) = false) (hd : Nat.blt d N = true) (h : WL P N c ops Q rest ((d, undef) :: E) L) :
    WL P N c ops Q (⟨some d, op, ty, pos, aft, some (i, b)⟩ :: rest) E L := fun a w hf H => by
  have hw := wanted_of (o := ⟨some d, op, ty, pos, aft, some (i, b)⟩) hf rfl hs hl
  unfold wpList
  rw [if_neg (by rw [hw, hb]; simp)]
  exact h _ _ (hf.put hd) H
theorem wl_out0 {i t : Nat} {b b' : Bool} (hs : guardSlot ops i = some t) (hl : look E t = some (.bool b')) (hb : (b' == b) = false) (h : WL P N c ops Q rest E L) :
    WL P N c ops Q (⟨none, op, ty, pos, aft, some (i, b)⟩ :: rest) E L := fun a w hf H => by
  have hw := wanted_of (o := ⟨none, op, ty, pos, aft, some (i, b)⟩) hf rfl hs hl
  unfold wpList
  rw [if_neg (by rw [hw, hb]; simp)]
  exact h _ _ hf H
/-- A guard that has no value: it is not wanted. -/
theorem wanted_undef {N : Nat} {E : Env} {a : Act} {o : Oper} {i t : Nat} {b : Bool} (hf : Fr N E a) (hg : o.guard = some (i, b)) (hs : guardSlot ops i = some t) (hl : look E t = some undef) :
    Region.wanted o (yielded ops a.tmps) = false := by
  have h1 := hf.get t _ hl
  unfold guardSlot at hs
  cases ho : ops[i]? with
  | none => rw [ho] at hs; cases hs
  | some oi =>
    rw [ho] at hs
    simp only [Option.bind_some] at hs
    rw [Array.getD_eq_getD_getElem?] at h1
    cases e : a.tmps[t]? with
    | none => simp [Region.wanted, hg, yielded, ho, hs, e]
    | some v =>
      rw [e] at h1
      obtain rfl : v = undef := h1
      simp [Region.wanted, hg, yielded, ho, hs, e, undef]
theorem wl_outU {i t : Nat} {b : Bool} (hs : guardSlot ops i = some t) (hl : look E t = some undef) (hd : Nat.blt d N = true) (h : WL P N c ops Q rest ((d, undef) :: E) L) :
    WL P N c ops Q (⟨some d, op, ty, pos, aft, some (i, b)⟩ :: rest) E L := fun a w hf H => by
  have hw := wanted_undef (o := ⟨some d, op, ty, pos, aft, some (i, b)⟩) hf rfl hs hl
  unfold wpList
  rw [if_neg (by rw [hw]; simp)]
  exact h _ _ (hf.put hd) H
/-- A guard parts the ways. -/
theorem wl_part {i t : Nat} {b : Bool} {p : Prop} [Decidable p] {dst : Option Nat} (hs : guardSlot ops i = some t) (hl : look E t = some (.bool (decide p)))
    (h1 : p → WL P N c ops Q (⟨dst, op, ty, pos, aft, some (i, b)⟩ :: rest) ((t, .bool true) :: E) L) (h2 : ¬ p → WL P N c ops Q (⟨dst, op, ty, pos, aft, some (i, b)⟩ :: rest) ((t, .bool false) :: E) L) :
    WL P N c ops Q (⟨dst, op, ty, pos, aft, some (i, b)⟩ :: rest) E L := fun a w hf H => by
  have _ := hs
  have more : ∀ b, decide p = b → Fr N ((t, .bool b) :: E) a := fun b e => ⟨hf.defers, hf.size, fun s v hv => by
    by_cases e' : t = s
    · subst e'; rw [look_hit] at hv; cases hv; rw [← e]; exact hf.get t _ hl
    · rw [look_miss e'] at hv; exact hf.get s v hv⟩
  by_cases hp : p
  · exact h1 hp a w (more true (by simpa using hp)) H
  · exact h2 hp a w (more false (by simpa using hp)) H
end

section
variable {d : Nat} {op : Op} {ty : TypeId} {pos : String} {aft : Array Edge} {rest : List Oper}
theorem wl_part_t {i t : Nat} {b : Bool} {p : Prop} [Decidable p] {dst : Option Nat} (hs : guardSlot ops i = some t) (hl : look E t = some (.bool (decide p))) (h : p)
    (h1 : WL P N c ops Q (⟨dst, op, ty, pos, aft, some (i, b)⟩ :: rest) ((t, .bool true) :: E) L) : WL P N c ops Q (⟨dst, op, ty, pos, aft, some (i, b)⟩ :: rest) E L := wl_part hs hl (fun _ => h1) fun k => absurd h k
theorem wl_part_f {i t : Nat} {b : Bool} {p : Prop} [Decidable p] {dst : Option Nat} (hs : guardSlot ops i = some t) (hl : look E t = some (.bool (decide p))) (h : ¬ p)
    (h1 : WL P N c ops Q (⟨dst, op, ty, pos, aft, some (i, b)⟩ :: rest) ((t, .bool false) :: E) L) : WL P N c ops Q (⟨dst, op, ty, pos, aft, some (i, b)⟩ :: rest) E L := wl_part hs hl (fun k => absurd k h) fun _ => h1
/-- A truth value that parts the ways. -/
theorem wl_partB {i t : Nat} {b b' : Bool} {dst : Option Nat} (hs : guardSlot ops i = some t) (hl : look E t = some (.bool b'))
    (h1 : b' = true → WL P N c ops Q (⟨dst, op, ty, pos, aft, some (i, b)⟩ :: rest) ((t, .bool true) :: E) L) (h2 : b' = false → WL P N c ops Q (⟨dst, op, ty, pos, aft, some (i, b)⟩ :: rest) ((t, .bool false) :: E) L) :
    WL P N c ops Q (⟨dst, op, ty, pos, aft, some (i, b)⟩ :: rest) E L :=
  wl_part (p := b' = true) hs (by rw [hl]; cases b' <;> rfl) h1 fun k => h2 (by cases b' <;> simp_all)
end
theorem exec_guard {ρ : Operand → Value} {d : Option Nat} {op : Op} {ty : TypeId} {pos : String} {aft : Array Edge} (g : Option (Nat × Bool)) : execOp ρ ⟨d, op, ty, pos, aft, g⟩ = execOp ρ ⟨d, op, ty, pos, aft, none⟩ := by
  unfold execOp; rfl
theorem oper_guard {d : Option Nat} {op : Op} {ty : TypeId} {pos : String} {aft : Array Edge} {g : Option (Nat × Bool)} {a : Act} {w : World} {K : Act → World → Prop} (h : Oper.wp P ⟨d, op, ty, pos, aft, none⟩ a w K Q) :
    Oper.wp P ⟨d, op, ty, pos, aft, g⟩ a w K Q := by
  unfold Oper.wp at h ⊢
  rw [exec_guard]
  exact h
/-! In a plan -/
section
variable {d i : Nat} {op : Op} {ty : TypeId} {pos : String} {aft : Array Edge} {R : List HP} {er : Nat → Bool} {r : Plan}
theorem wq_nil (h : X N c Q .normal E L) : WP P N c ops Q R er [] E L := h
theorem wq_y {v : Value} (ho : ops[i]? = some ⟨some d, op, ty, pos, aft, none⟩) (hy : Y P (St c R) E ⟨some d, op, ty, pos, aft, none⟩ v) (hd : Nat.blt d N = true) (h : WP P N c ops Q R er r ((d, v) :: E) L) :
    WP P N c ops Q R er ((i, true) :: r) E L := fun a w hf H =>
  ⟨_, v, ho, .inl ⟨by simp [Region.wanted], fun w' k => hy N a w' hf k⟩, h _ _ (hf.put hd) H⟩
theorem wq_yg {v : Value} {j t : Nat} {b : Bool} (ho : ops[i]? = some ⟨some d, op, ty, pos, aft, some (j, b)⟩) (hs : guardSlot ops j = some t) (hl : look E t = some (.bool b))
    (hy : Y P (St c R) E ⟨some d, op, ty, pos, aft, none⟩ v) (hd : Nat.blt d N = true) (h : WP P N c ops Q R er r ((d, v) :: E) L) :
    WP P N c ops Q R er ((i, true) :: r) E L := fun a w hf H =>
  ⟨_, v, ho, .inl ⟨by rw [wanted_of hf rfl hs hl]; simp, fun w' k => by rw [exec_guard]; exact hy N a w' hf k⟩, h _ _ (hf.put hd) H⟩
theorem wq_out {j t : Nat} {b b' : Bool} (ho : ops[i]? = some ⟨some d, op, ty, pos, aft, some (j, b)⟩) (hs : guardSlot ops j = some t) (hl : look E t = some (.bool b')) (hb : (b' == b) = false)
    (hd : Nat.blt d N = true) (h : WP P N c ops Q R er r ((d, undef) :: E) L) :
    WP P N c ops Q R er ((i, true) :: r) E L := fun a w hf H =>
  ⟨_, undef, ho, .inr ⟨by rw [wanted_of hf rfl hs hl, hb], rfl⟩, h _ _ (hf.put hd) H⟩
theorem wq_part {p : Prop} [Decidable p] {j t : Nat} {b q : Bool} {dst : Option Nat} (ho : ops[i]? = some ⟨dst, op, ty, pos, aft, some (j, b)⟩) (hs : guardSlot ops j = some t) (hl : look E t = some (.bool (decide p)))
    (h1 : p → WP P N c ops Q R er ((i, q) :: r) ((t, .bool true) :: E) L) (h2 : ¬ p → WP P N c ops Q R er ((i, q) :: r) ((t, .bool false) :: E) L) :
    WP P N c ops Q R er ((i, q) :: r) E L := fun a w hf H => by
  have more : ∀ b, decide p = b → Fr N ((t, .bool b) :: E) a := fun b e => ⟨hf.defers, hf.size, fun s v hv => by
    by_cases e' : t = s
    · subst e'; rw [look_hit] at hv; cases hv; rw [← e]; exact hf.get t _ hl
    · rw [look_miss e'] at hv; exact hf.get s v hv⟩
  have _ := ho
  have _ := hs
  by_cases hp : p
  · exact h1 hp a w (more true (by simpa using hp)) H
  · exact h2 hp a w (more false (by simpa using hp)) H
theorem wq_part_t {p : Prop} [Decidable p] {j t : Nat} {b q : Bool} {dst : Option Nat} (ho : ops[i]? = some ⟨dst, op, ty, pos, aft, some (j, b)⟩) (hs : guardSlot ops j = some t) (hl : look E t = some (.bool (decide p))) (h : p)
    (h1 : WP P N c ops Q R er ((i, q) :: r) ((t, .bool true) :: E) L) : WP P N c ops Q R er ((i, q) :: r) E L := wq_part ho hs hl (fun _ => h1) fun k => absurd h k
theorem wq_part_f {p : Prop} [Decidable p] {j t : Nat} {b q : Bool} {dst : Option Nat} (ho : ops[i]? = some ⟨dst, op, ty, pos, aft, some (j, b)⟩) (hs : guardSlot ops j = some t) (hl : look E t = some (.bool (decide p))) (h : ¬ p)
    (h1 : WP P N c ops Q R er ((i, q) :: r) ((t, .bool false) :: E) L) : WP P N c ops Q R er ((i, q) :: r) E L := wq_part ho hs hl (fun k => absurd k h) fun _ => h1
theorem wq_partB {j t : Nat} {b b' q : Bool} {dst : Option Nat} (ho : ops[i]? = some ⟨dst, op, ty, pos, aft, some (j, b)⟩) (hs : guardSlot ops j = some t) (hl : look E t = some (.bool b'))
    (h1 : b' = true → WP P N c ops Q R er ((i, q) :: r) ((t, .bool true) :: E) L) (h2 : b' = false → WP P N c ops Q R er ((i, q) :: r) ((t, .bool false) :: E) L) : WP P N c ops Q R er ((i, q) :: r) E L :=
  wq_part (p := b' = true) ho hs (by rw [hl]; cases b' <;> rfl) h1 fun k => h2 (by cases b' <;> simp_all)
theorem wq_outa {j t : Nat} {b b' : Bool} (ho : ops[i]? = some ⟨some d, op, ty, pos, aft, some (j, b)⟩) (hs : guardSlot ops j = some t) (hl : look E t = some (.bool b')) (hb : (b' == b) = false)
    (hd : Nat.blt d N = true) (hS : needB er i r = true → Sel L R) (h : WP P N c ops Q R er r ((d, undef) :: E) L) :
    WP P N c ops Q R er ((i, false) :: r) E L := fun a w hf H =>
  ⟨_, ho, by rw [if_neg (by rw [wanted_of hf rfl hs hl, hb]; simp)]; exact ⟨fun e => (hS e).st H, h _ _ (hf.put hd) H⟩⟩
end

/-! Of code -/
theorem w_region {id : Nat} {l : List Oper} (h : WL P N c l.toArray Q l E L) : W P N c Q (.region id l.toArray false) E L := fun a w hf H => wp_region_lit (h a w hf H)
theorem w_plan {id : Nat} {ops : Array Oper} (p : Plan) (R : List HP) (hm : P.follows .mixedOrders = true) (hB : planB .any ops p = true) (hR : Sel L R)
    (h : WP P N c ops (NoPanic Q) R (earlyB .any ops p.looks) p E L) : W P N c Q (.region id ops true) E L := fun a _ hf H =>
  region_plan p (St c R) hm hB (fun _ => (hR.st H).drew) (h a _ hf H.drew)
theorem w_seq {x y : Code} (h : W P N c (Exit.then (fun a w => y.wp P Q a w) Q) x E L) : W P N c Q (x.seq y) E L := fun a w hf H => wp_seq (h a w hf H)
theorem w_skip (h : X N c Q .normal E L) : W P N c Q .skip E L := fun a w hf H => wp_skip (h a w hf H)
theorem w_ret (h : X N c Q .ret E L) : W P N c Q .ret E L := fun a w hf H => wp_ret (h a w hf H)
theorem w_exit {id : Nat} (h : X N c Q (.exit id) E L) : W P N c Q (.exit id) E L := fun a w hf H => wp_exit (h a w hf H)
theorem w_block {id : Nat} {x : Code} (h : W P N c (Exit.inBlock id Q) x E L) : W P N c Q (.block id x) E L := fun a w hf H => wp_block (h a w hf H)
theorem w_cond {t : Nat} {x y : Code} {p : Prop} [Decidable p] (hl : look E t = some (.bool (decide p))) (h1 : p → W P N c Q x E L) (h2 : ¬ p → W P N c Q y E L) : W P N c Q (.cond (.tmp t) x y) E L := fun a w hf H => by
  by_cases hp : p
  · exact wp_cond_true (by rw [ev_tmp hl N a hf]; simp [hp]) (h1 hp a w hf H)
  · exact wp_cond_false (by rw [ev_tmp hl N a hf]; simp [hp]) (h2 hp a w hf H)
theorem w_true {t : Nat} {x y : Code} (hl : look E t = some (.bool true)) (h1 : W P N c Q x E L) : W P N c Q (.cond (.tmp t) x y) E L := fun a w hf H =>
  wp_cond_true (ev_tmp hl N a hf) (h1 a w hf H)
theorem w_false {t : Nat} {x y : Code} (hl : look E t = some (.bool false)) (h1 : W P N c Q y E L) : W P N c Q (.cond (.tmp t) x y) E L := fun a w hf H =>
  wp_cond_false (ev_tmp hl N a hf) (h1 a w hf H)
theorem w_bool {t : Nat} {x y : Code} {b : Bool} (hl : look E t = some (.bool b)) (h1 : b = true → W P N c Q x E L) (h2 : b = false → W P N c Q y E L) : W P N c Q (.cond (.tmp t) x y) E L := fun a w hf H => by
  cases b
  · exact wp_cond_false (ev_tmp hl N a hf) (h2 rfl a w hf H)
  · exact wp_cond_true (ev_tmp hl N a hf) (h1 rfl a w hf H)
theorem W.weak {code : Code} {E' : Env} {L' : List HP} (h : W P N c Q code E' L') (hE : Sub E' E) (hL : Sel L L') : W P N c Q code E L := fun a w hf H => h a w (hf.sub hE) (hL.st H)

/-! Where a piece ends -/
theorem x_then {y : Code} (h : W P N c Q y E L) : X N c (Exit.then (fun a w => y.wp P Q a w) Q) .normal E L := h
theorem x_thenE {K : Act → World → Prop} {id : Nat} (h : X N c Q (.exit id) E L) : X N c (Exit.then K Q) (.exit id) E L := h
theorem x_thenR {K : Act → World → Prop} (h : X N c Q .ret E L) : X N c (Exit.then K Q) .ret E L := h
theorem x_block {id : Nat} (h : X N c Q .normal E L) : X N c (Exit.inBlock id Q) .normal E L := h
theorem x_blockR {id : Nat} (h : X N c Q .ret E L) : X N c (Exit.inBlock id Q) .ret E L := h
theorem x_blockE {id : Nat} (h : X N c Q .normal E L) : X N c (Exit.inBlock id Q) (.exit id) E L := fun a w hf H => by
  show (if id = id then _ else _); rw [if_pos rfl]; exact h a w hf H
theorem x_blockE' {id id' : Nat} (hi : Nat.beq id' id = false) (h : X N c Q (.exit id') E L) : X N c (Exit.inBlock id Q) (.exit id') E L := fun a w hf H => by
  have hne : id' ≠ id := fun e => by rw [e, Nat.beq_refl] at hi; cases hi
  show (if id' = id then _ else _); rw [if_neg hne]; exact h a w hf H
theorem x_noPanic (h : X N c Q .normal E L) : X N c (NoPanic Q) .normal E L := h

/-! Meetings and loops -/
/-- One of the states of a family. -/
def Met {α : Type} (N : Nat) (c : Con) (F : α → Prop) (Ev : α → Env) (Ls : α → List HP) (a : Act) (w : World) : Prop := ∃ x, F x ∧ Fr N (Ev x) a ∧ St c (Ls x) w
theorem x_met {α : Type} {F : α → Prop} {Ev : α → Env} {Ls : α → List HP} (x : α) (hF : F x) (hE : Sub (Ev x) E) (hL : Sel L (Ls x)) : X N c (Exit.then (Met N c F Ev Ls) Q) .normal E L := fun _ _ hf H =>
  ⟨x, hF, hf.sub hE, hL.st H⟩
theorem w_meet {x y : Code} {α : Type} (F : α → Prop) (Ev : α → Env) (Ls : α → List HP) (h : W P N c (Exit.then (Met N c F Ev Ls) Q) x E L) (k : ∀ s, F s → W P N c Q y (Ev s) (Ls s)) : W P N c Q (x.seq y) E L := fun a w hf H =>
  wp_seq (Code.wp_mono (fun e a w q => by
    cases e <;> first
      | (obtain ⟨s, h1, h2, h3⟩ := q; exact k s h1 a w h2 h3)
      | exact q) (h a w hf H))
/-- The state of a loop's next round. -/
def Again {α : Type} (N : Nat) (c : Con) (F : α → Prop) (Ev : α → Env) (Ls : α → List HP) (μ : α → Nat) (n : Nat) (a : Act) (w : World) : Prop := ∃ x, F x ∧ μ x < n ∧ Fr N (Ev x) a ∧ St c (Ls x) w
theorem x_again {α : Type} {F : α → Prop} {Ev : α → Env} {Ls : α → List HP} {μ : α → Nat} {n : Nat} (x : α) (hF : F x) (hμ : μ x < n) (hE : Sub (Ev x) E) (hL : Sel L (Ls x)) :
    X N c (Exit.then (Again N c F Ev Ls μ n) Q) .normal E L := fun _ _ hf H => ⟨x, hF, hμ, hf.sub hE, hL.st H⟩
theorem w_loop {body : Code} {α : Type} (F : α → Prop) (Ev : α → Env) (Ls : α → List HP) (μ : α → Nat) (x0 : α) (h0 : F x0) (hE : Sub (Ev x0) E) (hL : Sel L (Ls x0))
    (round : ∀ x, F x → W P N c (Exit.then (Again N c F Ev Ls μ (μ x)) Q) body (Ev x) (Ls x)) : W P N c Q (.loop body) E L := fun a w hf H => by
  intro b k cs
  have key : ∀ n x a w, μ x = n → F x → Fr N (Ev x) a → St c (Ls x) w →
      ∃ e a' w', Q e a' w' ∧ Arrives P (lone (b.at a (.code body :: .inLoop body :: k)) cs w) b k cs e a' w' := by
    intro n
    induction n using Nat.strongRecOn with
    | _ n ih =>
      intro x a w hn hF hfr hst
      obtain ⟨e, a₁, w₁, hq, harr⟩ := round x hF a w hfr hst b (.inLoop body :: k) cs
      cases e with
      | normal =>
        obtain ⟨x₁, hF₁, hlt, hfr₁, hst₁⟩ := hq
        obtain ⟨e₂, a₂, w₂, hq₂, harr₂⟩ := ih (μ x₁) (hn ▸ hlt) x₁ a₁ w₁ rfl hF₁ hfr₁ hst₁
        exact ⟨e₂, a₂, w₂, hq₂, .of_steps (Steps.trans harr (.one step_inLoop)) harr₂⟩
      | exit id => exact ⟨_, a₁, w₁, hq, .pass (x := .inLoop body) rfl (fun _ _ => .inl (by simp)) harr⟩
      | goto l => exact ⟨_, a₁, w₁, hq, .pass (x := .inLoop body) rfl (fun _ _ => .inl (by simp)) harr⟩
      | ret => exact ⟨_, a₁, w₁, hq, .pass (x := .inLoop body) rfl (fun _ _ => .inl (by simp)) harr⟩
      | panic ch => exact ⟨_, a₁, w₁, hq, .pass (x := .inLoop body) rfl (fun _ _ => .inl (by simp)) harr⟩
      | outgrown => exact ⟨_, a₁, w₁, hq, .pass (x := .inLoop body) rfl (fun _ _ => .inl (by simp)) harr⟩
  obtain ⟨e, a', w', hq, harr⟩ := key _ x0 a w rfl h0 (hf.sub hE) (hL.st H)
  exact ⟨e, a', w', hq, .of_steps (.one step_loop) harr⟩

/-! Of functions -/
/-- The slots at a function's start. -/
def args0 : Nat → List Value → Env
  | _, [] => []
  | i, v :: r => (i, v) :: args0 (i + 1) r
theorem look_args : ∀ (vs : List Value) (i t : Nat) (v : Value), look (args0 i vs) t = some v → ∃ k, t = i + k ∧ vs[k]? = some v
  | [], _, _, _, h => by cases h
  | u :: r, i, t, v, h => by
    by_cases e : i = t
    · subst e
      rw [args0, look_hit] at h
      exact ⟨0, rfl, by simpa using h⟩
    · rw [args0, look_miss e] at h
      obtain ⟨k, h1, h2⟩ := look_args r (i + 1) t v h
      exact ⟨k + 1, by omega, by simpa using h2⟩
theorem calls_w {f : FuncId} {fn : Func} {code : Code} {vs : List Value} {R : Ending → World → Prop} (hf : P.funcs[f]? = some fn) (hb : fn.body = some code) (hN : fn.ntmps = N) (hv : Nat.ble vs.length N = true)
    (h : W P N c (bodyPost P fn R) code (args0 0 vs) L) : ∀ w, St c L w → Calls P f vs.toArray w R := fun w H => by
  have hv' : vs.length ≤ N := by simpa using hv
  refine calls_of_wp hf hb (h _ w ⟨rfl, by simp [hN]; omega, fun t v hl => ?_⟩ H)
  obtain ⟨k, h1, h2⟩ := look_args vs 0 t v hl
  have hk : k < vs.length := (List.getElem?_eq_some_iff.1 h2).1
  have : t = k := by omega
  subst this
  have h3 : (vs.toArray ++ Array.replicate (fn.ntmps - vs.toArray.size) undef)[t]? = some v := by
    rw [Array.getElem?_append_left (by simpa using hk)]; simpa using h2
  rw [Array.getD_eq_getD_getElem?, h3]; rfl
theorem x_ret0 {fn : Func} {R : Ending → World → Prop} (hr : fn.results = #[]) (h : ∀ w, St c L w → R (.returned (.tuple #[])) w) : X N c (bodyPost P fn R) .ret E L := fun _ w hf H =>
  bodyPost_ret (v := .tuple #[]) (results_none hr _ _ _) hf.defers (h w H)
theorem x_end0 {fn : Func} {R : Ending → World → Prop} (hr : fn.results = #[]) (h : ∀ w, St c L w → R (.returned (.tuple #[])) w) : X N c (bodyPost P fn R) .normal E L := fun _ w hf H =>
  bodyPost_end (v := .tuple #[]) (results_none hr _ _ _) hf.defers (h w H)
theorem x_ret1 {fn : Func} {R : Ending → World → Prop} {t : Nat} {v : Value} (hr : fn.results = #[.tmp t]) (hl : look E t = some v) (h : ∀ w, St c L w → R (.returned v) w) : X N c (bodyPost P fn R) .ret E L := fun a w hf H =>
  bodyPost_ret (v := v) (by rw [results_tmp hr, hf.get t v hl]) hf.defers (h w H)
theorem x_ret2 {fn : Func} {R : Ending → World → Prop} {t u : Nat} {v v' : Value} (hr : fn.results = #[.tmp t, .tmp u]) (hl : look E t = some v) (hl' : look E u = some v')
    (h : ∀ w, St c L w → R (.returned (.tuple #[v, v'])) w) : X N c (bodyPost P fn R) .ret E L := fun a w hf H =>
  bodyPost_ret (v := .tuple #[v, v']) (by rw [results_tmp2 hr, hf.get t v hl, hf.get u v' hl']) hf.defers (h w H)
end
end Go.Proofs.Ytjofjkjghakcoaa

/- Bytes as cells. No program in sight. -/
namespace Go.Proofs.Ytjofjkjghakcoaa

def bv (b : UInt8) : Value := .int .u8 (b.toNat : Int)
def bvs (l : List UInt8) : List Value := l.map bv
/-- Bytes with noughts behind them. -/
def zeros (n : Nat) : List UInt8 := List.replicate n 0
theorem zeros_length (n : Nat) : (zeros n).length = n := List.length_replicate ..
theorem bvs_oneCell (l : List UInt8) : ∀ v ∈ bvs l, v.oneCell' = true := by
  intro v hv
  obtain ⟨b, _, rfl⟩ := List.mem_map.1 hv
  rfl
theorem bvs_length (l : List UInt8) : (bvs l).length = l.length := by simp [bvs]
theorem bvs_append (l m : List UInt8) : bvs (l ++ m) = bvs l ++ bvs m := by simp [bvs]
end Go.Proofs.Ytjofjkjghakcoaa

/- The operations, by what is known of their operands. No program in sight. -/
namespace Go.Proofs.Ytjofjkjghakcoaa
open Go.RowKit

/-! ### What is known of types (laid by program for each seat) -/
class TInt (P : Program) (t : TypeId) (k : outParam IntKind) : Prop where
  u : P.underlying t = some (.int k)
class TBool (P : Program) (t : TypeId) : Prop where
  u : P.underlying t = some .bool
class TStr (P : Program) (t : TypeId) : Prop where
  u : P.underlying t = some .string
class TPtr (P : Program) (t : TypeId) (e : outParam TypeId) : Prop where
  u : P.underlying t = some (.pointer e)
/-- A type of one cell. -/
class TOne (P : Program) (t : TypeId) (z : outParam Value) : Prop where
  u : (P.underlying t).map (·.isRow) = some false
  i : (P.info? t).map (fun i => (i.zero, i.size)) = some (some z, 1)
  one : z.cells = #[z]
/-- A struct or an array. -/
class TRow (P : Program) (t : TypeId) (n : outParam Nat) : Prop where
  u : (P.underlying t).map (·.isRow) = some true
  i : (P.info? t).map (·.size) = some n
class TZero (P : Program) (t : TypeId) (z : outParam (List Value)) : Prop where
  i : (P.info? t).map (fun i => i.zero) = some (some (.agg z.toArray))
class TSlice (P : Program) (t : TypeId) (e n bytes : outParam Nat) (z : outParam Value) : Prop where
  u : P.underlying t = some (.slice e)
  i : (P.info? e).map (fun i => (i.zero, i.size, i.bytes)) = some (some z, n, bytes)
  zs : z.cells.size = n
def zeroOf (P : Program) (t : TypeId) : Value := ((P.info? t).bind (·.zero)).getD undef
class TArr (P : Program) (t : TypeId) (len e n : outParam Nat) : Prop where
  u : P.underlying t = some (.array len e)
  i : (P.info? e).map (·.size) = some n
class TField (P : Program) (s f : Nat) (off n : outParam Nat) : Prop where
  u : ∃ fs fd, P.underlying s = some (.struct fs) ∧ fs[f]? = some fd ∧ fd.offset = off ∧ (P.info? fd.type).map (·.size) = some n ∧ n ≠ 0

theorem run_size {P : Program} {t n : Nat} (h : (P.info? t).map (·.size) = some n) (w : World) : Sem.run P (sizeOf t) w = .ok n w := by
  cases hq : P.info? t with
  | none => simp [hq] at h
  | some i => simp [sizeOf, typeInfo, program, Sem.run, hq] at h ⊢; exact h
class TPlaces (P : Program) (t : TypeId) (ps : outParam (List (Nat × Nat))) (z : outParam (List Value)) : Prop where
  u : ∃ fs, P.underlying t = some (.struct fs) ∧ ∀ w, Sem.run P (fs.mapM fun (f : Field) => do pure (f.offset, ← sizeOf f.type)) w = .ok ps.toArray w
  i : (P.info? t).map (·.zero) = some (some (.agg z.toArray))
/-- A string by its bytes. -/
def str (l : List UInt8) : Value := .string ⟨l.toArray⟩

section
variable {P : Program} {H : World → Prop} {E : Env} {d : Option Nat} {ty : TypeId} {pos : String} {aft : Array Edge} {g : Option (Nat × Bool)}

theorem y_move {x : Operand} {v : Value} (hx : Ev E x v) : Y P H E (Oper.mk d (.move x) ty pos aft g) v := fun N a w hf _ => by
  unfold execOp; simp [hx N a hf]
theorem y_assign {x : Operand} {v : Value} (hx : Ev E x v) : Y P H E (Oper.mk d (.assign x) ty pos aft g) v := fun N a w hf _ => by
  unfold execOp; simp [hx N a hf]
theorem y_nilCheck {x : Operand} {p : Addr} (hx : Ev E x (.pointer (some p))) : Y P H E (Oper.mk d (.nilCheck x) ty pos aft g) (.pointer (some p)) := fun N a w hf _ => by
  unfold execOp; simp [hx N a hf]
theorem y_extract {x : Operand} {i : Nat} {vs : Array Value} {v : Value} (hx : Ev E x (.tuple vs)) (hv : vs[i]? = some v) : Y P H E (Oper.mk d (.extract x i) ty pos aft g) v := fun N a w hf _ => by
  unfold execOp; simp [hx N a hf, Instr.extract, hv]
theorem y_ext20 {x : Operand} {v0 v1 : Value} (hx : Ev E x (.tuple #[v0, v1])) : Y P H E (Oper.mk d (.extract x 0) ty pos aft g) v0 := y_extract hx rfl
theorem y_ext21 {x : Operand} {v0 v1 : Value} (hx : Ev E x (.tuple #[v0, v1])) : Y P H E (Oper.mk d (.extract x 1) ty pos aft g) v1 := y_extract hx rfl
theorem y_ext30 {x : Operand} {v0 v1 v2 : Value} (hx : Ev E x (.tuple #[v0, v1, v2])) : Y P H E (Oper.mk d (.extract x 0) ty pos aft g) v0 := y_extract hx rfl
theorem y_ext31 {x : Operand} {v0 v1 v2 : Value} (hx : Ev E x (.tuple #[v0, v1, v2])) : Y P H E (Oper.mk d (.extract x 1) ty pos aft g) v1 := y_extract hx rfl
theorem y_ext32 {x : Operand} {v0 v1 v2 : Value} (hx : Ev E x (.tuple #[v0, v1, v2])) : Y P H E (Oper.mk d (.extract x 2) ty pos aft g) v2 := y_extract hx rfl
theorem y_ext40 {x : Operand} {v0 v1 v2 v3 : Value} (hx : Ev E x (.tuple #[v0, v1, v2, v3])) : Y P H E (Oper.mk d (.extract x 0) ty pos aft g) v0 := y_extract hx rfl
theorem y_ext41 {x : Operand} {v0 v1 v2 v3 : Value} (hx : Ev E x (.tuple #[v0, v1, v2, v3])) : Y P H E (Oper.mk d (.extract x 1) ty pos aft g) v1 := y_extract hx rfl
theorem y_ext42 {x : Operand} {v0 v1 v2 v3 : Value} (hx : Ev E x (.tuple #[v0, v1, v2, v3])) : Y P H E (Oper.mk d (.extract x 2) ty pos aft g) v2 := y_extract hx rfl
theorem y_ext43 {x : Operand} {v0 v1 v2 v3 : Value} (hx : Ev E x (.tuple #[v0, v1, v2, v3])) : Y P H E (Oper.mk d (.extract x 3) ty pos aft g) v3 := y_extract hx rfl
theorem y_pick_t {x y z : Operand} {v : Value} (hx : Ev E x (.bool true)) (hy : Ev E y v) : Y P H E (Oper.mk d (.pick x y z) ty pos aft g) v := fun N a w hf _ => by
  unfold execOp; simp [hx N a hf, hy N a hf, asBool]
theorem y_pick_f {x y z : Operand} {v : Value} (hx : Ev E x (.bool false)) (hz : Ev E z v) : Y P H E (Oper.mk d (.pick x y z) ty pos aft g) v := fun N a w hf _ => by
  unfold execOp; simp [hx N a hf, hz N a hf, asBool]
theorem y_not {x : Operand} {t : TypeId} {p : Prop} [Decidable p] (hx : Ev E x (.bool (decide p))) : Y P H E (Oper.mk d (.unOp .not t x) ty pos aft g) (.bool (decide (¬ p))) := fun N a w hf _ => by
  unfold execOp; simp [hx N a hf, Op.unary]
theorem y_not_b {x : Operand} {t : TypeId} {b b' : Bool} (hx : Ev E x (.bool b)) (hb : (!b) = b') : Y P H E (Oper.mk d (.unOp .not t x) ty pos aft g) (.bool b') := fun N a w hf _ => by
  subst hb; unfold execOp; simp [hx N a hf, Op.unary]
theorem y_not_t {x : Operand} {t : TypeId} (hx : Ev E x (.bool true)) : Y P H E (Oper.mk d (.unOp .not t x) ty pos aft g) (.bool false) := y_not_b hx rfl
theorem y_not_f {x : Operand} {t : TypeId} (hx : Ev E x (.bool false)) : Y P H E (Oper.mk d (.unOp .not t x) ty pos aft g) (.bool true) := y_not_b hx rfl
theorem y_makeFunc {fn : Fn} {xs : Array Operand} {vs : List Value} (hx : Evs E xs vs) : Y P H E (Oper.mk d (.makeFunc fn #[] xs) ty pos aft g) (.func fn #[] vs.toArray) := fun N a w hf _ => by
  unfold execOp; simp [hx N a hf, Instr.makeFunc]

/-! Integers -/
theorem y_add64 {x y : Operand} {t t' : TypeId} {m n : Int} (hx : Ev E x (.int .i64 m)) (hy : Ev E y (.int .i64 n)) (h : -9223372036854775808 ≤ m + n ∧ m + n ≤ 9223372036854775807) :
    Y P H E (Oper.mk d (.binOp .add t x y t') ty pos aft g) (.int .i64 (m + n)) := fun N a w hf _ => by
  unfold execOp; simp [hx N a hf, hy N a hf, eqGuard, binOp, Op.intArith, IntWalk.i64_in (m + n) h]
theorem y_sub64 {x y : Operand} {t t' : TypeId} {m n : Int} (hx : Ev E x (.int .i64 m)) (hy : Ev E y (.int .i64 n)) (h : -9223372036854775808 ≤ m - n ∧ m - n ≤ 9223372036854775807) :
    Y P H E (Oper.mk d (.binOp .sub t x y t') ty pos aft g) (.int .i64 (m - n)) := fun N a w hf _ => by
  unfold execOp; simp [hx N a hf, hy N a hf, eqGuard, binOp, Op.intArith, IntWalk.i64_in (m - n) h]
theorem y_mul64 {x y : Operand} {t t' : TypeId} {m n : Int} (hx : Ev E x (.int .i64 m)) (hy : Ev E y (.int .i64 n)) (h : -9223372036854775808 ≤ m * n ∧ m * n ≤ 9223372036854775807) :
    Y P H E (Oper.mk d (.binOp .mul t x y t') ty pos aft g) (.int .i64 (m * n)) := fun N a w hf _ => by
  unfold execOp; simp [hx N a hf, hy N a hf, eqGuard, binOp, Op.intArith, IntWalk.i64_in (m * n) h]
theorem y_add {k : IntKind} {x y : Operand} {t t' : TypeId} {m n : Int} (hx : Ev E x (.int k m)) (hy : Ev E y (.int k n)) :
    Y P H E (Oper.mk d (.binOp .add t x y t') ty pos aft g) (.int k (k.wrap (m + n))) := fun N a w hf _ => by
  unfold execOp; simp [hx N a hf, hy N a hf, eqGuard, binOp, Op.intArith]
theorem y_sub {k : IntKind} {x y : Operand} {t t' : TypeId} {m n : Int} (hx : Ev E x (.int k m)) (hy : Ev E y (.int k n)) :
    Y P H E (Oper.mk d (.binOp .sub t x y t') ty pos aft g) (.int k (k.wrap (m - n))) := fun N a w hf _ => by
  unfold execOp; simp [hx N a hf, hy N a hf, eqGuard, binOp, Op.intArith]
theorem y_mul {k : IntKind} {x y : Operand} {t t' : TypeId} {m n : Int} (hx : Ev E x (.int k m)) (hy : Ev E y (.int k n)) :
    Y P H E (Oper.mk d (.binOp .mul t x y t') ty pos aft g) (.int k (k.wrap (m * n))) := fun N a w hf _ => by
  unfold execOp; simp [hx N a hf, hy N a hf, eqGuard, binOp, Op.intArith]
theorem y_quo64 {x y : Operand} {t t' : TypeId} {m n : Int} (hx : Ev E x (.int .i64 m)) (hy : Ev E y (.int .i64 n)) (h : 0 ≤ m ∧ m ≤ 9223372036854775807 ∧ 0 < n) :
    Y P H E (Oper.mk d (.binOp .quo t x y t') ty pos aft g) (.int .i64 (m / n)) := fun N a w hf _ => by
  have h1 : m.tdiv n = m / n := Int.tdiv_eq_ediv_of_nonneg h.1
  have h2 : 0 ≤ m / n := Int.ediv_nonneg h.1 (by omega)
  have h3 : m / n ≤ m := Int.ediv_le_self _ h.1
  have h0 : n ≠ 0 := by omega
  unfold execOp; simp [hx N a hf, hy N a hf, eqGuard, binOp, Op.intDiv, h0, h1, IntWalk.i64_in (m / n) ⟨by omega, by omega⟩]
theorem y_rem {k : IntKind} {x y : Operand} {t t' : TypeId} {m n : Int} (hx : Ev E x (.int k m)) (hy : Ev E y (.int k n)) (h : 0 ≤ m ∧ 0 < n) :
    Y P H E (Oper.mk d (.binOp .rem t x y t') ty pos aft g) (.int k (m % n)) := fun N a w hf _ => by
  have h1 : m.tmod n = m % n := Int.tmod_eq_emod_of_nonneg h.1
  have h0 : n ≠ 0 := by omega
  unfold execOp; simp [hx N a hf, hy N a hf, eqGuard, binOp, Op.intDiv, h0, h1]
theorem y_lss {k : IntKind} {x y : Operand} {t t' : TypeId} {m n : Int} (hx : Ev E x (.int k m)) (hy : Ev E y (.int k n)) :
    Y P H E (Oper.mk d (.binOp .lss t x y t') ty pos aft g) (.bool (decide (m < n))) := fun N a w hf _ => by
  unfold execOp; simp [hx N a hf, hy N a hf, eqGuard, binOp, Op.intCmp]
theorem y_leq {k : IntKind} {x y : Operand} {t t' : TypeId} {m n : Int} (hx : Ev E x (.int k m)) (hy : Ev E y (.int k n)) :
    Y P H E (Oper.mk d (.binOp .leq t x y t') ty pos aft g) (.bool (decide (m ≤ n))) := fun N a w hf _ => by
  unfold execOp; simp [hx N a hf, hy N a hf, eqGuard, binOp, Op.intCmp]
theorem y_gtr {k : IntKind} {x y : Operand} {t t' : TypeId} {m n : Int} (hx : Ev E x (.int k m)) (hy : Ev E y (.int k n)) :
    Y P H E (Oper.mk d (.binOp .gtr t x y t') ty pos aft g) (.bool (decide (n < m))) := fun N a w hf _ => by
  unfold execOp; simp [hx N a hf, hy N a hf, eqGuard, binOp, Op.intCmp]
theorem y_geq {k : IntKind} {x y : Operand} {t t' : TypeId} {m n : Int} (hx : Ev E x (.int k m)) (hy : Ev E y (.int k n)) :
    Y P H E (Oper.mk d (.binOp .geq t x y t') ty pos aft g) (.bool (decide (n ≤ m))) := fun N a w hf _ => by
  unfold execOp; simp [hx N a hf, hy N a hf, eqGuard, binOp, Op.intCmp]
theorem y_eql {k : IntKind} {x y : Operand} {t t' : TypeId} {m n : Int} (hx : Ev E x (.int k m)) (hy : Ev E y (.int k n)) :
    Y P H E (Oper.mk d (.binOp .eql t x y t') ty pos aft g) (.bool (decide (m = n))) := fun N a w hf _ => by
  unfold execOp; simp [hx N a hf, hy N a hf, eqGuard, binOp, Op.intCmp]; rfl
theorem y_neq {k : IntKind} {x y : Operand} {t t' : TypeId} {m n : Int} (hx : Ev E x (.int k m)) (hy : Ev E y (.int k n)) :
    Y P H E (Oper.mk d (.binOp .neq t x y t') ty pos aft g) (.bool (decide (m ≠ n))) := fun N a w hf _ => by
  unfold execOp; simp [hx N a hf, hy N a hf, eqGuard, binOp, Op.intCmp]; rfl
theorem y_shr {k k' : IntKind} {x y : Operand} {t t' : TypeId} {m n : Int} (hx : Ev E x (.int k m)) (hy : Ev E y (.int k' n)) (h : 0 ≤ n) (hn : n.toNat ≤ k.bits) :
    Y P H E (Oper.mk d (.binOp .shr t x y t') ty pos aft g) (.int k (m.fdiv (2 ^ n.toNat))) := fun N a w hf _ => by
  have h0 : ¬ n < 0 := by omega
  unfold execOp; simp [hx N a hf, hy N a hf, eqGuard, binOp, Op.shift, h0, Nat.min_eq_left hn]
theorem y_bits {k : IntKind} {x y : Operand} {t t' : TypeId} {m n : Int} {o : BinOp} (ho : o = .and ∨ o = .or ∨ o = .xor ∨ o = .andNot) (hx : Ev E x (.int k m)) (hy : Ev E y (.int k n)) :
    Y P H E (Oper.mk d (.binOp o t x y t') ty pos aft g) (.int k (bits o k m n)) := fun N a w hf _ => by
  rcases ho with rfl | rfl | rfl | rfl <;> (unfold execOp; simp [hx N a hf, hy N a hf, eqGuard, binOp, Op.intBits, bits])
theorem y_conv_int {x : Operand} {t t' : TypeId} {k k' : IntKind} {n : Int} [hs : TInt P t k'] [ht : TInt P t' k] (hx : Ev E x (.int k' n)) :
    Y P H E (Oper.mk d (.convert t t' x) ty pos aft g) (.int k (k.wrap n)) := fun N a w hf _ => by
  unfold execOp; simp [hx N a hf, convert, run_underlying ht.u, run_underlying hs.u, Conv.intToInt]

/-! Truth values, pointers, strings -/
theorem equal_bool {t : TypeId} (ht : P.underlying t = some .bool) (b b' : Bool) (w : World) : (Op.equal t (.bool b) (.bool b')).run P w = .ok (b == b') w := by
  unfold Op.equal Op.maxDepth
  rw [Op.equalIn]
  simp [Sem.run_bind, run_underlying ht]
theorem equal_nil {t e : TypeId} (ht : P.underlying t = some (.pointer e)) (p : Option Addr) (w : World) : (Op.equal t (.pointer p) (.pointer none)).run P w = .ok p.isNone w := by
  unfold Op.equal Op.maxDepth
  rw [Op.equalIn]
  cases p <;> simp [Sem.run_bind, run_underlying ht]
theorem y_eql_b {x y : Operand} {t t' : TypeId} {b b' : Bool} [ht : TBool P t] (hx : Ev E x (.bool b)) (hy : Ev E y (.bool b')) :
    Y P H E (Oper.mk d (.binOp .eql t x y t') ty pos aft g) (.bool (decide (b = b'))) := fun N a w hf _ => by
  unfold execOp; simp [hx N a hf, hy N a hf, eqGuard, binOp, equal_bool ht.u]; rfl
theorem y_neq_b {x y : Operand} {t t' : TypeId} {b b' : Bool} [ht : TBool P t] (hx : Ev E x (.bool b)) (hy : Ev E y (.bool b')) :
    Y P H E (Oper.mk d (.binOp .neq t x y t') ty pos aft g) (.bool (decide (b ≠ b'))) := fun N a w hf _ => by
  unfold execOp; simp [hx N a hf, hy N a hf, eqGuard, binOp, equal_bool ht.u]; cases b <;> cases b' <;> rfl
theorem y_eql_d {x y : Operand} {t t' : TypeId} {p q : Prop} [Decidable p] [Decidable q] [ht : TBool P t] (hx : Ev E x (.bool (decide p))) (hy : Ev E y (.bool (decide q))) :
    Y P H E (Oper.mk d (.binOp .eql t x y t') ty pos aft g) (.bool (decide (p ↔ q))) := by
  have e : decide (p ↔ q) = decide (decide p = decide q) := by by_cases p <;> by_cases q <;> simp_all
  rw [e]; exact y_eql_b hx hy
theorem y_neq_d {x y : Operand} {t t' : TypeId} {p q : Prop} [Decidable p] [Decidable q] [ht : TBool P t] (hx : Ev E x (.bool (decide p))) (hy : Ev E y (.bool (decide q))) :
    Y P H E (Oper.mk d (.binOp .neq t x y t') ty pos aft g) (.bool (decide (¬ (p ↔ q)))) := by
  have e : decide (¬ (p ↔ q)) = decide (decide p ≠ decide q) := by by_cases p <;> by_cases q <;> simp_all
  rw [e]; exact y_neq_b hx hy
theorem y_eql_some {x y : Operand} {t t' e : TypeId} {p : Addr} [ht : TPtr P t e] (hx : Ev E x (.pointer (some p))) (hy : Ev E y (.pointer none)) :
    Y P H E (Oper.mk d (.binOp .eql t x y t') ty pos aft g) (.bool false) := fun N a w hf _ => by
  unfold execOp; simp [hx N a hf, hy N a hf, eqGuard, binOp, equal_nil ht.u]
theorem y_neq_some {x y : Operand} {t t' e : TypeId} {p : Addr} [ht : TPtr P t e] (hx : Ev E x (.pointer (some p))) (hy : Ev E y (.pointer none)) :
    Y P H E (Oper.mk d (.binOp .neq t x y t') ty pos aft g) (.bool true) := fun N a w hf _ => by
  unfold execOp; simp [hx N a hf, hy N a hf, eqGuard, binOp, equal_nil ht.u]
theorem y_eql_none {x y : Operand} {t t' e : TypeId} [ht : TPtr P t e] (hx : Ev E x (.pointer none)) (hy : Ev E y (.pointer none)) :
    Y P H E (Oper.mk d (.binOp .eql t x y t') ty pos aft g) (.bool true) := fun N a w hf _ => by
  unfold execOp; simp [hx N a hf, hy N a hf, eqGuard, binOp, equal_nil ht.u]
theorem y_neq_none {x y : Operand} {t t' e : TypeId} [ht : TPtr P t e] (hx : Ev E x (.pointer none)) (hy : Ev E y (.pointer none)) :
    Y P H E (Oper.mk d (.binOp .neq t x y t') ty pos aft g) (.bool false) := fun N a w hf _ => by
  unfold execOp; simp [hx N a hf, hy N a hf, eqGuard, binOp, equal_nil ht.u]
theorem str_toList (l : List UInt8) : (⟨l.toArray⟩ : ByteArray).toList = l := by simp
theorem y_eql_s {x y : Operand} {t t' : TypeId} {l l' : List UInt8} (hx : Ev E x (str l)) (hy : Ev E y (str l')) :
    Y P H E (Oper.mk d (.binOp .eql t x y t') ty pos aft g) (.bool (decide (l = l'))) := fun N a w hf _ => by
  unfold execOp; simp [hx N a hf, hy N a hf, str, eqGuard, binOp, Op.stringOp]; by_cases h : l = l' <;> simp [h]
theorem y_neq_s {x y : Operand} {t t' : TypeId} {l l' : List UInt8} (hx : Ev E x (str l)) (hy : Ev E y (str l')) :
    Y P H E (Oper.mk d (.binOp .neq t x y t') ty pos aft g) (.bool (decide (l ≠ l'))) := fun N a w hf _ => by
  unfold execOp; simp [hx N a hf, hy N a hf, str, eqGuard, binOp, Op.stringOp]; by_cases h : l = l' <;> simp [h]
theorem y_add_s {x y : Operand} {t t' : TypeId} {l l' : List UInt8} (hx : Ev E x (str l)) (hy : Ev E y (str l')) (h : l.length + l'.length ≤ 9223372036854775807) :
    Y P H E (Oper.mk d (.binOp .add t x y t') ty pos aft g) (str (l ++ l')) := fun N a w hf _ => by
  have h0 : ¬ (((ByteArray.mk l.toArray).size + (ByteArray.mk l'.toArray).size : Nat) : Int) > IntKind.i64.max := by
    have e : IntKind.i64.max = 9223372036854775807 := rfl
    rw [e]; simp [ByteArray.size]; omega
  have e : (⟨l.toArray⟩ : ByteArray) ++ ⟨l'.toArray⟩ = ⟨(l ++ l').toArray⟩ := by
    apply ByteArray.ext; simp
  unfold execOp; simp only [hx N a hf, hy N a hf, str, eqGuard, binOp, Op.stringOp, if_neg h0, e]; rfl
end
end Go.Proofs.Ytjofjkjghakcoaa

/- The operations on memory, by what is known of their operands. No program in sight. -/
namespace Go.Proofs.Ytjofjkjghakcoaa
open Go.RowKit

/-! ### append of whatever reads -/
theorem St.appendS {c : Con} {L : List HP} {w : World} {P : Program} {size bytes n m : Nat} {t tx ty e : TypeId} {i : TypeInfo} {z v x : Value} {xs news : List Value} (H : St c (OwnP e size v n xs :: L) w)
    (ht : P.underlying t = some (.slice e)) (hi : P.info? e = some i) (hz : i.zero = some z)
    (hsize : i.size = size) (hby : i.bytes = bytes) (hzs : z.cells.size = size) (hs : Src P size tx x m news w)
    (h63 : n + m ≤ maxLen) (hbytes : (n + m) * bytes ≤ 140737488355328) :
    ∃ A cap w', (Builtin.append_ #[t, tx] ty #[v, x]).run P w = .ok (.slice A (n + m) cap) w' ∧ St c (OwnP e size (.slice A (n + m) cap) (n + m) (xs ++ news) :: L) w' := by
  subst hsize
  subst hby
  obtain ⟨h, ⟨hx, ho⟩, l, u⟩ := H.upd
  have hl := hs.newsLen
  have hlen : (xs ++ news).length = (n + m) * i.size := by rw [List.length_append, hx, hl, Nat.add_mul]
  have grown : ∀ (old : Nat), St c (OwnP e i.size (.slice (some ⟨w.heap.size, 0, none⟩) (n + m) (grownCap w (n + m) old e)) (n + m) (xs ++ news) :: L)
      (w.drew.alloc (.cells ((xs ++ news).toArray ++ Builtin.zeroCells z.cells (grownCap w (n + m) old e - (n + m))) e)) := by
    intro old
    have hge := grownCap_ge w (n + m) old e
    have hcm : grownCap w (n + m) old e ≤ maxLen := grownCap_le_maxLen w (n + m) old e h63
    refine u _ _ rfl (fun b hb _ => Below.heap_alloc w.drew _ b hb) ⟨hlen, .inr ⟨w.heap.size, _, (xs ++ news).toArray ++ Builtin.zeroCells z.cells (grownCap w (n + m) old e - (n + m)), rfl, ?_, hge, hcm, ?_, ?_⟩⟩
    · exact (if_pos (Or.inr (Nat.le_refl _))).trans (heap_alloc_new w.drew _)
    · simp only [Array.size_append, List.size_toArray, size_zeroCells, hzs, hlen, ← Nat.add_mul]
      congr 1
      omega
    · simp only [Array.toList_append]
      rw [← hlen]
      exact List.take_left
  rcases ho with ⟨rfl, rfl⟩ | ⟨g, cap, cur, rfl, hg, hnc, hcm, hcs, htake⟩
  · have hx' : xs = [] := List.eq_nil_of_length_eq_zero (by simpa using hx)
    subst hx'
    by_cases hm : m = 0
    · subst hm
      have hn : news = [] := List.eq_nil_of_length_eq_zero (by simpa using hl)
      subst hn
      refine ⟨none, 0, w, ?_, H⟩
      have hc := hs.cells
      rcases hs.kind with ⟨e', hk⟩ | hk <;> simp [Builtin.append_, run_underlying ht, run_underlying hk, sizeOf, typeInfo, hi, hs.len, hc]
    · have hr := run_append_grow_src (P := P) w t tx ty e i z ht hi hz none 0 0 [] (run_firstCells_none w.drew i.size 0 0 0) x m news hs (by omega) (by simp only [maxLen] at h63; omega)
        (growslice_fits (by omega) (by simpa using hbytes))
      exact ⟨_, _, _, hr, by have := grown 0; simpa using this⟩
  · have hgw := l g _ hg
    by_cases hroom : n + m ≤ cap
    · have hfit : n * i.size + news.length ≤ cur.size := by rw [hl, hcs, ← Nat.add_mul]; exact Nat.mul_le_mul_right _ hroom
      have hst := run_storeCells_at P g (n * i.size) e news 0 cur w hgw (by simpa using hfit) hs.one
      simp only [Nat.add_zero] at hst
      have hr : (Builtin.append_ #[t, tx] ty #[.slice (some ⟨g, 0, none⟩) n cap, x]).run P w = .ok (.slice (some ⟨g, 0, none⟩) (n + m) cap) (w.setRow g (cur.toList.take (n * i.size) ++ news ++ cur.toList.drop (n * i.size + news.length)).toArray) := by
        rcases hs.kind with ⟨e', hk⟩ | hk <;> simp [Builtin.append_, run_underlying ht, run_underlying hk, sizeOf, typeInfo, hi, hs.len, hroom, hs.cells, add_mid, hst]
      refine ⟨_, _, _, hr, ?_⟩
      refine u _ _ rfl (fun b hb hn => setRow_other w g b _ ?_) ⟨hlen, .inr ⟨g, cap, (cur.toList.take (n * i.size) ++ news ++ cur.toList.drop (n * i.size + news.length)).toArray, rfl, ?_, hroom, hcm, ?_, ?_⟩⟩
      · rintro rfl; rw [hg] at hn; cases hn
      · exact (if_pos (Or.inl (by rw [hg]; rfl))).trans (setRow_heap w g cur _ e _ hgw)
      · simp only [List.size_toArray, List.length_append, List.length_take, List.length_drop, Array.length_toList]
        omega
      · rw [htake, ← hlen]
        exact List.take_left
    · have holds : ∀ j u, xs[j]? = some u → w.drew.cell? ((⟨g, 0, none⟩ : Addr).add j) = some u := by
        intro j u hu
        rw [add_mid, Nat.zero_add]
        show w.cell? _ = _
        rw [cell_of_row w g j cur e (0, 0) hgw]
        rw [← htake, List.getElem?_take] at hu
        split at hu
        · simpa using hu
        · cases hu
      have hr := run_append_grow_src (P := P) w t tx ty e i z ht hi hz (some ⟨g, 0, none⟩) n cap xs (run_firstCells_some w.drew i.size n _ n cap xs hx holds) x m news hs (by omega) (by simp only [maxLen] at h63; omega)
        (growslice_fits (by omega) hbytes)
      exact ⟨_, _, _, hr, grown cap⟩
end Go.Proofs.Ytjofjkjghakcoaa

/- The operations on memory, by what is known of their operands. No program in sight. -/
namespace Go.Proofs.Ytjofjkjghakcoaa
open Go.RowKit

section
variable {P : Program} {H : World → Prop} {E : Env} {d : Option Nat} {ty : TypeId} {pos : String} {aft : Array Edge} {g : Option (Nat × Bool)}

theorem str_size (l : List UInt8) : (ByteArray.mk l.toArray).size = l.length := rfl
/-! Addresses -/
theorem y_field {x : Operand} {s f off n b o : Nat} [hs : TField P s f off n] (hx : Ev E x (.pointer (some ⟨b, o, none⟩))) :
    Y P H E (Oper.mk d (.fieldAddr s x f) ty pos aft g) (.pointer (some ⟨b, o + off, none⟩)) := fun N a w hf _ => by
  obtain ⟨fs, fd, h1, h2, h3, h4, h5⟩ := hs.u
  unfold execOp
  cases hq : P.info? fd.type with
  | none => simp [hq] at h4
  | some i =>
    have h4' : i.size = n := by simpa [hq] using h4
    simp [hx N a hf, Instr.fieldAt, run_underlying h1, h2, Instr.sureAddr, fieldPlace, sizeOf, typeInfo, hq, h4', h5, add_mid, h3]
theorem y_fieldVal {x : Operand} {s f off n : Nat} {cs v : Value} [hs : TField P s f off n] (hx : Ev E x cs) (hv : ∀ w, (Instr.field s cs f).run P w = .ok v w) :
    Y P H E (Oper.mk d (.field s x f) ty pos aft g) v := fun N a w hf _ => by
  have _ := hs
  unfold execOp; simp [hx N a hf, hv]
theorem y_index {x i : Operand} {t e s by' : Nat} {z : Value} {b o n cap : Nat} {k : IntKind} {m : Int} [ht : TSlice P t e s by' z] (hx : Ev E x (.slice (some ⟨b, o, none⟩) n cap)) (hi : Ev E i (.int k m)) (h : 0 ≤ m ∧ m < n) :
    Y P H E (Oper.mk d (.indexAddr t x i) ty pos aft g) (.pointer (some ⟨b, o + m.toNat * s, none⟩)) := fun N a w hf _ => by
  unfold execOp
  have hz := ht.i
  cases hq : P.info? e with
  | none => simp [hq] at hz
  | some ie =>
    have hs : ie.size = s := by simp [hq] at hz; exact hz.2.1
    simp [hx N a hf, hi N a hf, Instr.indexAt, run_underlying ht.u, asIntOf, h.1, h.2, sizeOf, typeInfo, hq, hs, add_mid]
theorem y_indexN {x i : Operand} {t e s by' : Nat} {z : Value} {b o n cap : Nat} {k : IntKind} {m : Nat} [ht : TSlice P t e s by' z] (hx : Ev E x (.slice (some ⟨b, o, none⟩) n cap)) (hi : Ev E i (.int k m)) (h : m < n) :
    Y P H E (Oper.mk d (.indexAddr t x i) ty pos aft g) (.pointer (some ⟨b, o + m * s, none⟩)) := y_index (m := (m : Int)) hx hi ⟨by omega, by omega⟩
theorem y_indexA {x i : Operand} {t e s by' : Nat} {z : Value} {ad : Addr} {n cap : Nat} {k : IntKind} {m : Int} [ht : TSlice P t e s by' z] (hx : Ev E x (.slice (some ad) n cap)) (hi : Ev E i (.int k m)) (h : 0 ≤ m ∧ m < n) :
    Y P H E (Oper.mk d (.indexAddr t x i) ty pos aft g) (.pointer (some (ad.add (m.toNat * s)))) := fun N a w hf _ => by
  unfold execOp
  have hz := ht.i
  cases hq : P.info? e with
  | none => simp [hq] at hz
  | some ie =>
    have hs : ie.size = s := by simp [hq] at hz; exact hz.2.1
    simp [hx N a hf, hi N a hf, Instr.indexAt, run_underlying ht.u, asIntOf, h.1, h.2, sizeOf, typeInfo, hq, hs]
theorem y_indexAN {x i : Operand} {t e s by' : Nat} {z : Value} {ad : Addr} {n cap : Nat} {k : IntKind} {m : Nat} [ht : TSlice P t e s by' z] (hx : Ev E x (.slice (some ad) n cap)) (hi : Ev E i (.int k m)) (h : m < n) :
    Y P H E (Oper.mk d (.indexAddr t x i) ty pos aft g) (.pointer (some (ad.add (m * s)))) := y_indexA (m := (m : Int)) hx hi ⟨by omega, by omega⟩
theorem y_indexArr {x i : Operand} {t len e s b o : Nat} {k : IntKind} {m : Int} [ht : TArr P t len e s] (hx : Ev E x (.pointer (some ⟨b, o, none⟩))) (hi : Ev E i (.int k m)) (h : 0 ≤ m ∧ m < len) :
    Y P H E (Oper.mk d (.indexAddr t x i) ty pos aft g) (.pointer (some ⟨b, o + m.toNat * s, none⟩)) := fun N a w hf _ => by
  unfold execOp
  have hz := ht.i
  cases hq : P.info? e with
  | none => simp [hq] at hz
  | some ie =>
    have hs : ie.size = s := by simpa [hq] using hz
    simp [hx N a hf, hi N a hf, Instr.indexAt, Instr.sureAddr, run_underlying ht.u, asIntOf, h.1, h.2, sizeOf, typeInfo, hq, hs, add_mid]
/-- a[:] of an array. -/
theorem y_sliceArr {x : Operand} {t len e s : Nat} {ad : Addr} [ht : TArr P t len e s] (hx : Ev E x (.pointer (some ad))) :
    Y P H E (Oper.mk d (.slice t x none none none) ty pos aft g) (.slice (some ad) len len) := fun N a w hf _ => by
  unfold execOp
  have hz := ht.i
  cases hq : P.info? e with
  | none => simp [hq] at hz
  | some ie => simp [hx N a hf, Instr.sliceAt, Instr.sureAddr, run_underlying ht.u, Instr.sliceBounds, sizeOf, typeInfo, hq, Addr.add]
/-- s[lo:hi] and its kin. -/
theorem y_sliceLo {x lo : Operand} {t e s by' : Nat} {z : Value} {A : Option Addr} {n cap : Nat} {k : IntKind} {m : Nat} [ht : TSlice P t e s by' z] (hx : Ev E x (.slice A n cap)) (hl : Ev E lo (.int k m)) (h : m ≤ n) :
    Y P H E (Oper.mk d (.slice t x (some lo) none none) ty pos aft g) (.slice (if cap = m then A else A.map (·.add (m * s))) (n - m) (cap - m)) := fun N a w hf _ => by
  unfold execOp
  have hz := ht.i
  cases hq : P.info? e with
  | none => simp [hq] at hz
  | some ie =>
    have hs : ie.size = s := by simp [hq] at hz; exact hz.2.1
    simp [hx N a hf, hl N a hf, Instr.sliceAt, Instr.slice, run_underlying ht.u, Instr.sliceBounds, Instr.sliceBound, asIntOf, sizeOf, typeInfo, hq, hs, h]
theorem y_sliceHi {x hi : Operand} {t e s by' : Nat} {z : Value} {A : Option Addr} {n cap : Nat} {k : IntKind} {m : Nat} [ht : TSlice P t e s by' z] (hx : Ev E x (.slice A n cap)) (hl : Ev E hi (.int k m)) (h : m ≤ cap) :
    Y P H E (Oper.mk d (.slice t x none (some hi) none) ty pos aft g) (.slice A m cap) := fun N a w hf _ => by
  unfold execOp
  have hz := ht.i
  cases hq : P.info? e with
  | none => simp [hq] at hz
  | some ie =>
    have hs : ie.size = s := by simp [hq] at hz; exact hz.2.1
    have e0 : (A.map fun x => x.add (0 * s)) = A := by cases A <;> simp [Addr.add]
    simp [hx N a hf, hl N a hf, Instr.sliceAt, Instr.slice, run_underlying ht.u, Instr.sliceBounds, Instr.sliceBound, asIntOf, sizeOf, typeInfo, hq, h]
    cases A <;> simp [Addr.add]
theorem y_sliceStr {x lo hi : Operand} {t : Nat} {l : List UInt8} {k k' : IntKind} {m n : Nat} [ht : TStr P t] (hx : Ev E x (str l)) (hl : Ev E lo (.int k m)) (hh : Ev E hi (.int k' n)) (h : m ≤ n ∧ n ≤ l.length) :
    Y P H E (Oper.mk d (.slice t x (some lo) (some hi) none) ty pos aft g) (str ((l.take n).drop m)) := fun N a w hf _ => by
  unfold execOp
  have e : (ByteArray.mk l.toArray).extract m n = ⟨((l.take n).drop m).toArray⟩ := by
    apply ByteArray.ext
    simp [List.extract_eq_take_drop, List.drop_take]
  simp [hx N a hf, hl N a hf, hh N a hf, str, Instr.sliceAt, Instr.slice, run_underlying ht.u, Instr.sliceBounds, Instr.sliceBound, asIntOf, h.1, h.2, str_size, e]
theorem y_sliceStrLo {x lo : Operand} {t : Nat} {l : List UInt8} {k : IntKind} {m : Nat} [ht : TStr P t] (hx : Ev E x (str l)) (hl : Ev E lo (.int k m)) (h : m ≤ l.length) :
    Y P H E (Oper.mk d (.slice t x (some lo) none none) ty pos aft g) (str (l.drop m)) := fun N a w hf _ => by
  unfold execOp
  have e : (ByteArray.mk l.toArray).extract m l.length = ⟨(l.drop m).toArray⟩ := by
    apply ByteArray.ext
    simp [List.extract_eq_take_drop]
    rw [List.take_of_length_le (by simp)]
  simp [hx N a hf, hl N a hf, str, Instr.sliceAt, Instr.slice, run_underlying ht.u, Instr.sliceBounds, Instr.sliceBound, asIntOf, h, str_size, e]
theorem y_sliceStrHi {x hi : Operand} {t : Nat} {l : List UInt8} {k : IntKind} {n : Nat} [ht : TStr P t] (hx : Ev E x (str l)) (hh : Ev E hi (.int k n)) (h : n ≤ l.length) :
    Y P H E (Oper.mk d (.slice t x none (some hi) none) ty pos aft g) (str (l.take n)) := fun N a w hf _ => by
  unfold execOp
  have e : (ByteArray.mk l.toArray).extract 0 n = ⟨(l.take n).toArray⟩ := by
    apply ByteArray.ext
    simp [List.extract_eq_take_drop]
  simp [hx N a hf, hh N a hf, str, Instr.sliceAt, Instr.slice, run_underlying ht.u, Instr.sliceBounds, Instr.sliceBound, asIntOf, h, str_size, e]

/-! Loads -/
theorem y_load {x : Operand} {t : Nat} {z v : Value} {ad : Addr} [ht : TOne P t z] (hx : Ev E x (.pointer (some ad))) (hc : HasCell H ad v) : Y P H E (Oper.mk d (.load t x) ty pos aft g) v := fun N a w hf hw => by
  unfold execOp
  have hu := ht.u
  cases hd : P.underlying t with
  | none => simp [hd] at hu
  | some ds =>
    have ha : (isAgg t).run P w = .ok false w := by
      unfold isAgg
      rw [Sem.run_bind, run_underlying hd w]
      rw [hd] at hu
      cases ds <;> simp_all [TypeDesc.isRow]
    have hc' := hc w hw
    simp [hx N a hf, Instr.loadAt, Instr.sureAddr, loadVar, ha, load, Sem.run, hc']
theorem y_loadN {x : Operand} {t n : Nat} {cs : List Value} {ad : Addr} [ht : TRow P t n] (hx : Ev E x (.pointer (some ad))) (hc : HasCells H ad cs) (hn : cs.length = n) : Y P H E (Oper.mk d (.load t x) ty pos aft g) (.agg cs.toArray) := fun N a w hf hw => by
  unfold execOp
  have hu := ht.u
  have hi := ht.i
  cases hd : P.underlying t with
  | none => simp [hd] at hu
  | some ds =>
    have ha : (isAgg t).run P w = .ok true w := by
      unfold isAgg
      rw [Sem.run_bind, run_underlying hd w]
      rw [hd] at hu
      cases ds <;> simp_all [TypeDesc.isRow]
    cases hq : P.info? t with
    | none => simp [hq] at hi
    | some i =>
      have hs : i.size = n := by simpa [hq] using hi
      have hl := run_loadCells_list (P := P) w ad cs (fun j u e => hc j u e w hw)
      rw [hn] at hl
      simp [hx N a hf, Instr.loadAt, Instr.sureAddr, loadVar, ha, sizeOf, typeInfo, hq, hs, hl]

/-! Lengths, conversions -/
theorem y_lenSlice {x : Operand} {t e s by' : Nat} {z : Value} {A : Option Addr} {n cap : Nat} [ht : TSlice P t e s by' z] (hx : Ev E x (.slice A n cap)) :
    Y P H E (Oper.mk d (.call { callee := .builtin .len, args := #[x], argTypes := #[t] }) ty pos aft g) (.int .i64 n) := fun N a w hf _ => by
  unfold execOp; simp [hx N a hf, resolve, invoke, builtin, Builtin.len_, run_underlying ht.u, goInt]
theorem y_lenStr {x : Operand} {t : Nat} {l : List UInt8} [ht : TStr P t] (hx : Ev E x (str l)) :
    Y P H E (Oper.mk d (.call { callee := .builtin .len, args := #[x], argTypes := #[t] }) ty pos aft g) (.int .i64 l.length) := fun N a w hf _ => by
  unfold execOp; simp [hx N a hf, str, resolve, invoke, builtin, Builtin.len_, run_underlying ht.u, goInt, str_size]
theorem y_min {x y : Operand} {t t' : Nat} {k : IntKind} {m n : Int} (hx : Ev E x (.int k m)) (hy : Ev E y (.int k n)) :
    Y P H E (Oper.mk d (.call { callee := .builtin .min, args := #[x, y], argTypes := #[t, t'] }) ty pos aft g) (.int k (min m n)) := fun N a w hf _ => by
  have e : (if n < m then n else m) = min m n := by split <;> omega
  unfold execOp; simp [hx N a hf, hy N a hf, resolve, invoke, builtin, Builtin.min_, Builtin.min2, e]
theorem y_max {x y : Operand} {t t' : Nat} {k : IntKind} {m n : Int} (hx : Ev E x (.int k m)) (hy : Ev E y (.int k n)) :
    Y P H E (Oper.mk d (.call { callee := .builtin .max, args := #[x, y], argTypes := #[t, t'] }) ty pos aft g) (.int k (max m n)) := fun N a w hf _ => by
  have e : (if m < n then n else m) = max m n := by split <;> omega
  unfold execOp; simp [hx N a hf, hy N a hf, resolve, invoke, builtin, Builtin.max_, Builtin.max2, e]
theorem push_all : ∀ (l : List UInt8) (s : ByteArray), (l.map fun b => (b.toNat : Int)).foldl (fun r n => r.push (UInt8.ofNat n.toNat)) s = ⟨(s.data.toList ++ l).toArray⟩
  | [], s => by apply ByteArray.ext; simp
  | b :: l, s => by
    rw [List.map_cons, List.foldl_cons, push_all l]
    apply ByteArray.ext
    simp
theorem y_toStr {x : Operand} {t t' e s by' : Nat} {z v : Value} {l : List UInt8} [ht : TSlice P t e s by' z] [he : TInt P e .u8] [hs : TStr P t'] (hx : Ev E x v) (hr : ∀ w, H w → Reads w v l.length 1 (bvs l)) :
    Y P H E (Oper.mk d (.convert t t' x) ty pos aft g) (str l) := fun N a w hf hw => by
  unfold execOp
  rcases (hr w hw).2 with ⟨rfl, h0⟩ | ⟨ad, cap, rfl, h1, h2, h3⟩
  · have : l = [] := List.eq_nil_of_length_eq_zero h0
    subst this
    simp [hx N a hf, run_convert_bytes_string w t t' e none 0 0 ht.u he.u hs.u, Conv.bytesToString, str]
    rfl
  · have e1 : bvs l = (l.map fun b => (b.toNat : Int)).map (Value.int .u8) := by simp [bvs, bv]
    have hl := run_loadCells_list (P := P) w ad (bvs l) h3
    have hlen : (bvs l).length = l.length := by simp [bvs]
    rw [hlen, e1] at hl
    have h4 := run_bytesToString (P := P) w ad l.length cap _ hl
    rw [push_all] at h4
    simp [hx N a hf, run_convert_bytes_string w t t' e (some ad) l.length cap ht.u he.u hs.u, h4, str]
end

/-! What acts -/
section
variable {P : Program} {N : Nat} {c : Con} {E : Env} {L L' : List HP} {d : Option Nat} {ty : TypeId} {pos : String} {aft : Array Edge} {g : Option (Nat × Bool)}
theorem ow_store {x y : Operand} {t T b o : Nat} {z v : Value} {cs : List Value} [ht : TOne P t z] (hx : Ev E x (.pointer (some ⟨b, o, none⟩))) (hy : Ev E y v) (hv : v.oneCell' = true)
    (hu : Upd L b T cs (cs.set o v) L') (ho : o < cs.length) : OW P N c E L (Oper.mk d (.store t x y) ty pos aft g) (fun _ : Unit => undef) fun _ => L' := fun Q K a w hf H hk => by
  have hi := ht.i
  have hb := hu.has w H
  have hc : w.cell? ⟨b, o, none⟩ = some cs[o] := by rw [cell_of_row w b o _ _ _ hb]; simp [ho]
  have hfz := frozen_of_row w b o _ _ hb
  have hcl : v.cells = #[v] := by cases v <;> first | rfl | cases hv
  unfold Oper.wp execOp
  cases hq : P.info? t with
  | none => simp [hq] at hi
  | some i =>
    have hs : i.size = 1 := by simp [hq] at hi; exact hi.2
    have hst := run_storeCells_at P b o T [v] 0 cs.toArray w hb (by simp; omega) (by intro u hu; simp at hu; subst hu; exact hv)
    have e : (cs.toArray.toList.take (o + 0) ++ [v] ++ cs.toArray.toList.drop (o + 0 + [v].length)).toArray = (cs.set o v).toArray := by
      simp [List.set_eq_take_append_cons_drop, ho]
    rw [e] at hst
    simp only [hx N a hf, hy N a hf, Instr.storeAt, Instr.sureAddr, storeVar, sizeOf, typeInfo, hcl, Sem.run_bind, Sem.run_pure, Result.andThen_ok]
    simp [hq, hs, hst]
    exact hk () _ (hu.row H)
theorem ow_storeN {x y : Operand} {t n T b o : Nat} {cs vs : List Value} [ht : TRow P t n] (hx : Ev E x (.pointer (some ⟨b, o, none⟩))) (hy : Ev E y (.agg vs.toArray)) (hv : ∀ v ∈ vs, v.oneCell' = true) (hn : vs.length = n)
    (hu : Upd L b T cs (splice cs o vs) L') (ho : o + vs.length ≤ cs.length) : OW P N c E L (Oper.mk d (.store t x y) ty pos aft g) (fun _ : Unit => undef) fun _ => L' := fun Q K a w hf H hk => by
  have hb := hu.has w H
  have hr := store_row (P := P) w b o t vs.toArray cs.toArray T hb (by simpa using ho) (by rw [ht.i]; simp [hn]) (all_oneCell_toArray hv)
  unfold Oper.wp execOp
  simp only [hx N a hf, hy N a hf, Sem.run_bind, hr, Result.andThen_ok, Sem.run_pure]
  exact hk () _ (hu.row H)
theorem ow_storeAll {x y : Operand} {t n T b : Nat} {cs vs : List Value} [ht : TRow P t n] (hx : Ev E x (.pointer (some ⟨b, 0, none⟩))) (hy : Ev E y (.agg vs.toArray)) (hv : ∀ v ∈ vs, v.oneCell' = true) (hn : vs.length = n)
    (hu : Upd L b T cs vs L') (ho : cs.length = n) : OW P N c E L (Oper.mk d (.store t x y) ty pos aft g) (fun _ : Unit => undef) fun _ => L' :=
  ow_storeN hx hy hv hn (by
    have e : splice cs 0 vs = vs := splice_whole _ _ (by omega)
    rw [e]; exact hu) (by omega)
theorem ow_allocN {t : Nat} {z : List Value} [ht : TZero P t z] : OW P N c E L (Oper.mk d (.alloc t) ty pos aft g) (fun b => .pointer (some ⟨b, 0, none⟩)) fun b => Bl b t z :: L := fun Q K a w hf H hk => by
  have hi := ht.i
  have _ := hf
  cases hq : P.info? t with
  | none => simp [hq] at hi
  | some i =>
    have hr := alloc_new (P := P) (t := t) (z := z.toArray) (n := i.size) (by rw [hq] at hi ⊢; simp at hi ⊢; exact hi) w
    unfold Oper.wp execOp
    simp only [Sem.run_bind, hr, Result.andThen_ok, Sem.run_pure]
    exact hk _ _ (H.allocPt _)
theorem ow_alloc1 {t : Nat} {z : Value} [ht : TOne P t z] : OW P N c E L (Oper.mk d (.alloc t) ty pos aft g) (fun b => .pointer (some ⟨b, 0, none⟩)) fun b => Bl b t [z] :: L := fun Q K a w hf H hk => by
  have hi := ht.i
  have _ := hf
  cases hq : P.info? t with
  | none => simp [hq] at hi
  | some i =>
    have hz : i.zero = some z := by simp [hq] at hi; exact hi.1
    unfold Oper.wp execOp
    simp [Instr.alloc, zeroValue, typeInfo, hq, hz, newVar, ht.one, newRow]
    exact hk _ _ (H.allocPt _)
theorem ow_box {x : Operand} {t : Nat} {v : Value} {cs : List Value} (hx : Ev E x v) (hv : v.cells = cs.toArray) : OW P N c E L (Oper.mk d (.box t x) ty pos aft g) (fun b => .pointer (some ⟨b, 0, none⟩)) fun b => Bl b t cs :: L := fun Q K a w hf H hk => by
  unfold Oper.wp execOp
  simp [hx N a hf, Instr.box, newVar, hv, newRow]
  exact hk _ _ (H.allocPt _)
theorem ow_box1 {x : Operand} {t : Nat} {v : Value} (hx : Ev E x v) (hv : v.oneCell' = true) : OW P N c E L (Oper.mk d (.box t x) ty pos aft g) (fun b => .pointer (some ⟨b, 0, none⟩)) fun b => Bl b t [v] :: L :=
  ow_box hx (by cases v <;> first | rfl | cases hv)
theorem ow_boxAgg {x : Operand} {t : Nat} {cs : List Value} (hx : Ev E x (.agg cs.toArray)) : OW P N c E L (Oper.mk d (.box t x) ty pos aft g) (fun b => .pointer (some ⟨b, 0, none⟩)) fun b => Bl b t cs :: L :=
  ow_box hx rfl
theorem ow_storeE {x y : Operand} {t n T b o : Nat} {cs vs cs' : List Value} [ht : TRow P t n] (hx : Ev E x (.pointer (some ⟨b, o, none⟩))) (hy : Ev E y (.agg vs.toArray)) (hv : ∀ v ∈ vs, v.oneCell' = true) (hn : vs.length = n) (he : splice cs o vs = cs')
    (hu : Upd L b T cs cs' L') (ho : o + vs.length ≤ cs.length) : OW P N c E L (Oper.mk d (.store t x y) ty pos aft g) (fun _ : Unit => undef) fun _ => L' := by
  subst he; exact ow_storeN hx hy hv hn hu ho
/-- A call of a function of the program. -/
def entersB (P : Program) (f : FuncId) : Bool := match P.funcs[f]? with
  | some fn => fn.name != "runtime.NumGoroutine" && fn.body.isSome
  | none => false
theorem run_enters {f : FuncId} (h : entersB P f = true) (args : Array Value) (w : World) : (callFunc f args).run P w = .ok (.enter f args) w := by
  unfold entersB at h
  unfold callFunc
  cases hf : P.funcs[f]? with
  | none => rw [hf] at h; cases h
  | some fn =>
    rw [hf] at h
    simp only [Bool.and_eq_true, bne_iff_ne, ne_eq] at h
    have hb : fn.body.isNone = false := by cases hb : fn.body <;> simp_all
    have e : fn.body ≠ none := fun e => by rw [e] at hb; cases hb
    simp [program, Sem.run, hf, h.1, e]
theorem ow_call {β : Type} {r : β → Value} {L' : β → List HP} {f : FuncId} {fo : Operand} {xs : Array Operand} {ts : Array TypeId} {vs caps : List Value} (hf : Ev E fo (.func (.func f) #[] caps.toArray)) (hx : Evs E xs vs) (he : entersB P f = true)
    (pre : ∀ w, St c L w → Calls P f (vs ++ caps).toArray w fun e w' => ∃ x, e = .returned (r x) ∧ St c (L' x) w') :
    OW P N c E L (Oper.mk d (.call { callee := .value fo, args := xs, argTypes := ts }) ty pos aft g) r L' := fun Q K a w hfr H hk => by
  unfold Oper.wp execOp
  have e0 : (vs.toArray ++ caps.toArray) = (vs ++ caps).toArray := by simp
  simp only [resolve, hf N a hfr, hx N a hfr, Deferred.ofValue, Sem.run_bind, Sem.run_pure, Result.andThen_ok, invoke, Array.empty_append, e0, run_enters he, Oper.upon_enter]
  refine (pre w H).mono fun e w' h => ?_
  obtain ⟨x, rfl, H'⟩ := h
  exact hk x w' H'
theorem ow_call0 {r : Value} {f : FuncId} {xs : Array Operand} {ts : Array TypeId} {vs : List Value} (hx : Evs E xs vs) (he : entersB P f = true)
    (pre : ∀ w, St c L w → Calls P f vs.toArray w fun e w' => e = .returned r ∧ St c L' w') :
    OW P N c E L (Oper.mk d (.call { callee := .value (.func f), args := xs, argTypes := ts }) ty pos aft g) (fun _ : Unit => r) fun _ => L' :=
  ow_call (caps := []) ev_func hx he fun w H => by
    rw [List.append_nil]
    exact (pre w H).mono fun e w' h => ⟨(), h⟩
theorem ow_callx {β : Type} {r : β → Value} {L' : β → List HP} {f : FuncId} {xs : Array Operand} {ts : Array TypeId} {vs : List Value} (hx : Evs E xs vs) (he : entersB P f = true)
    (pre : ∀ w, St c L w → Calls P f vs.toArray w fun e w' => ∃ x, e = .returned (r x) ∧ St c (L' x) w') :
    OW P N c E L (Oper.mk d (.call { callee := .value (.func f), args := xs, argTypes := ts }) ty pos aft g) r L' :=
  ow_call (caps := []) ev_func hx he fun w H => by
    rw [List.append_nil]
    exact pre w H
/-- append onto a slice of one's own. -/
theorem ow_append {F : List HP} {s x : Operand} {t tx e size bytes n m k cap : Nat} {z v : Value} {A : Option Addr} {xs news ys : List Value} [ht : TSlice P t e size bytes z] (hs : Ev E s (.slice A n cap)) (hx : Ev E x v)
    (hsrc : ∀ w, St c L w → Src P size tx v m news w) (hk : n + m = k) (he : xs ++ news = ys) (hb : k ≤ 9223372036854775807 ∧ k * bytes ≤ 140737488355328) (hp : Pick L (OwnP e size (.slice A n cap) n xs) F) :
    OW P N c E L (Oper.mk d (.call { callee := .builtin .append, args := #[s, x], argTypes := #[t, tx] }) ty pos aft g) (fun q : Option Addr × Nat => .slice q.1 k q.2) fun q => OwnP e size (.slice q.1 k q.2) k ys :: F := fun Q K a w hf H hh => by
  subst hk he
  have hi := ht.i
  cases hq : P.info? e with
  | none => simp [hq] at hi
  | some ie =>
    simp only [hq, Option.map_some, Option.some.injEq, Prod.mk.injEq] at hi
    obtain ⟨A', cap', w', hr, h2⟩ := (hp.st H).appendS (P := P) (t := t) (tx := tx) (ty := ty) (i := ie) ht.u hq hi.1 hi.2.1 hi.2.2 ht.zs (hsrc w H) (by simpa [maxLen] using hb.1) hb.2
    unfold Oper.wp execOp
    simp only [resolve, invoke, builtin, Sem.run_bind, Sem.run_pure, Result.andThen_ok, List.map_toArray, List.map_cons, List.map_nil, hs N a hf, hx N a hf, hr]
    exact hh (A', cap') w' h2
theorem src_reads {tx e' size m : Nat} {v : Value} {news : List Value} {w : World} (ht : P.underlying tx = some (.slice e')) (h : Reads w v m size news) (h1 : ∀ u ∈ news, u.oneCell' = true) : Src P size tx v m news w := by
  rcases h.2 with ⟨rfl, rfl⟩ | ⟨ad, cap, rfl, _, _, h3⟩
  · have : news = [] := List.eq_nil_of_length_eq_zero (by rw [h.1]; simp)
    subst this
    exact Src.ofNil w ht 0
  · exact Src.ofSlice w ht ad m cap news h.1 h3 h1
theorem reads_has {H : World → Prop} {ad : Addr} {n cap size : Nat} {cs : List Value} (hc : HasCells H ad cs) (hl : cs.length = n * size) (h1 : n ≤ cap) (h2 : cap ≤ 9223372036854775807) : ∀ w, H w → Reads w (.slice (some ad) n cap) n size cs :=
  fun w hw => ⟨hl, .inr ⟨ad, cap, rfl, h1, h2, fun j u e => hc j u e w hw⟩⟩
theorem reads_len {v : Value} {l : List UInt8} {n : Nat} (hn : l.length = n) {H : World → Prop} (h : ∀ w, H w → Reads w v n 1 (bvs l)) : ∀ w, H w → Reads w v l.length 1 (bvs l) := by subst hn; exact h
theorem src_has {H : World → Prop} {ad : Addr} {tx e' n cap size : Nat} {cs : List Value} (ht : P.underlying tx = some (.slice e')) (hc : HasCells H ad cs) (hl : cs.length = n * size) (h1 : n ≤ cap) (h2 : cap ≤ 9223372036854775807) (h3 : ∀ u ∈ cs, u.oneCell' = true) :
    ∀ w, H w → Src P size tx (.slice (some ad) n cap) n cs w := fun w hw => src_reads ht (reads_has hc hl h1 h2 w hw) h3
/-- copy of one-cell elements onto a part of a block, all of them. -/
theorem ow_copy {F : List HP} {x y : Operand} {t tx e size bytes b o dLen dCap n T : Nat} {z v : Value} {cur cs : List Value} [ht : TSlice P t e size bytes z] (hs1 : size = 1) (hx : Ev E x (.slice (some ⟨b, o, none⟩) dLen dCap)) (hy : Ev E y v)
    (hp : Pick L (Bl b T cur) F) (hr : ∀ w, St c L w → Reads w v n 1 cs) (hn : n ≤ dLen) (hfit : o + n ≤ cur.length) (h1 : ∀ u ∈ cs, u.oneCell' = true) {cur' : List Value} (he : splice cur o cs = cur') :
    OW P N c E L (Oper.mk d (.call { callee := .builtin .copy, args := #[x, y], argTypes := #[t, tx] }) ty pos aft g) (fun _ : Unit => .int .i64 n) fun _ => Bl b T cur' :: F := fun Q K a w hf H hk => by
  subst he
  have hi := ht.i
  refine op_copy (P := P) (hp.st H) x y t tx rfl e dLen dCap n v cs (hx N a hf) (hy N a hf) (hr w H) ht.u ?_ hn (by simpa using hfit) h1 fun W H' => hk () W ?_
  · cases hq : P.info? e with
    | none => simp [hq] at hi
    | some ie => simp [hq] at hi ⊢; rw [hi.2.1, hs1]
  · exact H'
end
end Go.Proofs.Ytjofjkjghakcoaa

/- The walk's steps. No program in sight. -/
namespace Go.Proofs.Ytjofjkjghakcoaa
open Go.RowKit

section
variable {P : Program} {N : Nat} {c : Con} {E : Env} {L : List HP} {Q : Exit → Act → World → Prop} {ops : Array Oper} {H : World → Prop}
/-- The operation yields a value for which K. -/
def YK (P : Program) (H : World → Prop) (E : Env) (o : Oper) (K : Value → Prop) : Prop := ∃ v, Y P H E o v ∧ K v
/-- The operation acts, and K of what it yields and of the parties then. -/
def OWK (P : Program) (N : Nat) (c : Con) (E : Env) (L : List HP) (o : Oper) (K : Value → List HP → Prop) : Prop :=
  ∃ (β : Type) (r : β → Value) (L' : β → List HP), OW P N c E L o r L' ∧ ∀ x, K (r x) (L' x)
theorem yk {o : Oper} {v : Value} {K : Value → Prop} (h : Y P H E o v) (k : K v) : YK P H E o K := ⟨v, h, k⟩
theorem owk {o : Oper} {β : Type} {r : β → Value} {L' : β → List HP} {K : Value → List HP → Prop} (h : OW P N c E L o r L') (k : ∀ x, K (r x) (L' x)) : OWK P N c E L o K := ⟨β, r, L', h, k⟩
theorem owk0 {o : Oper} {r : Value} {L' : List HP} {K : Value → List HP → Prop} (h : OW P N c E L o (fun _ : Unit => r) fun _ => L') (k : K r L') : OWK P N c E L o K := ⟨Unit, _, _, h, fun _ => k⟩
theorem owk_yk {o : Oper} {K : Value → List HP → Prop} (h : YK P (St c L) E o fun v => K v L) : OWK P N c E L o K := by
  obtain ⟨v, h1, h2⟩ := h
  exact owk0 h1.ow h2
/-- A value in another spelling. -/
theorem yk_eq {o : Oper} {v v' : Value} {K : Value → Prop} (h : Y P H E o v) (e : v = v') (k : K v') : YK P H E o K := ⟨v, h, by rw [e]; exact k⟩

section
variable {d : Nat} {op : Op} {ty : TypeId} {pos : String} {aft : Array Edge} {rest : List Oper}
theorem wl_step (hd : Nat.blt d N = true) (h : OWK P N c E L ⟨some d, op, ty, pos, aft, none⟩ fun v L' => WL P N c ops Q rest ((d, v) :: E) L') : WL P N c ops Q (⟨some d, op, ty, pos, aft, none⟩ :: rest) E L := by
  obtain ⟨β, r, L', h1, h2⟩ := h
  exact wl_ow h1 hd h2
theorem wl_step0 (h : OWK P N c E L ⟨none, op, ty, pos, aft, none⟩ fun _ L' => WL P N c ops Q rest E L') : WL P N c ops Q (⟨none, op, ty, pos, aft, none⟩ :: rest) E L := fun a w hf Hw => by
  obtain ⟨β, r, L', h1, h2⟩ := h
  exact wpList_plain rfl fun K hK => h1 Q K a w hf Hw fun x w' H' => hK _ _ (h2 x _ _ hf H')
end
section
variable {d i : Nat} {op : Op} {ty : TypeId} {pos : String} {aft : Array Edge} {R : List HP} {er : Nat → Bool} {r : Plan}
theorem wq_step (ho : ops[i]? = some ⟨some d, op, ty, pos, aft, none⟩) (hd : Nat.blt d N = true) (h : YK P (St c R) E ⟨some d, op, ty, pos, aft, none⟩ fun v => WP P N c ops Q R er r ((d, v) :: E) L) : WP P N c ops Q R er ((i, true) :: r) E L := by
  obtain ⟨v, h1, h2⟩ := h
  exact wq_y ho h1 hd h2
theorem wq_stepG {j t : Nat} {b : Bool} (ho : ops[i]? = some ⟨some d, op, ty, pos, aft, some (j, b)⟩) (hs : guardSlot ops j = some t) (hl : look E t = some (.bool b)) (hd : Nat.blt d N = true)
    (h : YK P (St c R) E ⟨some d, op, ty, pos, aft, none⟩ fun v => WP P N c ops Q R er r ((d, v) :: E) L) : WP P N c ops Q R er ((i, true) :: r) E L := by
  obtain ⟨v, h1, h2⟩ := h
  exact wq_yg ho hs hl h1 hd h2
/-- What the looks read, behind an act. -/
def Kept (P : Program) (N : Nat) (c : Con) (ops : Array Oper) (Q : Exit → Act → World → Prop) (R : List HP) (er : Nat → Bool) (i : Nat) (r : Plan) (E : Env) (L : List HP) : Prop :=
  ∃ R', Sel R' R ∧ (needB er i r = true → Sel L R') ∧ WP P N c ops Q R' er r E L
theorem kept_late (hn : needB er i r = false) (h : WP P N c ops Q R er r E L) : Kept P N c ops Q R er i r E L := ⟨R, sel_all, fun e => (by rw [hn] at e; cases e), h⟩
theorem kept_same (hs : Sel L R) (h : WP P N c ops Q R er r E L) : Kept P N c ops Q R er i r E L := ⟨R, sel_all, fun _ => hs, h⟩
theorem kept_more (R' : List HP) (h1 : Sel R' R) (h2 : Sel L R') (h : WP P N c ops Q R' er r E L) : Kept P N c ops Q R er i r E L := ⟨R', h1, fun _ => h2, h⟩
theorem Kept.plan (h : Kept P N c ops Q R er i r E L) {a : Act} {w : World} (hf : Fr N E a) (H : St c L w) : ∃ S' : World → Prop, (∀ w, S' w → St c R w) ∧ (needB er i r = true → S' w) ∧ wpPlan P ops Q er r S' a w := by
  obtain ⟨R', h1, h2, h3⟩ := h
  exact ⟨St c R', fun w k => h1.st k, fun e => (h2 e).st H, h3 a w hf H⟩
theorem wq_act (ho : ops[i]? = some ⟨some d, op, ty, pos, aft, none⟩) (hd : Nat.blt d N = true) (h : OWK P N c E L ⟨some d, op, ty, pos, aft, none⟩ fun v L' => Kept P N c ops Q R er i r ((d, v) :: E) L') :
    WP P N c ops Q R er ((i, false) :: r) E L := fun a w hf Hw => by
  obtain ⟨β, s, L', h1, h2⟩ := h
  exact ⟨_, ho, by rw [if_pos (by simp [Region.wanted])]; exact h1 Q _ a w hf Hw fun x w' H' => (h2 x).plan (hf.put hd) H'⟩
theorem wq_act0 (ho : ops[i]? = some ⟨none, op, ty, pos, aft, none⟩) (h : OWK P N c E L ⟨none, op, ty, pos, aft, none⟩ fun _ L' => Kept P N c ops Q R er i r E L') :
    WP P N c ops Q R er ((i, false) :: r) E L := fun a w hf Hw => by
  obtain ⟨β, s, L', h1, h2⟩ := h
  exact ⟨_, ho, by rw [if_pos (by simp [Region.wanted])]; exact h1 Q _ a w hf Hw fun x w' H' => (h2 x).plan hf H'⟩
theorem wq_actG {j t : Nat} {b : Bool} (ho : ops[i]? = some ⟨some d, op, ty, pos, aft, some (j, b)⟩) (hs : guardSlot ops j = some t) (hl : look E t = some (.bool b)) (hd : Nat.blt d N = true)
    (h : OWK P N c E L ⟨some d, op, ty, pos, aft, none⟩ fun v L' => Kept P N c ops Q R er i r ((d, v) :: E) L') : WP P N c ops Q R er ((i, false) :: r) E L := fun a w hf Hw => by
  obtain ⟨β, s, L', h1, h2⟩ := h
  exact ⟨_, ho, by
    rw [if_pos (by rw [wanted_of hf rfl hs hl]; simp)]
    exact oper_guard (h1 Q _ a w hf Hw fun x w' H' => (h2 x).plan (hf.put hd) H')⟩
end

/-- A slice of one's own, opened: nil, or the head of a block. -/
theorem w_openOwn {F : List HP} {e : TypeId} {size n : Nat} {v : Value} {xs : List Value} {x : Code} (hp : Pick L (OwnP e size v n xs) F) (h1 : v = .slice none 0 0 → n = 0 → xs = [] → W P N c Q x E F)
    (h2 : ∀ g cap (cur : List Value), v = .slice (some ⟨g, 0, none⟩) n cap → n ≤ cap → cap ≤ 9223372036854775807 → cur.length = cap * size → cur.take (n * size) = xs → W P N c Q x E (Bl g e cur :: F)) : W P N c Q x E L := fun a w hf H => by
  obtain ⟨h, ⟨hx, ho⟩, l, r⟩ := (hp.st H).stars
  rcases ho with ⟨k1, k2⟩ | ⟨g, cap, cur, k1, k2, k3, k4, k5, k6⟩
  · subst k2
    exact h1 k1 rfl (List.eq_nil_of_length_eq_zero (by simpa using hx)) a w hf (hp.st H).tail
  · refine h2 g cap cur.toList k1 k3 (by simpa [maxLen] using k4) (by simpa using k5) k6 a w hf ⟨H.con, h, ?_, l, r⟩
    simpa [Pt] using k2

theorem ne_self {α : Type} {x : α} : ¬ (x ≠ x) := fun h => h rfl
/-! A branch by its value -/
def CV (P : Program) (N : Nat) (c : Con) (Q : Exit → Act → World → Prop) (x y : Code) (E : Env) (L : List HP) (v : Value) : Prop := ∀ t, look E t = some v → W P N c Q (.cond (.tmp t) x y) E L
theorem w_cv {t : Nat} {x y : Code} {v : Value} (hl : look E t = some v) (h : CV P N c Q x y E L v) : W P N c Q (.cond (.tmp t) x y) E L := h t hl
theorem cv_true {x y : Code} (h : W P N c Q x E L) : CV P N c Q x y E L (.bool true) := fun _ hl => w_true hl h
theorem cv_false {x y : Code} (h : W P N c Q y E L) : CV P N c Q x y E L (.bool false) := fun _ hl => w_false hl h
theorem cv_dec {x y : Code} {p : Prop} [Decidable p] (h1 : p → W P N c Q x E L) (h2 : ¬ p → W P N c Q y E L) : CV P N c Q x y E L (.bool (decide p)) := fun _ hl => w_cond hl h1 h2
theorem cv_dec_t {x y : Code} {p : Prop} [Decidable p] (h : p) (h1 : W P N c Q x E L) : CV P N c Q x y E L (.bool (decide p)) := cv_dec (fun _ => h1) fun k => absurd h k
theorem cv_dec_f {x y : Code} {p : Prop} [Decidable p] (h : ¬ p) (h1 : W P N c Q y E L) : CV P N c Q x y E L (.bool (decide p)) := cv_dec (fun k => absurd k h) fun _ => h1
theorem cv_bool_t {x y : Code} {b : Bool} (h : b = true) (h1 : W P N c Q x E L) : CV P N c Q x y E L (.bool b) := by subst h; exact cv_true h1
theorem cv_bool_f {x y : Code} {b : Bool} (h : b = false) (h1 : W P N c Q y E L) : CV P N c Q x y E L (.bool b) := by subst h; exact cv_false h1
theorem cv_bool {x y : Code} {b : Bool} (h1 : b = true → W P N c Q x E L) (h2 : b = false → W P N c Q y E L) : CV P N c Q x y E L (.bool b) := fun _ hl => w_bool hl h1 h2

/-! Calls by contracts: of one party, of two, of none -/
section
variable {d : Option Nat} {ty : TypeId} {pos : String} {aft : Array Edge} {f : FuncId} {xs : Array Operand} {ts : Array TypeId} {vs : List Value} {A A' B B' : HP} {F F' : List HP} {K : Value → List HP → Prop}
theorem owk_c0 {r : Value} (hx : Evs E xs vs) (he : entersB P f = true) (pre : ∀ w, St c L w → Calls P f vs.toArray w fun e w' => e = .returned r ∧ w = w') (k : K r L) :
    OWK P N c E L (Oper.mk d (.call { callee := .value (.func f), args := xs, argTypes := ts }) ty pos aft none) K :=
  owk0 (ow_call0 hx he fun w H => (pre w H).mono fun _ _ h => ⟨h.1, h.2 ▸ H⟩) k
theorem owk_c0s {r : Value} (hx : Evs E xs vs) (he : entersB P f = true) (pre : ∀ w, St c L w → Calls P f vs.toArray w fun e w' => e = .returned r ∧ St c L w') (k : K r L) :
    OWK P N c E L (Oper.mk d (.call { callee := .value (.func f), args := xs, argTypes := ts }) ty pos aft none) K :=
  owk0 (ow_call0 hx he pre) k
theorem owk_c0x {β : Type} {r : β → Value} {A' : β → HP} (hx : Evs E xs vs) (he : entersB P f = true) (pre : ∀ w, St c L w → Calls P f vs.toArray w fun e w' => ∃ x, e = .returned (r x) ∧ St c (A' x :: L) w') (k : ∀ x, K (r x) (A' x :: L)) :
    OWK P N c E L (Oper.mk d (.call { callee := .value (.func f), args := xs, argTypes := ts }) ty pos aft none) K :=
  owk (ow_callx hx he pre) k
theorem owk_c1q {r : Value} (hx : Evs E xs vs) (he : entersB P f = true) (hp : Pick L A F) (pre : ∀ w, St c (A :: F) w → Calls P f vs.toArray w fun e w' => e = .returned r ∧ w = w') (k : K r L) :
    OWK P N c E L (Oper.mk d (.call { callee := .value (.func f), args := xs, argTypes := ts }) ty pos aft none) K :=
  owk0 (ow_call0 hx he fun w H => (pre w (hp.st H)).mono fun _ _ h => ⟨h.1, h.2 ▸ H⟩) k
theorem owk_c1 {r : Value} (hx : Evs E xs vs) (he : entersB P f = true) (hp : Pick L A F) (pre : ∀ w, St c (A :: F) w → Calls P f vs.toArray w fun e w' => e = .returned r ∧ St c (A' :: F) w') (k : K r (A' :: F)) :
    OWK P N c E L (Oper.mk d (.call { callee := .value (.func f), args := xs, argTypes := ts }) ty pos aft none) K :=
  owk0 (ow_call0 hx he fun w H => pre w (hp.st H)) k
theorem owk_c1x {β : Type} {r : β → Value} {L' : β → List HP} (hx : Evs E xs vs) (he : entersB P f = true) (hp : Pick L A F) (pre : ∀ w, St c (A :: F) w → Calls P f vs.toArray w fun e w' => ∃ x, e = .returned (r x) ∧ St c (L' x) w') (k : ∀ x, K (r x) (L' x)) :
    OWK P N c E L (Oper.mk d (.call { callee := .value (.func f), args := xs, argTypes := ts }) ty pos aft none) K :=
  owk (ow_callx hx he fun w H => pre w (hp.st H)) k
theorem owk_c2 {r : Value} (hx : Evs E xs vs) (he : entersB P f = true) (hp : Pick L A F) (hq : Pick F B F') (pre : ∀ w, St c (A :: B :: F') w → Calls P f vs.toArray w fun e w' => e = .returned r ∧ St c (A' :: B' :: F') w') (k : K r (A' :: B' :: F')) :
    OWK P N c E L (Oper.mk d (.call { callee := .value (.func f), args := xs, argTypes := ts }) ty pos aft none) K :=
  owk0 (ow_call0 hx he fun w H => pre w (Sel.st (.cons hp (.cons hq sel_all)) H)) k
theorem owk_c2x {β : Type} {r : β → Value} {L' : β → List HP} (hx : Evs E xs vs) (he : entersB P f = true) (hp : Pick L A F) (hq : Pick F B F') (pre : ∀ w, St c (A :: B :: F') w → Calls P f vs.toArray w fun e w' => ∃ x, e = .returned (r x) ∧ St c (L' x) w') (k : ∀ x, K (r x) (L' x)) :
    OWK P N c E L (Oper.mk d (.call { callee := .value (.func f), args := xs, argTypes := ts }) ty pos aft none) K :=
  owk (ow_callx hx he fun w H => pre w (Sel.st (.cons hp (.cons hq sel_all)) H)) k
theorem owk_c2q {r : Value} (hx : Evs E xs vs) (he : entersB P f = true) (hp : Pick L A F) (hq : Pick F B F') (pre : ∀ w, St c (A :: B :: F') w → Calls P f vs.toArray w fun e w' => e = .returned r ∧ w = w') (k : K r L) :
    OWK P N c E L (Oper.mk d (.call { callee := .value (.func f), args := xs, argTypes := ts }) ty pos aft none) K :=
  owk0 (ow_call0 hx he fun w H => (pre w (Sel.st (.cons hp (.cons hq sel_all)) H)).mono fun _ _ h => ⟨h.1, h.2 ▸ H⟩) k
end
/-- A call of a function value, by a contract of one party. -/
theorem owk_fv1 {c : Con} {L F : List HP} {A A' : HP} {d : Option Nat} {ty : TypeId} {pos : String} {aft : Array Edge} {f : FuncId} {fo : Operand} {xs : Array Operand} {ts : Array TypeId} {vs caps al : List Value} {K : Value → List HP → Prop} {r : Value}
    (hf : Ev E fo (.func (.func f) #[] caps.toArray)) (hx : Evs E xs vs) (he : entersB P f = true) (hp : Pick L A F) (ha : vs ++ caps = al)
    (pre : ∀ w, St c (A :: F) w → Calls P f al.toArray w fun e w' => e = .returned r ∧ St c (A' :: F) w') (k : K r (A' :: F)) :
    OWK P N c E L (Oper.mk d (.call { callee := .value fo, args := xs, argTypes := ts }) ty pos aft none) K :=
  owk0 (ow_call hf hx he fun w H => by rw [ha]; exact (pre w (hp.st H)).mono fun _ _ h => ⟨(), h⟩) k
theorem at_move {K : Value → Prop} {d : Option Nat} {ty : TypeId} {pos : String} {aft : Array Edge} {g : Option (Nat × Bool)} {x : Operand} (h : YK P H E (Oper.mk d (.move x) ty pos aft g) K) : YK P H E (Oper.mk d (.move x) ty pos aft g) K := h
theorem at_assign {K : Value → Prop} {d : Option Nat} {ty : TypeId} {pos : String} {aft : Array Edge} {g : Option (Nat × Bool)} {x : Operand} (h : YK P H E (Oper.mk d (.assign x) ty pos aft g) K) : YK P H E (Oper.mk d (.assign x) ty pos aft g) K := h
theorem at_nilCheck {K : Value → Prop} {d : Option Nat} {ty : TypeId} {pos : String} {aft : Array Edge} {g : Option (Nat × Bool)} {x : Operand} (h : YK P H E (Oper.mk d (.nilCheck x) ty pos aft g) K) : YK P H E (Oper.mk d (.nilCheck x) ty pos aft g) K := h
theorem at_field {K : Value → Prop} {d : Option Nat} {ty : TypeId} {pos : String} {aft : Array Edge} {g : Option (Nat × Bool)} {s f : Nat} {x : Operand} (h : YK P H E (Oper.mk d (.fieldAddr s x f) ty pos aft g) K) : YK P H E (Oper.mk d (.fieldAddr s x f) ty pos aft g) K := h
theorem at_load {K : Value → Prop} {d : Option Nat} {ty : TypeId} {pos : String} {aft : Array Edge} {g : Option (Nat × Bool)} {t : TypeId} {x : Operand} (h : YK P H E (Oper.mk d (.load t x) ty pos aft g) K) : YK P H E (Oper.mk d (.load t x) ty pos aft g) K := h
theorem at_bin {K : Value → Prop} {d : Option Nat} {ty : TypeId} {pos : String} {aft : Array Edge} {g : Option (Nat × Bool)} {o : BinOp} {t t' : TypeId} {x y : Operand} (h : YK P H E (Oper.mk d (.binOp o t x y t') ty pos aft g) K) : YK P H E (Oper.mk d (.binOp o t x y t') ty pos aft g) K := h
theorem at_pick {K : Value → Prop} {d : Option Nat} {ty : TypeId} {pos : String} {aft : Array Edge} {g : Option (Nat × Bool)} {x y z : Operand} (h : YK P H E (Oper.mk d (.pick x y z) ty pos aft g) K) : YK P H E (Oper.mk d (.pick x y z) ty pos aft g) K := h
theorem at_extract {K : Value → Prop} {d : Option Nat} {ty : TypeId} {pos : String} {aft : Array Edge} {g : Option (Nat × Bool)} {x : Operand} {i : Nat} (h : YK P H E (Oper.mk d (.extract x i) ty pos aft g) K) : YK P H E (Oper.mk d (.extract x i) ty pos aft g) K := h
theorem at_un {K : Value → Prop} {d : Option Nat} {ty : TypeId} {pos : String} {aft : Array Edge} {g : Option (Nat × Bool)} {o : UnOp} {t : TypeId} {x : Operand} (h : YK P H E (Oper.mk d (.unOp o t x) ty pos aft g) K) : YK P H E (Oper.mk d (.unOp o t x) ty pos aft g) K := h
theorem at_call {K : Value → Prop} {d : Option Nat} {ty : TypeId} {pos : String} {aft : Array Edge} {g : Option (Nat × Bool)} {b : Call} (h : YK P H E (Oper.mk d (.call b) ty pos aft g) K) : YK P H E (Oper.mk d (.call b) ty pos aft g) K := h
theorem at_index {K : Value → Prop} {d : Option Nat} {ty : TypeId} {pos : String} {aft : Array Edge} {g : Option (Nat × Bool)} {t : TypeId} {x i : Operand} (h : YK P H E (Oper.mk d (.indexAddr t x i) ty pos aft g) K) : YK P H E (Oper.mk d (.indexAddr t x i) ty pos aft g) K := h
theorem at_slice {K : Value → Prop} {d : Option Nat} {ty : TypeId} {pos : String} {aft : Array Edge} {g : Option (Nat × Bool)} {t : TypeId} {x : Operand} {l h' m : Option Operand} (h : YK P H E (Oper.mk d (.slice t x l h' m) ty pos aft g) K) : YK P H E (Oper.mk d (.slice t x l h' m) ty pos aft g) K := h
theorem at_conv {K : Value → Prop} {d : Option Nat} {ty : TypeId} {pos : String} {aft : Array Edge} {g : Option (Nat × Bool)} {t t' : TypeId} {x : Operand} (h : YK P H E (Oper.mk d (.convert t t' x) ty pos aft g) K) : YK P H E (Oper.mk d (.convert t t' x) ty pos aft g) K := h
theorem at_func {K : Value → Prop} {d : Option Nat} {ty : TypeId} {pos : String} {aft : Array Edge} {g : Option (Nat × Bool)} {fn : Fn} {a b : Array Operand} (h : YK P H E (Oper.mk d (.makeFunc fn a b) ty pos aft g) K) : YK P H E (Oper.mk d (.makeFunc fn a b) ty pos aft g) K := h
theorem at_build {K : Value → Prop} {d : Option Nat} {ty : TypeId} {pos : String} {aft : Array Edge} {g : Option (Nat × Bool)} {t : TypeId} {ps : Array (Nat × Operand)} (h : YK P H E (Oper.mk d (.build t ps) ty pos aft g) K) : YK P H E (Oper.mk d (.build t ps) ty pos aft g) K := h
theorem at_callO {K : Value → List HP → Prop} {d : Option Nat} {ty : TypeId} {pos : String} {aft : Array Edge} {g : Option (Nat × Bool)} {b : Call} (h : OWK P N c E L (Oper.mk d (.call b) ty pos aft g) K) : OWK P N c E L (Oper.mk d (.call b) ty pos aft g) K := h
theorem at_allocO {K : Value → List HP → Prop} {d : Option Nat} {ty : TypeId} {pos : String} {aft : Array Edge} {g : Option (Nat × Bool)} {t : TypeId} (h : OWK P N c E L (Oper.mk d (.alloc t) ty pos aft g) K) : OWK P N c E L (Oper.mk d (.alloc t) ty pos aft g) K := h
theorem at_boxO {K : Value → List HP → Prop} {d : Option Nat} {ty : TypeId} {pos : String} {aft : Array Edge} {g : Option (Nat × Bool)} {t : TypeId} {x : Operand} (h : OWK P N c E L (Oper.mk d (.box t x) ty pos aft g) K) : OWK P N c E L (Oper.mk d (.box t x) ty pos aft g) K := h
theorem at_storeO {K : Value → List HP → Prop} {d : Option Nat} {ty : TypeId} {pos : String} {aft : Array Edge} {g : Option (Nat × Bool)} {t : TypeId} {x y : Operand} (h : OWK P N c E L (Oper.mk d (.store t x y) ty pos aft g) K) : OWK P N c E L (Oper.mk d (.store t x y) ty pos aft g) K := h
theorem at_buildSliceO {K : Value → List HP → Prop} {d : Option Nat} {ty : TypeId} {pos : String} {aft : Array Edge} {g : Option (Nat × Bool)} {t n : Nat} {ps : Array (Nat × Operand)} (h : OWK P N c E L (Oper.mk d (.buildSlice t n ps) ty pos aft g) K) : OWK P N c E L (Oper.mk d (.buildSlice t n ps) ty pos aft g) K := h
theorem at_makeSliceO {K : Value → List HP → Prop} {d : Option Nat} {ty : TypeId} {pos : String} {aft : Array Edge} {g : Option (Nat × Bool)} {t : TypeId} {x y : Operand} (h : OWK P N c E L (Oper.mk d (.makeSlice t x y) ty pos aft g) K) : OWK P N c E L (Oper.mk d (.makeSlice t x y) ty pos aft g) K := h
theorem at_convO {K : Value → List HP → Prop} {d : Option Nat} {ty : TypeId} {pos : String} {aft : Array Edge} {g : Option (Nat × Bool)} {t t' : TypeId} {x : Operand} (h : OWK P N c E L (Oper.mk d (.convert t t' x) ty pos aft g) K) : OWK P N c E L (Oper.mk d (.convert t t' x) ty pos aft g) K := h
theorem at_builtinO {K : Value → List HP → Prop} {d : Option Nat} {ty : TypeId} {pos : String} {aft : Array Edge} {g : Option (Nat × Bool)} {b : Builtin} {xs : Array Operand} {ts : Array TypeId} (h : OWK P N c E L (Oper.mk d (.call { callee := .builtin b, args := xs, argTypes := ts }) ty pos aft g) K) : OWK P N c E L (Oper.mk d (.call { callee := .builtin b, args := xs, argTypes := ts }) ty pos aft g) K := h
theorem at_fn {K : Value → List HP → Prop} {d : Option Nat} {ty : TypeId} {pos : String} {aft : Array Edge} {g : Option (Nat × Bool)} (f : FuncId) {xs : Array Operand} {ts : Array TypeId} (h : OWK P N c E L (Oper.mk d (.call { callee := .value (.func f), args := xs, argTypes := ts }) ty pos aft g) K) : OWK P N c E L (Oper.mk d (.call { callee := .value (.func f), args := xs, argTypes := ts }) ty pos aft g) K := h
theorem is_yk {K : Value → Prop} {o : Oper} (h : YK P H E o K) : YK P H E o K := h
theorem is_owk {K : Value → List HP → Prop} {o : Oper} (h : OWK P N c E L o K) : OWK P N c E L o K := h
theorem is_wl {l : List Oper} (h : WL P N c ops Q l E L) : WL P N c ops Q l E L := h
theorem is_wp {R : List HP} {er : Nat → Bool} {p : Plan} (h : WP P N c ops Q R er p E L) : WP P N c ops Q R er p E L := h
theorem is_w {x : Code} (h : W P N c Q x E L) : W P N c Q x E L := h
theorem is_x {e : Exit} (h : X N c Q e E L) : X N c Q e E L := h
theorem is_kept {R : List HP} {er : Nat → Bool} {i : Nat} {r : Plan} (h : Kept P N c ops Q R er i r E L) : Kept P N c ops Q R er i r E L := h
theorem is_wpT {R : List HP} {er : Nat → Bool} {i : Nat} {r : Plan} (h : WP P N c ops Q R er ((i, true) :: r) E L) : WP P N c ops Q R er ((i, true) :: r) E L := h
theorem is_wpF {R : List HP} {er : Nat → Bool} {i : Nat} {r : Plan} (h : WP P N c ops Q R er ((i, false) :: r) E L) : WP P N c ops Q R er ((i, false) :: r) E L := h
theorem is_cv {x y : Code} {v : Value} (h : CV P N c Q x y E L v) : CV P N c Q x y E L v := h
end
end Go.Proofs.Ytjofjkjghakcoaa
