/- The queue as plain data. No program in sight. -/
import Derived.Test.YtocejpklpggfnaaRd
import Derived.Test.YtocejpklpggfnaaOw
namespace Go.Proofs.Ytocejpklpggfnaa
open Go.RowKit

structure MsgM where
  id : Int
  till : Int
  tries : Int
  body : List UInt8
  dead : Bool
structure QueueM where
  number : Int
  quota : Int
  limit : Int
  wait : Int
  next : Int
  list : List MsgM
def mcell (m : MsgM) : List Value := [.int .i64 m.id, .int .i64 m.till, .int .i64 m.tries, str m.body, .bool m.dead]
def mcells (l : List MsgM) : List Value := l.flatMap mcell
theorem mcell_length (m : MsgM) : (mcell m).length = 5 := rfl
theorem mcell_one (m : MsgM) : ∀ v ∈ mcell m, v.oneCell' = true := by
  intro v hv
  simp only [mcell, List.mem_cons, List.not_mem_nil, or_false] at hv
  rcases hv with rfl | rfl | rfl | rfl | rfl <;> rfl
theorem mcells_length : ∀ l : List MsgM, (mcells l).length = l.length * 5
  | [] => rfl
  | x :: l => by
    have := mcells_length l
    simp only [mcells, List.flatMap_cons, List.length_append, List.length_cons, mcell_length] at this ⊢
    rw [this]; omega
theorem mcells_one (l : List MsgM) : ∀ v ∈ mcells l, v.oneCell' = true := by
  intro v hv
  obtain ⟨m, _, h⟩ := List.mem_flatMap.1 hv
  exact mcell_one m v h
theorem mcells_append (l l' : List MsgM) : mcells (l ++ l') = mcells l ++ mcells l' := by simp [mcells]
theorem mcells_drop : ∀ (l : List MsgM) (j : Nat), (mcells l).drop (j * 5) = mcells (l.drop j)
  | l, 0 => by simp
  | [], j + 1 => by simp [mcells]
  | x :: l, j + 1 => by
    have e : mcells (x :: l) = mcell x ++ mcells l := rfl
    rw [e, show (j + 1) * 5 = (mcell x).length + j * 5 by rw [mcell_length]; omega, ← List.drop_drop, List.drop_left, mcells_drop l j]
    rfl
theorem mcells_take : ∀ (l : List MsgM) (j : Nat), (mcells l).take (j * 5) = mcells (l.take j)
  | l, 0 => by simp [mcells]
  | [], j + 1 => by simp [mcells]
  | x :: l, j + 1 => by
    have e : mcells (x :: l) = mcell x ++ mcells l := rfl
    rw [e, show (j + 1) * 5 = (mcell x).length + j * 5 by rw [mcell_length]; omega, List.take_append, List.take_of_length_le (by omega), show (mcell x).length + j * 5 - (mcell x).length = j * 5 by omega, mcells_take l j]
    rfl
theorem mcells_at {l : List MsgM} {j : Nat} {m : MsgM} (h : l[j]? = some m) : ((mcells l).drop (j * 5)).take 5 = mcell m := by
  have hl : j < l.length := (List.getElem?_eq_some_iff.1 h).1
  have e : l[j] = m := by rw [List.getElem?_eq_getElem hl] at h; exact Option.some.inj h
  rw [mcells_drop, List.drop_eq_getElem_cons hl, e]
  rfl
/-- A message turned, in the cells. -/
theorem mcells_set : ∀ (l : List MsgM) (j : Nat) (m : MsgM), j < l.length → mcells (l.set j m) = splice (mcells l) (j * 5) (mcell m)
  | x :: l, 0, m, _ => rfl
  | x :: l, j + 1, m, h => by
    have e : ∀ y (r : List MsgM), mcells (y :: r) = mcell y ++ mcells r := fun _ _ => rfl
    have ih := mcells_set l j m (by simpa using h)
    rw [List.set_cons_succ, e, e, ih]
    unfold splice
    rw [show (j + 1) * 5 = (mcell x).length + j * 5 by rw [mcell_length]; omega, takePast, Nat.add_assoc, dropPast]
    simp only [List.append_assoc]

/-- By rising numbers. -/
def Rising (l : List MsgM) : Prop := l.Pairwise fun a b => a.id < b.id
theorem Rising.lt {l : List MsgM} (h : Rising l) {i j : Nat} {a b : MsgM} (ha : l[i]? = some a) (hb : l[j]? = some b) (hij : i < j) : a.id < b.id := by
  obtain ⟨h1, rfl⟩ := List.getElem?_eq_some_iff.1 ha
  obtain ⟨h2, rfl⟩ := List.getElem?_eq_some_iff.1 hb
  exact List.pairwise_iff_getElem.1 h i j h1 h2 hij
/-- A number's place. -/
def placeOf (id : Int) : List MsgM → Nat
  | [] => 0
  | m :: r => if m.id < id then placeOf id r + 1 else 0
theorem placeOf_le (id : Int) : ∀ l : List MsgM, placeOf id l ≤ l.length
  | [] => Nat.le_refl _
  | m :: r => by
    unfold placeOf
    split
    · have := placeOf_le id r; simp; omega
    · simp
/-- What a search comes to: all ahead are less, none from there on. -/
theorem placeOf_is {id : Int} : ∀ {l : List MsgM} {n : Nat}, n ≤ l.length → (∀ j m, l[j]? = some m → j < n → m.id < id) → (∀ j m, l[j]? = some m → n ≤ j → ¬ m.id < id) → placeOf id l = n
  | [], n, h, _, _ => by simp at h; simp [placeOf, h]
  | x :: r, 0, _, _, h2 => by
    have := h2 0 x rfl (Nat.le_refl _)
    simp [placeOf, this]
  | x :: r, n + 1, h, h1, h2 => by
    have hx := h1 0 x rfl (by omega)
    rw [placeOf, if_pos hx, placeOf_is (by simpa using h) (fun j m e k => h1 (j + 1) m (by simpa using e) (by omega)) (fun j m e k => h2 (j + 1) m (by simpa using e) (by omega))]
/-- Is there such a message? -/
def hasId (id : Int) (l : List MsgM) : Bool := match l[placeOf id l]? with
  | some m => decide (m.id = id)
  | none => false
theorem placeOf_at {l : List MsgM} (h : Rising l) {j : Nat} {m : MsgM} (hm : l[j]? = some m) : placeOf m.id l = j := by
  refine placeOf_is (Nat.le_of_lt (List.getElem?_eq_some_iff.1 hm).1) (fun i a ha hi => h.lt ha hm hi) (fun i a ha hi => ?_)
  rcases Nat.lt_or_eq_of_le hi with k | k
  · have := h.lt hm ha k; omega
  · subst k; rw [hm] at ha; cases ha; omega
theorem hasId_at {l : List MsgM} (h : Rising l) {j : Nat} {m : MsgM} (hm : l[j]? = some m) : hasId m.id l = true := by
  unfold hasId
  rw [placeOf_at h hm, hm]; simp
end Go.Proofs.Ytocejpklpggfnaa
