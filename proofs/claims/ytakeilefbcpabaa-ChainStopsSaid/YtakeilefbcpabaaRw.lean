/- Rows of elements of many cells: what lies in a block from an element on. No program in sight. -/
import Derived.Test.YtakeilefbcpabaaSlb
namespace Go.Proofs.Ytakeilefbcpabaa
section
variable {α : Type} {f : α → List Value} {sz : Nat}
/-- All elements have so many cells. -/
def Szd (f : α → List Value) (sz : Nat) (l : List α) : Prop := ∀ x ∈ l, (f x).length = sz
theorem Szd.tail {x : α} {l : List α} (h : Szd f sz (x :: l)) : Szd f sz l := fun y hy => h y (List.mem_cons_of_mem _ hy)
theorem Szd.head {x : α} {l : List α} (h : Szd f sz (x :: l)) : (f x).length = sz := h x List.mem_cons_self
theorem Szd.append {l m : List α} (h : Szd f sz l) (k : Szd f sz m) : Szd f sz (l ++ m) := fun y hy => (List.mem_append.1 hy).elim (h y) (k y)
theorem Szd.filter {l : List α} (h : Szd f sz l) (p : α → Bool) : Szd f sz (l.filter p) := fun y hy => h y (List.mem_filter.1 hy).1
theorem Szd.take {l : List α} (h : Szd f sz l) (n : Nat) : Szd f sz (l.take n) := fun y hy => h y (List.mem_of_mem_take hy)
theorem Szd.drop {l : List α} (h : Szd f sz l) (n : Nat) : Szd f sz (l.drop n) := fun y hy => h y (List.mem_of_mem_drop hy)
theorem Szd.get {l : List α} (h : Szd f sz l) {j : Nat} (hj : j < l.length) : (f l[j]).length = sz := h _ (List.getElem_mem hj)
theorem flat_length : ∀ {l : List α}, Szd f sz l → (l.flatMap f).length = l.length * sz
  | [], _ => by simp
  | x :: l, h => by rw [List.flatMap_cons, List.length_append, h.head, flat_length h.tail, List.length_cons, Nat.add_mul, Nat.one_mul, Nat.add_comm]
theorem flat_at : ∀ {l : List α}, Szd f sz l → ∀ (j : Nat) (hj : j < l.length), ((l.flatMap f).drop (j * sz)).take sz = f l[j]
  | x :: l, h, 0, _ => by
    rw [Nat.zero_mul, List.drop_zero, List.flatMap_cons]
    exact List.take_left' h.head
  | x :: l, h, j + 1, hj => by
    rw [List.flatMap_cons, Nat.add_mul, Nat.one_mul, Nat.add_comm (j * sz), ← List.drop_drop, List.drop_left' h.head]
    exact flat_at h.tail j (by simpa using hj)
/-- The row's cells are those elements from element i on. -/
def RowFrom (f : α → List Value) (sz : Nat) (cur : List Value) (i : Nat) (l : List α) : Prop := (cur.drop (i * sz)).take (l.length * sz) = l.flatMap f ∧ (i + l.length) * sz ≤ cur.length
theorem rowFrom_of {cur : List Value} {l : List α} {n : Nat} (hn : l.length = n) (h : cur.take (n * sz) = l.flatMap f) (hl : n * sz ≤ cur.length) : RowFrom f sz cur 0 l := by
  subst hn
  exact ⟨by rw [Nat.zero_mul, List.drop_zero]; exact h, by rw [Nat.zero_add]; exact hl⟩
theorem RowFrom.head {cur : List Value} {l : List α} (h : RowFrom f sz cur 0 l) : cur.take (l.length * sz) = l.flatMap f := by
  have := h.1; rwa [Nat.zero_mul, List.drop_zero] at this
theorem RowFrom.get {cur : List Value} {i : Nat} {l : List α} (h : RowFrom f sz cur i l) (hl : Szd f sz l) {j : Nat} (hj : j < l.length) : (cur.drop ((i + j) * sz)).take sz = f l[j] := by
  have h1 := flat_at hl j hj
  have h2 : j * sz + sz ≤ l.length * sz := by rw [← Nat.succ_mul]; exact Nat.mul_le_mul_right _ hj
  rw [← h.1, List.drop_take, List.drop_drop, List.take_take, Nat.min_eq_left (by omega), ← Nat.add_mul] at h1
  exact h1
theorem RowFrom.tail {cur : List Value} {i : Nat} {x : α} {l : List α} (h : RowFrom f sz cur i (x :: l)) (hx : (f x).length = sz) : RowFrom f sz cur (i + 1) l := by
  obtain ⟨h1, h2⟩ := h
  rw [List.length_cons] at h1 h2
  refine ⟨?_, by rw [show i + 1 + l.length = i + (l.length + 1) by omega]; exact h2⟩
  have h3 := congrArg (List.drop sz) h1
  rw [List.drop_take, List.drop_drop, List.flatMap_cons, List.drop_left' hx, Nat.add_mul, Nat.one_mul, Nat.add_sub_cancel] at h3
  rw [Nat.add_mul, Nat.one_mul]; exact h3
theorem RowFrom.drop {cur : List Value} : ∀ {l : List α} {i : Nat} (_ : RowFrom f sz cur i l) (_ : Szd f sz l) (n : Nat), RowFrom f sz cur (i + n) (l.drop n) ∨ l.length < n
  | l, i, h, _, 0 => .inl h
  | [], _, _, _, n + 1 => .inr (by simp)
  | x :: l, i, h, hl, n + 1 => by
    rcases RowFrom.drop (h.tail hl.head) hl.tail n with k | k
    · left; rw [show i + (n + 1) = i + 1 + n by omega]; exact k
    · right; simpa using k
theorem RowFrom.take {cur : List Value} {i : Nat} {l : List α} (h : RowFrom f sz cur i l) (hl : Szd f sz l) (n : Nat) : RowFrom f sz cur i (l.take n) := by
  obtain ⟨h1, h2⟩ := h
  have h3 : (l.take n).length ≤ l.length := by rw [List.length_take]; omega
  have h4 : (l.take n).length * sz ≤ l.length * sz := Nat.mul_le_mul_right _ h3
  refine ⟨?_, Nat.le_trans (Nat.mul_le_mul_right _ (by omega)) h2⟩
  have h5 := congrArg (List.take ((l.take n).length * sz)) h1
  rw [List.take_take, Nat.min_eq_left h4] at h5
  rw [h5]
  have h6 : l.flatMap f = (l.take n).flatMap f ++ (l.drop n).flatMap f := by rw [← List.flatMap_append, List.take_append_drop]
  rw [h6, ← flat_length (hl.take n), List.take_left]
/-- An element is laid at the end of those that are kept. -/
theorem RowFrom.put {cur : List Value} {kept : List α} {x : α} (h : RowFrom f sz cur 0 kept) (hk : Szd f sz kept) (hx : (f x).length = sz) (hfit : (kept.length + 1) * sz ≤ cur.length) : RowFrom f sz (splice cur (kept.length * sz) (f x)) 0 (kept ++ [x]) := by
  have hfit' : kept.length * sz + (f x).length ≤ cur.length := by rw [hx, ← Nat.succ_mul]; exact hfit
  refine ⟨?_, ?_⟩
  · rw [Nat.zero_mul, List.drop_zero, List.flatMap_append, List.length_append, List.length_singleton, splice, h.head]
    have e : (kept.length + 1) * sz = (kept.flatMap f ++ f x).length := by rw [List.length_append, flat_length hk, hx, Nat.succ_mul]
    rw [e, List.take_left]
    simp
  · rw [splice_length hfit', List.length_append, List.length_singleton, Nat.zero_add]; exact hfit
/-- What lies behind isn't touched. -/
theorem RowFrom.behind {cur : List Value} {o j : Nat} {l : List α} {vs : List Value} (h : RowFrom f sz cur j l) (ho : o + vs.length ≤ j * sz) : RowFrom f sz (splice cur o vs) j l := by
  obtain ⟨h1, h2⟩ := h
  have h3 : j * sz ≤ cur.length := Nat.le_trans (Nat.mul_le_mul_right _ (by omega)) h2
  refine ⟨?_, by rw [splice_length (by omega)]; exact h2⟩
  rw [← h1]
  congr 1
  have hlen : (cur.take o ++ vs).length = o + vs.length := by rw [List.length_append, List.length_take]; omega
  rw [splice, List.drop_append, List.drop_of_length_le (by omega), List.nil_append, List.drop_drop]
  congr 1
  omega
theorem RowFrom.ahead {cur : List Value} {i o : Nat} {l : List α} {zs : List Value} (h : RowFrom f sz cur i l) (ho : (i + l.length) * sz ≤ o) (hfit : o + zs.length ≤ cur.length) : RowFrom f sz (splice cur o zs) i l := by
  obtain ⟨h1, h2⟩ := h
  refine ⟨?_, by rw [splice_length hfit]; exact h2⟩
  rw [← h1, splice, List.append_assoc]
  have h3 : i * sz + l.length * sz ≤ o := by rw [← Nat.add_mul]; exact ho
  rw [List.drop_append_of_le_length (by rw [List.length_take]; omega), List.take_append_of_le_length (by rw [List.length_drop, List.length_take]; omega), List.drop_take, List.take_take, Nat.min_eq_left (by omega)]
/-- An element is turned in its place. -/
theorem RowFrom.set {cur : List Value} {l : List α} {x : α} {j : Nat} (h : RowFrom f sz cur 0 l) (hl : Szd f sz l) (hx : (f x).length = sz) (hj : j < l.length) : RowFrom f sz (splice cur (j * sz) (f x)) 0 (l.set j x) := by
  have hb : (j + 1) * sz ≤ l.length * sz := Nat.mul_le_mul_right _ hj
  have hb' : j * sz + sz ≤ l.length * sz := by rw [← Nat.succ_mul]; exact Nat.mul_le_mul_right _ hj
  have hc : l.length * sz ≤ cur.length := by have := h.2; rwa [Nat.zero_add] at this
  have hlt : (l.take j).length = j := by rw [List.length_take]; omega
  have h1 := ((h.take hl j).put (hl.take j) hx (by rw [hlt]; omega))
  rw [hlt] at h1
  have h2 : RowFrom f sz cur (j + 1) (l.drop (j + 1)) := by
    rcases h.drop hl (j + 1) with k | k
    · rw [Nat.zero_add] at k; exact k
    · omega
  have h3 := h2.behind (o := j * sz) (vs := f x) (by rw [hx, ← Nat.succ_mul]; exact Nat.le_refl _)
  obtain ⟨a1, a2⟩ := h1
  obtain ⟨b1, b2⟩ := h3
  have hset : l.set j x = (l.take j ++ [x]) ++ l.drop (j + 1) := by rw [List.set_eq_take_append_cons_drop, if_pos hj]; simp
  have hll : (l.take j ++ [x]).length = j + 1 := by rw [List.length_append, hlt, List.length_singleton]
  rw [Nat.zero_mul, List.drop_zero, hll] at a1
  refine ⟨?_, ?_⟩
  · rw [hset, List.flatMap_append, ← a1, ← b1, Nat.zero_mul, List.drop_zero, List.length_append, hll, Nat.add_mul]
    rw [List.take_add]
  · rw [List.length_set, splice_length (by rw [hx]; omega), Nat.zero_add]; exact hc
end
end Go.Proofs.Ytakeilefbcpabaa
