/- The reference disk (coffretref11) in memory: a struct, and blocks that never change again. -/
import Derived.Test.YtakeilefbcpabaaLq
namespace Go.Proofs.Ytakeilefbcpabaa
open Go.RowKit

/-! ### Blocks that never change again -/
abbrev Blocks := List (Nat × Obj)
def Bag (m : Blocks) : HP := fun h => ∀ x ∈ m, h x.1 = some x.2
section
variable {c : Con} {L F : List HP} {w : World} {A B : HP}
theorem has_bag {b : Nat} {o : Obj} {m : Blocks} (h : (b, o) ∈ m) : Has (St c (Bag m :: L)) b o := fun w H => by
  obtain ⟨h0, a, l⟩ := H.get
  exact l b o (a _ h)
/-- Two parties made one. -/
theorem St.merge {C : HP} (H : St c (A :: B :: F) w) (k : ∀ h h1 h2, A h1 → B h2 → (∀ b o, h1 b = some o → h b = some o) → (∀ b o, h2 b = some o → h b = some o) → C h) : St c (C :: F) w := by
  obtain ⟨h1, a1, l1, h2, a2, l2, r⟩ := H.stars
  refine ⟨H.con, fun b => if h1 b = none then h2 b else h1 b, k _ h1 h2 a1 a2 (fun b o e => ?_) (fun b o e => ?_), fun b o e => ?_, r.mono (fun b k => ⟨trivial, ?_⟩) fun _ _ _ e => e⟩
  · show (if h1 b = none then h2 b else h1 b) = some o
    rw [if_neg (by rw [e]; simp)]; exact e
  · show (if h1 b = none then h2 b else h1 b) = some o
    rw [if_pos (l2 b o e).1.2]; exact e
  · replace e : (if h1 b = none then h2 b else h1 b) = some o := e
    split at e
    · exact ⟨trivial, (l2 b o e).2⟩
    · exact l1 b o e
  · show (if h1 b = none then h2 b else h1 b) = none
    rw [if_pos k.1.2]; exact k.2
theorem St.bag {b : Nat} {o : Obj} {m : Blocks} (H : St c (Pt b o :: Bag m :: F) w) : St c (Bag ((b, o) :: m) :: F) w :=
  H.merge fun h h1 h2 a1 a2 s1 s2 x hx => by
    rcases List.mem_cons.1 hx with rfl | hx
    · exact s1 _ _ a1
    · exact s2 _ _ (a2 x hx)
theorem St.bag0 (H : St c F w) : St c (Bag [] :: F) w := H.new w _ rfl (fun _ _ => rfl) (fun x hx => by cases hx)

/-- The slice v of n elements, of size cells each, reads as xs in the bag. -/
def InBag (m : Blocks) (size : Nat) (v : Value) (n : Nat) (xs : List Value) : Prop :=
  xs.length = n * size ∧ ((v = .slice none 0 0 ∧ n = 0) ∨ ∃ (g cap : Nat) (cs : List Value) (T : TypeId), v = .slice (some ⟨g, 0, none⟩) n cap ∧ (g, Obj.cells cs.toArray T (0, 0)) ∈ m ∧ n ≤ cap ∧ cap ≤ 9223372036854775807 ∧ cs.take (n * size) = xs)
theorem InBag.mono {m m' : Blocks} {size n : Nat} {v : Value} {xs : List Value} (h : InBag m size v n xs) (k : ∀ x ∈ m, x ∈ m') : InBag m' size v n xs :=
  ⟨h.1, h.2.imp id fun ⟨g, cap, cs, T, h1, h2, h3⟩ => ⟨g, cap, cs, T, h1, k _ h2, h3⟩⟩
theorem InBag.one {m : Blocks} {size n : Nat} {v : Value} {xs : List Value} (h : InBag m size v n xs) : v.oneCell' = true := by
  rcases h.2 with ⟨rfl, _⟩ | ⟨g, cap, cs, T, rfl, _⟩ <;> rfl
theorem InBag.nil (m : Blocks) (size : Nat) : InBag m size (.slice none 0 0) 0 [] := ⟨by simp, .inl ⟨rfl, rfl⟩⟩
theorem InBag.form {m : Blocks} {size n : Nat} {v : Value} {xs : List Value} (h : InBag m size v n xs) : ∃ A cap, v = .slice A n cap ∧ n ≤ cap ∧ cap ≤ 9223372036854775807 := by
  rcases h.2 with ⟨rfl, rfl⟩ | ⟨g, cap, cs, T, rfl, _, h1, h2, _⟩
  · exact ⟨_, _, rfl, Nat.le_refl _, by omega⟩
  · exact ⟨_, _, rfl, h1, h2⟩
theorem InBag.reads {m : Blocks} {size n : Nat} {v : Value} {xs : List Value} (h : InBag m size v n xs) (H : St c (Bag m :: F) w) : Reads w v n size xs := by
  refine ⟨h.1, ?_⟩
  rcases h.2 with ⟨rfl, rfl⟩ | ⟨g, cap, cs, T, rfl, h2, h3, h4, h5⟩
  · exact .inl ⟨rfl, rfl⟩
  · refine .inr ⟨_, cap, rfl, h3, h4, fun j u hu => ?_⟩
    rw [add_mid, Nat.zero_add, cell_of_row w g j _ _ _ (has_bag h2 w H)]
    rw [← h5, List.getElem?_take] at hu
    split at hu
    · simpa using hu
    · cases hu
theorem InBag.hasR {m : Blocks} {n : Nat} {v : Value} {xs : List Value} (h : InBag m 1 v n xs) : HasR (St c (Bag m :: F)) v n xs := fun _ H => h.reads H
/-- The j-th element of a slice that has elements. -/
theorem InBag.at {m : Blocks} {size n j : Nat} {v : Value} {xs ys : List Value} (h : InBag m size v n xs) (hj : j < n) (hy : (xs.drop (j * size)).take size = ys) (hl : ys.length = size) :
    ∃ ad cap, v = .slice (some ad) n cap ∧ ∀ (c : Con) (F : List HP), HasCells (St c (Bag m :: F)) (ad.add (j * size)) ys := by
  rcases h.2 with ⟨rfl, rfl⟩ | ⟨g, cap, cs, T, rfl, h2, h3, h4, h5⟩
  · omega
  · refine ⟨_, cap, rfl, fun c F => ?_⟩
    rw [add_mid, Nat.zero_add]
    refine hasCells_bl (has_bag h2) ?_
    show (cs.drop (j * size)).take ys.length = ys
    have hle : j * size + size ≤ n * size := by rw [← Nat.succ_mul]; exact Nat.mul_le_mul_right _ hj
    rw [hl, ← hy, ← h5, List.drop_take, List.take_take, Nat.min_eq_left (by omega)]

theorem bag_of {m : Blocks} {g size n cap : Nat} {T : TypeId} {cs xs : List Value} (h1 : cs.take (n * size) = xs) (h2 : n * size ≤ cs.length) (h3 : n ≤ cap) (h4 : cap ≤ 9223372036854775807) :
    InBag ((g, Obj.cells cs.toArray T (0, 0)) :: m) size (.slice (some ⟨g, 0, none⟩) n cap) n xs :=
  ⟨by rw [← h1, List.length_take]; omega, .inr ⟨g, cap, cs, T, rfl, List.mem_cons_self, h3, h4, h1⟩⟩
/-- A slice of one's own goes into the bag. -/
theorem St.ownBag {e : TypeId} {size n : Nat} {v : Value} {xs : List Value} {m : Blocks} (H : St c (OwnP e size v n xs :: Bag m :: F) w) : ∃ m', InBag m' size v n xs ∧ (∀ x ∈ m, x ∈ m') ∧ St c (Bag m' :: F) w := by
  rcases H.openOwn with ⟨rfl, rfl, rfl, H2⟩ | ⟨g, cap, cur, rfl, h1, h2, h3, h4, h5, H2⟩
  · exact ⟨m, InBag.nil m size, fun _ h => h, H2⟩
  · have hle : n * size ≤ cur.length := by rw [h3]; exact Nat.mul_le_mul_right _ h1
    exact ⟨_, bag_of h4 hle h1 h2, fun _ h => List.mem_cons_of_mem _ h, H2.bag⟩
end

/-! ### The disk -/
def rwcells (l : List (Nat × Sec)) : List Value := l.flatMap fun x => [.int .i64 (x.1 : Int), str x.2]
theorem rwcells_length : ∀ l : List (Nat × Sec), (rwcells l).length = l.length * 2
  | [] => rfl
  | x :: l => by
    have := rwcells_length l
    simp only [rwcells, List.flatMap_cons, List.length_append, List.length_cons, List.length_nil] at this ⊢
    rw [this]; omega
theorem rwcells_append (l l' : List (Nat × Sec)) : rwcells (l ++ l') = rwcells l ++ rwcells l' := by simp [rwcells]
theorem rwcells_at : ∀ {l : List (Nat × Sec)} {j : Nat} {x : Nat × Sec}, l[j]? = some x → ((rwcells l).drop (j * 2)).take 2 = [.int .i64 (x.1 : Int), str x.2]
  | y :: l, 0, x, h => by
    obtain rfl : y = x := by simpa using h
    rfl
  | y :: l, j + 1, x, h => by
    have h' : l[j]? = some x := by simpa using h
    have e : (rwcells (y :: l)).drop ((j + 1) * 2) = (rwcells l).drop (j * 2) := by
      rw [show (j + 1) * 2 = j * 2 + 2 by omega]
      rfl
    rw [e]; exact rwcells_at h'
def refCells (sN sS sW : Value) (D : DiskM) : List Value := [sN, sS, sW, .bool D.down, .int .i64 D.acts, .int .i64 D.fuse, .int .u64 D.keep]
structure RefIn (m : Blocks) (sN sS sW : Value) (D : DiskM) : Prop where
  now : InBag m 1 sN D.now.length (D.now.map str)
  safe : InBag m 1 sS D.safe.length (D.safe.map str)
  waits : InBag m 2 sW D.waits.length (rwcells D.waits)
def RefAt (p : Nat) (D : DiskM) : HP := Pure D.WF (Ex fun m => Ex fun sN => Ex fun sS => Ex fun sW => Pure (RefIn m sN sS sW D) (Join [Bl p 67 (refCells sN sS sW D), Bag m]))
section
variable {c : Con} {L F : List HP} {w : World} {p : Nat} {D : DiskM}
theorem St.openRef (H : St c (RefAt p D :: F) w) : D.WF ∧ ∃ m sN sS sW, RefIn m sN sS sW D ∧ St c (Bl p 67 (refCells sN sS sW D) :: Bag m :: F) w := by
  obtain ⟨h0, H⟩ := St.pure H
  obtain ⟨m, H⟩ := St.ex H
  obtain ⟨sN, H⟩ := St.ex H
  obtain ⟨sS, H⟩ := St.ex H
  obtain ⟨sW, H⟩ := St.ex H
  obtain ⟨h1, H⟩ := St.pure H
  exact ⟨h0, m, sN, sS, sW, h1, St.join.1 H⟩
theorem St.shutRef {m : Blocks} {sN sS sW : Value} (h : D.WF) (h1 : RefIn m sN sS sW D) (H : St c (Bl p 67 (refCells sN sS sW D) :: Bag m :: F) w) : St c (RefAt p D :: F) w :=
  St.toPure h (St.toEx m (St.toEx sN (St.toEx sS (St.toEx sW (St.toPure h1 (St.join.2 H))))))
end
section
variable {P : Program} {N : Nat} {c : Con} {Q : Exit → Act → World → Prop} {E : Env} {L F : List HP}
/-- Other words for what lies there. -/
theorem W.conv {x : Code} {L' : List HP} (k : W P N c Q x E L') (h : ∀ w, St c L w → St c L' w) : W P N c Q x E L := fun a w hf H => k a w hf (h w H)
theorem w_ex {β : Type} {x : Code} {L' : β → List HP} (h : ∀ w, St c L w → ∃ y, St c (L' y) w) (k : ∀ y, W P N c Q x E (L' y)) : W P N c Q x E L := fun a w hf H => by
  obtain ⟨y, H'⟩ := h w H
  exact k y a w hf H'
end
section
variable {P : Program} {N : Nat} {c : Con} {E : Env} {L F : List HP} {d : Option Nat} {ty : TypeId} {pos : String} {aft : Array Edge} {g : Option (Nat × Bool)}
/-- What an append of one-cell elements makes, if it has elements: a block. -/
theorem ow_appendB {s x : Operand} {t tx e bytes e' s' b' n m k cap : Nat} {z z' v : Value} {A : Option Addr} {xs news ys : List Value} [ht : TSlice P t e 1 bytes z] [htx : TSlice P tx e' s' b' z'] (hs : Ev E s (.slice A n cap)) (hx : Ev E x v)
    (hr : HasR (St c L) v m news) (h1 : ∀ u ∈ news, u.oneCell' = true) (hk : n + m = k) (he : xs ++ news = ys) (hb : k ≤ 9223372036854775807 ∧ k * bytes ≤ 140737488355328) (hp : Pick L (OwnP e 1 (.slice A n cap) n xs) F) (h0 : 0 < k) :
    OW P N c E L (Oper.mk d (.call { callee := .builtin .append, args := #[s, x], argTypes := #[t, tx] }) ty pos aft g) (fun q : { q : Nat × List Value // q.2.take k = ys ∧ k ≤ q.2.length ∧ q.2.length ≤ 9223372036854775807 } => .slice (some ⟨q.1.1, 0, none⟩) k q.1.2.length) fun q => Bl q.1.1 e q.1.2 :: F := fun Q K a w hf H hh => by
  refine ow_appendR hs hx hr h1 hk he hb hp Q K a w hf H fun q w' H' => ?_
  obtain ⟨q1, q2⟩ := q
  rcases H'.openOwn with ⟨_, h2, _⟩ | ⟨g, cap, cur, h2, h3, h4, h5, h6, h7, H2⟩
  · omega
  · cases h2
    rw [Nat.mul_one] at h5 h6
    subst h5
    exact hh ⟨(g, cur), h6, h3, h4⟩ w' H2
end
end Go.Proofs.Ytakeilefbcpabaa
