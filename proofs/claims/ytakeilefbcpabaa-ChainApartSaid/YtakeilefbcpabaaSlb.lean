/- Parties made of parties; rows of memory: what a load, a store, a copy, an append do to a party. No program in sight. -/
import Derived.Test.YtakeilefbcpabaaSl
namespace Go.Proofs.Ytakeilefbcpabaa
open Go.RowKit

/-- A party made of parties. -/
def Join : List HP → HP
  | [] => fun _ => True
  | A :: L => fun h => ∃ h1 : Nat → Option Obj, A h1 ∧ (∀ b o, h1 b = some o → h b = some o) ∧ Join L (fun b => if h1 b = none then h b else none)
def Ex {α : Type} (A : α → HP) : HP := fun h => ∃ x, A x h
def Pure (p : Prop) (A : HP) : HP := fun h => p ∧ A h

section
variable {c : Con} {A B C D E A' : HP} {L F : List HP} {w w' : World}

theorem Stars.congr : ∀ {L : List HP} {S S' : Nat → Prop} {w : World}, Stars L S w → (∀ b, S b ↔ S' b) → Stars L S' w :=
  fun h k => h.mono (fun b e => (k b).1 e) fun _ _ _ e => e

theorem Stars.join : ∀ {Ls F : List HP} {S : Nat → Prop} {w : World}, Stars (Join Ls :: F) S w ↔ Stars (Ls ++ F) S w
  | [], F, S, w => ⟨fun h => h.tail, fun h => ⟨fun _ => none, trivial, fun _ _ e => (by cases e), h.congr fun b => by simp⟩⟩
  | A :: Ls, F, S, w => by
    constructor
    · rintro ⟨h, ⟨h1, a1, s1, j⟩, l, r⟩
      refine ⟨h1, a1, fun b o e => l b o (s1 b o e), Stars.join.1 ?_⟩
      refine ⟨_, j, fun b o e => ?_, r.mono (fun b k => ⟨⟨k.1, ?_⟩, ?_⟩) fun _ _ _ e => e⟩
      · split at e
        · rename_i h0; exact ⟨⟨(l b o e).1, h0⟩, (l b o e).2⟩
        · cases e
      · cases e : h1 b with
        | none => rfl
        | some o => have := s1 b o e; rw [k.2] at this; cases this
      · split
        · exact k.2
        · rfl
    · rintro ⟨h1, a1, l1, r⟩
      obtain ⟨h2, a2, l2, r⟩ := Stars.join.2 r
      refine ⟨fun b => if h1 b = none then h2 b else h1 b, ⟨h1, a1, fun b o e => ?_, ?_⟩, fun b o e => ?_, r.mono (fun b k => ⟨k.1.1, ?_⟩) fun _ _ _ e => e⟩
      · show (if h1 b = none then h2 b else h1 b) = some o
        rw [if_neg (by rw [e]; simp)]; exact e
      · have : (fun b => if h1 b = none then (if h1 b = none then h2 b else h1 b) else none) = h2 := by
          funext b
          by_cases e : h1 b = none
          · rw [if_pos e, if_pos e]
          · rw [if_neg e]
            cases k : h2 b with
            | none => rfl
            | some o => exact absurd (l2 b o k).1.2 e
        rw [this]; exact a2
      · replace e : (if h1 b = none then h2 b else h1 b) = some o := e
        split at e
        · exact ⟨(l2 b o e).1.1, (l2 b o e).2⟩
        · exact l1 b o e
      · show (if h1 b = none then h2 b else h1 b) = none
        rw [if_pos k.1.2]; exact k.2

theorem St.join {Ls : List HP} : St c (Join Ls :: F) w ↔ St c (Ls ++ F) w :=
  ⟨fun H => ⟨H.con, Stars.join.1 H.stars⟩, fun H => ⟨H.con, Stars.join.2 H.stars⟩⟩
theorem St.ex {α : Type} {A : α → HP} (H : St c (Ex A :: F) w) : ∃ x, St c (A x :: F) w := by
  obtain ⟨h, ⟨x, a⟩, l, r⟩ := H.stars
  exact ⟨x, H.con, h, a, l, r⟩
theorem St.pure {p : Prop} (H : St c (Pure p A :: F) w) : p ∧ St c (A :: F) w := by
  obtain ⟨h, ⟨x, a⟩, l, r⟩ := H.stars
  exact ⟨x, H.con, h, a, l, r⟩
theorem St.toEx {α : Type} {A : α → HP} (x : α) (H : St c (A x :: F) w) : St c (Ex A :: F) w := H.imp fun _ a => ⟨x, a⟩
theorem St.toPure {p : Prop} (k : p) (H : St c (A :: F) w) : St c (Pure p A :: F) w := H.imp fun _ a => ⟨k, a⟩

theorem St.ne {a b : Nat} {o o' : Obj} (H : St c (Pt a o :: Pt b o' :: F) w) : a ≠ b := by
  obtain ⟨h1, a1, _, h2, a2, l2, _⟩ := H.stars
  rintro rfl
  have := (l2 a o' a2).1.2
  rw [show h1 a = some o from a1] at this; cases this
end

theorem add_mid (b o j : Nat) : (⟨b, o, none⟩ : Addr).add j = ⟨b, o + j, none⟩ := by unfold Addr.add; split <;> simp_all

/-! ### Cells -/
/-- A row with cells laid over it. -/
def splice (cur : List Value) (o : Nat) (vs : List Value) : List Value := cur.take o ++ vs ++ cur.drop (o + vs.length)
theorem splice_length {cur : List Value} {o : Nat} {vs : List Value} (h : o + vs.length ≤ cur.length) : (splice cur o vs).length = cur.length := by
  simp [splice]; omega

section
variable {P : Program}
/-- A whole array or struct out of a block. -/
theorem load_row (w : World) (b o : Nat) (ty : TypeId) (C : Array Value) (T : TypeId) (fr : Nat × Nat) (n : Nat) (d : TypeDesc) (hb : w.heap[b]? = some (.cells C T fr)) (hn : o + n ≤ C.size)
    (hu : P.underlying ty = some d) (hd : d.isRow = true) (hi : (P.info? ty).map (·.size) = some n) :
    (Instr.loadAt ty (.pointer (some ⟨b, o, none⟩))).run P w = .ok (.agg (C.extract o (o + n))) w := by
  have h := run_loadAt_mid (P := P) w b o ty (C.extract o (o + n)).toList d (World.rangeAt_of_block hb o n) hu hd (by rw [hi]; simp; omega)
  rw [Array.toArray_toList] at h; exact h
/-- A whole array or struct into a block. -/
theorem store_row (w : World) (b o : Nat) (ty : TypeId) (cells C : Array Value) (T : TypeId) (hb : w.heap[b]? = some (.cells C T (0, 0))) (hn : o + cells.size ≤ C.size)
    (hi : (P.info? ty).map (·.size) = some cells.size) (h1 : cells.all (·.oneCell') = true) :
    (Instr.storeAt ty (.pointer (some ⟨b, o, none⟩)) (.agg cells)).run P w = .ok () (w.setRow b (splice C.toList o cells.toList).toArray) := by
  have hst := run_storeCells_at P b o T cells.toList 0 C w hb (by simpa using hn) (fun v hv => (Array.all_eq_true_iff_forall_mem.1 h1) v (by simpa using hv))
  cases hq : P.info? ty with
  | none => simp [hq] at hi
  | some i =>
    have hs : cells.size = i.size := by simp [hq] at hi; omega
    simp only [Nat.add_zero] at hst
    simp [Instr.storeAt, Instr.sureAddr, storeVar, sizeOf, typeInfo, hq, Value.cells, hs, hst, splice]

/-- A new variable, whatever its size. -/
theorem alloc_new {t : TypeId} {z : Array Value} {n : Nat} (h : (P.info? t).map (fun i => (i.zero, i.size)) = some (some (.agg z), n)) (w : World) :
    (Instr.alloc t true (.tuple #[])).run P w = .ok (.pointer (some ⟨w.heap.size, 0, none⟩)) (w.alloc (.cells z t)) := by
  have hz := (zero_of_info h).1
  simp [Instr.alloc, Sem.run_bind, hz w, newVar, Value.cells, newRow]

/-- copy of elements of any size, block onto block. -/
theorem run_copy_rows (w : World) (dT sT ty elem : TypeId) (g o dLen dCap : Nat) (a : Addr) (sLen sCap : Nat) (cur : Array Value) (t : TypeId) (size n : Nat) (cs : List Value)
    (hu : P.underlying dT = some (.slice elem)) (hs : (P.info? elem).map (·.size) = some size)
    (hg : w.heap[g]? = some (.cells cur t (0, 0))) (hn : n = Nat.min sLen dLen) (hl : cs.length = n * size)
    (hsrc : ∀ j v, cs[j]? = some v → w.cell? (a.add j) = some v) (hfit : o + cs.length ≤ cur.size) (h1 : ∀ v ∈ cs, v.oneCell' = true) :
    (Builtin.copy_ #[dT, sT] ty #[.slice (some ⟨g, o, none⟩) dLen dCap, .slice (some a) sLen sCap]).run P w =
      .ok (goInt n) (w.setRow g (splice cur.toList o cs).toArray) := by
  have hlo := run_loadCells_list (P := P) w a cs hsrc
  have hst := run_storeCells_at P g o t cs 0 cur w hg (by simpa using hfit) h1
  cases hq : P.info? elem with
  | none => simp [hq] at hs
  | some i =>
    have hi : i.size = size := by simpa [hq] using hs
    rw [hl] at hlo
    simp [Builtin.copy_, run_underlying hu, Builtin.lenOf, Builtin.firstCells, sizeOf, typeInfo, hq, hi, ← hn, hlo, hst, splice]

/-! As a walk meets them. -/
variable {ops : Array Oper} {rest : List Oper} {op : Oper} {a : Act} {w : World} {Q : Exit → Act → World → Prop}
theorem go_load_row (hgd : op.guard = none) (ty : TypeId) (x : Operand) (ho : op.op = .load ty x)
    (b o n : Nat) (hx : a.eval x = .pointer (some ⟨b, o, none⟩)) (C v : Array Value) (T : TypeId) (fr : Nat × Nat) (d : TypeDesc) (hb : w.heap[b]? = some (.cells C T fr)) (hn : o + n ≤ C.size)
    (hv : C.extract o (o + n) = v) (hu : P.underlying ty = some d) (hd : d.isRow = true) (hi : (P.info? ty).map (·.size) = some n)
    (h : wpList P ops Q rest (a.put op.dst (.agg v)) w) : wpList P ops Q (op :: rest) a w :=
  wpList_plain hgd fun _ hK => by
    unfold Oper.wp execOp
    simp only [ho, hx, Sem.run_bind, load_row w b o ty C T fr n d hb hn hu hd hi, hv, Result.andThen_ok, Sem.run_pure]
    exact hK _ _ h
theorem go_store_row (hgd : op.guard = none) (ty : TypeId) (x y : Operand) (ho : op.op = .store ty x y)
    (b o : Nat) (cells C : Array Value) (hx : a.eval x = .pointer (some ⟨b, o, none⟩)) (hy : a.eval y = .agg cells) (T : TypeId) (hb : w.heap[b]? = some (.cells C T (0, 0))) (hn : o + cells.size ≤ C.size)
    (hi : (P.info? ty).map (·.size) = some cells.size) (h1 : cells.all (·.oneCell') = true)
    (h : wpList P ops Q rest (a.put op.dst undef) (w.setRow b (splice C.toList o cells.toList).toArray)) : wpList P ops Q (op :: rest) a w :=
  wpList_plain hgd fun _ hK => by
    unfold Oper.wp execOp
    simp only [ho, hx, hy, Sem.run_bind, store_row w b o ty cells C T hb hn hi h1, Result.andThen_ok, Sem.run_pure]
    exact hK _ _ h
/-- The same in a region that draws its order (behind 'wp_region_still_tail'). -/
theorem still_load_row {K : Act → Prop} (hgd : op.guard = none) (ty : TypeId) (x : Operand) (ho : op.op = .load ty x)
    (b o n : Nat) (hx : a.eval x = .pointer (some ⟨b, o, none⟩)) (C v : Array Value) (T : TypeId) (fr : Nat × Nat) (d : TypeDesc) (hb : w.heap[b]? = some (.cells C T fr)) (hn : o + n ≤ C.size)
    (hv : C.extract o (o + n) = v) (hu : P.underlying ty = some d) (hd : d.isRow = true) (hi : (P.info? ty).map (·.size) = some n)
    (h : wpStill P ops w K rest (a.put op.dst (.agg v))) : wpStill P ops w K (op :: rest) a :=
  wpStill_step fun _ hK => by
    rw [if_pos (by simp [Region.wanted, hgd])]
    unfold Oper.still execOp
    simp only [ho, hx, Sem.run_bind, load_row w b o ty C T fr n d hb hn hu hd hi, hv, Result.andThen_ok, Sem.run_pure]
    exact ⟨rfl, hK _ h⟩
theorem region_tail {id : Nat} {l : List Oper} (n : Nat) (hm : P.follows .mixedOrders = true) (hB : Region.lexTailB .any l.toArray n = true)
    (h : wpStill P l.toArray w.drew (fun a' => wpList P l.toArray Q (l.drop n) a' w.drew) (l.take n) a) : (Code.region id l.toArray true).wp P Q a w :=
  wp_region_still_tail n hm hB h
theorem go_alloc_big (hgd : op.guard = none) (t : TypeId) (ho : op.op = .alloc t) {z : Array Value} {n : Nat} (hi : (P.info? t).map (fun i => (i.zero, i.size)) = some (some (.agg z), n))
    (h : wpList P ops Q rest (a.put op.dst (.pointer (some ⟨w.heap.size, 0, none⟩))) (w.alloc (.cells z t))) : wpList P ops Q (op :: rest) a w :=
  wpList_plain hgd fun _ hK => by
    unfold Oper.wp execOp
    simp only [ho, Sem.run_bind, alloc_new hi w, Result.andThen_ok, Sem.run_pure]
    exact hK _ _ h
/-- A whole value into the variable that was made last. -/
theorem go_store_new (hgd : op.guard = none) (ty : TypeId) (x y : Operand) (ho : op.op = .store ty x y)
    (W : World) (z cells : Array Value) (hw : w = W.alloc (.cells z ty)) (hx : a.eval x = .pointer (some ⟨W.heap.size, 0, none⟩)) (hy : a.eval y = .agg cells)
    (hi : (P.info? ty).map (·.size) = some cells.size) (hz : z.size = cells.size) (h1 : cells.all (·.oneCell') = true)
    (h : wpList P ops Q rest (a.put op.dst undef) (W.alloc (.cells cells ty))) : wpList P ops Q (op :: rest) a w :=
  wpList_plain hgd fun _ hK => by
    subst hw
    unfold Oper.wp execOp
    simp only [ho, hx, hy, Sem.run_bind, run_storeAt_new W ty z cells hi hz h1, Result.andThen_ok, Sem.run_pure]
    exact hK _ _ h
/-- copy(x, y), rows onto a block. -/
theorem go_copy_rows (hgd : op.guard = none) (x y : Operand) (dT sT : TypeId) (ho : op.op = .call { callee := .builtin .copy, args := #[x, y], argTypes := #[dT, sT] })
    (elem : TypeId) (g o dLen dCap : Nat) (ad : Addr) (sLen sCap : Nat) (hx : a.eval x = .slice (some ⟨g, o, none⟩) dLen dCap) (hy : a.eval y = .slice (some ad) sLen sCap)
    (cur : Array Value) (t : TypeId) (size n : Nat) (cs : List Value)
    (hu : P.underlying dT = some (.slice elem)) (hs : (P.info? elem).map (·.size) = some size)
    (hg : w.heap[g]? = some (.cells cur t (0, 0))) (hn : n = Nat.min sLen dLen) (hl : cs.length = n * size)
    (hsrc : ∀ j v, cs[j]? = some v → w.cell? (ad.add j) = some v) (hfit : o + cs.length ≤ cur.size) (h1 : ∀ v ∈ cs, v.oneCell' = true)
    (h : wpList P ops Q rest (a.put op.dst (goInt n)) (w.setRow g (splice cur.toList o cs).toArray)) : wpList P ops Q (op :: rest) a w :=
  wpList_plain hgd fun _ hK => by
    have hr := run_copy_rows (P := P) w dT sT op.type elem g o dLen dCap ad sLen sCap cur t size n cs hu hs hg hn hl hsrc hfit h1
    unfold Oper.wp execOp
    simp only [ho, resolve, invoke, builtin, Sem.run_bind, Sem.run_pure, Result.andThen_ok, List.map_toArray, List.map_cons, List.map_nil, hx, hy, hr]
    exact hK _ _ h
end

section
variable {c : Con} {L F : List HP} {w w' : World}
/-- THE WORLD UNDER A NEW NAME: what is known of it is what the parties tell. -/
theorem wp_gen {P : Program} {code : Code} {Q : Exit → Act → World → Prop} {a : Act} (H : St c L w) (h : ∀ W, St c L W → code.wp P Q a W) : code.wp P Q a w := h w H
theorem ex_gen' {R : World → Prop} (H : St c L w) (h : ∀ W, St c L W → R W) : R w := h w H
theorem ex_gen {R : Exit → Act → World → Prop} {x : Exit} {a : Act} (H : St c L w) (h : ∀ W, St c L W → R x a W) : R x a w := h w H
theorem St.setRowPt {b : Nat} {cs : Array Value} {T : TypeId} {fr : Nat × Nat} (H : St c (Pt b (.cells cs T fr) :: L) w) (cs' : Array Value) :
    St c (Pt b (.cells cs' T fr) :: L) (w.setRow b cs') := by
  obtain ⟨h, a, l, u⟩ := H.upd
  have hb := l b _ a
  refine u _ _ rfl (fun k hk hn => setRow_other _ _ _ _ ?_) ?_
  · rintro rfl; rw [a] at hn; cases hn
  · simp only [Pt]
    rw [if_pos (.inl (by rw [a]; rfl))]
    exact setRow_heap w b cs cs' T fr hb

/-! ### A slice of one's own -/
/-- The slice v has n elements of size cells each, xs in all, and is nil or the head of a block of its own. -/
def OwnP (e : TypeId) (size : Nat) (v : Value) (n : Nat) (xs : List Value) : HP := fun h =>
  xs.length = n * size ∧ ((v = .slice none 0 0 ∧ n = 0) ∨
    ∃ g cap cur, v = .slice (some ⟨g, 0, none⟩) n cap ∧ h g = some (.cells cur e (0, 0)) ∧ n ≤ cap ∧ cap ≤ maxLen ∧ cur.size = cap * size ∧ cur.toList.take (n * size) = xs)

theorem OwnP.nil (e : TypeId) (size : Nat) (h) : OwnP e size (.slice none 0 0) 0 [] h := ⟨by simp, .inl ⟨rfl, rfl⟩⟩
theorem St.addNil (e : TypeId) (size : Nat) (H : St c L w) : St c (OwnP e size (.slice none 0 0) 0 [] :: L) w :=
  H.new w _ rfl (fun _ _ => rfl) (OwnP.nil e size _)

/-- A slice of one's own that has elements. -/
theorem owned_some {e : TypeId} {size n m cap : Nat} {A : Option Addr} {xs : List Value} (H : St c (OwnP e size (.slice A m cap) n xs :: L) w) (hn : 0 < n) :
    ∃ g cur, A = some ⟨g, 0, none⟩ ∧ w.heap[g]? = some (.cells cur e (0, 0)) ∧ cur.size = cap * size ∧ cur.toList.take (n * size) = xs ∧ n = m ∧ n ≤ cap ∧ cap ≤ 9223372036854775807 := by
  obtain ⟨h, ⟨hx, ho⟩, l⟩ := H.get
  rcases ho with ⟨_, e⟩ | ⟨g, cap', cur, e, hg, h1, h2, h3, h4⟩
  · omega
  · cases e
    exact ⟨g, cur, rfl, l _ _ hg, h3, h4, rfl, h1, by simpa [maxLen] using h2⟩

theorem owned_form {e : TypeId} {size n : Nat} {v : Value} {xs : List Value} (H : St c (OwnP e size v n xs :: L) w) : ∃ A cap, v = .slice A n cap := by
  obtain ⟨h, ⟨hx, ho⟩, l⟩ := H.get
  rcases ho with ⟨e1, e⟩ | ⟨g, cap', cur, e, _⟩
  · subst e; exact ⟨_, _, e1⟩
  · exact ⟨_, _, e⟩

/-- append onto it. -/
theorem St.append {P : Program} {size bytes n : Nat} {t ty e : TypeId} {i : TypeInfo} {z v : Value} {xs : List Value} (H : St c (OwnP e size v n xs :: L) w)
    (ht : P.underlying t = some (.slice e)) (hi : P.info? e = some i) (hz : i.zero = some z)
    (hsize : i.size = size) (hby : i.bytes = bytes) (hzs : z.cells.size = size) (hsz : 0 < size)
    (a : Addr) (m cc : Nat) (news : List Value) (hl : news.length = m * size) (hnews : ∀ j u, news[j]? = some u → w.cell? (a.add j) = some u) (h1 : ∀ u ∈ news, u.oneCell' = true)
    (h63 : n + m ≤ maxLen) (hbytes : (n + m) * bytes ≤ 140737488355328) :
    ∃ v' w', (Builtin.append_ #[t, t] ty #[v, .slice (some a) m cc]).run P w = .ok v' w' ∧ St c (OwnP e size v' (n + m) (xs ++ news) :: L) w' ∧ w.heap.size ≤ w'.heap.size ∧
      (v' = .slice none 0 0 ↔ v = .slice none 0 0 ∧ m = 0) := by
  subst hsize
  subst hby
  obtain ⟨h, ⟨hx, ho⟩, l, u⟩ := H.upd
  have hsmall : n + m ≤ 9223372036854775807 := by simp only [maxLen] at h63; omega
  have hlen : (xs ++ news).length = (n + m) * i.size := by rw [List.length_append, hx, hl, Nat.add_mul]
  have grown : ∀ (old : Nat), St c (OwnP e i.size (.slice (some ⟨w.heap.size, 0, none⟩) (n + m) (grownCap w (n + m) old e)) (n + m) (xs ++ news) :: L)
      (w.drew.alloc (.cells (xs.toArray ++ news.toArray ++ Builtin.zeroCells z.cells (grownCap w (n + m) old e - (n + m))) e)) := by
    intro old
    have hge := grownCap_ge w (n + m) old e
    have hcm : grownCap w (n + m) old e ≤ maxLen := grownCap_le_maxLen w (n + m) old e h63
    refine u _ _ rfl (fun b hb _ => Below.heap_alloc w.drew _ b hb) ⟨hlen, .inr ⟨w.heap.size, _, xs.toArray ++ news.toArray ++ Builtin.zeroCells z.cells (grownCap w (n + m) old e - (n + m)), rfl, ?_, hge, hcm, ?_, ?_⟩⟩
    · exact (if_pos (Or.inr (Nat.le_refl _))).trans (heap_alloc_new w.drew _)
    · simp only [Array.size_append, List.size_toArray, size_zeroCells, hzs, hx, hl, ← Nat.add_mul]
      congr 1
      omega
    · simp only [Array.toList_append, List.append_assoc]
      rw [← List.append_assoc, ← hlen]
      exact List.take_left
  rcases ho with ⟨rfl, rfl⟩ | ⟨g, cap, cur, rfl, hg, hnc, hcm, hcs, htake⟩
  · have hx' : xs = [] := List.eq_nil_of_length_eq_zero (by simpa using hx)
    subst hx'
    by_cases hm : m = 0
    · subst hm
      have hn : news = [] := List.eq_nil_of_length_eq_zero (by simpa using hl)
      subst hn
      refine ⟨.slice none 0 0, w, ?_, H, Nat.le_refl _, by simp⟩
      simp [Builtin.append_, run_underlying ht, sizeOf, typeInfo, hi, Builtin.lenOf, Builtin.firstCells, loadCells, loadCellsFrom]
    · have hr := run_append_nil (P := P) w t ty e i z ht hi hz a m cc news hl hnews (by omega) (by omega) (by have hb := hbytes; simp only [Nat.zero_add] at hb; omega)
      have hgr := grown 0
      simp only [Nat.zero_add, List.nil_append, Array.empty_append] at hgr ⊢
      exact ⟨_, _, hr, hgr, by simp, by simp [hm]⟩
  · have hgw := l g _ hg
    by_cases hroom : n + m ≤ cap
    · have hfit : n * i.size + news.length ≤ cur.size := by rw [hl, hcs, ← Nat.add_mul]; exact Nat.mul_le_mul_right _ hroom
      have hr := run_append_room (P := P) w t ty e i ht hi g n cap cur hgw a m cc news hl hnews h1 hroom hfit
      refine ⟨_, _, hr, ?_, by simp, by simp⟩
      refine u _ _ rfl (fun b hb hn => setRow_other w g b _ ?_) ⟨hlen, .inr ⟨g, cap, (cur.toList.take (n * i.size) ++ news ++ cur.toList.drop (n * i.size + news.length)).toArray, rfl, ?_, hroom, hcm, ?_, ?_⟩⟩
      · rintro rfl; rw [hg] at hn; cases hn
      · exact (if_pos (Or.inl (by rw [hg]; rfl))).trans (setRow_heap w g cur _ e _ hgw)
      · simp only [List.size_toArray, List.length_append, List.length_take, List.length_drop, Array.length_toList]
        omega
      · rw [htake, ← hlen]
        exact List.take_left
    · have holds : ∀ j u, xs[j]? = some u → w.cell? ((⟨g, 0, none⟩ : Addr).add j) = some u := by
        intro j u hu
        rw [add_mid, Nat.zero_add, cell_of_row w g j cur e (0, 0) hgw]
        rw [← htake, List.getElem?_take] at hu
        split at hu
        · simpa using hu
        · cases hu
      have hr := run_append_grow (P := P) w t ty e i z ht hi hz ⟨g, 0, none⟩ n cap xs hx holds a m cc news hl hnews (by omega) (by omega) (growslice_fits (by omega) hbytes)
      exact ⟨_, _, hr, grown cap, by simp, by simp⟩
end
end Go.Proofs.Ytakeilefbcpabaa
