/- Operations on values of many cells, one by one, wherever they stand (a plain region, a region that draws). No program in sight. -/
import Derived.Test.YtakeilefbcpabaaSlc
import Derived.Great.BuildSlice
namespace Go.Proofs.Ytakeilefbcpabaa
open Go.RowKit

theorem fold_set (off : Nat) : ∀ (l : List Value) (k : Nat) (zs : Array Value), off + k + l.length ≤ zs.size →
    (l.zipIdx k).foldl (fun (cs : Array Value) x => cs.setIfInBounds (off + x.2) x.1) zs = (splice zs.toList (off + k) l).toArray
  | [], k, zs, _ => by simp [splice]
  | v :: l, k, zs, h => by
    rw [List.zipIdx_cons, List.foldl_cons, fold_set off l (k + 1) _ (by simp at h ⊢; omega)]
    have e := list_seg_step zs.toList (off + k) v l (by simp at h ⊢; omega)
    congr 1
    simp only [splice, Array.toList_setIfInBounds, List.length_cons, ← Nat.add_assoc]
    simpa [Nat.add_assoc] using e
theorem fill_cons (place : Nat → Option (Nat × Nat)) (z cells : Array Value) (i off : Nat) (rest : List (Nat × Value)) (hp : place i = some (off, cells.size)) (h : off + cells.size ≤ z.size) :
    Instr.fill place z ((i, .agg cells) :: rest) = Instr.fill place (splice z.toList off cells.toList).toArray rest := by
  have e := fold_set off cells.toList 0 z (by simpa using h)
  rw [← Array.toList_zipIdx, Nat.add_zero, Array.foldl_toList] at e
  rw [← e]
  have hz : ((decide ((Value.agg cells).cells.size ≠ cells.size) || decide (off + (Value.agg cells).cells.size > z.size)) = true) = False := by
    simp [Value.cells]; omega
  simp only [Instr.fill, hp]
  rw [if_neg (by rw [hz]; exact id)]
  rfl
theorem fold_arr (off n : Nat) (cells zs : Array Value) (hn : cells.size = n) (h : off + cells.size ≤ zs.size) :
    Array.foldl (fun (cs : Array Value) x => cs.setIfInBounds (off + x.2) x.1) zs (cells.zipIdx 0) 0 n = (splice zs.toList off cells.toList).toArray := by
  subst hn
  have e := fold_set off cells.toList 0 zs (by simpa using h)
  rw [← Array.toList_zipIdx, Nat.add_zero, Array.foldl_toList, Array.size_zipIdx] at e
  exact e
theorem fill_nil (place : Nat → Option (Nat × Nat)) (z : Array Value) : Instr.fill place z [] = some z := by simp [Instr.fill]
theorem splice_whole (z v : List Value) (h : z.length = v.length) : splice z 0 v = v := by
  rw [splice, List.take_zero, List.nil_append, Nat.zero_add, ← h, List.drop_length, List.append_nil]
theorem fill_one (z cells : Array Value) (n : Nat) (hz : z.size = n) (hc : cells.size = n) : Instr.fill (fun i => some (i * n, n)) z [(0, .agg cells)] = some cells := by
  rw [fill_cons _ _ _ 0 0 _ (by rw [hc, Nat.zero_mul]) (by omega), fill_nil, splice_whole _ _ (by simp; omega)]

section
variable {P : Program} {op : Oper} {a : Act} {w : World} {K : Act → World → Prop} {Q : Exit → Act → World → Prop}
/-- A slice of one element of many cells. -/
theorem op_slice_one (t e : TypeId) (x : Operand) (ho : op.op = .buildSlice t 1 #[(0, x)]) (cells : Array Value) (n : Nat) (z : Value) (hx : a.eval x = .agg cells)
    (hu : P.underlying t = some (.slice e)) (hi : (P.info? e).map (fun i => (i.zero, i.size)) = some (some z, n)) (hc : cells.size = n) (hn : 0 < n) (hn2 : n ≤ 16777216)
    (h : K (a.put op.dst (.slice (some ⟨w.heap.size, 0, none⟩) 1 1)) (w.alloc (.cells cells e))) : op.wp P a w K Q := by
  cases hq : P.info? e with
  | none => simp [hq] at hi
  | some ie =>
    simp only [hq, Option.map_some, Option.some.injEq, Prod.mk.injEq] at hi
    refine wp_buildSlice t e 1 _ ho cells ie z hu hq hi.1 (by rw [hi.2]; omega) (by rw [hi.2]; omega) ?_ h
    rw [hi.2]
    have e : ((#[(0, x)] : Array (Nat × Operand)).map fun (i, x) => (i, a.eval x)).toList = [(0, .agg cells)] := by simp [hx]
    rw [e]
    exact fill_one _ _ _ (by simp) hc
/-- A whole array or struct out of a block. -/
theorem op_load_row (ty : TypeId) (x : Operand) (ho : op.op = .load ty x)
    (b o n : Nat) (hx : a.eval x = .pointer (some ⟨b, o, none⟩)) (C v : Array Value) (T : TypeId) (fr : Nat × Nat) (d : TypeDesc) (hb : w.heap[b]? = some (.cells C T fr)) (hn : o + n ≤ C.size)
    (hv : C.extract o (o + n) = v) (hu : P.underlying ty = some d) (hd : d.isRow = true) (hi : (P.info? ty).map (·.size) = some n)
    (h : K (a.put op.dst (.agg v)) w) : op.wp P a w K Q := by
  unfold Oper.wp execOp
  simp only [ho, hx, Sem.run_bind, load_row w b o ty C T fr n d hb hn hu hd hi, hv, Result.andThen_ok, Sem.run_pure]
  exact h
theorem op_store_row (ty : TypeId) (x y : Operand) (ho : op.op = .store ty x y)
    (b o : Nat) (cells C : Array Value) (hx : a.eval x = .pointer (some ⟨b, o, none⟩)) (hy : a.eval y = .agg cells) (T : TypeId) (hb : w.heap[b]? = some (.cells C T (0, 0))) (hn : o + cells.size ≤ C.size)
    (hi : (P.info? ty).map (·.size) = some cells.size) (h1 : cells.all (·.oneCell') = true)
    (h : K (a.put op.dst undef) (w.setRow b (splice C.toList o cells.toList).toArray)) : op.wp P a w K Q := by
  unfold Oper.wp execOp
  simp only [ho, hx, hy, Sem.run_bind, store_row w b o ty cells C T hb hn hi h1, Result.andThen_ok, Sem.run_pure]
  exact h
theorem op_alloc_big (t : TypeId) (ho : op.op = .alloc t) {z : Array Value} {n : Nat} (hi : (P.info? t).map (fun i => (i.zero, i.size)) = some (some (.agg z), n))
    (h : K (a.put op.dst (.pointer (some ⟨w.heap.size, 0, none⟩))) (w.alloc (.cells z t))) : op.wp P a w K Q := by
  unfold Oper.wp execOp
  simp only [ho, Sem.run_bind, alloc_new hi w, Result.andThen_ok, Sem.run_pure]
  exact h
theorem op_store_new (ty : TypeId) (x y : Operand) (ho : op.op = .store ty x y)
    (W : World) (z cells : Array Value) (hw : w = W.alloc (.cells z ty)) (hx : a.eval x = .pointer (some ⟨W.heap.size, 0, none⟩)) (hy : a.eval y = .agg cells)
    (hi : (P.info? ty).map (·.size) = some cells.size) (hz : z.size = cells.size) (h1 : cells.all (·.oneCell') = true)
    (h : K (a.put op.dst undef) (W.alloc (.cells cells ty))) : op.wp P a w K Q := by
  subst hw
  unfold Oper.wp execOp
  simp only [ho, hx, hy, Sem.run_bind, run_storeAt_new W ty z cells hi hz h1, Result.andThen_ok, Sem.run_pure]
  exact h
/-- Its yield, for a region that draws. -/
theorem run_load_row (ty : TypeId) (x : Operand) (ho : op.op = .load ty x)
    (b o n : Nat) (hx : a.eval x = .pointer (some ⟨b, o, none⟩)) (C v : Array Value) (T : TypeId) (fr : Nat × Nat) (d : TypeDesc) (hb : w.heap[b]? = some (.cells C T fr)) (hn : o + n ≤ C.size)
    (hv : C.extract o (o + n) = v) (hu : P.underlying ty = some d) (hd : d.isRow = true) (hi : (P.info? ty).map (·.size) = some n) :
    (execOp a.eval op).run P w = .ok (.value (.agg v)) w := by
  unfold execOp
  simp only [ho, hx, Sem.run_bind, load_row w b o ty C T fr n d hb hn hu hd hi, hv, Result.andThen_ok, Sem.run_pure]
/-- append onto a slice of one's own. -/
theorem op_append {c : Con} {L : List HP} {size bytes n : Nat} {e : TypeId} {z v : Value} {xs : List Value} (H : St c (OwnP e size v n xs :: L) w)
    (s x : Operand) (t : TypeId) (ho : op.op = .call { callee := .builtin .append, args := #[s, x], argTypes := #[t, t] })
    (ht : P.underlying t = some (.slice e)) (hi : (P.info? e).map (fun i => (i.zero, i.size, i.bytes)) = some (some z, size, bytes)) (hzs : z.cells.size = size) (hsz : 0 < size)
    (ad : Addr) (m cc : Nat) (news : List Value) (hs : a.eval s = v) (hx : a.eval x = .slice (some ad) m cc) (hl : news.length = m * size)
    (hnews : ∀ j u, news[j]? = some u → w.cell? (ad.add j) = some u) (h1 : ∀ u ∈ news, u.oneCell' = true)
    (h63 : n + m ≤ 9223372036854775807) (hbytes : (n + m) * bytes ≤ 140737488355328)
    (h : ∀ v' w', St c (OwnP e size v' (n + m) (xs ++ news) :: L) w' → w.heap.size ≤ w'.heap.size → K (a.put op.dst v') w') : op.wp P a w K Q := by
  cases hq : P.info? e with
  | none => simp [hq] at hi
  | some ie =>
    simp only [hq, Option.map_some, Option.some.injEq, Prod.mk.injEq] at hi
    obtain ⟨v', w', hr, h2, h3, _⟩ := H.append (P := P) (t := t) (ty := op.type) (i := ie) ht hq hi.1 hi.2.1 hi.2.2 hzs hsz ad m cc news hl hnews h1 (by simpa [maxLen] using h63) hbytes
    unfold Oper.wp execOp
    simp only [ho, resolve, invoke, builtin, Sem.run_bind, Sem.run_pure, Result.andThen_ok, List.map_toArray, List.map_cons, List.map_nil, hs, hx, hr]
    exact h v' w' h2 h3
/-- A struct or array put together. -/
theorem op_build (t : TypeId) (parts : Array (Nat × Operand)) (ho : op.op = .build t parts) (vals : Array (Nat × Value)) (hp : (parts.map fun (i, x) => (i, a.eval x)) = vals) (v : Value)
    (hr : (Instr.build t vals).run P w = .ok v w) (h : K (a.put op.dst v) w) : op.wp P a w K Q := by
  subst hp
  unfold Oper.wp execOp
  simp only [ho, Sem.run_bind, hr, Result.andThen_ok, Sem.run_pure]
  exact h
theorem op_build_one (t : TypeId) (k : Nat) (x : Operand) (ho : op.op = .build t #[(k, x)]) (val v : Value) (hx : a.eval x = val)
    (hr : (Instr.build t #[(k, val)]).run P w = .ok v w) (h : K (a.put op.dst v) w) : op.wp P a w K Q :=
  op_build t _ ho #[(k, val)] (by simp [hx]) v hr h
theorem run_build3 (t : TypeId) (k0 k1 k2 : Nat) (x0 x1 x2 : Operand) (ho : op.op = .build t #[(k0, x0), (k1, x1), (k2, x2)]) (v0 v1 v2 v : Value) (h0 : a.eval x0 = v0) (h1 : a.eval x1 = v1) (h2 : a.eval x2 = v2)
    (hr : (Instr.build t #[(k0, v0), (k1, v1), (k2, v2)]).run P w = .ok v w) : (execOp a.eval op).run P w = .ok (.value v) w := by
  subst h0 h1 h2
  unfold execOp
  simp only [ho, List.map_toArray, List.map_cons, List.map_nil, Sem.run_bind, hr, Result.andThen_ok, Sem.run_pure]
theorem op_value {v : Value} (hr : (execOp a.eval op).run P w = .ok (.value v) w) (h : K (a.put op.dst v) w) : op.wp P a w K Q := by
  unfold Oper.wp; rw [hr]; exact h
theorem still_value {ops : Array Oper} {rest : List Oper} {K : Act → Prop} (hgd : op.guard = none) {v : Value} (hr : (execOp a.eval op).run P w = .ok (.value v) w)
    (h : wpStill P ops w K rest (a.put op.dst v)) : wpStill P ops w K (op :: rest) a :=
  wpStill_step fun _ hK => by
    rw [if_pos (by simp [Region.wanted, hgd])]
    unfold Oper.still
    rw [hr]
    exact ⟨rfl, hK _ h⟩
/-- copy out of a nil slice. -/
theorem op_copy_nil (x y : Operand) (dT sT : TypeId) (ho : op.op = .call { callee := .builtin .copy, args := #[x, y], argTypes := #[dT, sT] })
    (elem : TypeId) (ad : Addr) (dLen dCap n : Nat) (hx : a.eval x = .slice (some ad) dLen dCap) (hy : a.eval y = .slice none 0 0)
    (hu : P.underlying dT = some (.slice elem)) (hs : (P.info? elem).map (·.size) = some n) (h : K (a.put op.dst (goInt 0)) w) : op.wp P a w K Q := by
  have hr := run_copy_nil P w dT sT op.type elem ad dLen dCap hu (by rw [hs]; rfl)
  unfold Oper.wp execOp
  simp only [ho, resolve, invoke, builtin, Sem.run_bind, Sem.run_pure, Result.andThen_ok, List.map_toArray, List.map_cons, List.map_nil, hx, hy, hr]
  exact h
end

/-! ### Results that lie in memory -/
theorem results_ct {P : Program} {fn : Func} {p u : Tmp} {ty : TypeId} (h : fn.results = #[.cell p ty, .tmp u]) (tmps : Array Value) (w : World) (g : Nat) (t : TypeId) (cs : Array Value) (fr : Nat × Nat) (d : TypeDesc)
    (hp : tmps.getD p undef = .pointer (some ⟨g, 0, none⟩)) (hg : w.heap[g]? = some (.cells cs t fr))
    (hu : P.underlying ty = some d) (hd : d.isRow = true) (hi : (P.info? ty).map (·.size) = some cs.size) :
    (results fn tmps).run P w = .ok (.tuple #[.agg cs, tmps.getD u undef]) w := by
  have hp' : tmps[p]?.getD undef = .pointer (some ⟨g, 0, none⟩) := by simpa using hp
  have hr : w.rangeAt g 0 cs.toList := fun j v hv => by rw [Nat.zero_add, cell_of_row w g j cs t fr hg]; simpa using hv
  have hl := run_loadVar_mid (P := P) w g 0 ty cs.toList d hr hu hd (by rw [hi, Array.length_toList])
  rw [Array.toArray_toList] at hl
  simp [results, h, hp', asAddr, hl]

/-- The slice v reads as n elements of size cells each, cs in all. -/
def Reads (w : World) (v : Value) (n size : Nat) (cs : List Value) : Prop :=
  cs.length = n * size ∧ ((v = .slice none 0 0 ∧ n = 0) ∨
    ∃ a cap, v = .slice (some a) n cap ∧ n ≤ cap ∧ cap ≤ 9223372036854775807 ∧ ∀ j u, cs[j]? = some u → w.cell? (a.add j) = some u)
theorem Reads.form {w : World} {v : Value} {n size : Nat} {cs : List Value} (h : Reads w v n size cs) : ∃ A cap, v = .slice A n cap ∧ n ≤ cap ∧ cap ≤ 9223372036854775807 := by
  rcases h.2 with ⟨rfl, rfl⟩ | ⟨a, cap, rfl, h1, h2, _⟩
  · exact ⟨_, _, rfl, Nat.le_refl _, by omega⟩
  · exact ⟨_, _, rfl, h1, h2⟩
theorem Reads.keep {w w' : World} {v : Value} {n size : Nat} {cs : List Value} (h : Reads w v n size cs) (hk : ∀ b, b < w.heap.size → w'.heap[b]? = w.heap[b]?) : Reads w' v n size cs := by
  refine ⟨h.1, ?_⟩
  rcases h.2 with h0 | ⟨a, cap, hv, h1, h2, h3⟩
  · exact .inl h0
  · refine .inr ⟨a, cap, hv, h1, h2, fun j u hu => ?_⟩
    have e := h3 j u hu
    rw [World.cell?_of_block (w := w) (hk _ (World.block_lt_of_cell? w _ e))]
    exact e
section
variable {P : Program} {op : Oper} {a : Act} {w : World} {K : Act → World → Prop} {Q : Exit → Act → World → Prop}
/-- copy of one-cell elements onto a part of a block, all of them. -/
theorem op_copy {c : Con} {L : List HP} {g o : Nat} {cur : Array Value} {T : TypeId} (H : St c (Pt g (.cells cur T (0, 0)) :: L) w)
    (x y : Operand) (dT sT : TypeId) (ho : op.op = .call { callee := .builtin .copy, args := #[x, y], argTypes := #[dT, sT] })
    (elem : TypeId) (dLen dCap n : Nat) (v : Value) (cs : List Value) (hx : a.eval x = .slice (some ⟨g, o, none⟩) dLen dCap) (hy : a.eval y = v) (hr : Reads w v n 1 cs)
    (hu : P.underlying dT = some (.slice elem)) (hs : (P.info? elem).map (·.size) = some 1) (hn : n ≤ dLen) (hfit : o + n ≤ cur.size) (h1 : ∀ u ∈ cs, u.oneCell' = true)
    (h : ∀ W, St c (Pt g (.cells (splice cur.toList o cs).toArray T (0, 0)) :: L) W → K (a.put op.dst (goInt n)) W) : op.wp P a w K Q := by
  have hl : cs.length = n := by rw [hr.1]; omega
  rcases hr.2 with ⟨rfl, rfl⟩ | ⟨ad, cap, rfl, h2, h3, h4⟩
  · have e : cs = [] := List.eq_nil_of_length_eq_zero hl
    subst e
    refine op_copy_nil x y dT sT ho elem _ dLen dCap 1 hx hy hu hs (h w ?_)
    have e : (splice cur.toList o []).toArray = cur := by simp [splice]
    rw [e]; exact H
  · have hr := run_copy_rows (P := P) w dT sT op.type elem g o dLen dCap ad n cap cur T 1 n cs hu hs H.pt (Nat.min_eq_left hn).symm (by omega) h4 (by omega) h1
    unfold Oper.wp execOp
    simp only [ho, resolve, invoke, builtin, Sem.run_bind, Sem.run_pure, Result.andThen_ok, List.map_toArray, List.map_cons, List.map_nil, hx, hy, hr]
    exact h _ (H.setRowPt _)
end
end Go.Proofs.Ytakeilefbcpabaa
