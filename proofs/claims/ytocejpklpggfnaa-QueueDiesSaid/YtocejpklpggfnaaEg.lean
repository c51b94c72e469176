/- The operations that make memory: slices put together, structs put together, conversions. No program in sight. -/
import Derived.Test.YtocejpklpggfnaaEf
import Derived.Laws.MakeOwn
namespace Go.Proofs.Ytocejpklpggfnaa
open Go.RowKit

def vcells (v : Value) : List Value := v.cells.toList
/-- The parts of a slice that is put together, in order. -/
inductive Parts (E : Env) : Nat → List (Nat × Operand) → List Value → Prop where
  | nil {k : Nat} : Parts E k [] []
  | cons {k : Nat} {x : Operand} {v : Value} {ps : List (Nat × Operand)} {vs : List Value} (h : Ev E x v) (r : Parts E (k + 1) ps vs) : Parts E k ((k, x) :: ps) (v :: vs)
theorem Parts.eval {E : Env} {N k : Nat} {ps : List (Nat × Operand)} {vs : List Value} {a : Act} (hf : Fr N E a) (h : Parts E k ps vs) : ps.map (fun p => (p.1, a.eval p.2)) = (vs.zipIdx k).map fun p => (p.2, p.1) := by
  induction h with
  | nil => rfl
  | cons h _ ih => simp [h N a hf, ih]
theorem Parts.length {E : Env} {k : Nat} {ps : List (Nat × Operand)} {vs : List Value} (h : Parts E k ps vs) : vs.length = ps.length := by
  induction h with
  | nil => rfl
  | cons _ _ ih => simp [ih]
theorem fill_parts (size : Nat) : ∀ (vs : List Value) (k : Nat) (acc tail : List Value), (∀ v ∈ vs, v.cells.size = size) → acc.length = k * size → tail.length = vs.length * size →
    Instr.fill (fun i => some (i * size, size)) (acc ++ tail).toArray ((vs.zipIdx k).map fun p => (p.2, p.1)) = some (acc ++ vs.flatMap vcells).toArray
  | [], k, acc, tail, _, _, ht => by
    have : tail = [] := List.eq_nil_of_length_eq_zero (by simpa using ht)
    subst this
    simp [Instr.fill]
  | v :: vs, k, acc, tail, hv, ha, ht => by
    have h1 := hv v List.mem_cons_self
    have e := fold_set (k * size) v.cells.toList 0 (acc ++ tail).toArray (by simp [ha, ht, h1, Nat.add_mul])
    rw [← Array.toList_zipIdx, Nat.add_zero, Array.foldl_toList] at e
    have hn : ¬ (decide (v.cells.size ≠ size) || decide (k * size + v.cells.size > (acc ++ tail).toArray.size)) = true := by
      simp [h1, ha, ht, Nat.add_mul]
    simp only [List.zipIdx_cons, List.map_cons, Instr.fill]
    rw [if_neg hn]
    have e2 : (splice (acc ++ tail).toArray.toList (k * size) v.cells.toList).toArray = ((acc ++ vcells v) ++ tail.drop size).toArray := by
      simp only [splice, vcells, ← ha, List.take_left]
      rw [List.drop_append, List.drop_of_length_le (by omega)]
      simp [h1]
    have := fill_parts size vs (k + 1) (acc ++ vcells v) (tail.drop size) (fun u hu => hv u (List.mem_cons_of_mem _ hu)) (by simp [vcells, ha, h1, Nat.add_mul]) (by simp [ht, Nat.add_mul])
    rw [e, e2, this]
    simp

section
variable {P : Program} {N : Nat} {c : Con} {E : Env} {L L' : List HP} {H : World → Prop} {d : Option Nat} {ty : TypeId} {pos : String} {aft : Array Edge} {g : Option (Nat × Bool)}
theorem ow_buildSlice {t e size bytes n : Nat} {z : Value} {ps : List (Nat × Operand)} {vs : List Value} [ht : TSlice P t e size bytes z] (hp : Parts E 0 ps vs) (hn : ps.length = n) (hc : ∀ v ∈ vs, v.cells.size = size)
    (h0 : 0 < n * size) (h1 : n * size ≤ 16777216) : OW P N c E L (Oper.mk d (.buildSlice t n ps.toArray) ty pos aft g) (fun b => .slice (some ⟨b, 0, none⟩) n n) fun b => Bl b e (vs.flatMap vcells) :: L := fun Q K a w hf H hk => by
  have hi := ht.i
  cases hq : P.info? e with
  | none => simp [hq] at hi
  | some ie =>
    simp only [hq, Option.map_some, Option.some.injEq, Prod.mk.injEq] at hi
    refine wp_buildSlice (P := P) t e n ps.toArray rfl (vs.flatMap vcells).toArray ie z ht.u hq hi.1 (by rw [hi.2.1]; omega) (by rw [hi.2.1]; omega) ?_ (hk _ _ (H.allocPt _))
    have e1 : (ps.toArray.map fun (i, x) => (i, a.eval x)).toList = (vs.zipIdx 0).map fun p => (p.2, p.1) := by
      rw [← hp.eval hf]; simp
    have h2 := fill_parts size vs 0 [] ((Array.range (n * ie.size)).map (z.cells[· % z.cells.size]!)).toList hc (by simp) (by simp [hi.2.1, ← hn, hp.length])
    rw [e1, hi.2.1]
    rw [hi.2.1] at h2
    rw [List.nil_append, Array.toArray_toList, List.nil_append] at h2
    exact h2

/-- A slice of none, that isn't nil. -/
theorem ow_buildEmpty {t e size bytes : Nat} {z : Value} [ht : TSlice P t e size bytes z] : OW P N c E L (Oper.mk d (.buildSlice t 0 #[]) ty pos aft g) (fun b => .slice (some ⟨b, 0, none⟩) 0 0) fun b => OwnP e size (.slice (some ⟨b, 0, none⟩) 0 0) 0 [] :: L := fun Q K a w hf H hk => by
  have hi := ht.i
  have _ := hf
  cases hq : P.info? e with
  | none => simp [hq] at hi
  | some ie =>
    unfold Oper.wp execOp
    have hr : (Instr.buildSlice t 0 #[]).run P w = .ok (.slice (some ⟨w.heap.size, 0, none⟩) 0 0) (w.alloc (.cells #[] e)) := by
      have e0 : ∀ f : Nat → Value, Array.map f (Array.range 0) = #[] := fun f => by apply Array.ext'; simp
      simp [Instr.buildSlice, run_underlying ht.u, sizeOf, typeInfo, program, Sem.run, hq, Instr.fill, newRow, newObj, e0]
    simp only [List.map_toArray, List.map_nil, Sem.run_bind, hr, Result.andThen_ok, Sem.run_pure]
    exact hk _ _ ((H.allocPt (.cells #[] e)).imp fun h hb => ⟨by simp, .inr ⟨w.heap.size, 0, #[], rfl, hb, Nat.le_refl _, Nat.zero_le _, by simp, by simp⟩⟩)
/-- Structs put together. -/
inductive Lay (E : Env) (ps : List (Nat × Nat)) : List Value → List (Nat × Operand) → List Value → Prop where
  | nil {z : List Value} : Lay E ps z [] z
  | cons {z out : List Value} {i o s : Nat} {x : Operand} {v : Value} {r : List (Nat × Operand)} (h : Ev E x v) (hp : ps[i]? = some (o, s)) (hs : (vcells v).length = s) (hz : o + s ≤ z.length) (k : Lay E ps (splice z o (vcells v)) r out) :
      Lay E ps z ((i, x) :: r) out
theorem Lay.fill {E : Env} {N : Nat} {ps : List (Nat × Nat)} {z out : List Value} {r : List (Nat × Operand)} {a : Act} (hf : Fr N E a) (h : Lay E ps z r out) : Instr.fill (ps.toArray[·]?) z.toArray (r.map fun p => (p.1, a.eval p.2)) = some out.toArray := by
  induction h with
  | nil => simp [Instr.fill]
  | @cons z out i o s x v r h hp hs hz _ ih =>
    have hs' : v.cells.size = s := by simpa [vcells] using hs
    have e := fold_set o v.cells.toList 0 z.toArray (by simp [hs']; omega)
    rw [← Array.toList_zipIdx, Nat.add_zero, Array.foldl_toList] at e
    have hn' : ¬ (decide (v.cells.size ≠ s) || decide (o + v.cells.size > z.toArray.size)) = true := by simp [hs']; omega
    have hp' : ps.toArray[i]? = some (o, s) := by simpa using hp
    simp only [List.map_cons, h N a hf, Instr.fill, hp']
    rw [if_neg hn', e]
    exact ih
theorem y_build {t : Nat} {ps : List (Nat × Nat)} {z out : List Value} {parts : List (Nat × Operand)} [ht : TPlaces P t ps z] (hl : Lay E ps z parts out) : Y P H E (Oper.mk d (.build t parts.toArray) ty pos aft g) (.agg out.toArray) := fun N a w hf _ => by
  obtain ⟨fs, h1, h2⟩ := ht.u
  have hi := ht.i
  cases hq : P.info? t with
  | none => simp [hq] at hi
  | some i =>
    have hz : i.zero = some (.agg z.toArray) := by simpa [hq] using hi
    have h3 := hl.fill hf
    have e1 : (parts.toArray.map fun (i, x) => (i, a.eval x)).toList = parts.map fun p => (p.1, a.eval p.2) := by simp
    unfold execOp
    simp only [Instr.build, Sem.run_bind, zeroValue, typeInfo, program, Sem.run, hq, hz, Sem.run_pure, Result.andThen_ok, run_underlying h1, h2, Value.cells, e1]
    have h3' : Instr.fill (fun x => ps.toArray[x]?) z.toArray (parts.map fun p => (p.1, a.eval p.2)) = some out.toArray := h3
    have h4 : (fun x : Nat => ps.toArray[x]?) = fun x : Nat => ps[x]? := by funext x; simp
    rw [h4] at h3'
    simp [h3']

/-- A slice of bytes, turned into itself. -/
theorem freeze_heap (w : World) (b n : Nat) (cs : Array Value) (T : TypeId) (hb : w.heap[b]? = some (.cells cs T (0, 0))) :
    (w.freeze ⟨b, n, none⟩ 1).heap[b]? = some (.cells cs T (n, n + 1)) ∧ ∀ k, k ≠ b → (w.freeze ⟨b, n, none⟩ 1).heap[k]? = w.heap[k]? := by
  refine ⟨by simp [World.freeze, Array.getElem?_modify, hb], fun k hk => ?_⟩
  simp [World.freeze, Array.getElem?_modify, Ne.symm hk]
theorem St.freeze {F : List HP} {w : World} {b : Nat} {cs : Array Value} {T : TypeId} (H : St c (Pt b (.cells cs T (0, 0)) :: F) w) (n : Nat) : St c (Pt b (.cells cs T (n, n + 1)) :: F) (w.freeze ⟨b, n, none⟩ 1) := by
  obtain ⟨h, a, l, u⟩ := H.upd
  have hb := l b _ a
  obtain ⟨h1, h2⟩ := freeze_heap w b n cs T hb
  have hc : conOf (w.freeze ⟨b, n, none⟩ 1) = conOf w := by unfold World.freeze; rfl
  refine u _ _ hc (fun k hk hn => h2 k ?_) ?_
  · rintro rfl; rw [a] at hn; cases hn
  · simp only [Pt]
    rw [if_pos (.inl (by rw [a]; rfl))]
    exact h1
theorem ow_mark {F : List HP} {x : Operand} {t e size bytes b o n cap T : Nat} {z : Value} {cs : Array Value} [ht : TSlice P t e size bytes z] [he : TInt P e .u8] (hx : Ev E x (.slice (some ⟨b, o, none⟩) n cap)) (hp : Pick L (Pt b (.cells cs T (0, 0))) F) :
    OW P N c E L (Oper.mk d (.convert t t x) ty pos aft g) (fun _ : Unit => .slice (some ⟨b, o, none⟩) n cap) fun _ => Pt b (.cells cs T (cs.size, cs.size + 1)) :: F := fun Q K a w hf H hk => by
  have H1 := hp.st H
  have hb := H1.pt
  have hs : w.shape? b = some (T, cs.size) := by simp [World.shape?, hb]
  unfold Oper.wp execOp
  simp [hx N a hf, convert, run_underlying ht.u, run_underlying he.u, markStringish, shape, Sem.run, hs, freeze]
  exact hk () _ (H1.freeze cs.size)
/-- The bytes of a string, as memory of its own. -/
def BytesP (b cap : Nat) (e : TypeId) (l : List UInt8) : HP := Pt b (.cells (bvs l ++ List.replicate (cap - l.length) (Value.int .u8 0)).toArray e (cap, cap + 1))
theorem bytesP_reads {F : List HP} {b cap e : Nat} {l : List UInt8} (h1 : l.length ≤ cap) (h2 : cap ≤ 9223372036854775807) : ∀ w, St c (BytesP b cap e l :: F) w → Reads w (.slice (some ⟨b, 0, none⟩) l.length cap) l.length 1 (bvs l) := fun w H => by
  have hb : w.heap[b]? = _ := St.pt (c := c) (L := F) H
  refine ⟨by simp [bvs_length], .inr ⟨_, cap, rfl, h1, h2, fun j u hu => ?_⟩⟩
  rw [add_mid, Nat.zero_add, cell_of_row w b j _ _ _ hb]
  have hj := (List.getElem?_eq_some_iff.1 hu).1
  simp [List.getElem?_append_left hj, hu]
theorem ow_toBytes {x : Operand} {t t' e size bytes : Nat} {z : Value} {l : List UInt8} [hs : TStr P t] [ht : TSlice P t' e size bytes z] [he : TInt P e .u8] (hx : Ev E x (str l)) (hl : l.length ≤ 9223372036854775807) :
    OW P N c E L (Oper.mk d (.convert t t' x) ty pos aft g) (fun q : { q : Nat × Nat // l.length ≤ q.2 ∧ q.2 ≤ 9223372036854775807 } => .slice (some ⟨q.1.1, 0, none⟩) l.length q.1.2) fun q => BytesP q.1.1 q.1.2 e l :: L := fun Q K a w hf H hk => by
  have hge : ∀ t : Nat, l.length ≤ (Question.appendCap l.length 0 e).cut t ∧ (Question.appendCap l.length 0 e).cut t ≤ 9223372036854775807 := fun t => by
    have := Nat.mod_lt t (show 0 < 2 ^ 63 - l.length by omega)
    simp only [Question.cut]; omega
  have hg := hge (w.tape w.drawn (.appendCap l.length 0 e))
  generalize hcap : (Question.appendCap l.length 0 e).cut (w.tape w.drawn (.appendCap l.length 0 e)) = cap at hg
  have e1 : (l.toArray.map fun b => Value.int .u8 (b.toNat : Int)) ++ Array.replicate (cap - l.length) (Value.int .u8 0) = (bvs l ++ List.replicate (cap - l.length) (Value.int .u8 0)).toArray := by
    apply Array.ext'; simp [bvs, bv]
  have hsz : (bvs l ++ List.replicate (cap - l.length) (Value.int .u8 0)).toArray.size = cap := by simp [bvs_length]; omega
  have H1 := (H.drew.allocPt (.cells (bvs l ++ List.replicate (cap - l.length) (Value.int .u8 0)).toArray e)).freeze cap
  have hsh : (w.drew.alloc (.cells (bvs l ++ List.replicate (cap - l.length) (Value.int .u8 0)).toArray e)).shape? w.heap.size = some (e, cap) := by
    have := heap_alloc_new w.drew (.cells (bvs l ++ List.replicate (cap - l.length) (Value.int .u8 0)).toArray e)
    have h0 : w.drew.heap.size = w.heap.size := rfl
    rw [h0] at this
    simp only [World.shape?, this, hsz]
  unfold Oper.wp execOp
  have hr : (convert t t' (str l)).run P w = .ok (.slice (some ⟨w.heap.size, 0, none⟩) l.length cap) ((w.drew.alloc (.cells (bvs l ++ List.replicate (cap - l.length) (Value.int .u8 0)).toArray e)).freeze ⟨w.heap.size, cap, none⟩ 1) := by
    simp only [convert, str, Sem.run_bind, run_underlying hs.u, run_underlying ht.u, Result.andThen_ok, run_underlying he.u, Conv.stringToBytes, choose, Sem.run, Question.forced, Bool.false_eq_true, if_false, str_size, hcap, newRow, newObj, Sem.run_pure, e1, markStringish, shape]
    have hsh' : ({ heap := (w.heap.push (.cells (bvs l ++ List.replicate (cap - l.length) (Value.int .u8 0)).toArray e)), tape := w.tape, drawn := w.drawn + 1, os := w.os, output := w.output } : World).shape? w.heap.size = some (e, cap) := hsh
    simp only [hsh', freeze, Sem.run, Result.andThen_ok]
    rfl
  simp only [hx N a hf, Sem.run_bind, hr, Result.andThen_ok, Sem.run_pure]
  exact hk ⟨(w.heap.size, cap), hg⟩ _ H1
theorem made_one (z : Value) (n : Nat) : (madeCells #[z] n).toList = List.replicate n z := by
  apply List.ext_getElem
  · simp [madeCells]
  · intro i h1 h2
    simp [madeCells, Nat.mod_one]
theorem ow_makeSlice {x y : Operand} {t e bytes : Nat} {z z' : Value} {n : Nat} {k k' : IntKind} [ht : TSlice P t e 1 bytes z] [he : TOne P e z'] (hx : Ev E x (.int k n)) (hy : Ev E y (.int k' n)) (hb : bytes * n ≤ 281474976710656) (h63 : n ≤ 9223372036854775807) :
    OW P N c E L (Oper.mk d (.makeSlice t x y) ty pos aft g) (fun b => .slice (some ⟨b, 0, none⟩) n n) fun b => Bl b e (List.replicate n z') :: L := fun Q K a w hf H hk => by
  have hi := ht.i
  have hi' := he.i
  cases hq : P.info? e with
  | none => simp [hq] at hi
  | some ie =>
    simp only [hq, Option.map_some, Option.some.injEq, Prod.mk.injEq] at hi hi'
    have hz : z = z' := Option.some.inj (hi.1.symm.trans hi'.1)
    subst hz
    have hr := run_make (P := P) w t e ie z ht.u hq hi.1 k k' n n (by omega) (by omega) (by rw [hi.2.2]; omega) (by omega)
    unfold Oper.wp execOp
    simp only [hx N a hf, hy N a hf, Sem.run_bind, hr, Result.andThen_ok, Sem.run_pure, Int.toNat_natCast]
    have e1 : madeCells z.cells (n * ie.size) = (List.replicate n z).toArray := by
      rw [he.one, hi.2.1, Nat.mul_one]; apply Array.ext'; rw [made_one]
    rw [e1]
    exact hk _ _ (H.allocPt _)
theorem replicate_bvs (n : Nat) : List.replicate n (Value.int .u8 0) = bvs (zeros n) := by simp [bvs, zeros, bv]
/-- A block as a slice of one's own. -/
theorem own_of_bl {b e size n : Nat} {cs : List Value} (hl : cs.length = n * size) (hn : n ≤ maxLen) : ∀ h, Bl b e cs h → OwnP e size (.slice (some ⟨b, 0, none⟩) n n) n cs h := fun h hb =>
  ⟨hl, .inr ⟨b, n, cs.toArray, rfl, hb, Nat.le_refl _, hn, by simpa using hl, by simp [← hl]⟩⟩
end
/-! ### clear of a slice -/
theorem ow_clear {P : Program} {N : Nat} {c : Con} {E : Env} {L F : List HP} {d : Option Nat} {ty : TypeId} {pos : String} {aft : Array Edge} {g : Option (Nat × Bool)} {x : Operand} {t e size bytes b o n cap T : Nat} {z : Value} {A : Option Addr} {cur : List Value}
    [ht : TSlice P t e size bytes z] (hx : Ev E x (.slice A n cap)) (hA : 0 < n → A = some ⟨b, o, none⟩) (h1 : ∀ u ∈ z.cells.toList, u.oneCell' = true) (hp : Pick L (Bl b T cur) F) (hfit : o + n * size ≤ cur.length) :
    OW P N c E L (Oper.mk d (.call { callee := .builtin .clear, args := #[x], argTypes := #[t] }) ty pos aft g) (fun _ : { zs : List Value // zs.length = n * size } => .tuple #[]) fun zs => Bl b T (splice cur o zs.1) :: F := fun Q K a w hf H hk => by
  have hi := ht.i
  have H1 := hp.st H
  cases hq : P.info? e with
  | none => simp [hq] at hi
  | some ie =>
    simp only [hq, Option.map_some, Option.some.injEq, Prod.mk.injEq] at hi
    unfold Oper.wp execOp
    by_cases hn : n = 0
    · subst hn
      have hk' := hk ⟨[], by simp⟩ w (by
        have e0 : splice cur o [] = cur := by simp [splice]
        show St c (Bl b T (splice cur o []) :: F) w
        rw [e0]; exact H1)
      have hr : ∀ A, (Builtin.clear_ #[t] ty #[.slice A 0 cap]).run P w = .ok (.tuple #[]) w := fun A => by cases A <;> simp [Builtin.clear_, run_underlying ht.u]
      simp only [resolve, invoke, builtin, Sem.run_bind, Sem.run_pure, Result.andThen_ok, List.map_toArray, List.map_cons, List.map_nil, hx N a hf, hr]
      exact hk'
    · have hA := hA (by omega)
      subst hA
      have hz1 : ∀ u ∈ (Builtin.zeroCells z.cells n).toList, u.oneCell' = true := by
        intro u hu
        simp only [Builtin.zeroCells, Array.toList_map, List.mem_map] at hu
        obtain ⟨i, hi', rfl⟩ := hu
        have hs : 0 < z.cells.size := by
          rcases Nat.eq_zero_or_pos z.cells.size with h0 | h0
          · rw [h0] at hi'; simp at hi'
          · exact h0
        have hlt : i % z.cells.size < z.cells.size := Nat.mod_lt _ hs
        rw [getElem!_pos z.cells _ hlt]
        exact h1 _ (by simp)
      have hzl : (Builtin.zeroCells z.cells n).toList.length = n * size := by simp [size_zeroCells, ht.zs]
      have hst := run_storeCells_at P b o T (Builtin.zeroCells z.cells n).toList 0 cur.toArray w H1.pt (by rw [Nat.add_zero, hzl]; simpa using hfit) hz1
      have hr : (Builtin.clear_ #[t] ty #[.slice (some ⟨b, o, none⟩) n cap]).run P w = .ok (.tuple #[]) (w.setRow b (splice cur o (Builtin.zeroCells z.cells n).toList).toArray) := by
        obtain ⟨m, rfl⟩ : ∃ m, n = m + 1 := ⟨n - 1, by omega⟩
        simp only [Nat.add_zero] at hst
        simp [Builtin.clear_, run_underlying ht.u, zeroValue, typeInfo, hq, hi.1, hst, splice]
      simp only [resolve, invoke, builtin, Sem.run_bind, Sem.run_pure, Result.andThen_ok, List.map_toArray, List.map_cons, List.map_nil, hx N a hf, hr]
      exact hk ⟨_, hzl⟩ _ (H1.setRowPt _)

end Go.Proofs.Ytocejpklpggfnaa
