/- The operations that make memory: slices put together, structs put together, conversions. No program in sight. -/
import Derived.Test.YtakeilefbcpabaaEf
import Derived.Laws.MakeOwn
namespace Go.Proofs.Ytakeilefbcpabaa
open Go.RowKit

def vcells (v : Value) : List Value := v.cells.toList
/-- The parts of a slice that is put together, in order. -/
inductive Parts (E : Env) : Nat → List (Nat × Operand) → List Value → Prop where
  | nil {k : Nat} : Parts E k [] []
  | cons {k : Nat} {x : Operand} {v : Value} {ps : List (Nat × Operand)} {vs : List Value} (h : Ev E x v) (r : Parts E (k + 1) ps vs) : Parts E k ((k, x) :: ps) (v :: vs)
theorem Parts.eval {E : Env} {N k : Nat} {ps : List (Nat × Operand)} {vs : List Value} {a : Act} (hf : Fr N E a) (h : Parts E k ps vs) : ps.map (fun p => (p.1, a.eval p.2)) = (vs.zipIdx k).map fun p => (p.2, p.1) := by
  induction h with
  | nil => rfl
  | cons h _ ih => simp [h N a hf, ih]
theorem Parts.length {E : Env} {k : Nat} {ps : List (Nat × Operand)} {vs : List Value} (h : Parts E k ps vs) : vs.length = ps.length := by
  induction h with
  | nil => rfl
  | cons _ _ ih => simp [ih]
theorem fill_parts (size : Nat) : ∀ (vs : List Value) (k : Nat) (acc tail : List Value), (∀ v ∈ vs, v.cells.size = size) → acc.length = k * size → tail.length = vs.length * size →
    Instr.fill (fun i => some (i * size, size)) (acc ++ tail).toArray ((vs.zipIdx k).map fun p => (p.2, p.1)) = some (acc ++ vs.flatMap vcells).toArray
  | [], k, acc, tail, _, _, ht => by
    have : tail = [] := List.eq_nil_of_length_eq_zero (by simpa using ht)
    subst this
    simp [Instr.fill]
  | v :: vs, k, acc, tail, hv, ha, ht => by
    have h1 := hv v List.mem_cons_self
    have e := fold_set (k * size) v.cells.toList 0 (acc ++ tail).toArray (by simp [ha, ht, h1, Nat.add_mul])
    rw [← Array.toList_zipIdx, Nat.add_zero, Array.foldl_toList] at e
    have hn : ¬ (decide (v.cells.size ≠ size) || decide (k * size + v.cells.size > (acc ++ tail).toArray.size)) = true := by
      simp [h1, ha, ht, Nat.add_mul]
    simp only [List.zipIdx_cons, List.map_cons, Instr.fill]
    rw [if_neg hn]
    have e2 : (splice (acc ++ tail).toArray.toList (k * size) v.cells.toList).toArray = ((acc ++ vcells v) ++ tail.drop size).toArray := by
      simp only [splice, vcells, ← ha, List.take_left]
      rw [List.drop_append, List.drop_of_length_le (by omega)]
      simp [h1]
    have := fill_parts size vs (k + 1) (acc ++ vcells v) (tail.drop size) (fun u hu => hv u (List.mem_cons_of_mem _ hu)) (by simp [vcells, ha, h1, Nat.add_mul]) (by simp [ht, Nat.add_mul])
    rw [e, e2, this]
    simp

section
variable {P : Program} {N : Nat} {c : Con} {E : Env} {L L' : List HP} {H : World → Prop} {d : Option Nat} {ty : TypeId} {pos : String} {aft : Array Edge} {g : Option (Nat × Bool)}
theorem ow_buildSlice {t e size bytes n : Nat} {z : Value} {ps : List (Nat × Operand)} {vs : List Value} [ht : TSlice P t e size bytes z] (hp : Parts E 0 ps vs) (hn : ps.length = n) (hc : ∀ v ∈ vs, v.cells.size = size)
    (h0 : 0 < n * size) (h1 : n * size ≤ 16777216) : OW P N c E L (Oper.mk d (.buildSlice t n ps.toArray) ty pos aft g) (fun b => .slice (some ⟨b, 0, none⟩) n n) fun b => Bl b e (vs.flatMap vcells) :: L := fun Q K a w hf H hk => by
  have hi := ht.i
  cases hq : P.info? e with
  | none => simp [hq] at hi
  | some ie =>
    simp only [hq, Option.map_some, Option.some.injEq, Prod.mk.injEq] at hi
    refine wp_buildSlice (P := P) t e n ps.toArray rfl (vs.flatMap vcells).toArray ie z ht.u hq hi.1 (by rw [hi.2.1]; omega) (by rw [hi.2.1]; omega) ?_ (hk _ _ (H.allocPt _))
    have e1 : (ps.toArray.map fun (i, x) => (i, a.eval x)).toList = (vs.zipIdx 0).map fun p => (p.2, p.1) := by
      rw [← hp.eval hf]; simp
    have h2 := fill_parts size vs 0 [] ((Array.range (n * ie.size)).map (z.cells[· % z.cells.size]!)).toList hc (by simp) (by simp [hi.2.1, ← hn, hp.length])
    rw [e1, hi.2.1]
    rw [hi.2.1] at h2
    rw [List.nil_append, Array.toArray_toList, List.nil_append] at h2
    exact h2

/-- A slice of none, that isn't nil. -/
theorem ow_buildEmpty {t e size bytes : Nat} {z : Value} [ht : TSlice P t e size bytes z] : OW P N c E L (Oper.mk d (.buildSlice t 0 #[]) ty pos aft g) (fun b => .slice (some ⟨b, 0, none⟩) 0 0) fun b => OwnP e size (.slice (some ⟨b, 0, none⟩) 0 0) 0 [] :: L := fun Q K a w hf H hk => by
  have hi := ht.i
  have _ := hf
  cases hq : P.info? e with
  | none => simp [hq] at hi
  | some ie =>
    unfold Oper.wp execOp
    have hr : (Instr.buildSlice t 0 #[]).run P w = .ok (.slice (some ⟨w.heap.size, 0, none⟩) 0 0) (w.alloc (.cells #[] e)) := by
      have e0 : ∀ f : Nat → Value, Array.map f (Array.range 0) = #[] := fun f => by apply Array.ext'; simp
      simp [Instr.buildSlice, run_underlying ht.u, sizeOf, typeInfo, program, Sem.run, hq, Instr.fill, newRow, newObj, e0]
    simp only [List.map_toArray, List.map_nil, Sem.run_bind, hr, Result.andThen_ok, Sem.run_pure]
    exact hk _ _ ((H.allocPt (.cells #[] e)).imp fun h hb => ⟨by simp, .inr ⟨w.heap.size, 0, #[], rfl, hb, Nat.le_refl _, Nat.zero_le _, by simp, by simp⟩⟩)
/-- Structs put together. -/
inductive Lay (E : Env) (ps : List (Nat × Nat)) : List Value → List (Nat × Operand) → List Value → Prop where
  | nil {z : List Value} : Lay E ps z [] z
  | cons {z out : List Value} {i o s : Nat} {x : Operand} {v : Value} {r : List (Nat × Operand)} (h : Ev E x v) (hp : ps[i]? = some (o, s)) (hs : (vcells v).length = s) (hz : o + s ≤ z.length) (k : Lay E ps (splice z o (vcells v)) r out) :
      Lay E ps z ((i, x) :: r) out
theorem Lay.fill {E : Env} {N : Nat} {ps : List (Nat × Nat)} {z out : List Value} {r : List (Nat × Operand)} {a : Act} (hf : Fr N E a) (h : Lay E ps z r out) : Instr.fill (ps.toArray[·]?) z.toArray (r.map fun p => (p.1, a.eval p.2)) = some out.toArray := by
  induction h with
  | nil => simp [Instr.fill]
  | @cons z out i o s x v r h hp hs hz _ ih =>
    have hs' : v.cells.size = s := by simpa [vcells] using hs
    have e := fold_set o v.cells.toList 0 z.toArray (by simp [hs']; omega)
    rw [← Array.toList_zipIdx, Nat.add_zero, Array.foldl_toList] at e
    have hn' : ¬ (decide (v.cells.size ≠ s) || decide (o + v.cells.size > z.toArray.size)) = true := by simp [hs']; omega
    have hp' : ps.toArray[i]? = some (o, s) := by simpa using hp
    simp only [List.map_cons, h N a hf, Instr.fill, hp']
    rw [if_neg hn', e]
    exact ih
theorem y_build {t : Nat} {ps : List (Nat × Nat)} {z out : List Value} {parts : List (Nat × Operand)} [ht : TPlaces P t ps z] (hl : Lay E ps z parts out) : Y P H E (Oper.mk d (.build t parts.toArray) ty pos aft g) (.agg out.toArray) := fun N a w hf _ => by
  obtain ⟨fs, h1, h2⟩ := ht.u
  have hi := ht.i
  cases hq : P.info? t with
  | none => simp [hq] at hi
  | some i =>
    have hz : i.zero = some (.agg z.toArray) := by simpa [hq] using hi
    have h3 := hl.fill hf
    have e1 : (parts.toArray.map fun (i, x) => (i, a.eval x)).toList = parts.map fun p => (p.1, a.eval p.2) := by simp
    unfold execOp
    simp only [Instr.build, Sem.run_bind, zeroValue, typeInfo, program, Sem.run, hq, hz, Sem.run_pure, Result.andThen_ok, run_underlying h1, h2, Value.cells, e1]
    have h3' : Instr.fill (fun x => ps.toArray[x]?) z.toArray (parts.map fun p => (p.1, a.eval p.2)) = some out.toArray := h3
    have h4 : (fun x : Nat => ps.toArray[x]?) = fun x : Nat => ps[x]? := by funext x; simp
    rw [h4] at h3'
    simp [h3']

/-- A slice of bytes, turned into itself. -/
theorem freeze_heap (w : World) (b n : Nat) (cs : Array Value) (T : TypeId) (hb : w.heap[b]? = some (.cells cs T (0, 0))) :
    (w.freeze ⟨b, n, none⟩ 1).heap[b]? = some (.cells cs T (n, n + 1)) ∧ ∀ k, k ≠ b → (w.freeze ⟨b, n, none⟩ 1).heap[k]? = w.heap[k]? := by
  refine ⟨by simp [World.freeze, Array.getElem?_modify, hb], fun k hk => ?_⟩
  simp [World.freeze, Array.getElem?_modify, Ne.symm hk]
theorem St.freeze {F : List HP} {w : World} {b : Nat} {cs : Array Value} {T : TypeId} (H : St c (Pt b (.cells cs T (0, 0)) :: F) w) (n : Nat) : St c (Pt b (.cells cs T (n, n + 1)) :: F) (w.freeze ⟨b, n, none⟩ 1) := by
  obtain ⟨h, a, l, u⟩ := H.upd
  have hb := l b _ a
  obtain ⟨h1, h2⟩ := freeze_heap w b n cs T hb
  have hc : conOf (w.freeze ⟨b, n, none⟩ 1) = conOf w := by unfold World.freeze; rfl
  refine u _ _ hc (fun k hk hn => h2 k ?_) ?_
  · rintro rfl; rw [a] at hn; cases hn
  · simp only [Pt]
    rw [if_pos (.inl (by rw [a]; rfl))]
    exact h1
theorem ow_mark {F : List HP} {x : Operand} {t e size bytes b o n cap T : Nat} {z : Value} {cs : Array Value} [ht : TSlice P t e size bytes z] [he : TInt P e .u8] (hx : Ev E x (.slice (some ⟨b, o, none⟩) n cap)) (hp : Pick L (Pt b (.cells cs T (0, 0))) F) :
    OW P N c E L (Oper.mk d (.convert t t x) ty pos aft g) (fun _ : Unit => .slice (some ⟨b, o, none⟩) n cap) fun _ => Pt b (.cells cs T (cs.size, cs.size + 1)) :: F := fun Q K a w hf H hk => by
  have H1 := hp.st H
  have hb := H1.pt
  have hs : w.shape? b = some (T, cs.size) := by simp [World.shape?, hb]
  unfold Oper.wp execOp
  simp [hx N a hf, convert, run_underlying ht.u, run_underlying he.u, markStringish, shape, Sem.run, hs, freeze]
  exact hk () _ (H1.freeze cs.size)
/-- The bytes of a string, as memory of its own. -/
def BytesP (b cap : Nat) (e : TypeId) (l : List UInt8) : HP := Pt b (.cells (bvs l ++ List.replicate (cap - l.length) (Value.int .u8 0)).toArray e (cap, cap + 1))
theorem bytesP_reads {F : List HP} {b cap e : Nat} {l : List UInt8} (h1 : l.length ≤ cap) (h2 : cap ≤ 9223372036854775807) : ∀ w, St c (BytesP b cap e l :: F) w → Reads w (.slice (some ⟨b, 0, none⟩) l.length cap) l.length 1 (bvs l) := fun w H => by
  have hb : w.heap[b]? = _ := St.pt (c := c) (L := F) H
  refine ⟨by simp [bvs_length], .inr ⟨_, cap, rfl, h1, h2, fun j u hu => ?_⟩⟩
  rw [add_mid, Nat.zero_add, cell_of_row w b j _ _ _ hb]
  have hj := (List.getElem?_eq_some_iff.1 hu).1
  simp [List.getElem?_append_left hj, hu]
theorem ow_toBytes {x : Operand} {t t' e size bytes : Nat} {z : Value} {l : List UInt8} [hs : TStr P t] [ht : TSlice P t' e size bytes z] [he : TInt P e .u8] (hx : Ev E x (str l)) (hl : l.length ≤ 9223372036854775807) :
    OW P N c E L (Oper.mk d (.convert t t' x) ty pos aft g) (fun q : { q : Nat × Nat // l.length ≤ q.2 ∧ q.2 ≤ 9223372036854775807 } => .slice (some ⟨q.1.1, 0, none⟩) l.length q.1.2) fun q => BytesP q.1.1 q.1.2 e l :: L := fun Q K a w hf H hk => by
  have hge : ∀ t : Nat, l.length ≤ (Question.appendCap l.length 0 e).cut t ∧ (Question.appendCap l.length 0 e).cut t ≤ 9223372036854775807 := fun t => by
    have := Nat.mod_lt t (show 0 < 2 ^ 63 - l.length by omega)
    simp only [Question.cut]; omega
  have hg := hge (w.tape w.drawn (.appendCap l.length 0 e))
  generalize hcap : (Question.appendCap l.length 0 e).cut (w.tape w.drawn (.appendCap l.length 0 e)) = cap at hg
  have e1 : (l.toArray.map fun b => Value.int .u8 (b.toNat : Int)) ++ Array.replicate (cap - l.length) (Value.int .u8 0) = (bvs l ++ List.replicate (cap - l.length) (Value.int .u8 0)).toArray := by
    apply Array.ext'; simp [bvs, bv]
  have hsz : (bvs l ++ List.replicate (cap - l.length) (Value.int .u8 0)).toArray.size = cap := by simp [bvs_length]; omega
  have H1 := (H.drew.allocPt (.cells (bvs l ++ List.replicate (cap - l.length) (Value.int .u8 0)).toArray e)).freeze cap
  have hsh : (w.drew.alloc (.cells (bvs l ++ List.replicate (cap - l.length) (Value.int .u8 0)).toArray e)).shape? w.heap.size = some (e, cap) := by
    have := heap_alloc_new w.drew (.cells (bvs l ++ List.replicate (cap - l.length) (Value.int .u8 0)).toArray e)
    have h0 : w.drew.heap.size = w.heap.size := rfl
    rw [h0] at this
    simp only [World.shape?, this, hsz]
  unfold Oper.wp execOp
  have hr : (convert t t' (str l)).run P w = .ok (.slice (some ⟨w.heap.size, 0, none⟩) l.length cap) ((w.drew.alloc (.cells (bvs l ++ List.replicate (cap - l.length) (Value.int .u8 0)).toArray e)).freeze ⟨w.heap.size, cap, none⟩ 1) := by
    simp only [convert, str, Sem.run_bind, run_underlying hs.u, run_underlying ht.u, Result.andThen_ok, run_underlying he.u, Conv.stringToBytes, choose, Sem.run, Question.forced, Bool.false_eq_true, if_false, str_size, hcap, newRow, newObj, Sem.run_pure, e1, markStringish, shape]
    have hsh' : ({ heap := (w.heap.push (.cells (bvs l ++ List.replicate (cap - l.length) (Value.int .u8 0)).toArray e)), tape := w.tape, drawn := w.drawn + 1, os := w.os, output := w.output } : World).shape? w.heap.size = some (e, cap) := hsh
    simp only [hsh', freeze, Sem.run, Result.andThen_ok]
    rfl
  simp only [hx N a hf, Sem.run_bind, hr, Result.andThen_ok, Sem.run_pure]
  exact hk ⟨(w.heap.size, cap), hg⟩ _ H1
theorem made_one (z : Value) (n : Nat) : (madeCells #[z] n).toList = List.replicate n z := by
  apply List.ext_getElem
  · simp [madeCells]
  · intro i h1 h2
    simp [madeCells, Nat.mod_one]
theorem ow_makeSlice {x y : Operand} {t e bytes : Nat} {z z' : Value} {n : Nat} {k k' : IntKind} [ht : TSlice P t e 1 bytes z] [he : TOne P e z'] (hx : Ev E x (.int k n)) (hy : Ev E y (.int k' n)) (hb : bytes * n ≤ 281474976710656) (h63 : n ≤ 9223372036854775807) :
    OW P N c E L (Oper.mk d (.makeSlice t x y) ty pos aft g) (fun b => .slice (some ⟨b, 0, none⟩) n n) fun b => Bl b e (List.replicate n z') :: L := fun Q K a w hf H hk => by
  have hi := ht.i
  have hi' := he.i
  cases hq : P.info? e with
  | none => simp [hq] at hi
  | some ie =>
    simp only [hq, Option.map_some, Option.some.injEq, Prod.mk.injEq] at hi hi'
    have hz : z = z' := Option.some.inj (hi.1.symm.trans hi'.1)
    subst hz
    have hr := run_make (P := P) w t e ie z ht.u hq hi.1 k k' n n (by omega) (by omega) (by rw [hi.2.2]; omega) (by omega)
    unfold Oper.wp execOp
    simp only [hx N a hf, hy N a hf, Sem.run_bind, hr, Result.andThen_ok, Sem.run_pure, Int.toNat_natCast]
    have e1 : madeCells z.cells (n * ie.size) = (List.replicate n z).toArray := by
      rw [he.one, hi.2.1, Nat.mul_one]; apply Array.ext'; rw [made_one]
    rw [e1]
    exact hk _ _ (H.allocPt _)
theorem replicate_bvs (n : Nat) : List.replicate n (Value.int .u8 0) = bvs (zeros n) := by simp [bvs, zeros, bv]
/-- A block as a slice of one's own. -/
theorem own_of_bl {b e size n : Nat} {cs : List Value} (hl : cs.length = n * size) (hn : n ≤ maxLen) : ∀ h, Bl b e cs h → OwnP e size (.slice (some ⟨b, 0, none⟩) n n) n cs h := fun h hb =>
  ⟨hl, .inr ⟨b, n, cs.toArray, rfl, hb, Nat.le_refl _, hn, by simpa using hl, by simp [← hl]⟩⟩
end
/-! ### clear of a slice -/
theorem ow_clear {P : Program} {N : Nat} {c : Con} {E : Env} {L F : List HP} {d : Option Nat} {ty : TypeId} {pos : String} {aft : Array Edge} {g : Option (Nat × Bool)} {x : Operand} {t e size bytes b o n cap T : Nat} {z : Value} {A : Option Addr} {cur : List Value}
    [ht : TSlice P t e size bytes z] (hx : Ev E x (.slice A n cap)) (hA : 0 < n → A = some ⟨b, o, none⟩) (h1 : ∀ u ∈ z.cells.toList, u.oneCell' = true) (hp : Pick L (Bl b T cur) F) (hfit : o + n * size ≤ cur.length) :
    OW P N c E L (Oper.mk d (.call { callee := .builtin .clear, args := #[x], argTypes := #[t] }) ty pos aft g) (fun _ : { zs : List Value // zs.length = n * size } => .tuple #[]) fun zs => Bl b T (splice cur o zs.1) :: F := fun Q K a w hf H hk => by
  have hi := ht.i
  have H1 := hp.st H
  cases hq : P.info? e with
  | none => simp [hq] at hi
  | some ie =>
    simp only [hq, Option.map_some, Option.some.injEq, Prod.mk.injEq] at hi
    unfold Oper.wp execOp
    by_cases hn : n = 0
    · subst hn
      have hk' := hk ⟨[], by simp⟩ w (by
        have e0 : splice cur o [] = cur := by simp [splice]
        show St c (Bl b T (splice cur o []) :: F) w
        rw [e0]; exact H1)
      have hr : ∀ A, (Builtin.clear_ #[t] ty #[.slice A 0 cap]).run P w = .ok (.tuple #[]) w := fun A => by cases A <;> simp [Builtin.clear_, run_underlying ht.u]
      simp only [resolve, invoke, builtin, Sem.run_bind, Sem.run_pure, Result.andThen_ok, List.map_toArray, List.map_cons, List.map_nil, hx N a hf, hr]
      exact hk'
    · have hA := hA (by omega)
      subst hA
      have hz1 : ∀ u ∈ (Builtin.zeroCells z.cells n).toList, u.oneCell' = true := by
        intro u hu
        simp only [Builtin.zeroCells, Array.toList_map, List.mem_map] at hu
        obtain ⟨i, hi', rfl⟩ := hu
        have hs : 0 < z.cells.size := by
          rcases Nat.eq_zero_or_pos z.cells.size with h0 | h0
          · rw [h0] at hi'; simp at hi'
          · exact h0
        have hlt : i % z.cells.size < z.cells.size := Nat.mod_lt _ hs
        rw [getElem!_pos z.cells _ hlt]
        exact h1 _ (by simp)
      have hzl : (Builtin.zeroCells z.cells n).toList.length = n * size := by simp [size_zeroCells, ht.zs]
      have hst := run_storeCells_at P b o T (Builtin.zeroCells z.cells n).toList 0 cur.toArray w H1.pt (by rw [Nat.add_zero, hzl]; simpa using hfit) hz1
      have hr : (Builtin.clear_ #[t] ty #[.slice (some ⟨b, o, none⟩) n cap]).run P w = .ok (.tuple #[]) (w.setRow b (splice cur o (Builtin.zeroCells z.cells n).toList).toArray) := by
        obtain ⟨m, rfl⟩ : ∃ m, n = m + 1 := ⟨n - 1, by omega⟩
        simp only [Nat.add_zero] at hst
        simp [Builtin.clear_, run_underlying ht.u, zeroValue, typeInfo, hq, hi.1, hst, splice]
      simp only [resolve, invoke, builtin, Sem.run_bind, Sem.run_pure, Result.andThen_ok, List.map_toArray, List.map_cons, List.map_nil, hx N a hf, hr]
      exact hk ⟨_, hzl⟩ _ (H1.setRowPt _)

theorem vcells_int (k : IntKind) (x : Int) : vcells (.int k x) = [.int k x] := rfl
theorem vcells_str (l : List UInt8) : vcells (str l) = [str l] := rfl
theorem vcells_bool (b : Bool) : vcells (.bool b) = [.bool b] := rfl
theorem vcells_slice (A : Option Addr) (n m : Nat) : vcells (.slice A n m) = [.slice A n m] := rfl
theorem vcells_ptr (A : Option Addr) : vcells (.pointer A) = [.pointer A] := rfl
section
variable {E : Env}
theorem Lay.one {ps : List (Nat × Nat)} {z out : List Value} {i o : Nat} {x : Operand} {v : Value} {r : List (Nat × Operand)} (h : Ev E x v) (hp : ps[i]? = some (o, 1)) (hv : vcells v = [v]) (hz : o < z.length) (k : Lay E ps (z.set o v) r out) : Lay E ps z ((i, x) :: r) out := by
  refine .cons h hp (by rw [hv]; rfl) (by omega) ?_
  have e : splice z o (vcells v) = z.set o v := by
    rw [hv, splice, List.set_eq_take_append_cons_drop, if_pos hz]
    simp
  rw [e]; exact k
end

/-! ### What fills itself: the tactics stand here once -/
section
variable {P : Program} {N : Nat} {c : Con} {E : Env} {L : List HP} {Q : Exit → Act → World → Prop} {ops : Array Oper} {H : World → Prop}
theorem ev_auto {x : Operand} {v : Value} (h : Ev E x v := by (first | exact ev_tmp rfl | exact ev_const | exact ev_func)) : Ev E x v := h
theorem evs_auto {xs : Array Operand} {vs : List Value} (h : Evs E xs vs := by ((repeat (first | exact evs_nil | ((apply evs_cons); focus (first | exact ev_tmp rfl | exact ev_const | exact ev_func)))); (first | done | fail))) : Evs E xs vs := h
theorem parts_auto {k : Nat} {ps : List (Nat × Operand)} {vs : List Value} (h : Parts E k ps vs := by ((repeat (first | exact Parts.nil | ((apply Parts.cons); focus (first | exact ev_tmp rfl | exact ev_const | exact ev_func)))); (first | done | fail))) : Parts E k ps vs := h
theorem lay_auto {ps : List (Nat × Nat)} {z out : List Value} {r : List (Nat × Operand)} (h : Lay E ps z r out := by ((repeat (first | exact Lay.nil | ((apply Lay.one); (first | exact ev_tmp rfl | exact ev_const | exact ev_func); (with_unfolding_all exact rfl); (first | exact vcells_int _ _ | exact vcells_str _ | exact vcells_bool _ | exact vcells_slice _ _ _ | exact vcells_ptr _); (with_unfolding_all exact Nat.le_of_ble_eq_true rfl)) | ((apply Lay.cons); (first | exact ev_tmp rfl | exact ev_const | exact ev_func); (with_unfolding_all exact rfl); (with_unfolding_all exact rfl); (with_unfolding_all exact Nat.le_of_ble_eq_true rfl)))); (first | done | fail))) : Lay E ps z r out := h
theorem sub_auto {E' : Env} (h : Sub E' E := by ((repeat (first | exact sub_nil | refine sub_cons rfl ?_)); (first | done | fail))) : Sub E' E := h
theorem pick_auto {A : HP} {F : List HP} (h : Pick L A F := by ((repeat (first | with_reducible exact Pick.hd | with_reducible apply Pick.tl)); (first | done | fail))) : Pick L A F := h
theorem pickd_auto {A : HP} {F : List HP} (h : Pick L A F := by ((repeat (first | with_reducible exact Pick.hd | exact Pick.hd | with_reducible apply Pick.tl)); (first | done | fail))) : Pick L A F := h
theorem sel_auto {L' : List HP} (h : Sel L L' := by ((repeat (first | with_reducible exact sel_all | exact Sel.nil | ((with_reducible apply Sel.cons); focus (exact pick_auto)) | with_reducible apply Sel.own0 | ((with_reducible apply Sel.cons); focus (exact pickd_auto)) | with_reducible apply Sel.tl)); (first | done | fail))) : Sel L L' := h
theorem has_auto {b : Nat} {o : Obj} (h : Has H b o := by ((repeat (first | with_reducible exact has_hd | with_reducible refine has_tl ?_)); (first | done | fail))) : Has H b o := h
theorem upd_auto {L' : List HP} {b : Nat} {T : TypeId} {cs cs' : List Value} (h : Upd L b T cs cs' L' := by ((repeat (first | with_reducible exact Upd.hd | with_reducible apply Upd.tl)); (first | done | fail))) : Upd L b T cs cs' L' := h
class IsAct (o : Op) : Prop where
  t : True
instance {b : Call} : IsAct (.call b) := ⟨trivial⟩
instance {t : TypeId} : IsAct (.alloc t) := ⟨trivial⟩
instance {t : TypeId} {x : Operand} : IsAct (.box t x) := ⟨trivial⟩
instance {t : TypeId} {x y : Operand} : IsAct (.store t x y) := ⟨trivial⟩
instance {t n : Nat} {ps : Array (Nat × Operand)} : IsAct (.buildSlice t n ps) := ⟨trivial⟩
instance {t : TypeId} {x y : Operand} : IsAct (.makeSlice t x y) := ⟨trivial⟩
instance {t t' : TypeId} {x : Operand} : IsAct (.convert t t' x) := ⟨trivial⟩
theorem is_owkc {K : Value → List HP → Prop} {d : Option Nat} {ty : TypeId} {pos : String} {aft : Array Edge} {g : Option (Nat × Bool)} {op : Op} [IsAct op] (h : OWK P N c E L (Oper.mk d op ty pos aft g) K) : OWK P N c E L (Oper.mk d op ty pos aft g) K := h
theorem gy_move {v : Value} {d : Option Nat} {ty : TypeId} {pos : String} {aft : Array Edge} {g : Option (Nat × Bool)} {x : Operand} (k : Y P H E (Oper.mk d (.move x) ty pos aft g) v) : Y P H E (Oper.mk d (.move x) ty pos aft g) v := k
theorem gy_assign {v : Value} {d : Option Nat} {ty : TypeId} {pos : String} {aft : Array Edge} {g : Option (Nat × Bool)} {x : Operand} (k : Y P H E (Oper.mk d (.assign x) ty pos aft g) v) : Y P H E (Oper.mk d (.assign x) ty pos aft g) v := k
theorem gy_nilCheck {v : Value} {d : Option Nat} {ty : TypeId} {pos : String} {aft : Array Edge} {g : Option (Nat × Bool)} {x : Operand} (k : Y P H E (Oper.mk d (.nilCheck x) ty pos aft g) v) : Y P H E (Oper.mk d (.nilCheck x) ty pos aft g) v := k
theorem gy_field {v : Value} {d : Option Nat} {ty : TypeId} {pos : String} {aft : Array Edge} {g : Option (Nat × Bool)} {s f : Nat} {x : Operand} (k : Y P H E (Oper.mk d (.fieldAddr s x f) ty pos aft g) v) : Y P H E (Oper.mk d (.fieldAddr s x f) ty pos aft g) v := k
theorem gy_load {v : Value} {d : Option Nat} {ty : TypeId} {pos : String} {aft : Array Edge} {g : Option (Nat × Bool)} {t : TypeId} {x : Operand} (k : Y P H E (Oper.mk d (.load t x) ty pos aft g) v) : Y P H E (Oper.mk d (.load t x) ty pos aft g) v := k
theorem gy_bin {v : Value} {d : Option Nat} {ty : TypeId} {pos : String} {aft : Array Edge} {g : Option (Nat × Bool)} {o : BinOp} {t t' : TypeId} {x y : Operand} (k : Y P H E (Oper.mk d (.binOp o t x y t') ty pos aft g) v) : Y P H E (Oper.mk d (.binOp o t x y t') ty pos aft g) v := k
theorem gy_pick {v : Value} {d : Option Nat} {ty : TypeId} {pos : String} {aft : Array Edge} {g : Option (Nat × Bool)} {x y z : Operand} (k : Y P H E (Oper.mk d (.pick x y z) ty pos aft g) v) : Y P H E (Oper.mk d (.pick x y z) ty pos aft g) v := k
theorem gy_extract {v : Value} {d : Option Nat} {ty : TypeId} {pos : String} {aft : Array Edge} {g : Option (Nat × Bool)} {x : Operand} {i : Nat} (k : Y P H E (Oper.mk d (.extract x i) ty pos aft g) v) : Y P H E (Oper.mk d (.extract x i) ty pos aft g) v := k
theorem gy_un {v : Value} {d : Option Nat} {ty : TypeId} {pos : String} {aft : Array Edge} {g : Option (Nat × Bool)} {o : UnOp} {t : TypeId} {x : Operand} (k : Y P H E (Oper.mk d (.unOp o t x) ty pos aft g) v) : Y P H E (Oper.mk d (.unOp o t x) ty pos aft g) v := k
theorem gy_call {v : Value} {d : Option Nat} {ty : TypeId} {pos : String} {aft : Array Edge} {g : Option (Nat × Bool)} {b : Call} (k : Y P H E (Oper.mk d (.call b) ty pos aft g) v) : Y P H E (Oper.mk d (.call b) ty pos aft g) v := k
theorem gy_index {v : Value} {d : Option Nat} {ty : TypeId} {pos : String} {aft : Array Edge} {g : Option (Nat × Bool)} {t : TypeId} {x i : Operand} (k : Y P H E (Oper.mk d (.indexAddr t x i) ty pos aft g) v) : Y P H E (Oper.mk d (.indexAddr t x i) ty pos aft g) v := k
theorem gy_slice {v : Value} {d : Option Nat} {ty : TypeId} {pos : String} {aft : Array Edge} {g : Option (Nat × Bool)} {t : TypeId} {x : Operand} {l h' m : Option Operand} (k : Y P H E (Oper.mk d (.slice t x l h' m) ty pos aft g) v) : Y P H E (Oper.mk d (.slice t x l h' m) ty pos aft g) v := k
theorem gy_conv {v : Value} {d : Option Nat} {ty : TypeId} {pos : String} {aft : Array Edge} {g : Option (Nat × Bool)} {t t' : TypeId} {x : Operand} (k : Y P H E (Oper.mk d (.convert t t' x) ty pos aft g) v) : Y P H E (Oper.mk d (.convert t t' x) ty pos aft g) v := k
theorem gy_func {v : Value} {d : Option Nat} {ty : TypeId} {pos : String} {aft : Array Edge} {g : Option (Nat × Bool)} {fn : Fn} {a b : Array Operand} (k : Y P H E (Oper.mk d (.makeFunc fn a b) ty pos aft g) v) : Y P H E (Oper.mk d (.makeFunc fn a b) ty pos aft g) v := k
theorem gy_build {v : Value} {d : Option Nat} {ty : TypeId} {pos : String} {aft : Array Edge} {g : Option (Nat × Bool)} {t : TypeId} {ps : Array (Nat × Operand)} (k : Y P H E (Oper.mk d (.build t ps) ty pos aft g) v) : Y P H E (Oper.mk d (.build t ps) ty pos aft g) v := k
theorem ga_alloc {β : Type} {r : β → Value} {L' : β → List HP} {d : Option Nat} {ty : TypeId} {pos : String} {aft : Array Edge} {g : Option (Nat × Bool)} {t : TypeId} (k : OW P N c E L (Oper.mk d (.alloc t) ty pos aft g) r L') : OW P N c E L (Oper.mk d (.alloc t) ty pos aft g) r L' := k
theorem ga_box {β : Type} {r : β → Value} {L' : β → List HP} {d : Option Nat} {ty : TypeId} {pos : String} {aft : Array Edge} {g : Option (Nat × Bool)} {t : TypeId} {x : Operand} (k : OW P N c E L (Oper.mk d (.box t x) ty pos aft g) r L') : OW P N c E L (Oper.mk d (.box t x) ty pos aft g) r L' := k
theorem ga_store {β : Type} {r : β → Value} {L' : β → List HP} {d : Option Nat} {ty : TypeId} {pos : String} {aft : Array Edge} {g : Option (Nat × Bool)} {t : TypeId} {x y : Operand} (k : OW P N c E L (Oper.mk d (.store t x y) ty pos aft g) r L') : OW P N c E L (Oper.mk d (.store t x y) ty pos aft g) r L' := k
theorem ga_buildSlice {β : Type} {r : β → Value} {L' : β → List HP} {d : Option Nat} {ty : TypeId} {pos : String} {aft : Array Edge} {g : Option (Nat × Bool)} {t n : Nat} {ps : Array (Nat × Operand)} (k : OW P N c E L (Oper.mk d (.buildSlice t n ps) ty pos aft g) r L') : OW P N c E L (Oper.mk d (.buildSlice t n ps) ty pos aft g) r L' := k
theorem ga_makeSlice {β : Type} {r : β → Value} {L' : β → List HP} {d : Option Nat} {ty : TypeId} {pos : String} {aft : Array Edge} {g : Option (Nat × Bool)} {t : TypeId} {x y : Operand} (k : OW P N c E L (Oper.mk d (.makeSlice t x y) ty pos aft g) r L') : OW P N c E L (Oper.mk d (.makeSlice t x y) ty pos aft g) r L' := k
theorem ga_conv {β : Type} {r : β → Value} {L' : β → List HP} {d : Option Nat} {ty : TypeId} {pos : String} {aft : Array Edge} {g : Option (Nat × Bool)} {t t' : TypeId} {x : Operand} (k : OW P N c E L (Oper.mk d (.convert t t' x) ty pos aft g) r L') : OW P N c E L (Oper.mk d (.convert t t' x) ty pos aft g) r L' := k
class IsAct0 (o : Op) : Prop where
  t : True
instance {t : TypeId} {x y : Operand} : IsAct0 (.store t x y) := ⟨trivial⟩
instance {t t' : TypeId} {x : Operand} : IsAct0 (.convert t t' x) := ⟨trivial⟩
theorem is_owk0 {K : Value → List HP → Prop} {d : Option Nat} {ty : TypeId} {pos : String} {aft : Array Edge} {g : Option (Nat × Bool)} {op : Op} [IsAct0 op] (h : OWK P N c E L (Oper.mk d op ty pos aft g) K) : OWK P N c E L (Oper.mk d op ty pos aft g) K := h
theorem owk0_auto {o : Oper} {r : Value} {L' : List HP} {K : Value → List HP → Prop} (h : OW P N c E L o (fun _ : Unit => r) (fun _ => L') := by (first | (with_reducible apply ga_conv; first | exact ow_mark (ev_tmp rfl) pick_auto) | (with_reducible apply ga_store; first | exact ow_store (ev_tmp rfl) (ev_tmp rfl) rfl upd_auto (by simp) | exact ow_store (ev_tmp rfl) ev_const rfl upd_auto (by simp)))) (k : K r L') : OWK P N c E L o K := owk0 h k
theorem yk_auto {o : Oper} {v : Value} {K : Value → Prop} (h : Y P H E o v := by (first | (with_reducible apply gy_move; first | exact y_move (ev_tmp rfl) | exact y_move ev_const) | (with_reducible apply gy_assign; first | exact y_assign (ev_tmp rfl) | exact y_assign ev_const) | (with_reducible apply gy_nilCheck; first | exact y_nilCheck (ev_tmp rfl)) | (with_reducible apply gy_field; first | exact y_field (ev_tmp rfl)) | (with_reducible apply gy_load; first | exact y_load (ev_tmp rfl) (hasCell_bl has_auto rfl) | exact y_load (ev_tmp rfl) (by assumption) | exact y_loadN (ev_tmp rfl) (hasCells_all has_auto) rfl | exact y_loadN (ev_tmp rfl) (hasCells_all has_auto) (by assumption)) | (with_reducible apply gy_bin; first | exact y_lss (ev_tmp rfl) (ev_tmp rfl) | exact y_lss (ev_tmp rfl) ev_const | exact y_lss ev_const (ev_tmp rfl) | exact y_leq (ev_tmp rfl) (ev_tmp rfl) | exact y_leq (ev_tmp rfl) ev_const | exact y_leq ev_const (ev_tmp rfl) | exact y_gtr (ev_tmp rfl) (ev_tmp rfl) | exact y_gtr (ev_tmp rfl) ev_const | exact y_gtr ev_const (ev_tmp rfl) | exact y_geq (ev_tmp rfl) (ev_tmp rfl) | exact y_geq (ev_tmp rfl) ev_const | exact y_geq ev_const (ev_tmp rfl) | exact y_eql (ev_tmp rfl) (ev_tmp rfl) | exact y_eql (ev_tmp rfl) ev_const | exact y_eql ev_const (ev_tmp rfl) | exact y_neq (ev_tmp rfl) (ev_tmp rfl) | exact y_neq (ev_tmp rfl) ev_const | exact y_neq ev_const (ev_tmp rfl) | exact y_add64 (ev_tmp rfl) (ev_tmp rfl) (by omega) | exact y_add64 (ev_tmp rfl) ev_const (by omega) | exact y_add64 ev_const (ev_tmp rfl) (by omega) | exact y_sub64 (ev_tmp rfl) (ev_tmp rfl) (by omega) | exact y_sub64 (ev_tmp rfl) ev_const (by omega) | exact y_sub64 ev_const (ev_tmp rfl) (by omega) | exact y_mul64 (ev_tmp rfl) (ev_tmp rfl) (by omega) | exact y_mul64 (ev_tmp rfl) ev_const (by omega) | exact y_mul64 ev_const (ev_tmp rfl) (by omega) | exact y_quo64 (ev_tmp rfl) (ev_tmp rfl) (by omega) | exact y_quo64 (ev_tmp rfl) ev_const (by omega) | exact y_quo64 ev_const (ev_tmp rfl) (by omega) | exact y_rem (ev_tmp rfl) (ev_tmp rfl) (by omega) | exact y_rem (ev_tmp rfl) ev_const (by omega) | exact y_rem ev_const (ev_tmp rfl) (by omega) | exact y_eql_some (ev_tmp rfl) ev_const | exact y_neq_some (ev_tmp rfl) ev_const | exact y_eql_none (ev_tmp rfl) ev_const | exact y_neq_none (ev_tmp rfl) ev_const | exact y_eql_d (ev_tmp rfl) (ev_tmp rfl) | exact y_neq_d (ev_tmp rfl) (ev_tmp rfl) | exact y_eql_b (ev_tmp rfl) (ev_tmp rfl) | exact y_eql_b (ev_tmp rfl) ev_const | exact y_eql_b ev_const (ev_tmp rfl) | exact y_neq_b (ev_tmp rfl) (ev_tmp rfl) | exact y_neq_b (ev_tmp rfl) ev_const | exact y_neq_b ev_const (ev_tmp rfl) | exact y_eql_s (ev_tmp rfl) (ev_tmp rfl) | exact y_eql_s (ev_tmp rfl) ev_const | exact y_eql_s ev_const (ev_tmp rfl) | exact y_neq_s (ev_tmp rfl) (ev_tmp rfl) | exact y_neq_s (ev_tmp rfl) ev_const | exact y_neq_s ev_const (ev_tmp rfl) | exact y_add_s (ev_tmp rfl) (ev_tmp rfl) (by omega) | exact y_add_s (ev_tmp rfl) ev_const (by omega) | exact y_add_s ev_const (ev_tmp rfl) (by omega) | exact y_shr (ev_tmp rfl) (ev_tmp rfl) (by omega) (by simp [IntKind.bits]) | exact y_shr (ev_tmp rfl) ev_const (by omega) (by simp [IntKind.bits]) | exact y_shr ev_const (ev_tmp rfl) (by omega) (by simp [IntKind.bits]) | exact y_add (ev_tmp rfl) (ev_tmp rfl) | exact y_add (ev_tmp rfl) ev_const | exact y_add ev_const (ev_tmp rfl) | exact y_sub (ev_tmp rfl) (ev_tmp rfl) | exact y_sub (ev_tmp rfl) ev_const | exact y_sub ev_const (ev_tmp rfl) | exact y_mul (ev_tmp rfl) (ev_tmp rfl) | exact y_mul (ev_tmp rfl) ev_const | exact y_mul ev_const (ev_tmp rfl) | exact y_bits (.inl rfl) (ev_tmp rfl) (ev_tmp rfl) | exact y_bits (.inl rfl) (ev_tmp rfl) ev_const | exact y_bits (.inr (.inl rfl)) (ev_tmp rfl) (ev_tmp rfl) | exact y_bits (.inr (.inl rfl)) (ev_tmp rfl) ev_const | exact y_bits (.inr (.inr (.inl rfl))) (ev_tmp rfl) (ev_tmp rfl) | exact y_bits (.inr (.inr (.inl rfl))) (ev_tmp rfl) ev_const | exact y_bits (.inr (.inr (.inr rfl))) (ev_tmp rfl) (ev_tmp rfl) | exact y_bits (.inr (.inr (.inr rfl))) (ev_tmp rfl) ev_const) | (with_reducible apply gy_pick; first | exact y_pick_t (ev_tmp rfl) (ev_tmp rfl) | exact y_pick_t (ev_tmp rfl) ev_const | exact y_pick_f (ev_tmp rfl) (ev_tmp rfl) | exact y_pick_f (ev_tmp rfl) ev_const) | (with_reducible apply gy_extract; first | exact y_ext20 (ev_tmp rfl) | exact y_ext21 (ev_tmp rfl) | exact y_ext30 (ev_tmp rfl) | exact y_ext31 (ev_tmp rfl) | exact y_ext32 (ev_tmp rfl) | exact y_ext40 (ev_tmp rfl) | exact y_ext41 (ev_tmp rfl) | exact y_ext42 (ev_tmp rfl) | exact y_ext43 (ev_tmp rfl) | exact y_extract (ev_tmp rfl) rfl) | (with_reducible apply gy_un; first | exact y_not_t (ev_tmp rfl) | exact y_not_f (ev_tmp rfl) | exact y_not (ev_tmp rfl) | exact y_not_b (ev_tmp rfl) rfl) | (with_reducible apply gy_index; first | exact y_indexN (ev_tmp rfl) (ev_tmp rfl) (by omega) | exact y_indexN (ev_tmp rfl) ev_const (by omega) | exact y_index (ev_tmp rfl) (ev_tmp rfl) (by omega) | exact y_index (ev_tmp rfl) ev_const (by omega) | exact y_indexAN (ev_tmp rfl) (ev_tmp rfl) (by omega) | exact y_indexAN (ev_tmp rfl) ev_const (by omega) | exact y_indexA (ev_tmp rfl) (ev_tmp rfl) (by omega) | exact y_indexA (ev_tmp rfl) ev_const (by omega) | exact y_indexArr (ev_tmp rfl) (ev_tmp rfl) (by omega) | exact y_indexArr (ev_tmp rfl) ev_const (by omega)) | (with_reducible apply gy_slice; first | exact y_sliceArr (ev_tmp rfl) | exact y_sliceLo (ev_tmp rfl) (ev_tmp rfl) (by omega) | exact y_sliceHi (ev_tmp rfl) (ev_tmp rfl) (by omega) | exact y_sliceStr (ev_tmp rfl) (ev_tmp rfl) (ev_tmp rfl) (by omega) | exact y_sliceStrLo (ev_tmp rfl) (ev_tmp rfl) (by omega) | exact y_sliceStrHi (ev_tmp rfl) (ev_tmp rfl) (by omega)) | (with_reducible apply gy_call; first | exact y_lenSlice (ev_tmp rfl) | exact y_lenStr (ev_tmp rfl) | exact y_min (ev_tmp rfl) (ev_tmp rfl) | exact y_min (ev_tmp rfl) ev_const | exact y_min ev_const (ev_tmp rfl) | exact y_max (ev_tmp rfl) (ev_tmp rfl) | exact y_max (ev_tmp rfl) ev_const | exact y_max ev_const (ev_tmp rfl)) | (with_reducible apply gy_build; first | exact y_build lay_auto) | (with_reducible apply gy_conv; first | exact y_conv_int (ev_tmp rfl)) | (with_reducible apply gy_func; first | exact y_makeFunc evs_auto))) (k : K v) : YK P H E o K := ⟨v, h, k⟩
theorem owk_auto {o : Oper} {β : Type} {r : β → Value} {L' : β → List HP} {K : Value → List HP → Prop} (h : OW P N c E L o r L' := by (first | (with_reducible apply ga_alloc; first | exact ow_alloc1 | exact ow_allocN) | (with_reducible apply ga_box; first | exact ow_box1 (ev_tmp rfl) rfl | exact ow_boxAgg (ev_tmp rfl) | exact ow_box (ev_tmp rfl) rfl) | (with_reducible apply ga_buildSlice; first | exact ow_buildEmpty | exact ow_buildSlice parts_auto rfl (by first | (simp [Value.cells, str]; done) | fail) (by decide) (by decide)) | (with_reducible apply ga_makeSlice; first | exact ow_makeSlice (ev_tmp rfl) (ev_tmp rfl) (by omega) (by omega) | exact ow_makeSlice ev_const ev_const (by omega) (by omega)) | (with_reducible apply ga_conv; first | exact ow_toBytes (ev_tmp rfl) (by omega)))) (k : ∀ x, K (r x) (L' x)) : OWK P N c E L o K := ⟨β, r, L', h, k⟩
section
variable {G : Prop}
theorem im_wl {l : List Oper} (h : G → WL P N c ops Q l E L) : G → WL P N c ops Q l E L := h
theorem im_owk {K : Value → List HP → Prop} {o : Oper} (h : G → OWK P N c E L o K) : G → OWK P N c E L o K := h
theorem im_w {x : Code} (h : G → W P N c Q x E L) : G → W P N c Q x E L := h
theorem im_x {e : Exit} (h : G → X N c Q e E L) : G → X N c Q e E L := h
theorem im_cv {x y : Code} {v : Value} (h : G → CV P N c Q x y E L v) : G → CV P N c Q x y E L v := h
theorem im_wp {R : List HP} {er : Nat → Bool} {p : Plan} (h : G → WP P N c ops Q R er p E L) : G → WP P N c ops Q R er p E L := h
theorem im_wpT {R : List HP} {er : Nat → Bool} {i : Nat} {r : Plan} (h : G → WP P N c ops Q R er ((i, true) :: r) E L) : G → WP P N c ops Q R er ((i, true) :: r) E L := h
theorem im_wpF {R : List HP} {er : Nat → Bool} {i : Nat} {r : Plan} (h : G → WP P N c ops Q R er ((i, false) :: r) E L) : G → WP P N c ops Q R er ((i, false) :: r) E L := h
theorem im_kept {R : List HP} {er : Nat → Bool} {i : Nat} {r : Plan} (h : G → Kept P N c ops Q R er i r E L) : G → Kept P N c ops Q R er i r E L := h
end
end
theorem go1 {G G' : Prop} (h : G' → G := by (first | (with_reducible apply im_wl; first | exact fun h => wl_step rfl h | exact fun h => wl_nil h | exact fun h => wl_step0 h | exact fun h => wl_in rfl rfl h | exact fun h => wl_out rfl rfl rfl rfl h | exact fun h => wl_outU rfl rfl rfl h | exact fun h => wl_part_t rfl rfl (by first | exact rfl | exact ne_self | decide | omega | assumption) h | exact fun h => wl_part_f rfl rfl (by first | exact rfl | exact ne_self | decide | omega | assumption) h) | (with_reducible apply im_owk; first | exact fun h => owk_yk h) | (with_reducible apply im_w; first | exact fun h => w_seq h | exact fun h => w_region h | exact fun h => w_cv rfl h | exact fun h => w_skip h | exact fun h => w_ret h | exact fun h => w_exit h | exact fun h => w_block h) | (with_reducible apply im_x; first | exact fun h => x_then h | exact fun h => x_block h | exact fun h => x_noPanic h | exact fun h => x_thenR h | exact fun h => x_blockR h | exact fun h => x_thenE h | exact fun h => x_blockE h | exact fun h => x_blockE' rfl h) | (with_reducible apply im_cv; first | exact fun h => cv_true h | exact fun h => cv_false h | exact fun h => cv_dec_t (by first | exact rfl | exact ne_self | decide | omega | assumption) h | exact fun h => cv_dec_f (by first | exact rfl | exact ne_self | decide | omega | assumption) h | exact fun h => cv_bool_t (by assumption) h | exact fun h => cv_bool_f (by assumption) h) | (with_reducible apply im_wpT; first | exact fun h => wq_step rfl rfl h | exact fun h => wq_stepG rfl rfl rfl rfl h | exact fun h => wq_out rfl rfl rfl rfl rfl h | exact fun h => wq_part_t rfl rfl rfl (by first | exact rfl | exact ne_self | decide | omega | assumption) h | exact fun h => wq_part_f rfl rfl rfl (by first | exact rfl | exact ne_self | decide | omega | assumption) h) | (with_reducible apply im_wpF; first | exact fun h => wq_act rfl rfl h | exact fun h => wq_act0 rfl h | exact fun h => wq_actG rfl rfl rfl rfl h | exact fun h => wq_outa rfl rfl rfl rfl rfl (fun _ => sel_auto) h | exact fun h => wq_part_t rfl rfl rfl (by first | exact rfl | exact ne_self | decide | omega | assumption) h | exact fun h => wq_part_f rfl rfl rfl (by first | exact rfl | exact ne_self | decide | omega | assumption) h) | (with_reducible apply im_wp; first | exact fun h => wq_nil h) | (with_reducible apply im_kept; first | exact fun h => kept_late (by decide +kernel) h | exact fun h => kept_same sel_auto h))) (k : G') : G := h k
theorem go2 {G A B : Prop} (h : A → B → G := by (first | exact fun h k => wl_part rfl rfl h k | exact fun h k => wl_partB rfl rfl h k | exact fun h k => cv_dec h k | exact fun h k => cv_bool h k | exact fun h k => wq_part rfl rfl rfl h k | exact fun h k => wq_partB rfl rfl rfl h k)) (ka : A) (kb : B) : G := h ka kb
end Go.Proofs.Ytakeilefbcpabaa
