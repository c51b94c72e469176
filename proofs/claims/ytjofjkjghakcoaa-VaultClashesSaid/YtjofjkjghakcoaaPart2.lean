/- Part 2 of what the statement rests on: each piece below begins with its own remark. -/
import Derived.Test.YtjofjkjghakcoaaPart1
import Derived.Laws.MakeOwn
import Derived.ProofKit
import Derived.OpenShut
import Derived.SizedLaws
import Derived.ChangeOld
import Derived.Lib.SmallJoins
import Derived.Deep.Slices
import Derived.MapKept
import Derived.Test.YtjofjkjghakcoaaProg
import Derived.Laws.StructEq
import Derived.ChangeKeysEq
import Derived.WideKeyRuns
/- The operations that make memory: slices put together, structs put together, conversions. No program in sight. -/
namespace Go.Proofs.Ytjofjkjghakcoaa
open Go.RowKit

def vcells (v : Value) : List Value := v.cells.toList
/-- The parts of a slice that is put together, in order. -/
inductive Parts (E : Env) : Nat → List (Nat × Operand) → List Value → Prop where
  | nil {k : Nat} : Parts E k [] []
  | cons {k : Nat} {x : Operand} {v : Value} {ps : List (Nat × Operand)} {vs : List Value} (h : Ev E x v) (r : Parts E (k + 1) ps vs) : Parts E k ((k, x) :: ps) (v :: vs)
theorem Parts.eval {E : Env} {N k : Nat} {ps : List (Nat × Operand)} {vs : List Value} {a : Act} (hf : Fr N E a) (h : Parts E k ps vs) : ps.map (fun p => (p.1, a.eval p.2)) = (vs.zipIdx k).map fun p => (p.2, p.1) := by
  induction h with
  | nil => rfl
  | cons h _ ih => simp [h N a hf, ih]
theorem Parts.length {E : Env} {k : Nat} {ps : List (Nat × Operand)} {vs : List Value} (h : Parts E k ps vs) : vs.length = ps.length := by
  induction h with
  | nil => rfl
  | cons _ _ ih => simp [ih]
theorem fill_parts (size : Nat) : ∀ (vs : List Value) (k : Nat) (acc tail : List Value), (∀ v ∈ vs, v.cells.size = size) → acc.length = k * size → tail.length = vs.length * size →
    Instr.fill (fun i => some (i * size, size)) (acc ++ tail).toArray ((vs.zipIdx k).map fun p => (p.2, p.1)) = some (acc ++ vs.flatMap vcells).toArray
  | [], k, acc, tail, _, _, ht => by
    have : tail = [] := List.eq_nil_of_length_eq_zero (by simpa using ht)
    subst this
    simp [Instr.fill]
  | v :: vs, k, acc, tail, hv, ha, ht => by
    have h1 := hv v List.mem_cons_self
    have e := fold_set (k * size) v.cells.toList 0 (acc ++ tail).toArray (by simp [ha, ht, h1, Nat.add_mul])
    rw [← Array.toList_zipIdx, Nat.add_zero, Array.foldl_toList] at e
    have hn : ¬ (decide (v.cells.size ≠ size) || decide (k * size + v.cells.size > (acc ++ tail).toArray.size)) = true := by
      simp [h1, ha, ht, Nat.add_mul]
    simp only [List.zipIdx_cons, List.map_cons, Instr.fill]
    rw [if_neg hn]
    have e2 : (splice (acc ++ tail).toArray.toList (k * size) v.cells.toList).toArray = ((acc ++ vcells v) ++ tail.drop size).toArray := by
      simp only [splice, vcells, ← ha, List.take_left]
      rw [List.drop_append, List.drop_of_length_le (by omega)]
      simp [h1]
    have := fill_parts size vs (k + 1) (acc ++ vcells v) (tail.drop size) (fun u hu => hv u (List.mem_cons_of_mem _ hu)) (by simp [vcells, ha, h1, Nat.add_mul]) (by simp [ht, Nat.add_mul])
    rw [e, e2, this]
    simp

section
variable {P : Program} {N : Nat} {c : Con} {E : Env} {L L' : List HP} {H : World → Prop} {d : Option Nat} {ty : TypeId} {pos : String} {aft : Array Edge} {g : Option (Nat × Bool)}
theorem ow_buildSlice {t e size bytes n : Nat} {z : Value} {ps : List (Nat × Operand)} {vs : List Value} [ht : TSlice P t e size bytes z] (hp : Parts E 0 ps vs) (hn : ps.length = n) (hc : ∀ v ∈ vs, v.cells.size = size)
    (h0 : 0 < n * size) (h1 : n * size ≤ 16777216) : OW P N c E L (Oper.mk d (.buildSlice t n ps.toArray) ty pos aft g) (fun b => .slice (some ⟨b, 0, none⟩) n n) fun b => Bl b e (vs.flatMap vcells) :: L := fun Q K a w hf H hk => by
  have hi := ht.i
  cases hq : P.info? e with
  | none => simp [hq] at hi
  | some ie =>
    simp only [hq, Option.map_some, Option.some.injEq, Prod.mk.injEq] at hi
    refine wp_buildSlice (P := P) t e n ps.toArray rfl (vs.flatMap vcells).toArray ie z ht.u hq hi.1 (by rw [hi.2.1]; omega) (by rw [hi.2.1]; omega) ?_ (hk _ _ (H.allocPt _))
    have e1 : (ps.toArray.map fun (i, x) => (i, a.eval x)).toList = (vs.zipIdx 0).map fun p => (p.2, p.1) := by
      rw [← hp.eval hf]; simp
    have h2 := fill_parts size vs 0 [] ((Array.range (n * ie.size)).map (z.cells[· % z.cells.size]!)).toList hc (by simp) (by simp [hi.2.1, ← hn, hp.length])
    rw [e1, hi.2.1]
    rw [hi.2.1] at h2
    rw [List.nil_append, Array.toArray_toList, List.nil_append] at h2
    exact h2

/-- A slice of none, that isn't nil. -/
theorem ow_buildEmpty {t e size bytes : Nat} {z : Value} [ht : TSlice P t e size bytes z] : OW P N c E L (Oper.mk d (.buildSlice t 0 #[]) ty pos aft g) (fun b => .slice (some ⟨b, 0, none⟩) 0 0) fun b => OwnP e size (.slice (some ⟨b, 0, none⟩) 0 0) 0 [] :: L := fun Q K a w hf H hk => by
  have hi := ht.i
  have _ := hf
  cases hq : P.info? e with
  | none => simp [hq] at hi
  | some ie =>
    unfold Oper.wp execOp
    have hr : (Instr.buildSlice t 0 #[]).run P w = .ok (.slice (some ⟨w.heap.size, 0, none⟩) 0 0) (w.alloc (.cells #[] e)) := by
      have e0 : ∀ f : Nat → Value, Array.map f (Array.range 0) = #[] := fun f => by apply Array.ext'; simp
      simp [Instr.buildSlice, run_underlying ht.u, sizeOf, typeInfo, program, Sem.run, hq, Instr.fill, newRow, newObj, e0]
    simp only [List.map_toArray, List.map_nil, Sem.run_bind, hr, Result.andThen_ok, Sem.run_pure]
    exact hk _ _ ((H.allocPt (.cells #[] e)).imp fun h hb => ⟨by simp, .inr ⟨w.heap.size, 0, #[], rfl, hb, Nat.le_refl _, Nat.zero_le _, by simp, by simp⟩⟩)
/-- Structs put together. -/
inductive Lay (E : Env) (ps : List (Nat × Nat)) : List Value → List (Nat × Operand) → List Value → Prop where
  | nil {z : List Value} : Lay E ps z [] z
  | cons {z out : List Value} {i o s : Nat} {x : Operand} {v : Value} {r : List (Nat × Operand)} (h : Ev E x v) (hp : ps[i]? = some (o, s)) (hs : (vcells v).length = s) (hz : o + s ≤ z.length) (k : Lay E ps (splice z o (vcells v)) r out) :
      Lay E ps z ((i, x) :: r) out
theorem Lay.fill {E : Env} {N : Nat} {ps : List (Nat × Nat)} {z out : List Value} {r : List (Nat × Operand)} {a : Act} (hf : Fr N E a) (h : Lay E ps z r out) : Instr.fill (ps.toArray[·]?) z.toArray (r.map fun p => (p.1, a.eval p.2)) = some out.toArray := by
  induction h with
  | nil => simp [Instr.fill]
  | @cons z out i o s x v r h hp hs hz _ ih =>
    have hs' : v.cells.size = s := by simpa [vcells] using hs
    have e := fold_set o v.cells.toList 0 z.toArray (by simp [hs']; omega)
    rw [← Array.toList_zipIdx, Nat.add_zero, Array.foldl_toList] at e
    have hn' : ¬ (decide (v.cells.size ≠ s) || decide (o + v.cells.size > z.toArray.size)) = true := by simp [hs']; omega
    have hp' : ps.toArray[i]? = some (o, s) := by simpa using hp
    simp only [List.map_cons, h N a hf, Instr.fill, hp']
    rw [if_neg hn', e]
    exact ih
theorem y_build {t : Nat} {ps : List (Nat × Nat)} {z out : List Value} {parts : List (Nat × Operand)} [ht : TPlaces P t ps z] (hl : Lay E ps z parts out) : Y P H E (Oper.mk d (.build t parts.toArray) ty pos aft g) (.agg out.toArray) := fun N a w hf _ => by
  obtain ⟨fs, h1, h2⟩ := ht.u
  have hi := ht.i
  cases hq : P.info? t with
  | none => simp [hq] at hi
  | some i =>
    have hz : i.zero = some (.agg z.toArray) := by simpa [hq] using hi
    have h3 := hl.fill hf
    have e1 : (parts.toArray.map fun (i, x) => (i, a.eval x)).toList = parts.map fun p => (p.1, a.eval p.2) := by simp
    unfold execOp
    simp only [Instr.build, Sem.run_bind, zeroValue, typeInfo, program, Sem.run, hq, hz, Sem.run_pure, Result.andThen_ok, run_underlying h1, h2, Value.cells, e1]
    have h3' : Instr.fill (fun x => ps.toArray[x]?) z.toArray (parts.map fun p => (p.1, a.eval p.2)) = some out.toArray := h3
    have h4 : (fun x : Nat => ps.toArray[x]?) = fun x : Nat => ps[x]? := by funext x; simp
    rw [h4] at h3'
    simp [h3']

/-- A slice of bytes, turned into itself. -/
theorem freeze_heap (w : World) (b n : Nat) (cs : Array Value) (T : TypeId) (hb : w.heap[b]? = some (.cells cs T (0, 0))) :
    (w.freeze ⟨b, n, none⟩ 1).heap[b]? = some (.cells cs T (n, n + 1)) ∧ ∀ k, k ≠ b → (w.freeze ⟨b, n, none⟩ 1).heap[k]? = w.heap[k]? := by
  refine ⟨by simp [World.freeze, Array.getElem?_modify, hb], fun k hk => ?_⟩
  simp [World.freeze, Array.getElem?_modify, Ne.symm hk]
theorem St.freeze {F : List HP} {w : World} {b : Nat} {cs : Array Value} {T : TypeId} (H : St c (Pt b (.cells cs T (0, 0)) :: F) w) (n : Nat) : St c (Pt b (.cells cs T (n, n + 1)) :: F) (w.freeze ⟨b, n, none⟩ 1) := by
  obtain ⟨h, a, l, u⟩ := H.upd
  have hb := l b _ a
  obtain ⟨h1, h2⟩ := freeze_heap w b n cs T hb
  have hc : conOf (w.freeze ⟨b, n, none⟩ 1) = conOf w := by unfold World.freeze; rfl
  refine u _ _ hc (fun k hk hn => h2 k ?_) ?_
  · rintro rfl; rw [a] at hn; cases hn
  · simp only [Pt]
    rw [if_pos (.inl (by rw [a]; rfl))]
    exact h1
theorem ow_mark {F : List HP} {x : Operand} {t e size bytes b o n cap T : Nat} {z : Value} {cs : Array Value} [ht : TSlice P t e size bytes z] [he : TInt P e .u8] (hx : Ev E x (.slice (some ⟨b, o, none⟩) n cap)) (hp : Pick L (Pt b (.cells cs T (0, 0))) F) :
    OW P N c E L (Oper.mk d (.convert t t x) ty pos aft g) (fun _ : Unit => .slice (some ⟨b, o, none⟩) n cap) fun _ => Pt b (.cells cs T (cs.size, cs.size + 1)) :: F := fun Q K a w hf H hk => by
  have H1 := hp.st H
  have hb := H1.pt
  have hs : w.shape? b = some (T, cs.size) := by simp [World.shape?, hb]
  unfold Oper.wp execOp
  simp [hx N a hf, convert, run_underlying ht.u, run_underlying he.u, markStringish, shape, Sem.run, hs, freeze]
  exact hk () _ (H1.freeze cs.size)
/-- The bytes of a string, as memory of its own. -/
def BytesP (b cap : Nat) (e : TypeId) (l : List UInt8) : HP := Pt b (.cells (bvs l ++ List.replicate (cap - l.length) (Value.int .u8 0)).toArray e (cap, cap + 1))
theorem bytesP_reads {F : List HP} {b cap e : Nat} {l : List UInt8} (h1 : l.length ≤ cap) (h2 : cap ≤ 9223372036854775807) : ∀ w, St c (BytesP b cap e l :: F) w → Reads w (.slice (some ⟨b, 0, none⟩) l.length cap) l.length 1 (bvs l) := fun w H => by
  have hb : w.heap[b]? = _ := St.pt (c := c) (L := F) H
  refine ⟨by simp [bvs_length], .inr ⟨_, cap, rfl, h1, h2, fun j u hu => ?_⟩⟩
  rw [add_mid, Nat.zero_add, cell_of_row w b j _ _ _ hb]
  have hj := (List.getElem?_eq_some_iff.1 hu).1
  simp [List.getElem?_append_left hj, hu]
theorem ow_toBytes {x : Operand} {t t' e size bytes : Nat} {z : Value} {l : List UInt8} [hs : TStr P t] [ht : TSlice P t' e size bytes z] [he : TInt P e .u8] (hx : Ev E x (str l)) (hl : l.length ≤ 9223372036854775807) :
    OW P N c E L (Oper.mk d (.convert t t' x) ty pos aft g) (fun q : { q : Nat × Nat // l.length ≤ q.2 ∧ q.2 ≤ 9223372036854775807 } => .slice (some ⟨q.1.1, 0, none⟩) l.length q.1.2) fun q => BytesP q.1.1 q.1.2 e l :: L := fun Q K a w hf H hk => by
  have hge : ∀ t : Nat, l.length ≤ (Question.appendCap l.length 0 e).cut t ∧ (Question.appendCap l.length 0 e).cut t ≤ 9223372036854775807 := fun t => by
    have := Nat.mod_lt t (show 0 < 2 ^ 63 - l.length by omega)
    simp only [Question.cut]; omega
  have hg := hge (w.tape w.drawn (.appendCap l.length 0 e))
  generalize hcap : (Question.appendCap l.length 0 e).cut (w.tape w.drawn (.appendCap l.length 0 e)) = cap at hg
  have e1 : (l.toArray.map fun b => Value.int .u8 (b.toNat : Int)) ++ Array.replicate (cap - l.length) (Value.int .u8 0) = (bvs l ++ List.replicate (cap - l.length) (Value.int .u8 0)).toArray := by
    apply Array.ext'; simp [bvs, bv]
  have hsz : (bvs l ++ List.replicate (cap - l.length) (Value.int .u8 0)).toArray.size = cap := by simp [bvs_length]; omega
  have H1 := (H.drew.allocPt (.cells (bvs l ++ List.replicate (cap - l.length) (Value.int .u8 0)).toArray e)).freeze cap
  have hsh : (w.drew.alloc (.cells (bvs l ++ List.replicate (cap - l.length) (Value.int .u8 0)).toArray e)).shape? w.heap.size = some (e, cap) := by
    have := heap_alloc_new w.drew (.cells (bvs l ++ List.replicate (cap - l.length) (Value.int .u8 0)).toArray e)
    have h0 : w.drew.heap.size = w.heap.size := rfl
    rw [h0] at this
    simp only [World.shape?, this, hsz]
  unfold Oper.wp execOp
  have hr : (convert t t' (str l)).run P w = .ok (.slice (some ⟨w.heap.size, 0, none⟩) l.length cap) ((w.drew.alloc (.cells (bvs l ++ List.replicate (cap - l.length) (Value.int .u8 0)).toArray e)).freeze ⟨w.heap.size, cap, none⟩ 1) := by
    simp only [convert, str, Sem.run_bind, run_underlying hs.u, run_underlying ht.u, Result.andThen_ok, run_underlying he.u, Conv.stringToBytes, choose, Sem.run, Question.forced, Bool.false_eq_true, if_false, str_size, hcap, newRow, newObj, Sem.run_pure, e1, markStringish, shape]
    have hsh' : ({ heap := (w.heap.push (.cells (bvs l ++ List.replicate (cap - l.length) (Value.int .u8 0)).toArray e)), tape := w.tape, drawn := w.drawn + 1, os := w.os, output := w.output } : World).shape? w.heap.size = some (e, cap) := hsh
    simp only [hsh', freeze, Sem.run, Result.andThen_ok]
    rfl
  simp only [hx N a hf, Sem.run_bind, hr, Result.andThen_ok, Sem.run_pure]
  exact hk ⟨(w.heap.size, cap), hg⟩ _ H1
theorem made_one (z : Value) (n : Nat) : (madeCells #[z] n).toList = List.replicate n z := by
  apply List.ext_getElem
  · simp [madeCells]
  · intro i h1 h2
    simp [madeCells, Nat.mod_one]
theorem ow_makeSlice {x y : Operand} {t e bytes : Nat} {z z' : Value} {n : Nat} {k k' : IntKind} [ht : TSlice P t e 1 bytes z] [he : TOne P e z'] (hx : Ev E x (.int k n)) (hy : Ev E y (.int k' n)) (hb : bytes * n ≤ 281474976710656) (h63 : n ≤ 9223372036854775807) :
    OW P N c E L (Oper.mk d (.makeSlice t x y) ty pos aft g) (fun b => .slice (some ⟨b, 0, none⟩) n n) fun b => Bl b e (List.replicate n z') :: L := fun Q K a w hf H hk => by
  have hi := ht.i
  have hi' := he.i
  cases hq : P.info? e with
  | none => simp [hq] at hi
  | some ie =>
    simp only [hq, Option.map_some, Option.some.injEq, Prod.mk.injEq] at hi hi'
    have hz : z = z' := Option.some.inj (hi.1.symm.trans hi'.1)
    subst hz
    have hr := run_make (P := P) w t e ie z ht.u hq hi.1 k k' n n (by omega) (by omega) (by rw [hi.2.2]; omega) (by omega)
    unfold Oper.wp execOp
    simp only [hx N a hf, hy N a hf, Sem.run_bind, hr, Result.andThen_ok, Sem.run_pure, Int.toNat_natCast]
    have e1 : madeCells z.cells (n * ie.size) = (List.replicate n z).toArray := by
      rw [he.one, hi.2.1, Nat.mul_one]; apply Array.ext'; rw [made_one]
    rw [e1]
    exact hk _ _ (H.allocPt _)
theorem replicate_bvs (n : Nat) : List.replicate n (Value.int .u8 0) = bvs (zeros n) := by simp [bvs, zeros, bv]
/-- A block as a slice of one's own. -/
theorem own_of_bl {b e size n : Nat} {cs : List Value} (hl : cs.length = n * size) (hn : n ≤ maxLen) : ∀ h, Bl b e cs h → OwnP e size (.slice (some ⟨b, 0, none⟩) n n) n cs h := fun h hb =>
  ⟨hl, .inr ⟨b, n, cs.toArray, rfl, hb, Nat.le_refl _, hn, by simpa using hl, by simp [← hl]⟩⟩
end
/-! ### clear of a slice -/
theorem ow_clear {P : Program} {N : Nat} {c : Con} {E : Env} {L F : List HP} {d : Option Nat} {ty : TypeId} {pos : String} {aft : Array Edge} {g : Option (Nat × Bool)} {x : Operand} {t e size bytes b o n cap T : Nat} {z : Value} {A : Option Addr} {cur : List Value}
    [ht : TSlice P t e size bytes z] (hx : Ev E x (.slice A n cap)) (hA : 0 < n → A = some ⟨b, o, none⟩) (h1 : ∀ u ∈ z.cells.toList, u.oneCell' = true) (hp : Pick L (Bl b T cur) F) (hfit : o + n * size ≤ cur.length) :
    OW P N c E L (Oper.mk d (.call { callee := .builtin .clear, args := #[x], argTypes := #[t] }) ty pos aft g) (fun _ : { zs : List Value // zs.length = n * size } => .tuple #[]) fun zs => Bl b T (splice cur o zs.1) :: F := fun Q K a w hf H hk => by
  have hi := ht.i
  have H1 := hp.st H
  cases hq : P.info? e with
  | none => simp [hq] at hi
  | some ie =>
    simp only [hq, Option.map_some, Option.some.injEq, Prod.mk.injEq] at hi
    unfold Oper.wp execOp
    by_cases hn : n = 0
    · subst hn
      have hk' := hk ⟨[], by simp⟩ w (by
        have e0 : splice cur o [] = cur := by simp [splice]
        show St c (Bl b T (splice cur o []) :: F) w
        rw [e0]; exact H1)
      have hr : ∀ A, (Builtin.clear_ #[t] ty #[.slice A 0 cap]).run P w = .ok (.tuple #[]) w := fun A => by cases A <;> simp [Builtin.clear_, run_underlying ht.u]
      simp only [resolve, invoke, builtin, Sem.run_bind, Sem.run_pure, Result.andThen_ok, List.map_toArray, List.map_cons, List.map_nil, hx N a hf, hr]
      exact hk'
    · have hA := hA (by omega)
      subst hA
      have hz1 : ∀ u ∈ (Builtin.zeroCells z.cells n).toList, u.oneCell' = true := by
        intro u hu
        simp only [Builtin.zeroCells, Array.toList_map, List.mem_map] at hu
        obtain ⟨i, hi', rfl⟩ := hu
        have hs : 0 < z.cells.size := by
          rcases Nat.eq_zero_or_pos z.cells.size with h0 | h0
          · rw [h0] at hi'; simp at hi'
          · exact h0
        have hlt : i % z.cells.size < z.cells.size := Nat.mod_lt _ hs
        rw [getElem!_pos z.cells _ hlt]
        exact h1 _ (by simp)
      have hzl : (Builtin.zeroCells z.cells n).toList.length = n * size := by simp [size_zeroCells, ht.zs]
      have hst := run_storeCells_at P b o T (Builtin.zeroCells z.cells n).toList 0 cur.toArray w H1.pt (by rw [Nat.add_zero, hzl]; simpa using hfit) hz1
      have hr : (Builtin.clear_ #[t] ty #[.slice (some ⟨b, o, none⟩) n cap]).run P w = .ok (.tuple #[]) (w.setRow b (splice cur o (Builtin.zeroCells z.cells n).toList).toArray) := by
        obtain ⟨m, rfl⟩ : ∃ m, n = m + 1 := ⟨n - 1, by omega⟩
        simp only [Nat.add_zero] at hst
        simp [Builtin.clear_, run_underlying ht.u, zeroValue, typeInfo, hq, hi.1, hst, splice]
      simp only [resolve, invoke, builtin, Sem.run_bind, Sem.run_pure, Result.andThen_ok, List.map_toArray, List.map_cons, List.map_nil, hx N a hf, hr]
      exact hk ⟨_, hzl⟩ _ (H1.setRowPt _)

theorem vcells_int (k : IntKind) (x : Int) : vcells (.int k x) = [.int k x] := rfl
theorem vcells_str (l : List UInt8) : vcells (str l) = [str l] := rfl
theorem vcells_bool (b : Bool) : vcells (.bool b) = [.bool b] := rfl
theorem vcells_slice (A : Option Addr) (n m : Nat) : vcells (.slice A n m) = [.slice A n m] := rfl
theorem vcells_ptr (A : Option Addr) : vcells (.pointer A) = [.pointer A] := rfl
section
variable {E : Env}
theorem Lay.one {ps : List (Nat × Nat)} {z out : List Value} {i o : Nat} {x : Operand} {v : Value} {r : List (Nat × Operand)} (h : Ev E x v) (hp : ps[i]? = some (o, 1)) (hv : vcells v = [v]) (hz : o < z.length) (k : Lay E ps (z.set o v) r out) : Lay E ps z ((i, x) :: r) out := by
  refine .cons h hp (by rw [hv]; rfl) (by omega) ?_
  have e : splice z o (vcells v) = z.set o v := by
    rw [hv, splice, List.set_eq_take_append_cons_drop, if_pos hz]
    simp
  rw [e]; exact k
end

/-! ### What fills itself: the tactics stand here once -/
section
variable {P : Program} {N : Nat} {c : Con} {E : Env} {L : List HP} {Q : Exit → Act → World → Prop} {ops : Array Oper} {H : World → Prop}
theorem ev_auto {x : Operand} {v : Value} (h : Ev E x v := by (first | exact ev_tmp rfl | exact ev_const | exact ev_func)) : Ev E x v := h
theorem evs_auto {xs : Array Operand} {vs : List Value} (h : Evs E xs vs := by ((repeat (first | exact evs_nil | ((apply evs_cons); focus (first | exact ev_tmp rfl | exact ev_const | exact ev_func)))); (first | done | fail))) : Evs E xs vs := h
theorem parts_auto {k : Nat} {ps : List (Nat × Operand)} {vs : List Value} (h : Parts E k ps vs := by ((repeat (first | exact Parts.nil | ((apply Parts.cons); focus (first | exact ev_tmp rfl | exact ev_const | exact ev_func)))); (first | done | fail))) : Parts E k ps vs := h
theorem lay_auto {ps : List (Nat × Nat)} {z out : List Value} {r : List (Nat × Operand)} (h : Lay E ps z r out := by ((repeat (first | exact Lay.nil | ((apply Lay.one); (first | exact ev_tmp rfl | exact ev_const | exact ev_func); (with_unfolding_all exact rfl); (first | exact vcells_int _ _ | exact vcells_str _ | exact vcells_bool _ | exact vcells_slice _ _ _ | exact vcells_ptr _); (with_unfolding_all exact Nat.le_of_ble_eq_true rfl)) | ((apply Lay.cons); (first | exact ev_tmp rfl | exact ev_const | exact ev_func); (with_unfolding_all exact rfl); (with_unfolding_all exact rfl); (with_unfolding_all exact Nat.le_of_ble_eq_true rfl)))); (first | done | fail))) : Lay E ps z r out := h
theorem sub_auto {E' : Env} (h : Sub E' E := by ((repeat (first | exact sub_nil | refine sub_cons rfl ?_)); (first | done | fail))) : Sub E' E := h
theorem pick_auto {A : HP} {F : List HP} (h : Pick L A F := by ((repeat (first | with_reducible exact Pick.hd | with_reducible apply Pick.tl)); (first | done | fail))) : Pick L A F := h
theorem pickd_auto {A : HP} {F : List HP} (h : Pick L A F := by ((repeat (first | with_reducible exact Pick.hd | exact Pick.hd | with_reducible apply Pick.tl)); (first | done | fail))) : Pick L A F := h
theorem sel_auto {L' : List HP} (h : Sel L L' := by ((repeat (first | with_reducible exact sel_all | exact Sel.nil | ((with_reducible apply Sel.cons); focus (exact pick_auto)) | with_reducible apply Sel.own0 | ((with_reducible apply Sel.cons); focus (exact pickd_auto)) | with_reducible apply Sel.tl)); (first | done | fail))) : Sel L L' := h
theorem has_auto {b : Nat} {o : Obj} (h : Has H b o := by ((repeat (first | with_reducible exact has_hd | with_reducible refine has_tl ?_)); (first | done | fail))) : Has H b o := h
theorem upd_auto {L' : List HP} {b : Nat} {T : TypeId} {cs cs' : List Value} (h : Upd L b T cs cs' L' := by ((repeat (first | with_reducible exact Upd.hd | with_reducible apply Upd.tl)); (first | done | fail))) : Upd L b T cs cs' L' := h
class IsAct (o : Op) : Prop where
  t : True
instance {b : Call} : IsAct (.call b) := ⟨trivial⟩
instance {t : TypeId} : IsAct (.alloc t) := ⟨trivial⟩
instance {t : TypeId} {x : Operand} : IsAct (.box t x) := ⟨trivial⟩
instance {t : TypeId} {x y : Operand} : IsAct (.store t x y) := ⟨trivial⟩
instance {t n : Nat} {ps : Array (Nat × Operand)} : IsAct (.buildSlice t n ps) := ⟨trivial⟩
instance {t : TypeId} {x y : Operand} : IsAct (.makeSlice t x y) := ⟨trivial⟩
instance {t t' : TypeId} {x : Operand} : IsAct (.convert t t' x) := ⟨trivial⟩
theorem is_owkc {K : Value → List HP → Prop} {d : Option Nat} {ty : TypeId} {pos : String} {aft : Array Edge} {g : Option (Nat × Bool)} {op : Op} [IsAct op] (h : OWK P N c E L (Oper.mk d op ty pos aft g) K) : OWK P N c E L (Oper.mk d op ty pos aft g) K := h
theorem gy_move {v : Value} {d : Option Nat} {ty : TypeId} {pos : String} {aft : Array Edge} {g : Option (Nat × Bool)} {x : Operand} (k : Y P H E (Oper.mk d (.move x) ty pos aft g) v) : Y P H E (Oper.mk d (.move x) ty pos aft g) v := k
theorem gy_assign {v : Value} {d : Option Nat} {ty : TypeId} {pos : String} {aft : Array Edge} {g : Option (Nat × Bool)} {x : Operand} (k : Y P H E (Oper.mk d (.assign x) ty pos aft g) v) : Y P H E (Oper.mk d (.assign x) ty pos aft g) v := k
theorem gy_nilCheck {v : Value} {d : Option Nat} {ty : TypeId} {pos : String} {aft : Array Edge} {g : Option (Nat × Bool)} {x : Operand} (k : Y P H E (Oper.mk d (.nilCheck x) ty pos aft g) v) : Y P H E (Oper.mk d (.nilCheck x) ty pos aft g) v := k
theorem gy_field {v : Value} {d : Option Nat} {ty : TypeId} {pos : String} {aft : Array Edge} {g : Option (Nat × Bool)} {s f : Nat} {x : Operand} (k : Y P H E (Oper.mk d (.fieldAddr s x f) ty pos aft g) v) : Y P H E (Oper.mk d (.fieldAddr s x f) ty pos aft g) v := k
theorem gy_load {v : Value} {d : Option Nat} {ty : TypeId} {pos : String} {aft : Array Edge} {g : Option (Nat × Bool)} {t : TypeId} {x : Operand} (k : Y P H E (Oper.mk d (.load t x) ty pos aft g) v) : Y P H E (Oper.mk d (.load t x) ty pos aft g) v := k
theorem gy_bin {v : Value} {d : Option Nat} {ty : TypeId} {pos : String} {aft : Array Edge} {g : Option (Nat × Bool)} {o : BinOp} {t t' : TypeId} {x y : Operand} (k : Y P H E (Oper.mk d (.binOp o t x y t') ty pos aft g) v) : Y P H E (Oper.mk d (.binOp o t x y t') ty pos aft g) v := k
theorem gy_pick {v : Value} {d : Option Nat} {ty : TypeId} {pos : String} {aft : Array Edge} {g : Option (Nat × Bool)} {x y z : Operand} (k : Y P H E (Oper.mk d (.pick x y z) ty pos aft g) v) : Y P H E (Oper.mk d (.pick x y z) ty pos aft g) v := k
theorem gy_extract {v : Value} {d : Option Nat} {ty : TypeId} {pos : String} {aft : Array Edge} {g : Option (Nat × Bool)} {x : Operand} {i : Nat} (k : Y P H E (Oper.mk d (.extract x i) ty pos aft g) v) : Y P H E (Oper.mk d (.extract x i) ty pos aft g) v := k
theorem gy_un {v : Value} {d : Option Nat} {ty : TypeId} {pos : String} {aft : Array Edge} {g : Option (Nat × Bool)} {o : UnOp} {t : TypeId} {x : Operand} (k : Y P H E (Oper.mk d (.unOp o t x) ty pos aft g) v) : Y P H E (Oper.mk d (.unOp o t x) ty pos aft g) v := k
theorem gy_call {v : Value} {d : Option Nat} {ty : TypeId} {pos : String} {aft : Array Edge} {g : Option (Nat × Bool)} {b : Call} (k : Y P H E (Oper.mk d (.call b) ty pos aft g) v) : Y P H E (Oper.mk d (.call b) ty pos aft g) v := k
theorem gy_index {v : Value} {d : Option Nat} {ty : TypeId} {pos : String} {aft : Array Edge} {g : Option (Nat × Bool)} {t : TypeId} {x i : Operand} (k : Y P H E (Oper.mk d (.indexAddr t x i) ty pos aft g) v) : Y P H E (Oper.mk d (.indexAddr t x i) ty pos aft g) v := k
theorem gy_slice {v : Value} {d : Option Nat} {ty : TypeId} {pos : String} {aft : Array Edge} {g : Option (Nat × Bool)} {t : TypeId} {x : Operand} {l h' m : Option Operand} (k : Y P H E (Oper.mk d (.slice t x l h' m) ty pos aft g) v) : Y P H E (Oper.mk d (.slice t x l h' m) ty pos aft g) v := k
theorem gy_conv {v : Value} {d : Option Nat} {ty : TypeId} {pos : String} {aft : Array Edge} {g : Option (Nat × Bool)} {t t' : TypeId} {x : Operand} (k : Y P H E (Oper.mk d (.convert t t' x) ty pos aft g) v) : Y P H E (Oper.mk d (.convert t t' x) ty pos aft g) v := k
theorem gy_func {v : Value} {d : Option Nat} {ty : TypeId} {pos : String} {aft : Array Edge} {g : Option (Nat × Bool)} {fn : Fn} {a b : Array Operand} (k : Y P H E (Oper.mk d (.makeFunc fn a b) ty pos aft g) v) : Y P H E (Oper.mk d (.makeFunc fn a b) ty pos aft g) v := k
theorem gy_build {v : Value} {d : Option Nat} {ty : TypeId} {pos : String} {aft : Array Edge} {g : Option (Nat × Bool)} {t : TypeId} {ps : Array (Nat × Operand)} (k : Y P H E (Oper.mk d (.build t ps) ty pos aft g) v) : Y P H E (Oper.mk d (.build t ps) ty pos aft g) v := k
theorem ga_alloc {β : Type} {r : β → Value} {L' : β → List HP} {d : Option Nat} {ty : TypeId} {pos : String} {aft : Array Edge} {g : Option (Nat × Bool)} {t : TypeId} (k : OW P N c E L (Oper.mk d (.alloc t) ty pos aft g) r L') : OW P N c E L (Oper.mk d (.alloc t) ty pos aft g) r L' := k
theorem ga_box {β : Type} {r : β → Value} {L' : β → List HP} {d : Option Nat} {ty : TypeId} {pos : String} {aft : Array Edge} {g : Option (Nat × Bool)} {t : TypeId} {x : Operand} (k : OW P N c E L (Oper.mk d (.box t x) ty pos aft g) r L') : OW P N c E L (Oper.mk d (.box t x) ty pos aft g) r L' := k
theorem ga_store {β : Type} {r : β → Value} {L' : β → List HP} {d : Option Nat} {ty : TypeId} {pos : String} {aft : Array Edge} {g : Option (Nat × Bool)} {t : TypeId} {x y : Operand} (k : OW P N c E L (Oper.mk d (.store t x y) ty pos aft g) r L') : OW P N c E L (Oper.mk d (.store t x y) ty pos aft g) r L' := k
theorem ga_buildSlice {β : Type} {r : β → Value} {L' : β → List HP} {d : Option Nat} {ty : TypeId} {pos : String} {aft : Array Edge} {g : Option (Nat × Bool)} {t n : Nat} {ps : Array (Nat × Operand)} (k : OW P N c E L (Oper.mk d (.buildSlice t n ps) ty pos aft g) r L') : OW P N c E L (Oper.mk d (.buildSlice t n ps) ty pos aft g) r L' := k
theorem ga_makeSlice {β : Type} {r : β → Value} {L' : β → List HP} {d : Option Nat} {ty : TypeId} {pos : String} {aft : Array Edge} {g : Option (Nat × Bool)} {t : TypeId} {x y : Operand} (k : OW P N c E L (Oper.mk d (.makeSlice t x y) ty pos aft g) r L') : OW P N c E L (Oper.mk d (.makeSlice t x y) ty pos aft g) r L' := k
theorem ga_conv {β : Type} {r : β → Value} {L' : β → List HP} {d : Option Nat} {ty : TypeId} {pos : String} {aft : Array Edge} {g : Option (Nat × Bool)} {t t' : TypeId} {x : Operand} (k : OW P N c E L (Oper.mk d (.convert t t' x) ty pos aft g) r L') : OW P N c E L (Oper.mk d (.convert t t' x) ty pos aft g) r L' := k
class IsAct0 (o : Op) : Prop where
  t : True
instance {t : TypeId} {x y : Operand} : IsAct0 (.store t x y) := ⟨trivial⟩
instance {t t' : TypeId} {x : Operand} : IsAct0 (.convert t t' x) := ⟨trivial⟩
theorem is_owk0 {K : Value → List HP → Prop} {d : Option Nat} {ty : TypeId} {pos : String} {aft : Array Edge} {g : Option (Nat × Bool)} {op : Op} [IsAct0 op] (h : OWK P N c E L (Oper.mk d op ty pos aft g) K) : OWK P N c E L (Oper.mk d op ty pos aft g) K := h
theorem owk0_auto {o : Oper} {r : Value} {L' : List HP} {K : Value → List HP → Prop} (h : OW P N c E L o (fun _ : Unit => r) (fun _ => L') := by (first | (with_reducible apply ga_conv; first | exact ow_mark (ev_tmp rfl) pick_auto) | (with_reducible apply ga_store; first | exact ow_store (ev_tmp rfl) (ev_tmp rfl) rfl upd_auto (by first | (simp; done) | omega | (simp; omega)) | exact ow_store (ev_tmp rfl) ev_const rfl upd_auto (by first | (simp; done) | omega | (simp; omega))))) (k : K r L') : OWK P N c E L o K := owk0 h k
class IsLook (o : Op) : Prop where
  t : True
instance {x : Operand} : IsLook (.move x) := ⟨trivial⟩
instance {x : Operand} : IsLook (.assign x) := ⟨trivial⟩
instance {x y z : Operand} : IsLook (.pick x y z) := ⟨trivial⟩
instance {t : TypeId} {x : Operand} : IsLook (.load t x) := ⟨trivial⟩
instance {x : Operand} : IsLook (.nilCheck x) := ⟨trivial⟩
instance {o : BinOp} {t t' : TypeId} {x y : Operand} : IsLook (.binOp o t x y t') := ⟨trivial⟩
instance {o : UnOp} {t : TypeId} {x : Operand} : IsLook (.unOp o t x) := ⟨trivial⟩
instance {t t' : TypeId} {x : Operand} : IsLook (.convert t t' x) := ⟨trivial⟩
instance {t : TypeId} {x : Operand} : IsLook (.sliceToArrayPointer t x) := ⟨trivial⟩
instance {t : TypeId} {x : Operand} : IsLook (.makeInterface t x) := ⟨trivial⟩
instance {fn : Fn} {a b : Array Operand} : IsLook (.makeFunc fn a b) := ⟨trivial⟩
instance {t : TypeId} {x : Operand} {l h' m : Option Operand} : IsLook (.slice t x l h' m) := ⟨trivial⟩
instance {t f : Nat} {x : Operand} : IsLook (.fieldAddr t x f) := ⟨trivial⟩
instance {t f : Nat} {x : Operand} : IsLook (.field t x f) := ⟨trivial⟩
instance {t : TypeId} {x i : Operand} : IsLook (.indexAddr t x i) := ⟨trivial⟩
instance {t : TypeId} {x i : Operand} : IsLook (.index t x i) := ⟨trivial⟩
instance {t : TypeId} {x i : Operand} {b : Bool} : IsLook (.lookup t x i b) := ⟨trivial⟩
instance {x : Operand} {t t' : TypeId} {b : Bool} : IsLook (.typeAssert x t t' b) := ⟨trivial⟩
instance {x : Operand} {i : Nat} : IsLook (.extract x i) := ⟨trivial⟩
instance {t : TypeId} {ps : Array (Nat × Operand)} : IsLook (.build t ps) := ⟨trivial⟩
instance {b : Builtin} {xs : Array Operand} {ts : Array TypeId} : IsLook (.call { callee := .builtin b, args := xs, argTypes := ts }) := ⟨trivial⟩
theorem owk_look {K : Value → List HP → Prop} {d : Option Nat} {ty : TypeId} {pos : String} {aft : Array Edge} {g : Option (Nat × Bool)} {op : Op} [IsLook op] (h : YK P (St c L) E (Oper.mk d op ty pos aft g) fun v => K v L) : OWK P N c E L (Oper.mk d op ty pos aft g) K := owk_yk h
theorem yk_auto {o : Oper} {v : Value} {K : Value → Prop} (h : Y P H E o v := by (first | (with_reducible apply gy_move; first | exact y_move (ev_tmp rfl) | exact y_move ev_const) | (with_reducible apply gy_assign; first | exact y_assign (ev_tmp rfl) | exact y_assign ev_const) | (with_reducible apply gy_nilCheck; first | exact y_nilCheck (ev_tmp rfl)) | (with_reducible apply gy_field; first | exact y_field (ev_tmp rfl)) | (with_reducible apply gy_load; first | exact y_load (ev_tmp rfl) (hasCell_bl has_auto rfl) | exact y_load (ev_tmp rfl) (by assumption) | exact y_loadN (ev_tmp rfl) (hasCells_all has_auto) rfl | exact y_loadN (ev_tmp rfl) (hasCells_all has_auto) (by assumption)) | (with_reducible apply gy_bin; first | exact y_lss (ev_tmp rfl) (ev_tmp rfl) | exact y_lss (ev_tmp rfl) ev_const | exact y_lss ev_const (ev_tmp rfl) | exact y_leq (ev_tmp rfl) (ev_tmp rfl) | exact y_leq (ev_tmp rfl) ev_const | exact y_leq ev_const (ev_tmp rfl) | exact y_gtr (ev_tmp rfl) (ev_tmp rfl) | exact y_gtr (ev_tmp rfl) ev_const | exact y_gtr ev_const (ev_tmp rfl) | exact y_geq (ev_tmp rfl) (ev_tmp rfl) | exact y_geq (ev_tmp rfl) ev_const | exact y_geq ev_const (ev_tmp rfl) | exact y_eql (ev_tmp rfl) (ev_tmp rfl) | exact y_eql (ev_tmp rfl) ev_const | exact y_eql ev_const (ev_tmp rfl) | exact y_neq (ev_tmp rfl) (ev_tmp rfl) | exact y_neq (ev_tmp rfl) ev_const | exact y_neq ev_const (ev_tmp rfl) | exact y_add64 (ev_tmp rfl) (ev_tmp rfl) (by omega) | exact y_add64 (ev_tmp rfl) ev_const (by omega) | exact y_add64 ev_const (ev_tmp rfl) (by omega) | exact y_sub64 (ev_tmp rfl) (ev_tmp rfl) (by omega) | exact y_sub64 (ev_tmp rfl) ev_const (by omega) | exact y_sub64 ev_const (ev_tmp rfl) (by omega) | exact y_mul64 (ev_tmp rfl) (ev_tmp rfl) (by omega) | exact y_mul64 (ev_tmp rfl) ev_const (by omega) | exact y_mul64 ev_const (ev_tmp rfl) (by omega) | exact y_quo64 (ev_tmp rfl) (ev_tmp rfl) (by omega) | exact y_quo64 (ev_tmp rfl) ev_const (by omega) | exact y_quo64 ev_const (ev_tmp rfl) (by omega) | exact y_rem (ev_tmp rfl) (ev_tmp rfl) (by omega) | exact y_rem (ev_tmp rfl) ev_const (by omega) | exact y_rem ev_const (ev_tmp rfl) (by omega) | exact y_eql_some (ev_tmp rfl) ev_const | exact y_neq_some (ev_tmp rfl) ev_const | exact y_eql_none (ev_tmp rfl) ev_const | exact y_neq_none (ev_tmp rfl) ev_const | exact y_eql_d (ev_tmp rfl) (ev_tmp rfl) | exact y_neq_d (ev_tmp rfl) (ev_tmp rfl) | exact y_eql_b (ev_tmp rfl) (ev_tmp rfl) | exact y_eql_b (ev_tmp rfl) ev_const | exact y_eql_b ev_const (ev_tmp rfl) | exact y_neq_b (ev_tmp rfl) (ev_tmp rfl) | exact y_neq_b (ev_tmp rfl) ev_const | exact y_neq_b ev_const (ev_tmp rfl) | exact y_eql_s (ev_tmp rfl) (ev_tmp rfl) | exact y_eql_s (ev_tmp rfl) ev_const | exact y_eql_s ev_const (ev_tmp rfl) | exact y_neq_s (ev_tmp rfl) (ev_tmp rfl) | exact y_neq_s (ev_tmp rfl) ev_const | exact y_neq_s ev_const (ev_tmp rfl) | exact y_add_s (ev_tmp rfl) (ev_tmp rfl) (by omega) | exact y_add_s (ev_tmp rfl) ev_const (by omega) | exact y_add_s ev_const (ev_tmp rfl) (by omega) | exact y_shr (ev_tmp rfl) (ev_tmp rfl) (by omega) (by simp [IntKind.bits]) | exact y_shr (ev_tmp rfl) ev_const (by omega) (by simp [IntKind.bits]) | exact y_shr ev_const (ev_tmp rfl) (by omega) (by simp [IntKind.bits]) | exact y_add (ev_tmp rfl) (ev_tmp rfl) | exact y_add (ev_tmp rfl) ev_const | exact y_add ev_const (ev_tmp rfl) | exact y_sub (ev_tmp rfl) (ev_tmp rfl) | exact y_sub (ev_tmp rfl) ev_const | exact y_sub ev_const (ev_tmp rfl) | exact y_mul (ev_tmp rfl) (ev_tmp rfl) | exact y_mul (ev_tmp rfl) ev_const | exact y_mul ev_const (ev_tmp rfl) | exact y_bits (.inl rfl) (ev_tmp rfl) (ev_tmp rfl) | exact y_bits (.inl rfl) (ev_tmp rfl) ev_const | exact y_bits (.inr (.inl rfl)) (ev_tmp rfl) (ev_tmp rfl) | exact y_bits (.inr (.inl rfl)) (ev_tmp rfl) ev_const | exact y_bits (.inr (.inr (.inl rfl))) (ev_tmp rfl) (ev_tmp rfl) | exact y_bits (.inr (.inr (.inl rfl))) (ev_tmp rfl) ev_const | exact y_bits (.inr (.inr (.inr rfl))) (ev_tmp rfl) (ev_tmp rfl) | exact y_bits (.inr (.inr (.inr rfl))) (ev_tmp rfl) ev_const) | (with_reducible apply gy_pick; first | exact y_pick_t (ev_tmp rfl) (ev_tmp rfl) | exact y_pick_t (ev_tmp rfl) ev_const | exact y_pick_f (ev_tmp rfl) (ev_tmp rfl) | exact y_pick_f (ev_tmp rfl) ev_const) | (with_reducible apply gy_extract; first | exact y_ext20 (ev_tmp rfl) | exact y_ext21 (ev_tmp rfl) | exact y_ext30 (ev_tmp rfl) | exact y_ext31 (ev_tmp rfl) | exact y_ext32 (ev_tmp rfl) | exact y_ext40 (ev_tmp rfl) | exact y_ext41 (ev_tmp rfl) | exact y_ext42 (ev_tmp rfl) | exact y_ext43 (ev_tmp rfl) | exact y_extract (ev_tmp rfl) rfl) | (with_reducible apply gy_un; first | exact y_not_t (ev_tmp rfl) | exact y_not_f (ev_tmp rfl) | exact y_not (ev_tmp rfl) | exact y_not_b (ev_tmp rfl) rfl) | (with_reducible apply gy_index; first | exact y_indexN (ev_tmp rfl) (ev_tmp rfl) (by omega) | exact y_indexN (ev_tmp rfl) ev_const (by omega) | exact y_index (ev_tmp rfl) (ev_tmp rfl) (by omega) | exact y_index (ev_tmp rfl) ev_const (by omega) | exact y_indexAN (ev_tmp rfl) (ev_tmp rfl) (by omega) | exact y_indexAN (ev_tmp rfl) ev_const (by omega) | exact y_indexA (ev_tmp rfl) (ev_tmp rfl) (by omega) | exact y_indexA (ev_tmp rfl) ev_const (by omega) | exact y_indexArr (ev_tmp rfl) (ev_tmp rfl) (by omega) | exact y_indexArr (ev_tmp rfl) ev_const (by omega)) | (with_reducible apply gy_slice; first | exact y_sliceArr (ev_tmp rfl) | exact y_sliceLo (ev_tmp rfl) (ev_tmp rfl) (by omega) | exact y_sliceHi (ev_tmp rfl) (ev_tmp rfl) (by omega) | exact y_sliceStr (ev_tmp rfl) (ev_tmp rfl) (ev_tmp rfl) (by omega) | exact y_sliceStrLo (ev_tmp rfl) (ev_tmp rfl) (by omega) | exact y_sliceStrHi (ev_tmp rfl) (ev_tmp rfl) (by omega)) | (with_reducible apply gy_call; first | exact y_lenSlice (ev_tmp rfl) | exact y_lenStr (ev_tmp rfl) | exact y_min (ev_tmp rfl) (ev_tmp rfl) | exact y_min (ev_tmp rfl) ev_const | exact y_min ev_const (ev_tmp rfl) | exact y_max (ev_tmp rfl) (ev_tmp rfl) | exact y_max (ev_tmp rfl) ev_const | exact y_max ev_const (ev_tmp rfl)) | (with_reducible apply gy_build; first | exact y_build lay_auto) | (with_reducible apply gy_conv; first | exact y_conv_int (ev_tmp rfl)) | (with_reducible apply gy_func; first | exact y_makeFunc evs_auto))) (k : K v) : YK P H E o K := ⟨v, h, k⟩
theorem owk_auto {o : Oper} {β : Type} {r : β → Value} {L' : β → List HP} {K : Value → List HP → Prop} (h : OW P N c E L o r L' := by (first | (with_reducible apply ga_alloc; first | exact ow_alloc1 | exact ow_allocN) | (with_reducible apply ga_box; first | exact ow_box1 (ev_tmp rfl) rfl | exact ow_boxAgg (ev_tmp rfl) | exact ow_box (ev_tmp rfl) rfl) | (with_reducible apply ga_buildSlice; first | exact ow_buildEmpty | exact ow_buildSlice parts_auto rfl (by first | (simp [Value.cells, str]; done) | fail) (by decide) (by decide)) | (with_reducible apply ga_makeSlice; first | exact ow_makeSlice (ev_tmp rfl) (ev_tmp rfl) (by omega) (by omega) | exact ow_makeSlice ev_const ev_const (by omega) (by omega)) | (with_reducible apply ga_conv; first | exact ow_toBytes (ev_tmp rfl) (by omega)))) (k : ∀ x, K (r x) (L' x)) : OWK P N c E L o K := ⟨β, r, L', h, k⟩
/-! A guard by its value -/
section
variable {d t i j : Nat} {dst : Option Nat} {op : Op} {ty : TypeId} {pos : String} {aft : Array Edge} {rest : List Oper} {b b' q : Bool} {v : Value} {R : List HP} {er : Nat → Bool} {r : Plan}
def GvL (P : Program) (N : Nat) (c : Con) (ops : Array Oper) (Q : Exit → Act → World → Prop) (dst : Option Nat) (op : Op) (ty : TypeId) (pos : String) (aft : Array Edge) (i : Nat) (b : Bool) (rest : List Oper) (t : Nat) (E : Env) (L : List HP) (v : Value) : Prop :=
  guardSlot ops i = some t → look E t = some v → WL P N c ops Q (⟨dst, op, ty, pos, aft, some (i, b)⟩ :: rest) E L
theorem wl_guard (hs : guardSlot ops i = some t) (hl : look E t = some v) (h : GvL P N c ops Q dst op ty pos aft i b rest t E L v) : WL P N c ops Q (⟨dst, op, ty, pos, aft, some (i, b)⟩ :: rest) E L := h hs hl
theorem gvl_in (h : WL P N c ops Q (⟨dst, op, ty, pos, aft, none⟩ :: rest) E L) : GvL P N c ops Q dst op ty pos aft i b rest t E L (.bool b) := fun hs hl => wl_in hs hl h
theorem gvl_out (hb : (b' == b) = false) (hd : Nat.blt d N = true) (h : WL P N c ops Q rest ((d, undef) :: E) L) : GvL P N c ops Q (some d) op ty pos aft i b rest t E L (.bool b') := fun hs hl => wl_out hs hl hb hd h
theorem gvl_out0 (hb : (b' == b) = false) (h : WL P N c ops Q rest E L) : GvL P N c ops Q none op ty pos aft i b rest t E L (.bool b') := fun hs hl => wl_out0 hs hl hb h
theorem gvl_outU (hd : Nat.blt d N = true) (h : WL P N c ops Q rest ((d, undef) :: E) L) : GvL P N c ops Q (some d) op ty pos aft i b rest t E L undef := fun hs hl => wl_outU hs hl hd h
theorem gvl_part {p : Prop} [Decidable p] (h1 : p → WL P N c ops Q (⟨dst, op, ty, pos, aft, some (i, b)⟩ :: rest) ((t, .bool true) :: E) L) (h2 : ¬ p → WL P N c ops Q (⟨dst, op, ty, pos, aft, some (i, b)⟩ :: rest) ((t, .bool false) :: E) L) :
    GvL P N c ops Q dst op ty pos aft i b rest t E L (.bool (decide p)) := fun hs hl => wl_part hs hl h1 h2
theorem gvl_part_t {p : Prop} [Decidable p] (h : p) (h1 : WL P N c ops Q (⟨dst, op, ty, pos, aft, some (i, b)⟩ :: rest) ((t, .bool true) :: E) L) : GvL P N c ops Q dst op ty pos aft i b rest t E L (.bool (decide p)) := gvl_part (fun _ => h1) fun k => absurd h k
theorem gvl_part_f {p : Prop} [Decidable p] (h : ¬ p) (h1 : WL P N c ops Q (⟨dst, op, ty, pos, aft, some (i, b)⟩ :: rest) ((t, .bool false) :: E) L) : GvL P N c ops Q dst op ty pos aft i b rest t E L (.bool (decide p)) := gvl_part (fun k => absurd k h) fun _ => h1
theorem gvl_partB (h1 : b' = true → WL P N c ops Q (⟨dst, op, ty, pos, aft, some (i, b)⟩ :: rest) ((t, .bool true) :: E) L) (h2 : b' = false → WL P N c ops Q (⟨dst, op, ty, pos, aft, some (i, b)⟩ :: rest) ((t, .bool false) :: E) L) :
    GvL P N c ops Q dst op ty pos aft i b rest t E L (.bool b') := fun hs hl => wl_partB hs hl h1 h2
theorem gvl_partB_t (h : b' = true) (h1 : WL P N c ops Q (⟨dst, op, ty, pos, aft, some (i, b)⟩ :: rest) ((t, .bool true) :: E) L) : GvL P N c ops Q dst op ty pos aft i b rest t E L (.bool b') := gvl_partB (fun _ => h1) fun k => (by rw [h] at k; cases k)
theorem gvl_partB_f (h : b' = false) (h1 : WL P N c ops Q (⟨dst, op, ty, pos, aft, some (i, b)⟩ :: rest) ((t, .bool false) :: E) L) : GvL P N c ops Q dst op ty pos aft i b rest t E L (.bool b') := gvl_partB (fun k => (by rw [h] at k; cases k)) fun _ => h1
def GvP (P : Program) (N : Nat) (c : Con) (ops : Array Oper) (Q : Exit → Act → World → Prop) (R : List HP) (er : Nat → Bool) (j : Nat) (q : Bool) (r : Plan) (dst : Option Nat) (op : Op) (ty : TypeId) (pos : String) (aft : Array Edge) (i : Nat) (b : Bool) (t : Nat) (E : Env) (L : List HP) (v : Value) : Prop :=
  ops[j]? = some ⟨dst, op, ty, pos, aft, some (i, b)⟩ → guardSlot ops i = some t → look E t = some v → WP P N c ops Q R er ((j, q) :: r) E L
theorem wq_guard (ho : ops[j]? = some ⟨dst, op, ty, pos, aft, some (i, b)⟩) (hs : guardSlot ops i = some t) (hl : look E t = some v) (h : GvP P N c ops Q R er j q r dst op ty pos aft i b t E L v) : WP P N c ops Q R er ((j, q) :: r) E L := h ho hs hl
theorem gvp_stepG (hd : Nat.blt d N = true) (h : YK P (St c R) E ⟨some d, op, ty, pos, aft, none⟩ fun v => WP P N c ops Q R er r ((d, v) :: E) L) : GvP P N c ops Q R er j true r (some d) op ty pos aft i b t E L (.bool b) := fun ho hs hl => wq_stepG ho hs hl hd h
theorem gvp_out (hb : (b' == b) = false) (hd : Nat.blt d N = true) (h : WP P N c ops Q R er r ((d, undef) :: E) L) : GvP P N c ops Q R er j true r (some d) op ty pos aft i b t E L (.bool b') := fun ho hs hl => wq_out ho hs hl hb hd h
theorem gvp_outU (hd : Nat.blt d N = true) (h : WP P N c ops Q R er r ((d, undef) :: E) L) : GvP P N c ops Q R er j true r (some d) op ty pos aft i b t E L undef := fun ho hs hl a w hf H =>
  ⟨_, undef, ho, .inr ⟨by rw [wanted_undef hf rfl hs hl], rfl⟩, h _ _ (hf.put hd) H⟩
theorem gvp_actG (hd : Nat.blt d N = true) (h : OWK P N c E L ⟨some d, op, ty, pos, aft, none⟩ fun v L' => Kept P N c ops Q R er j r ((d, v) :: E) L') : GvP P N c ops Q R er j false r (some d) op ty pos aft i b t E L (.bool b) := fun ho hs hl => wq_actG ho hs hl hd h
theorem gvp_outa (hb : (b' == b) = false) (hd : Nat.blt d N = true) (hS : needB er j r = true → Sel L R) (h : WP P N c ops Q R er r ((d, undef) :: E) L) : GvP P N c ops Q R er j false r (some d) op ty pos aft i b t E L (.bool b') := fun ho hs hl => wq_outa ho hs hl hb hd hS h
theorem gvp_outaU (hd : Nat.blt d N = true) (hS : needB er j r = true → Sel L R) (h : WP P N c ops Q R er r ((d, undef) :: E) L) : GvP P N c ops Q R er j false r (some d) op ty pos aft i b t E L undef := fun ho hs hl a w hf H =>
  ⟨_, ho, by rw [if_neg (by rw [wanted_undef hf rfl hs hl]; simp)]; exact ⟨fun e => (hS e).st H, h _ _ (hf.put hd) H⟩⟩
theorem gvp_part {p : Prop} [Decidable p] (h1 : p → WP P N c ops Q R er ((j, q) :: r) ((t, .bool true) :: E) L) (h2 : ¬ p → WP P N c ops Q R er ((j, q) :: r) ((t, .bool false) :: E) L) : GvP P N c ops Q R er j q r dst op ty pos aft i b t E L (.bool (decide p)) := fun ho hs hl => wq_part ho hs hl h1 h2
theorem gvp_part_t {p : Prop} [Decidable p] (h : p) (h1 : WP P N c ops Q R er ((j, q) :: r) ((t, .bool true) :: E) L) : GvP P N c ops Q R er j q r dst op ty pos aft i b t E L (.bool (decide p)) := gvp_part (fun _ => h1) fun k => absurd h k
theorem gvp_part_f {p : Prop} [Decidable p] (h : ¬ p) (h1 : WP P N c ops Q R er ((j, q) :: r) ((t, .bool false) :: E) L) : GvP P N c ops Q R er j q r dst op ty pos aft i b t E L (.bool (decide p)) := gvp_part (fun k => absurd k h) fun _ => h1
theorem gvp_partB (h1 : b' = true → WP P N c ops Q R er ((j, q) :: r) ((t, .bool true) :: E) L) (h2 : b' = false → WP P N c ops Q R er ((j, q) :: r) ((t, .bool false) :: E) L) : GvP P N c ops Q R er j q r dst op ty pos aft i b t E L (.bool b') := fun ho hs hl => wq_partB ho hs hl h1 h2
end
section
variable {G : Prop}
theorem im_wl {l : List Oper} (h : G → WL P N c ops Q l E L) : G → WL P N c ops Q l E L := h
theorem im_owk {K : Value → List HP → Prop} {o : Oper} (h : G → OWK P N c E L o K) : G → OWK P N c E L o K := h
theorem im_w {x : Code} (h : G → W P N c Q x E L) : G → W P N c Q x E L := h
theorem im_x {e : Exit} (h : G → X N c Q e E L) : G → X N c Q e E L := h
theorem im_cv {x y : Code} {v : Value} (h : G → CV P N c Q x y E L v) : G → CV P N c Q x y E L v := h
theorem dg_cv {x y : Code} {p : Prop} [Decidable p] (h : G → CV P N c Q x y E L (.bool (decide p))) : G → CV P N c Q x y E L (.bool (decide p)) := h
theorem dg_gvl {dst : Option Nat} {op : Op} {ty : TypeId} {pos : String} {aft : Array Edge} {i t : Nat} {b : Bool} {rest : List Oper} {p : Prop} [Decidable p] (h : G → GvL P N c ops Q dst op ty pos aft i b rest t E L (.bool (decide p))) : G → GvL P N c ops Q dst op ty pos aft i b rest t E L (.bool (decide p)) := h
theorem dg_gvp {R : List HP} {er : Nat → Bool} {j i t : Nat} {q b : Bool} {r : Plan} {dst : Option Nat} {op : Op} {ty : TypeId} {pos : String} {aft : Array Edge} {p : Prop} [Decidable p] (h : G → GvP P N c ops Q R er j q r dst op ty pos aft i b t E L (.bool (decide p))) : G → GvP P N c ops Q R er j q r dst op ty pos aft i b t E L (.bool (decide p)) := h
theorem im_wp {R : List HP} {er : Nat → Bool} {p : Plan} (h : G → WP P N c ops Q R er p E L) : G → WP P N c ops Q R er p E L := h
theorem im_wpT {R : List HP} {er : Nat → Bool} {i : Nat} {r : Plan} (h : G → WP P N c ops Q R er ((i, true) :: r) E L) : G → WP P N c ops Q R er ((i, true) :: r) E L := h
theorem im_wpF {R : List HP} {er : Nat → Bool} {i : Nat} {r : Plan} (h : G → WP P N c ops Q R er ((i, false) :: r) E L) : G → WP P N c ops Q R er ((i, false) :: r) E L := h
theorem im_gvl {dst : Option Nat} {op : Op} {ty : TypeId} {pos : String} {aft : Array Edge} {i t : Nat} {b : Bool} {rest : List Oper} {v : Value} (h : G → GvL P N c ops Q dst op ty pos aft i b rest t E L v) : G → GvL P N c ops Q dst op ty pos aft i b rest t E L v := h
theorem im_gvpT {R : List HP} {er : Nat → Bool} {j i t : Nat} {b : Bool} {r : Plan} {dst : Option Nat} {op : Op} {ty : TypeId} {pos : String} {aft : Array Edge} {v : Value} (h : G → GvP P N c ops Q R er j true r dst op ty pos aft i b t E L v) : G → GvP P N c ops Q R er j true r dst op ty pos aft i b t E L v := h
theorem im_gvpF {R : List HP} {er : Nat → Bool} {j i t : Nat} {b : Bool} {r : Plan} {dst : Option Nat} {op : Op} {ty : TypeId} {pos : String} {aft : Array Edge} {v : Value} (h : G → GvP P N c ops Q R er j false r dst op ty pos aft i b t E L v) : G → GvP P N c ops Q R er j false r dst op ty pos aft i b t E L v := h
theorem im_kept {R : List HP} {er : Nat → Bool} {i : Nat} {r : Plan} (h : G → Kept P N c ops Q R er i r E L) : G → Kept P N c ops Q R er i r E L := h
end
end
theorem go1 {G G' : Prop} (h : G' → G := by (first | (with_reducible apply im_wl; first | exact fun h => wl_step rfl h | exact fun h => wl_nil h | exact fun h => wl_step0 h | exact fun h => wl_guard rfl rfl h) | (with_reducible apply im_owk; first | exact fun h => owk_look h) | (with_reducible apply im_w; first | exact fun h => w_seq h | exact fun h => w_region h | exact fun h => w_cv rfl h | exact fun h => w_skip h | exact fun h => w_ret h | exact fun h => w_exit h | exact fun h => w_block h) | (with_reducible apply im_x; first | exact fun h => x_then h | exact fun h => x_block h | exact fun h => x_noPanic h | exact fun h => x_thenR h | exact fun h => x_blockR h | exact fun h => x_thenE h | exact fun h => x_blockE h | exact fun h => x_blockE' rfl h) | (with_reducible apply im_cv; first | (refine fun h => cv_dec_t ?_ h; focus exact (by first | assumption | exact rfl | exact ne_self | decide | omega)) | (refine fun h => cv_dec_f ?_ h; focus exact (by first | assumption | exact rfl | exact ne_self | decide | omega)) | (refine fun h => cv_bool_t ?_ h; focus assumption) | (refine fun h => cv_bool_f ?_ h; focus assumption) | ((fail_if_success with_reducible apply dg_cv); first | exact fun h => cv_true h | exact fun h => cv_false h)) | (with_reducible apply im_gvl; first | (refine fun h => gvl_part_t ?_ h; focus exact (by first | assumption | exact rfl | exact ne_self | decide | omega)) | (refine fun h => gvl_part_f ?_ h; focus exact (by first | assumption | exact rfl | exact ne_self | decide | omega)) | (refine fun h => gvl_partB_t ?_ h; focus assumption) | (refine fun h => gvl_partB_f ?_ h; focus assumption) | ((fail_if_success with_reducible apply dg_gvl); first | exact fun h => gvl_in h | exact fun h => gvl_out rfl rfl h | exact fun h => gvl_out0 rfl h | exact fun h => gvl_outU rfl h)) | (with_reducible apply im_wpT; first | exact fun h => wq_step rfl rfl h | exact fun h => wq_guard rfl rfl rfl h) | (with_reducible apply im_wpF; first | exact fun h => wq_act rfl rfl h | exact fun h => wq_act0 rfl h | exact fun h => wq_guard rfl rfl rfl h) | (with_reducible apply im_gvpT; first | (refine fun h => gvp_part_t ?_ h; focus exact (by first | assumption | exact rfl | exact ne_self | decide | omega)) | (refine fun h => gvp_part_f ?_ h; focus exact (by first | assumption | exact rfl | exact ne_self | decide | omega)) | ((fail_if_success with_reducible apply dg_gvp); first | exact fun h => gvp_stepG rfl h | exact fun h => gvp_out rfl rfl h | exact fun h => gvp_outU rfl h)) | (with_reducible apply im_gvpF; first | (refine fun h => gvp_part_t ?_ h; focus exact (by first | assumption | exact rfl | exact ne_self | decide | omega)) | (refine fun h => gvp_part_f ?_ h; focus exact (by first | assumption | exact rfl | exact ne_self | decide | omega)) | ((fail_if_success with_reducible apply dg_gvp); first | exact fun h => gvp_actG rfl h | (refine fun h => gvp_outa rfl rfl ?_ h; focus exact fun _ => sel_auto) | (refine fun h => gvp_outaU rfl ?_ h; focus exact fun _ => sel_auto))) | (with_reducible apply im_wp; first | exact fun h => wq_nil h) | (with_reducible apply im_kept; first | exact fun h => kept_late (by decide +kernel) h | exact fun h => kept_same sel_auto h))) (k : G') : G := h k
theorem go2 {G A B : Prop} (h : A → B → G := by (first | exact fun h k => gvl_part h k | exact fun h k => gvl_partB h k | exact fun h k => cv_dec h k | exact fun h k => cv_bool h k | exact fun h k => gvp_part h k | exact fun h k => gvp_partB h k)) (ka : A) (kb : B) : G := h ka kb
end Go.Proofs.Ytjofjkjghakcoaa

/- Slices that came in, of elements of any make: from their reading as data to what their cells hold. -/
namespace Go.Proofs.Ytjofjkjghakcoaa
open Go.ChangeShapes Go.WideShapes Go.ChangeAt Go.RowKit Go.Deep

/-- Cells that lie at an address. -/
def CellsAt (w : World) (ad : Addr) (cs : List Value) : Prop := ∀ i u, cs[i]? = some u → w.cell? (ad.add i) = some u
theorem CellsAt.keep {w w' : World} {ad : Addr} {cs : List Value} (h : CellsAt w ad cs) (hk : ∀ b, b < w.heap.size → w'.heap[b]? = w.heap[b]?) : CellsAt w' ad cs := fun i u hu => by
  have e := h i u hu
  rw [World.cell?_of_block (w := w) (hk _ (World.block_lt_of_cell? w _ e))]
  exact e

/-- The slice (A, len) holds xs; R: what an element's cells say. -/
def ElemsOf {α : Type} (R : World → α → List Value → Prop) (size : Nat) (w : World) (A : Option Addr) (len : Nat) (xs : List α) : Prop :=
  xs.length = len ∧ len ≤ 9223372036854775807 ∧ ∀ (j : Nat) (x : α), xs[j]? = some x → ∃ a cs, A = some a ∧ R w x cs ∧ cs.length = size ∧ CellsAt w (a.add (j * size)) cs

section
variable {H : Type} {enc : TypeId × Value → H} {W : World} {α : Type}

theorem cells_at {P : Program} {ad : Addr} {n : Nat} {cs : List Value} (h : W.cells? 0 ad n = some cs) (_ : P = P) : cs.length = n ∧ CellsAt W ad cs := by
  unfold World.cells? at h
  rw [if_pos (Nat.zero_le _)] at h
  have hl : cs.length = n := by simpa using mapM_some_length h
  refine ⟨hl, fun i u hu => ?_⟩
  have hi : i < n := by rw [← hl]; exact (List.getElem?_eq_some_iff.1 hu).1
  have e := mapM_some_get h i i (by simp [hi])
  rw [hu] at e
  exact e

theorem open_elems {P : Program} {t e : TypeId} {size : Nat} {R : World → α → List Value → Prop} (ht : P.underlying t = some (.slice e)) (hs : P.cellsOf e = size)
    (hR : ∀ (n : Nat) (cs : List Value) (x : DataW H × List MemPlace), cs.length = size → DataW.trod enc P W 0 (fun _ => true) true n e cs = some x → ∃ y : α, R W y cs)
    {fuel : Nat} {cs0 : List Value} {x : DataW H × List MemPlace} (h : DataW.trod enc P W 0 (fun _ => true) true fuel t cs0 = some x) :
    ∃ a len cap, cs0 = [.slice a len cap] ∧ (a = none → len = 0 ∧ cap = 0) ∧ len ≤ cap ∧ cap ≤ 9223372036854775807 ∧ ∃ ys, ElemsOf R size W a len ys := by
  rcases open_slice ht h with ⟨rfl, _⟩ | ⟨a, len, cap, m, n, D, Pl, rfl, _, hl, hm, hmm, _, he⟩
  · exact ⟨none, 0, 0, rfl, fun _ => ⟨rfl, rfl⟩, Nat.le_refl _, by omega, [], rfl, by omega, fun j x h => by simp at h⟩
  · have hm' : m = cap := by simpa using hmm
    have hcap : cap ≤ 9223372036854775807 := by simpa [maxLen] using hm
    have hex : ∀ i : Nat, i < len → ∃ y cs, R W y cs ∧ cs.length = size ∧ CellsAt W (a.add (i * size)) cs := by
      intro i hi
      obtain ⟨cs', h1, h2⟩ := he i (by omega)
      rw [hs] at h1
      obtain ⟨h3, h4⟩ := cells_at (P := P) h1 rfl
      obtain ⟨y, hy⟩ := hR n cs' _ h3 h2
      exact ⟨y, cs', hy, h3, h4⟩
    refine ⟨some a, len, cap, rfl, (fun h => by cases h), hl, hcap, ?_⟩
    have build : ∀ k, k ≤ len → ∃ ys : List α, ys.length = k ∧ ∀ (j : Nat) (x : α), ys[j]? = some x → ∃ cs, R W x cs ∧ cs.length = size ∧ CellsAt W (a.add (j * size)) cs := by
      intro k
      induction k with
      | zero => intro _; exact ⟨[], rfl, fun j x h => by simp at h⟩
      | succ k ih =>
        intro hk
        obtain ⟨ys, h1, h2⟩ := ih (by omega)
        obtain ⟨y, cs, h3, h4, h5⟩ := hex k (by omega)
        refine ⟨ys ++ [y], by simp [h1], fun j x hx => ?_⟩
        rw [List.getElem?_append] at hx
        split at hx
        · exact h2 j x hx
        · rename_i hj
          have : j = k := by
            have := (List.getElem?_eq_some_iff.1 hx).1
            simp at this; omega
          subst this
          rw [h1, Nat.sub_self] at hx
          simp at hx
          subst hx
          exact ⟨cs, h3, h4, h5⟩
    obtain ⟨ys, h1, h2⟩ := build len (Nat.le_refl _)
    exact ⟨ys, h1, by omega, fun j x hx => by obtain ⟨cs, h⟩ := h2 j x hx; exact ⟨a, cs, rfl, h⟩⟩

/-! ### Elements -/
theorem elem_int {P : Program} {t : TypeId} (ht : P.underlying t = some (.int .i64)) {n : Nat} {cs : List Value} {x : DataW H × List MemPlace} (h : DataW.trod enc P W 0 (fun _ => true) true n t cs = some x) :
    ∃ z : Int, cs = [.int .i64 z] ∧ -9223372036854775808 ≤ z ∧ z ≤ 9223372036854775807 := by
  obtain ⟨z, h1, _, h2⟩ := DataW.trod_int ht h
  refine ⟨z, h1, ?_⟩
  simp [Lit.wf, IntKind.min, IntKind.max, IntKind.signed, IntKind.bits] at h2; omega
theorem elem_u64 {P : Program} {t : TypeId} (ht : P.underlying t = some (.int .u64)) {n : Nat} {cs : List Value} {x : DataW H × List MemPlace} (h : DataW.trod enc P W 0 (fun _ => true) true n t cs = some x) :
    ∃ z : Int, cs = [.int .u64 z] ∧ 0 ≤ z ∧ z < 18446744073709551616 := by
  obtain ⟨z, h1, _, h2⟩ := DataW.trod_int ht h
  refine ⟨z, h1, ?_⟩
  simp [Lit.wf, IntKind.min, IntKind.max, IntKind.signed, IntKind.bits] at h2; omega
theorem elem_byte {P : Program} {t : TypeId} (ht : P.underlying t = some (.int .u8)) {n : Nat} {cs : List Value} {x : DataW H × List MemPlace} (h : DataW.trod enc P W 0 (fun _ => true) true n t cs = some x) :
    ∃ b : UInt8, cs = [bv b] := by
  obtain ⟨z, h1, _, h2⟩ := DataW.trod_int ht h
  simp [Lit.wf, IntKind.min, IntKind.max, IntKind.signed, IntKind.bits] at h2
  refine ⟨UInt8.ofNat z.toNat, ?_⟩
  rw [h1, bv, UInt8.toNat_ofNat']
  congr 2
  omega
/-- An array of bytes. -/
theorem elem_bytes {P : Program} {t e : TypeId} {k : Nat} (ht : P.underlying t = some (.array k e)) (he : P.underlying e = some (.int .u8)) (hc : P.cellsOf e = 1) (hk : P.cellsOf t = k)
    {n : Nat} {cs : List Value} {x : DataW H × List MemPlace} (h : DataW.trod enc P W 0 (fun _ => true) true n t cs = some x) : ∃ r : List UInt8, cs = bvs r ∧ r.length = k := by
  obtain ⟨xs, m, _, _, hl, hxl, hf⟩ := DataW.trod_array ht h
  rw [hk] at hl
  have hex : ∀ i, i < k → ∃ b : UInt8, cs[i]? = some (bv b) := by
    intro i hi
    have e := hf i hi
    rw [hc, Nat.mul_one, List.getElem?_eq_getElem (by omega)] at e
    obtain ⟨b, hb⟩ := elem_byte he e
    refine ⟨b, ?_⟩
    have e2 := congrArg (fun l : List Value => l[0]?) hb
    simpa [List.getElem?_take, List.getElem?_drop] using e2
  have build : ∀ (l : List Value), (∀ i, i < l.length → ∃ b : UInt8, l[i]? = some (bv b)) → ∃ r : List UInt8, l = bvs r := by
    intro l
    induction l with
    | nil => intro _; exact ⟨[], rfl⟩
    | cons v l ih =>
      intro hb
      obtain ⟨b, h0⟩ := hb 0 (by simp)
      obtain ⟨r, hr⟩ := ih fun i hi => by simpa using hb (i + 1) (by simp; omega)
      refine ⟨b :: r, ?_⟩
      simp at h0
      rw [h0, hr]; rfl
  obtain ⟨r, rfl⟩ := build cs fun i hi => hex i (by omega)
  exact ⟨r, rfl, by simpa [bvs] using hl⟩
end
end Go.Proofs.Ytjofjkjghakcoaa

/- What reads as bytes; strings of it. No program in sight. -/
namespace Go.Proofs.Ytjofjkjghakcoaa
open Go.RowKit

/-- The slice v reads as n bytes. -/
def HasR (H : World → Prop) (v : Value) (n : Nat) (cs : List Value) : Prop := ∀ w, H w → Reads w v n 1 cs
section
variable {c : Con} {L : List HP} {A : HP} {H : World → Prop}
theorem hasR_tl {v : Value} {n : Nat} {cs : List Value} (h : HasR (St c L) v n cs) : HasR (St c (A :: L)) v n cs := fun w k => h w k.tail
theorem hasR_old {w0 : World} {v : Value} {n : Nat} {cs : List Value} (h : Reads w0 v n 1 cs) : HasR (St c (Old w0 :: L)) v n cs := fun w k => by
  refine ⟨h.1, h.2.imp (fun e => e) ?_⟩
  rintro ⟨a, cap, h1, h2, h3, h4⟩
  exact ⟨a, cap, h1, h2, h3, fun j u hu => by
    have e := h4 j u hu
    rw [World.cell?_of_block (w := w0) (k.old _ (World.block_lt_of_cell? w0 _ e))]; exact e⟩
theorem hasR_own {e n : Nat} {v : Value} {xs : List Value} : HasR (St c (OwnP e 1 v n xs :: L)) v n xs := fun w k => by
  obtain ⟨h, ⟨hx, ho⟩, l⟩ := k.get
  refine ⟨hx, ?_⟩
  rcases ho with ⟨h1, h2⟩ | ⟨g, cap, cur, h1, h2, h3, h4, h5, h6⟩
  · exact .inl ⟨h1, h2⟩
  · refine .inr ⟨_, cap, h1, h3, by simpa [maxLen] using h4, fun j u hu => ?_⟩
    rw [add_mid, Nat.zero_add, l.cell h2]
    rw [← h6, List.getElem?_take] at hu
    split at hu
    · simpa using hu
    · cases hu
theorem hasR_bytes {b cap e : Nat} {l : List UInt8} (h : l.length ≤ cap ∧ cap ≤ 9223372036854775807) : HasR (St c (BytesP b cap e l :: L)) (.slice (some ⟨b, 0, none⟩) l.length cap) l.length (bvs l) := bytesP_reads h.1 h.2
theorem hasR_bl {b T n cap : Nat} {fr : Nat × Nat} {cs ds : List Value} (hd : cs.take n = ds) (hn : n ≤ cs.length) (h1 : n ≤ cap) (h2 : cap ≤ 9223372036854775807) : HasR (St c (Pt b (.cells cs.toArray T fr) :: L)) (.slice (some ⟨b, 0, none⟩) n cap) n ds := fun w k => by
  subst hd
  refine ⟨by simp [hn], .inr ⟨_, cap, rfl, h1, h2, fun j u hu => ?_⟩⟩
  rw [add_mid, Nat.zero_add, cell_of_row w b j _ _ _ k.pt]
  rw [List.getElem?_take] at hu
  split at hu
  · simpa using hu
  · cases hu
theorem hasR_blAll {b T n cap : Nat} {fr : Nat × Nat} {cs : List Value} (hn : cs.length = n) (h1 : n ≤ cap) (h2 : cap ≤ 9223372036854775807) : HasR (St c (Pt b (.cells cs.toArray T fr) :: L)) (.slice (some ⟨b, 0, none⟩) n cap) n cs := hasR_bl (List.take_of_length_le (by omega)) (by omega) h1 h2
theorem HasR.bytes {v : Value} {n : Nat} {l : List UInt8} (h : HasR H v n (bvs l)) : ∀ w, H w → Reads w v l.length 1 (bvs l) := fun w k => by
  have h1 := h w k
  have h2 : l.length = n := by have := h1.1; rw [bvs_length] at this; omega
  rw [h2]; exact h1
section
variable {P : Program} {E : Env} {d : Option Nat} {ty : TypeId} {pos : String} {aft : Array Edge} {g : Option (Nat × Bool)}
theorem y_str {x : Operand} {t t' e s by' n : Nat} {z v : Value} {l : List UInt8} [ht : TSlice P t e s by' z] [he : TInt P e .u8] [hs : TStr P t'] (hx : Ev E x v) (hr : HasR H v n (bvs l)) :
    Y P H E (Oper.mk d (.convert t t' x) ty pos aft g) (str l) := y_toStr hx hr.bytes
theorem ow_makeSliceI {N : Nat} {x y : Operand} {t e bytes : Nat} {z z' : Value} {m : Int} {k k' : IntKind} [ht : TSlice P t e 1 bytes z] [he : TOne P e z'] (hx : Ev E x (.int k m)) (hy : Ev E y (.int k' m)) {n : Nat} (hm : m = n) (hb : bytes * n ≤ 281474976710656) (h63 : n ≤ 9223372036854775807) :
    OW P N c E L (Oper.mk d (.makeSlice t x y) ty pos aft g) (fun b => .slice (some ⟨b, 0, none⟩) n n) fun b => Bl b e (List.replicate n z') :: L := by
  subst hm; exact ow_makeSlice hx hy hb h63
theorem ow_appendR {N : Nat} {F : List HP} {s x : Operand} {t tx e bytes e' s' b' n m k cap : Nat} {z z' v : Value} {A : Option Addr} {xs news ys : List Value} [ht : TSlice P t e 1 bytes z] [htx : TSlice P tx e' s' b' z'] (hs : Ev E s (.slice A n cap)) (hx : Ev E x v)
    (hr : HasR (St c L) v m news) (h1 : ∀ u ∈ news, u.oneCell' = true) (hk : n + m = k) (he : xs ++ news = ys) (hb : k ≤ 9223372036854775807 ∧ k * bytes ≤ 140737488355328) (hp : Pick L (OwnP e 1 (.slice A n cap) n xs) F) :
    OW P N c E L (Oper.mk d (.call { callee := .builtin .append, args := #[s, x], argTypes := #[t, tx] }) ty pos aft g) (fun q : Option Addr × Nat => .slice q.1 k q.2) fun q => OwnP e 1 (.slice q.1 k q.2) k ys :: F :=
  ow_append hs hx (fun w H => src_reads htx.u (hr w H) h1) hk he hb hp
end
end
theorem rds_auto {H : World → Prop} {v : Value} {n : Nat} {cs : List Value} (h : HasR H v n cs := by ((repeat (first | with_reducible assumption | exact hasR_own | exact hasR_bytes (by first | assumption | omega) | exact hasR_old (by assumption) | exact hasR_blAll (by assumption) (by omega) (by omega) | refine hasR_tl ?_)); (first | done | fail))) : HasR H v n cs := h
/-! ### A slice of bytes that came in -/
section
variable {H : Type} {enc : TypeId × Value → H} {W : World}
def IsByte (_ : World) (b : UInt8) (cs : List Value) : Prop := cs = [bv b]
theorem reads_of_elems {a : Option Addr} {len cap : Nat} {l : List UInt8} (h : ElemsOf IsByte 1 W a len l) (h0 : a = none → len = 0 ∧ cap = 0) (h1 : len ≤ cap) (h2 : cap ≤ 9223372036854775807) : l.length = len ∧ Reads W (.slice a len cap) len 1 (bvs l) := by
  obtain ⟨hl, -, he⟩ := h
  refine ⟨hl, by rw [bvs_length, hl, Nat.mul_one], ?_⟩
  cases a with
  | none =>
    obtain ⟨rfl, rfl⟩ := h0 rfl
    exact .inl ⟨rfl, rfl⟩
  | some ad =>
    refine .inr ⟨ad, cap, rfl, h1, h2, fun j u hu => ?_⟩
    simp only [bvs, List.getElem?_map, Option.map_eq_some_iff] at hu
    obtain ⟨b, hb, rfl⟩ := hu
    obtain ⟨a', cs, ha, hcs, _, hc⟩ := he j b hb
    cases ha
    have := hc 0 (bv b) (by rw [hcs]; rfl)
    rw [Nat.mul_one] at this
    simpa [Addr.add] using this
end
end Go.Proofs.Ytjofjkjghakcoaa

/- Slices of one's own, opened and shut; rows cut. No program in sight. -/
namespace Go.Proofs.Ytjofjkjghakcoaa
open Go.RowKit
theorem St.ownOpen {c : Con} {F : List HP} {w : World} {e : TypeId} {size n : Nat} {v : Value} {xs : List Value} (H : St c (OwnP e size v n xs :: F) w) :
    (v = .slice none 0 0 ∧ n = 0 ∧ xs = [] ∧ St c F w) ∨ ∃ g cap cur, v = .slice (some ⟨g, 0, none⟩) n cap ∧ n ≤ cap ∧ cap ≤ 9223372036854775807 ∧ cur.length = cap * size ∧ cur.take (n * size) = xs ∧ xs.length = n * size ∧ St c (Pt g (.cells (cur : List Value).toArray e (0, 0)) :: F) w := by
  obtain ⟨h, ⟨hx, ho⟩, l, r⟩ := H.stars
  rcases ho with ⟨h1, h2⟩ | ⟨g, cap, cur, h1, h2, h3, h4, h5, h6⟩
  · subst h2
    exact .inl ⟨h1, rfl, List.eq_nil_of_length_eq_zero (by simpa using hx), H.tail⟩
  · refine .inr ⟨g, cap, cur.toList, h1, h3, by simpa [maxLen] using h4, by simpa using h5, h6, hx, H.con, h, ?_, l, r⟩
    simpa [Pt] using h2
theorem shutOwn {e : TypeId} {size n g cap : Nat} {cur xs : List Value} (h3 : n ≤ cap) (h4 : cap ≤ 9223372036854775807) (h5 : cur.length = cap * size) (h6 : cur.take (n * size) = xs) : ∀ h, Pt g (.cells cur.toArray e (0, 0)) h → OwnP e size (.slice (some ⟨g, 0, none⟩) n cap) n xs h := fun h hb => by
  have hle : n * size ≤ cur.length := by rw [h5]; exact Nat.mul_le_mul_right _ h3
  refine ⟨by rw [← h6, List.length_take]; omega, .inr ⟨g, cap, cur.toArray, rfl, hb, h3, by simpa [maxLen] using h4, by simpa using h5, by simpa using h6⟩⟩
theorem dropPast {α : Type} (a b : List α) (n : Nat) : (a ++ b).drop (a.length + n) = b.drop n := by
  rw [← List.drop_drop, List.drop_left]
theorem takePast {α : Type} (a b : List α) (n : Nat) : (a ++ b).take (a.length + n) = a ++ b.take n := by
  rw [List.take_append, List.take_of_length_le (by omega), show a.length + n - a.length = n by omega]
end Go.Proofs.Ytjofjkjghakcoaa

/- Slices with three bounds; shifts to the left; bytes as a number. No program in sight. -/
namespace Go.Proofs.Ytjofjkjghakcoaa
open Go.RowKit
section
variable {P : Program} {N : Nat} {c : Con} {E : Env} {H : World → Prop} {L F : List HP} {d : Option Nat} {ty : TypeId} {pos : String} {aft : Array Edge} {g : Option (Nat × Bool)}
theorem y_slice3 {x lo hi mx : Operand} {t e s by' : Nat} {z : Value} {A : Option Addr} {n cap : Nat} {k1 k2 k3 : IntKind} {l h m : Nat} [ht : TSlice P t e s by' z] (hx : Ev E x (.slice A n cap)) (hl : Ev E lo (.int k1 l)) (hh : Ev E hi (.int k2 h)) (hm : Ev E mx (.int k3 m)) (hb : l ≤ h ∧ h ≤ m ∧ m ≤ cap) :
    Y P H E (Oper.mk d (.slice t x (some lo) (some hi) (some mx)) ty pos aft g) (.slice (if m = l then A else A.map (·.add (l * s))) (h - l) (m - l)) := fun N a w hf _ => by
  unfold execOp
  have hz := ht.i
  cases hq : P.info? e with
  | none => simp [hq] at hz
  | some ie =>
    have hs : ie.size = s := by simp [hq] at hz; exact hz.2.1
    simp [hx N a hf, hl N a hf, hh N a hf, hm N a hf, Instr.sliceAt, Instr.slice, run_underlying ht.u, Instr.sliceBounds, Instr.sliceBound, asIntOf, sizeOf, typeInfo, hq, hs, hb.1, hb.2.1, hb.2.2]
theorem y_sliceLoHi {x lo hi : Operand} {t e s by' : Nat} {z : Value} {A : Option Addr} {n cap : Nat} {k1 k2 : IntKind} {l h : Nat} [ht : TSlice P t e s by' z] (hx : Ev E x (.slice A n cap)) (hl : Ev E lo (.int k1 l)) (hh : Ev E hi (.int k2 h)) (hb : l ≤ h ∧ h ≤ cap) :
    Y P H E (Oper.mk d (.slice t x (some lo) (some hi) none) ty pos aft g) (.slice (if cap = l then A else A.map (·.add (l * s))) (h - l) (cap - l)) := fun N a w hf _ => by
  unfold execOp
  have hz := ht.i
  cases hq : P.info? e with
  | none => simp [hq] at hz
  | some ie =>
    have hs : ie.size = s := by simp [hq] at hz; exact hz.2.1
    simp [hx N a hf, hl N a hf, hh N a hf, Instr.sliceAt, Instr.slice, run_underlying ht.u, Instr.sliceBounds, Instr.sliceBound, asIntOf, sizeOf, typeInfo, hq, hs, hb.1, hb.2]
theorem y_slice3h {x hi mx : Operand} {t e s by' : Nat} {z : Value} {A : Option Addr} {n cap : Nat} {k2 k3 : IntKind} {h m : Nat} [ht : TSlice P t e s by' z] (hx : Ev E x (.slice A n cap)) (hh : Ev E hi (.int k2 h)) (hm : Ev E mx (.int k3 m)) (hb : h ≤ m ∧ m ≤ cap) :
    Y P H E (Oper.mk d (.slice t x none (some hi) (some mx)) ty pos aft g) (.slice A h m) := fun N a w hf _ => by
  unfold execOp
  have hz := ht.i
  cases hq : P.info? e with
  | none => simp [hq] at hz
  | some ie =>
    have hs : ie.size = s := by simp [hq] at hz; exact hz.2.1
    simp [hx N a hf, hh N a hf, hm N a hf, Instr.sliceAt, Instr.slice, run_underlying ht.u, Instr.sliceBounds, Instr.sliceBound, asIntOf, sizeOf, typeInfo, hq, hs, hb.1, hb.2]
    intro _
    cases A <;> simp [Addr.add]
theorem y_strHi {x hi : Operand} {t : Nat} {l l' : List UInt8} {k : IntKind} {m : Int} {n : Nat} [ht : TStr P t] (hx : Ev E x (str l)) (hh : Ev E hi (.int k m)) (hm : m = n) (h : n ≤ l.length) (he : l.take n = l') :
    Y P H E (Oper.mk d (.slice t x none (some hi) none) ty pos aft g) (str l') := by subst hm he; exact y_sliceStrHi hx hh h
theorem y_strLo {x lo : Operand} {t : Nat} {l l' : List UInt8} {k : IntKind} {m : Int} {n : Nat} [ht : TStr P t] (hx : Ev E x (str l)) (hl : Ev E lo (.int k m)) (hm : m = n) (h : n ≤ l.length) (he : l.drop n = l') :
    Y P H E (Oper.mk d (.slice t x (some lo) none none) ty pos aft g) (str l') := by subst hm he; exact y_sliceStrLo hx hl h
theorem y_indexStr {x i : Operand} {t : Nat} {l : List UInt8} {k : IntKind} {m : Int} {j : Nat} {b : UInt8} [ht : TStr P t] (hx : Ev E x (str l)) (hi : Ev E i (.int k m)) (hm : m = j) (hb : l[j]? = some b) :
    Y P H E (Oper.mk d (.index t x i) ty pos aft g) (.int .u8 (b.toNat : Int)) := fun N a w hf _ => by
  subst hm
  have hj : j < l.length := (List.getElem?_eq_some_iff.1 hb).1
  have e : (ByteArray.mk l.toArray)[j]? = some b := by
    have h0 : j < (ByteArray.mk l.toArray).size := hj
    rw [getElem?_pos (ByteArray.mk l.toArray) j h0]
    rw [List.getElem?_eq_getElem hj] at hb
    exact hb
  unfold execOp
  simp [hx N a hf, hi N a hf, str, Instr.index, run_underlying ht.u, asIntOf, e]
theorem y_shl {k k' : IntKind} {x y : Operand} {t t' : TypeId} {m n : Int} (hx : Ev E x (.int k m)) (hy : Ev E y (.int k' n)) (h : 0 ≤ n) (hn : n.toNat ≤ k.bits) :
    Y P H E (Oper.mk d (.binOp .shl t x y t') ty pos aft g) (.int k (k.wrap (m * 2 ^ n.toNat))) := fun N a w hf _ => by
  have h0 : ¬ n < 0 := by omega
  unfold execOp; simp [hx N a hf, hy N a hf, eqGuard, binOp, Op.shift, h0, Nat.min_eq_left hn]
theorem y_build0z {t : Nat} {ps : List (Nat × Nat)} {z : List Value} [ht : TPlaces P t ps z] : Y P H E (Oper.mk d (.build t #[]) ty pos aft g) (.agg z.toArray) := y_build .nil
end
theorem hasR_cell {H : World → Prop} {ad : Addr} {n cap j o : Nat} {cs : List Value} {u : Value} (h : HasR H (.slice (some ad) n cap) n cs) (hu : cs[j]? = some u) (ho : o = j * 1) : HasCell H (ad.add o) u := fun w hw => by
  subst ho
  rw [Nat.mul_one]
  rcases (h w hw).2 with ⟨e, _⟩ | ⟨a, cap', e, _, _, h3⟩
  · cases e
  · cases e; exact h3 j u hu
theorem bvs_get {l : List UInt8} {j : Nat} (hj : j < l.length) : (bvs l)[j]? = some (.int .u8 (l[j].toNat : Int)) := by
  simp [bvs, bv, hj]
theorem hasR_blZ {c : Con} {L : List HP} {b T : Nat} (n : Nat) (h2 : n ≤ 9223372036854775807 := by omega) : HasR (St c (Bl b T (List.replicate n (.int .u8 0)) :: L)) (.slice (some ⟨b, 0, none⟩) n n) n (bvs (zeros n)) := by
  rw [replicate_bvs]; exact hasR_blAll (by simp [bvs_length, zeros_length]) (Nat.le_refl _) h2
theorem hasR_bytesN {c : Con} {L : List HP} {b cap e n : Nat} {l : List UInt8} (hn : l.length = n) (h : n ≤ cap ∧ cap ≤ 9223372036854775807) : HasR (St c (BytesP b cap e l :: L)) (.slice (some ⟨b, 0, none⟩) n cap) n (bvs l) := by
  subst hn; exact hasR_bytes h
theorem add_add (a : Addr) (l j : Nat) : (a.add l).add j = a.add (l + j) := by
  unfold Addr.add
  by_cases h1 : l = 0 <;> by_cases h2 : j = 0 <;> simp [h1, h2, Nat.add_assoc]
/-- A part of what reads. -/
theorem hasR_sub {H : World → Prop} {A : Option Addr} {n cap l h k s : Nat} {cs ds : List Value} (hr : HasR H (.slice A n cap) n cs) (hlh : l < h ∧ h ≤ n ∧ n ≤ 9223372036854775807) (hs : s = 1) (hk : k = h - l) (hd : (cs.take h).drop l = ds) :
    HasR H (.slice (A.map (·.add (l * s))) k k) k ds := fun w hw => by
  subst hs hk hd
  obtain ⟨hlen, h0⟩ := hr w hw
  rw [Nat.mul_one] at hlen
  refine ⟨by simp [hlen, Nat.min_eq_left hlh.2.1], ?_⟩
  rcases h0 with ⟨_, h2⟩ | ⟨a, cap', e, h1, h2, h3⟩
  · omega
  · obtain ⟨rfl, -, -⟩ := Value.slice.inj e
    refine .inr ⟨_, _, rfl, Nat.le_refl _, by omega, fun j u hu => ?_⟩
    rw [List.getElem?_drop, List.getElem?_take] at hu
    split at hu
    · have := h3 _ u hu
      rw [Nat.mul_one, add_add]
      exact this
    · cases hu
theorem ow_sel {P : Program} {N : Nat} {c : Con} {E : Env} {L L1 : List HP} {o : Oper} {β : Type} {r : β → Value} {L' : β → List HP} (s : Sel L L1) (h : OW P N c E L1 o r L') : OW P N c E L o r L' := fun Q K a w hf H hk => h Q K a w hf (s.st H) hk
/-- A slice of one's own that isn't empty, opened: its block, its capacity, its cells. -/
structure OB (k size : Nat) (ys : List Value) where
  g : Nat
  cap : Nat
  cur : List Value
  h1 : k ≤ cap
  h2 : cap ≤ 9223372036854775807
  h3 : cur.length = cap * size
  h4 : cur.take (k * size) = ys
theorem ow_opened {P : Program} {N : Nat} {c : Con} {E : Env} {L F : List HP} {o : Oper} {k size : Nat} {e : TypeId} {ys : List Value} (hk : 0 < k) (h : OW P N c E L o (fun q : Option Addr × Nat => .slice q.1 k q.2) fun q => OwnP e size (.slice q.1 k q.2) k ys :: F) :
    OW P N c E L o (fun x : OB k size ys => .slice (some ⟨x.g, 0, none⟩) k x.cap) fun x => Bl x.g e x.cur :: F := fun Q K a w hf H hh => h Q K a w hf H fun q w1 H1 => by
  rcases H1.ownOpen with ⟨_, h0, _⟩ | ⟨g, cap, cur, e1, h1, h2, h3, h4, h5, H2⟩
  · omega
  · show K (a.put o.dst (.slice q.1 k q.2)) w1
    rw [e1]
    exact hh ⟨g, cap, cur, h1, h2, h3, h4⟩ w1 H2
theorem OB.le {k size : Nat} {ys : List Value} (x : OB k size ys) {n : Nat} (h : n ≤ k) : n ≤ n ∧ n ≤ x.cap := ⟨Nat.le_refl _, Nat.le_trans h x.h1⟩
theorem OB.shut {k size : Nat} {ys : List Value} {e : TypeId} (x : OB k size ys) : ∀ h, Bl x.g e x.cur h → OwnP e size (.slice (some ⟨x.g, 0, none⟩) k x.cap) k ys h := shutOwn x.h1 x.h2 x.h3 x.h4
theorem OB.take1 {k : Nat} {ys : List Value} (x : OB k 1 ys) : x.cur.take k = ys := by have := x.h4; rwa [Nat.mul_one] at this
theorem OB.hasR {k : Nat} {ys : List Value} {e : TypeId} {c : Con} {L : List HP} (x : OB k 1 ys) : HasR (St c (Bl x.g e x.cur :: L)) (.slice (some ⟨x.g, 0, none⟩) k x.cap) k ys := hasR_bl x.take1 (by have h1 := x.h1; have h2 := x.h3; omega) x.h1 x.h2
/-- What lay there ahead. -/
theorem old_auto {H : World → Prop} {ad : Addr} {v : Value} (h : HasCell H ad v := by ((repeat (first | exact hasCell_old (by assumption) | apply hasCell_tl)); (first | done | fail))) : HasCell H ad v := h
/-- The walk stops here. -/
def Stop (p : Prop) : Prop := p
section
variable {P : Program} {N : Nat} {c : Con} {Q : Exit → Act → World → Prop} {E : Env} {L : List HP}
theorem w_meetS {id : Nat} {ops : Array Oper} {b : Bool} {x y : Code} {α : Type} (F : α → Prop) (Ev : α → Env) (Ls : α → List HP) (h : Stop (W P N c (Exit.then (Met N c F Ev Ls) Q) ((Code.region id ops b).seq x) E L)) (k : ∀ s, F s → W P N c Q y (Ev s) (Ls s)) : W P N c Q (((Code.region id ops b).seq x).seq y) E L := w_meet F Ev Ls h k
theorem w_stopR {id : Nat} {ops : Array Oper} {b : Bool} {x : Code} (h : Stop (W P N c Q ((Code.region id ops b).seq x) E L)) : W P N c Q ((Code.region id ops b).seq x) E L := h
end
/-- append onto nil. -/
theorem ow_appendR0 {P : Program} {N : Nat} {c : Con} {E : Env} {L : List HP} {d : Option Nat} {ty : TypeId} {pos : String} {aft : Array Edge} {g : Option (Nat × Bool)} {s x : Operand} {t tx e bytes e' s' b' m : Nat} {z z' v : Value} {news : List Value} [ht : TSlice P t e 1 bytes z] [htx : TSlice P tx e' s' b' z'] (hs : Ev E s (.slice none 0 0)) (hx : Ev E x v)
    (hr : HasR (St c L) v m news) (h1 : ∀ u ∈ news, u.oneCell' = true) (hb : m ≤ 9223372036854775807 ∧ m * bytes ≤ 140737488355328) :
    OW P N c E L (Oper.mk d (.call { callee := .builtin .append, args := #[s, x], argTypes := #[t, tx] }) ty pos aft g) (fun q : Option Addr × Nat => .slice q.1 m q.2) fun q => OwnP e 1 (.slice q.1 m q.2) m news :: L :=
  ow_sel (.own0 sel_all) (ow_appendR (k := m) (ys := news) hs hx (hasR_tl hr) h1 (Nat.zero_add m) (List.nil_append _) hb .hd)
/-- Bytes as a number, the lowest first. -/
def leN : List UInt8 → Nat
  | [] => 0
  | b :: r => b.toNat + 256 * leN r
theorem leN_lt : ∀ l : List UInt8, leN l < 256 ^ l.length
  | [] => by simp [leN]
  | b :: r => by
    have h1 := leN_lt r
    have h2 := b.toNat_lt
    rw [leN, List.length_cons, Nat.pow_succ]
    omega
theorem leN_snoc : ∀ (l : List UInt8) (b : UInt8), leN (l ++ [b]) = leN l + b.toNat * 256 ^ l.length
  | [], b => by simp [leN]
  | c :: r, b => by
    rw [List.cons_append, leN, leN, leN_snoc r b, List.length_cons, Nat.pow_succ, Nat.mul_add, ← Nat.mul_assoc, Nat.mul_comm 256 b.toNat, Nat.mul_comm (256 ^ r.length) 256, Nat.mul_assoc b.toNat, Nat.add_assoc]
/-- Two numbers without a common bit. -/
theorem bits_or_u64 {x y i : Nat} (hx : x < 2 ^ i) (hy : y * 2 ^ i + x < 2 ^ 64) : bits .or .u64 (x : Int) ((y * 2 ^ i : Nat) : Int) = ((x + y * 2 ^ i : Nat) : Int) := by
  have h2 : y * 2 ^ i < 2 ^ 64 := by omega
  have h1 : x < 2 ^ 64 := by omega
  have e := Nat.shiftLeft_add_eq_or_of_lt hx y
  rw [Nat.shiftLeft_eq] at e
  have e1 : (BitVec.ofInt 64 (x : Int)) = BitVec.ofNat 64 x := by simp
  have e2 : (BitVec.ofInt 64 ((y * 2 ^ i : Nat) : Int)) = BitVec.ofNat 64 (y * 2 ^ i) := by rw [BitVec.ofInt_natCast]
  show IntKind.u64.wrap (((BitVec.ofInt 64 (x : Int)) ||| (BitVec.ofInt 64 ((y * 2 ^ i : Nat) : Int))).toNat : Int) = _
  rw [e1, e2, BitVec.toNat_or, BitVec.toNat_ofNat, BitVec.toNat_ofNat, Nat.mod_eq_of_lt h1, Nat.mod_eq_of_lt h2, Nat.or_comm, ← e]
  have e3 : ∀ z : Int, IntKind.u64.wrap z = z % 18446744073709551616 := fun _ => rfl
  rw [e3]
  have : (2 : Nat) ^ 64 = 18446744073709551616 := rfl
  omega
/-- The number of eight bytes. -/
def leInt (l : List UInt8) : Int := wrap64 (leN l : Int)
end Go.Proofs.Ytjofjkjghakcoaa

/- Maps: a map's block as data; what a lookup reads, what an update turns. No program in sight. -/
namespace Go.Proofs.Ytjofjkjghakcoaa
open Go.RowKit
section
variable {K V : Type} [DecidableEq K]
def getM : List (K × V) → K → Option V
  | [], _ => none
  | (a, v) :: r, k => if a = k then some v else getM r k
def setM : List (K × V) → K → V → List (K × V)
  | [], k, v => [(k, v)]
  | (a, u) :: r, k, v => if a = k then (a, v) :: r else (a, u) :: setM r k v
theorem getM_setM (k : K) (v : V) (k' : K) : ∀ l : List (K × V), getM (setM l k v) k' = if k = k' then some v else getM l k'
  | [] => by simp [setM, getM]
  | (a, u) :: r => by
    have ih := getM_setM k v k' r
    unfold setM
    by_cases h : a = k
    · subst h; rw [if_pos rfl]; unfold getM; split <;> simp_all
    · rw [if_neg h]; unfold getM; rw [ih]; split
      · rename_i h2; subst h2; rw [if_neg (fun e => h e.symm)]
      · rfl
theorem setM_length (k : K) (v : V) : ∀ l : List (K × V), (setM l k v).length = if (getM l k).isSome then l.length else l.length + 1
  | [] => rfl
  | (a, u) :: r => by
    have ih := setM_length k v r
    unfold setM getM
    by_cases h : a = k
    · simp [h]
    · rw [if_neg h, if_neg h, List.length_cons, ih]; split <;> simp
theorem setM_new {k : K} {v : V} : ∀ {l : List (K × V)}, getM l k = none → setM l k v = l ++ [(k, v)]
  | [], _ => rfl
  | (a, u) :: r, h => by
    unfold getM at h; unfold setM
    split at h
    · cases h
    · rename_i hn; rw [if_neg hn, setM_new h]; rfl
theorem getM_mem {k : K} {v : V} : ∀ {l : List (K × V)}, getM l k = some v → (k, v) ∈ l
  | (a, u) :: r, h => by
    unfold getM at h
    split at h
    · rename_i e; subst e; cases h; exact List.mem_cons_self
    · exact List.mem_cons_of_mem _ (getM_mem h)
/-- The place of a key among entries. -/
def placeM : List (K × V) → K → Nat → Option Nat
  | [], _, _ => none
  | (a, _) :: r, k, i => if a = k then some i else placeM r k (i + 1)
theorem placeM_get {k : K} : ∀ {l : List (K × V)} {i : Nat}, (placeM l k i).isSome = (getM l k).isSome
  | [], _ => rfl
  | (a, u) :: r, i => by
    unfold placeM getM
    split
    · rfl
    · exact placeM_get
theorem placeM_none {k : K} {l : List (K × V)} {i : Nat} (h : getM l k = none) : placeM l k i = none := by
  have := placeM_get (k := k) (l := l) (i := i); rw [h] at this; simpa using this
theorem placeM_some {k : K} {v : V} : ∀ {l : List (K × V)} {i : Nat}, getM l k = some v → ∃ j, placeM l k i = some (i + j) ∧ l[j]? = some (k, v) ∧ ∀ v', setM l k v' = l.set j (k, v')
  | (a, u) :: r, i, h => by
    unfold getM at h; unfold placeM
    split at h
    · rename_i e; subst e; cases h; exact ⟨0, by rw [if_pos rfl]; rfl, rfl, fun v' => by unfold setM; rw [if_pos rfl]; rfl⟩
    · rename_i e
      obtain ⟨j, h1, h2, h3⟩ := placeM_some (i := i + 1) h
      exact ⟨j + 1, by rw [if_neg e, h1]; congr 1; omega, by simpa using h2, fun v' => by unfold setM; rw [if_neg e, h3]; rfl⟩
end

instance {t : TypeId} {r : Option Operand} : IsAct (.makeMap t r) := ⟨trivial⟩
instance {t : TypeId} {m k x : Operand} : IsAct (.mapUpdate t m k x) := ⟨trivial⟩
/-- A type of maps. -/
class TMap (P : Program) (t : TypeId) (kt vt : outParam TypeId) (z : outParam Value) : Prop where
  u : P.underlying t = some (.map kt vt)
  z : (P.info? vt).map (·.zero) = some (some z)
/-- A type of keys. -/
class TKey (P : Program) (kt : TypeId) {K : Type} [DecidableEq K] (enc : K → Value) : Prop where
  check : ∀ (b : Bool) (k : K) (w : World), (Instr.checkKey b 10000 kt (enc k)).run P w = .ok () w
  find : ∀ {V : Type} (k : K) (encV : V → Value) (es : List MapEntry) (l : List (K × V)) (w : World), es.map (fun e => (e.key, e.val)) = l.map (fun x => (enc x.1, encV x.2)) →
    (Instr.findKey kt (enc k) es).run P w = .ok ((placeM l k 0).bind fun i => (getM l k).map fun v => (i, encV v)) w
  same : ∀ k : K, Instr.sameBits 10000 (enc k) (enc k) = true

theorem findNow_is {K V : Type} [DecidableEq K] {enc : K → Value} {d : TypeDesc} (hs : ∀ a b : K, Instr.sameNow d (enc a) (enc b) = some (decide (a = b))) (k : K) (encV : V → Value) : ∀ (es : List MapEntry) (l : List (K × V)) (i : Nat),
    es.map (fun e => (e.key, e.val)) = l.map (fun x => (enc x.1, encV x.2)) → Instr.findNow d (enc k) es i = some ((placeM l k i).bind fun i => (getM l k).map fun v => (i, encV v))
  | [], [], _, _ => rfl
  | [], x :: r, _, h => by cases h
  | e :: es, [], _, h => by cases h
  | e :: es, (a, v) :: r, i, h => by
    simp only [List.map_cons, List.cons.injEq, Prod.mk.injEq] at h
    obtain ⟨⟨h1, h2⟩, h3⟩ := h
    unfold Instr.findNow placeM getM
    rw [h1, hs k a]
    by_cases hk : a = k
    · subst hk; simp [h2]
    · rw [if_neg hk, if_neg hk, decide_eq_false (fun q => hk q.symm)]
      exact findNow_is hs k encV es r (i + 1) h3
theorem findAsking_is {P : Program} {kt : TypeId} {K V : Type} [DecidableEq K] {enc : K → Value} (hs : ∀ (a b : K) (w : World), (Op.equal kt (enc a) (enc b)).run P w = .ok (decide (a = b)) w) (k : K) (encV : V → Value) : ∀ (es : List MapEntry) (l : List (K × V)) (i : Nat) (w : World),
    es.map (fun e => (e.key, e.val)) = l.map (fun x => (enc x.1, encV x.2)) → (Instr.findAsking kt (enc k) es i).run P w = .ok ((placeM l k i).bind fun i => (getM l k).map fun v => (i, encV v)) w
  | [], [], _, _, _ => rfl
  | [], x :: r, _, _, h => by cases h
  | e :: es, [], _, _, h => by cases h
  | e :: es, (a, v) :: r, i, w, h => by
    simp only [List.map_cons, List.cons.injEq, Prod.mk.injEq] at h
    obtain ⟨⟨h1, h2⟩, h3⟩ := h
    unfold Instr.findAsking placeM getM
    rw [h1, Sem.run_bind, hs k a, Result.andThen_ok]
    by_cases hk : a = k
    · subst hk; simp [h2]
    · rw [if_neg hk, if_neg hk, decide_eq_false (fun q => hk q.symm)]
      exact findAsking_is hs k encV es r (i + 1) w h3

instance tkey_int {P : Program} {kt : TypeId} {q : IntKind} [ht : TInt P kt q] : TKey P kt (fun n : Int => Value.int q n) where
  check b k w := by
    unfold Instr.checkKey
    simp only [Sem.run_bind, run_underlying ht.u, Result.andThen_ok]
    rfl
  find k encV es l w h := by
    have := findNow_is (enc := fun n : Int => Value.int q n) (d := .int q) (fun a b => by unfold Instr.sameNow; simp only [if_true, Option.some.injEq]; rw [Bool.eq_iff_iff]; simp) k encV es l 0 h
    exact MapKept.run_findKey ht.u this
  same k := by unfold Instr.sameBits; simp
instance tkey_str {P : Program} {kt : TypeId} [ht : TStr P kt] : TKey P kt str where
  check b k w := by
    unfold Instr.checkKey
    simp only [Sem.run_bind, run_underlying ht.u, Result.andThen_ok]
    rfl
  find k encV es l w h := by
    have := findNow_is (enc := str) (d := .string) (fun a b => by
      obtain ⟨r, h1, h2⟩ := MapKept.sameNow_of_keys (d := .string) (a := str a) (b := str b) trivial trivial
      rw [h1]
      have h3 : str a = str b ↔ a = b := ⟨fun e => by simpa [str] using e, fun e => by rw [e]⟩
      congr 1
      rw [Bool.eq_iff_iff, h2, h3]; simp) k encV es l 0 h
    exact MapKept.run_findKey ht.u this
  same k := MapKept.sameBits_self (d := .string) (k := str k) trivial _

section
variable {K V : Type} [DecidableEq K] (encK : K → Value) (encV : V → Value)
def Entries (es : Array MapEntry) (l : List (K × V)) : Prop := es.toList.map (fun e => (e.key, e.val)) = l.map (fun x => (encK x.1, encV x.2))
/-- A map's block. -/
def Mp (b : Nat) (l : List (K × V)) : HP := Ex fun q : { q : Array MapEntry × Nat // Entries encK encV q.1 l } => Pt b (.map q.1.1 q.1.2)
def HasM (H : World → Prop) (b : Nat) (l : List (K × V)) : Prop := ∀ w, H w → ∃ es clk, w.heap[b]? = some (.map es clk) ∧ Entries encK encV es l
end
section
variable {P : Program} {N : Nat} {c : Con} {H : World → Prop} {E : Env} {L F : List HP} {d : Option Nat} {ty : TypeId} {pos : String} {aft : Array Edge} {g : Option (Nat × Bool)}
variable {K V : Type} [DecidableEq K] {encK : K → Value} {encV : V → Value} {A : HP}
omit [DecidableEq K] in
theorem hasM_hd {b : Nat} {l : List (K × V)} : HasM encK encV (St c (Mp encK encV b l :: L)) b l := fun w H => by
  obtain ⟨q, H⟩ := St.ex H
  exact ⟨q.1.1, q.1.2, H.pt, q.2⟩
omit [DecidableEq K] in
theorem hasM_tl {b : Nat} {l : List (K × V)} (h : HasM encK encV (St c L) b l) : HasM encK encV (St c (A :: L)) b l := fun w H => h w H.tail
theorem run_zeroOf {t : TypeId} {z : Value} (h : (P.info? t).map (·.zero) = some (some z)) (w : World) : (zeroValue t).run P w = .ok z w := by
  cases hq : P.info? t with
  | none => simp [hq] at h
  | some i =>
    have hz : i.zero = some z := by simpa [hq] using h
    simp [zeroValue, typeInfo, hq, hz]
theorem run_lookup {t kt vt : TypeId} {z : Value} [hm : TMap P t kt vt z] [hk : TKey P kt encK] {b : Nat} {l : List (K × V)} {k : K} {w : World} {es : Array MapEntry} {clk : Nat} (hb : w.heap[b]? = some (.map es clk)) (he : Entries encK encV es l) (ok : Bool) :
    (Instr.lookup t (.map (some b)) (encK k) ok).run P w = .ok (if ok then .tuple #[((getM l k).map encV).getD z, .bool (getM l k).isSome] else ((getM l k).map encV).getD z) w := by
  unfold Instr.lookup
  have hf := hk.find k encV es.toList l w he
  simp only [Sem.run_bind, run_underlying hm.u, Result.andThen_ok, MapKept.run_getObj_map hb, Sem.run_pure, hk.check, hf]
  cases hg : getM l k with
  | none =>
    rw [placeM_none hg]
    cases ok <;> simp [run_zeroOf hm.z]
  | some v =>
    obtain ⟨j, h1, _, _⟩ := placeM_some (i := 0) hg
    rw [h1]
    cases ok <;> simp
theorem y_lookup {x i : Operand} {t kt vt : Nat} {z : Value} {b : Nat} {l : List (K × V)} {k : K} {ki : Value} [hm : TMap P t kt vt z] [hk : TKey P kt encK] (hx : Ev E x (.map (some b))) (hi : Ev E i ki) (he : ki = encK k) (hb : HasM encK encV H b l) :
    Y P H E (Oper.mk d (.lookup t x i false) ty pos aft g) (((getM l k).map encV).getD z) := fun N a w hf hw => by
  subst he
  obtain ⟨es, clk, h1, h2⟩ := hb w hw
  unfold execOp
  simp [hx N a hf, hi N a hf, run_lookup (k := k) h1 h2]
theorem y_lookup2 {x i : Operand} {t kt vt : Nat} {z : Value} {b : Nat} {l : List (K × V)} {k : K} {ki : Value} [hm : TMap P t kt vt z] [hk : TKey P kt encK] (hx : Ev E x (.map (some b))) (hi : Ev E i ki) (he : ki = encK k) (hb : HasM encK encV H b l) :
    Y P H E (Oper.mk d (.lookup t x i true) ty pos aft g) (.tuple #[((getM l k).map encV).getD z, .bool (getM l k).isSome]) := fun N a w hf hw => by
  subst he
  obtain ⟨es, clk, h1, h2⟩ := hb w hw
  unfold execOp
  simp [hx N a hf, hi N a hf, run_lookup (k := k) h1 h2]
omit [DecidableEq K] in
theorem y_lenMap {x : Operand} {t kt vt : Nat} {z : Value} {b : Nat} {l : List (K × V)} [hm : TMap P t kt vt z] (hx : Ev E x (.map (some b))) (hb : HasM encK encV H b l) :
    Y P H E (Oper.mk d (.call { callee := .builtin .len, args := #[x], argTypes := #[t] }) ty pos aft g) (.int .i64 (l.length : Int)) := fun N a w hf hw => by
  obtain ⟨es, clk, h1, h2⟩ := hb w hw
  have hl : es.size = l.length := by have := congrArg List.length h2; simpa using this
  unfold execOp
  simp [hx N a hf, resolve, invoke, builtin, Builtin.len_, run_underlying hm.u, MapKept.run_getObj_map h1, hl, goInt]
omit [DecidableEq K] in
theorem ow_makeMap (encK : K → Value) (encV : V → Value) {t kt vt : Nat} {z : Value} [hm : TMap P t kt vt z] : OW P N c E L (Oper.mk d (.makeMap t none) ty pos aft g) (fun b => .map (some b)) fun b => Mp encK encV b [] :: L := fun Q C a w hf H hk => by
  have _ := hf
  have _ := hm
  unfold Oper.wp execOp
  simp [Instr.makeMap]
  exact hk _ _ (St.toEx ⟨(#[], 0), rfl⟩ (H.allocPt _))
omit [DecidableEq K] in
theorem entries_set {es : Array MapEntry} {l : List (K × V)} {j : Nat} {k : K} {v : V} {f : MapEntry → MapEntry} (he : Entries encK encV es l) (hf : ∀ e, (f e).key = encK k ∧ (f e).val = encV v) : Entries encK encV (es.modify j f) (l.set j (k, v)) := by
  unfold Entries at he ⊢
  apply List.ext_getElem?
  intro i
  have hi := congrArg (fun q => q[i]?) he
  simp only [List.getElem?_map, Array.getElem?_toList] at hi ⊢
  rw [Array.getElem?_modify, List.getElem?_set]
  by_cases h : j = i
  · subst h
    rw [if_pos rfl, if_pos rfl]
    cases h1 : es[j]? with
    | none =>
      rw [h1] at hi
      have : l[j]? = none := by cases h2 : l[j]? with
        | none => rfl
        | some x => rw [h2] at hi; cases hi
      rw [if_neg (by have := List.getElem?_eq_none_iff.1 this; omega)]; rfl
    | some e =>
      rw [h1] at hi
      have : j < l.length := by
        rcases Nat.lt_or_ge j l.length with h2 | h2
        · exact h2
        · rw [List.getElem?_eq_none h2] at hi; cases hi
      rw [if_pos this]
      simp [(hf e).1, (hf e).2]
  · rw [if_neg h, if_neg h]; exact hi
omit [DecidableEq K] in
theorem entries_push {es : Array MapEntry} {l : List (K × V)} {k : K} {v : V} {n : Nat} (he : Entries encK encV es l) : Entries encK encV (es.push { key := encK k, val := encV v, born := n }) (l ++ [(k, v)]) := by
  unfold Entries at he ⊢
  simp [he]
theorem ow_mapUpdate {x i y : Operand} {t kt vt : Nat} {z : Value} {b : Nat} {l : List (K × V)} {k : K} {v : V} {ki vi : Value} [hm : TMap P t kt vt z] [hk : TKey P kt encK] (hx : Ev E x (.map (some b))) (hi : Ev E i ki) (hy : Ev E y vi) (hp : Pick L (Mp encK encV b l) F) (he : ki = encK k) (hv : vi = encV v) :
    OW P N c E L (Oper.mk d (.mapUpdate t x i y) ty pos aft g) (fun _ : Unit => undef) fun _ => Mp encK encV b (setM l k v) :: F := fun Q C a w hf H hC => by
  subst he hv
  have H1 := hp.st H
  obtain ⟨⟨⟨es, clk⟩, hes⟩, H1⟩ := St.ex H1
  dsimp only at hes H1
  have hb := H1.pt
  have hfd := hk.find k encV es.toList l w hes
  obtain ⟨h0, a0, l0, u⟩ := H1.upd
  have fin : ∀ es' clk', Entries encK encV es' (setM l k v) → St c (Mp encK encV b (setM l k v) :: F) { w with heap := w.heap.setIfInBounds b (.map es' clk') } := fun es' clk' h => by
    refine St.toEx ⟨(es', clk'), h⟩ (u _ (Pt b (.map es' clk')) rfl (fun r hr hn => ?_) ?_)
    · exact (MapKept.heap_set hb).2 r (fun e0 => by rw [e0, show h0 b = _ from a0] at hn; cases hn)
    · show (if (h0 b).isSome ∨ _ then _ else _) = _
      rw [if_pos (.inl (by rw [show h0 b = _ from a0]; rfl))]
      exact (MapKept.heap_set hb).1
  unfold Oper.wp execOp Instr.mapUpdate
  simp only [hx N a hf, hi N a hf, hy N a hf, Sem.run_bind, run_underlying hm.u, Result.andThen_ok, MapKept.run_getObj_map hb, Sem.run_pure, hk.check, hfd]
  cases hg : getM l k with
  | none =>
    rw [placeM_none hg]
    simp only [Option.bind_none, MapKept.run_setObj_map _ hb, Result.andThen_ok, Sem.run_pure]
    refine hC () _ (fin _ _ ?_)
    rw [setM_new hg]; exact entries_push hes
  | some v0 =>
    obtain ⟨j, h1, h2, h3⟩ := placeM_some (i := 0) hg
    rw [h1, Nat.zero_add]
    have hkey : ((es[j]?).map (·.key)).getD (encK k) = encK k := by
      have hj := congrArg (fun q => q[j]?) hes
      simp only [List.getElem?_map, Array.getElem?_toList, h2, Option.map_some] at hj
      cases h4 : es[j]? with
      | none => rfl
      | some e => rw [h4] at hj; simp only [Option.map_some, Option.some.injEq, Prod.mk.injEq] at hj; simp [hj.1]
    have hst : (Instr.keyThatStays (((es[j]?).map (·.key)).getD (encK k)) (encK k)).run P w = .ok (encK k) w := by
      rw [hkey]; unfold Instr.keyThatStays; rw [if_pos (hk.same k)]; rfl
    simp only [Option.map_some, Option.bind_some, Sem.run_bind, hst, Result.andThen_ok, MapKept.run_setObj_map _ hb, Sem.run_pure]
    refine hC () _ (fin _ _ ?_)
    rw [h3 v]; exact entries_set hes (fun _ => ⟨rfl, rfl⟩)
theorem at_lookup {K : Value → Prop} {t : TypeId} {x i : Operand} {ok : Bool} (h : YK P H E (Oper.mk d (.lookup t x i ok) ty pos aft g) K) : YK P H E (Oper.mk d (.lookup t x i ok) ty pos aft g) K := h
theorem at_makeMapO {K : Value → List HP → Prop} {t : TypeId} {r : Option Operand} (h : OWK P N c E L (Oper.mk d (.makeMap t r) ty pos aft g) K) : OWK P N c E L (Oper.mk d (.makeMap t r) ty pos aft g) K := h
theorem at_mapUpdateO {K : Value → List HP → Prop} {t : TypeId} {m k x : Operand} (h : OWK P N c E L (Oper.mk d (.mapUpdate t m k x) ty pos aft g) K) : OWK P N c E L (Oper.mk d (.mapUpdate t m k x) ty pos aft g) K := h
end
end Go.Proofs.Ytjofjkjghakcoaa

/- Numbers as bytes, the lowest first. No program in sight. -/
namespace Go.Proofs.Ytjofjkjghakcoaa
open Go.RowKit
abbrev Bs := List UInt8
def leB : Nat → Nat → List UInt8
  | 0, _ => []
  | k + 1, x => UInt8.ofNat (x % 256) :: leB k (x / 256)
theorem leB_length : ∀ k x, (leB k x).length = k
  | 0, _ => rfl
  | k + 1, x => by rw [leB, List.length_cons, leB_length k]
theorem leB_snoc : ∀ k x, leB (k + 1) x = leB k x ++ [UInt8.ofNat (x / 256 ^ k % 256)]
  | 0, x => by simp [leB]
  | k + 1, x => by
    rw [leB, leB_snoc k (x / 256), leB, List.cons_append]
    rw [Nat.div_div_eq_div_mul, Nat.pow_succ, Nat.mul_comm 256]
theorem leB_inj : ∀ {k x y : Nat}, x < 256 ^ k → y < 256 ^ k → leB k x = leB k y → x = y
  | 0, x, y, hx, hy, _ => by simp at hx hy; omega
  | k + 1, x, y, hx, hy, h => by
    rw [leB, leB] at h
    obtain ⟨h1, h2⟩ := List.cons.inj h
    have h1' := congrArg UInt8.toNat h1
    rw [UInt8.toNat_ofNat', UInt8.toNat_ofNat'] at h1'
    have hp : (256 : Nat) ^ (k + 1) = 256 ^ k * 256 := Nat.pow_succ _ _
    have := leB_inj (x := x / 256) (y := y / 256) (by omega) (by omega) h2
    omega
/-- A number's eight bytes. -/
def num8 (n : Int) : List UInt8 := leB 8 (n % 18446744073709551616).toNat
theorem num8_length (n : Int) : (num8 n).length = 8 := leB_length _ _
theorem num8_inj {m n : Int} (hm : -9223372036854775808 ≤ m ∧ m ≤ 9223372036854775807) (hn : -9223372036854775808 ≤ n ∧ n ≤ 9223372036854775807) (h : num8 m = num8 n) : m = n := by
  have := leB_inj (by omega) (by omega) h
  omega
/-- Bytes, and how many they are ahead of them. -/
def part8 (p : List UInt8) : List UInt8 := num8 (p.length : Int) ++ p
theorem part8_length (p : List UInt8) : (part8 p).length = p.length + 8 := by simp [part8, num8_length]; omega
theorem part8_inj {p q r s : List UInt8} (hp : p.length ≤ 9223372036854775807) (hq : q.length ≤ 9223372036854775807) (h : part8 p ++ r = part8 q ++ s) : p = q ∧ r = s := by
  unfold part8 at h
  rw [List.append_assoc, List.append_assoc] at h
  obtain ⟨h1, h2⟩ := List.append_inj h (by rw [num8_length, num8_length])
  have hl : p.length = q.length := by have := num8_inj (by omega) (by omega) h1; omega
  exact List.append_inj h2 hl
end Go.Proofs.Ytjofjkjghakcoaa

/- What is known of the types, laid by program (wip/tools/types.py). -/
namespace Go.Proofs.Ytjofjkjghakcoaa
open Go.RowKit
instance : TOne Try.prog 1 (.nilFunc) := ⟨by kernel_rfl, by kernel_rfl, rfl⟩
instance : TInt Try.prog 2 .i64 := ⟨by kernel_rfl⟩
instance : TOne Try.prog 2 (.int .i64 0) := ⟨by kernel_rfl, by kernel_rfl, rfl⟩
instance : TInt Try.prog 3 .i64 := ⟨by kernel_rfl⟩
instance : TOne Try.prog 3 (.int .i64 0) := ⟨by kernel_rfl, by kernel_rfl, rfl⟩
instance : TBool Try.prog 4 := ⟨by kernel_rfl⟩
instance : TOne Try.prog 4 (.bool false) := ⟨by kernel_rfl, by kernel_rfl, rfl⟩
instance : TInt Try.prog 5 .u8 := ⟨by kernel_rfl⟩
instance : TOne Try.prog 5 (.int .u8 0) := ⟨by kernel_rfl, by kernel_rfl, rfl⟩
instance : TInt Try.prog 6 .u8 := ⟨by kernel_rfl⟩
instance : TOne Try.prog 6 (.int .u8 0) := ⟨by kernel_rfl, by kernel_rfl, rfl⟩
instance : TField Try.prog 7 0 0 1 := ⟨_, _, Try.underlying7, rfl, rfl, by kernel_rfl, by decide⟩
instance : TField Try.prog 7 1 1 1 := ⟨_, _, Try.underlying7, rfl, rfl, by kernel_rfl, by decide⟩
instance : TField Try.prog 7 2 2 1 := ⟨_, _, Try.underlying7, rfl, rfl, by kernel_rfl, by decide⟩
instance : TField Try.prog 7 3 3 1 := ⟨_, _, Try.underlying7, rfl, rfl, by kernel_rfl, by decide⟩
instance : TRow Try.prog 7 4 := ⟨by kernel_rfl, by kernel_rfl⟩
instance : TZero Try.prog 7 ([.int .i64 0, .int .i64 0, .bool false, .int .u8 0]) := ⟨by kernel_rfl⟩
instance : TField Try.prog 8 0 0 1 := ⟨_, _, Try.underlying8, rfl, rfl, by kernel_rfl, by decide⟩
instance : TField Try.prog 8 1 1 1 := ⟨_, _, Try.underlying8, rfl, rfl, by kernel_rfl, by decide⟩
instance : TField Try.prog 8 2 2 1 := ⟨_, _, Try.underlying8, rfl, rfl, by kernel_rfl, by decide⟩
instance : TField Try.prog 8 3 3 1 := ⟨_, _, Try.underlying8, rfl, rfl, by kernel_rfl, by decide⟩
instance : TRow Try.prog 8 4 := ⟨by kernel_rfl, by kernel_rfl⟩
instance : TZero Try.prog 8 ([.int .i64 0, .int .i64 0, .bool false, .int .u8 0]) := ⟨by kernel_rfl⟩
instance : TStr Try.prog 9 := ⟨by kernel_rfl⟩
instance : TOne Try.prog 9 (str []) := ⟨by kernel_rfl, by kernel_rfl, rfl⟩
instance : TStr Try.prog 10 := ⟨by kernel_rfl⟩
instance : TOne Try.prog 10 (str []) := ⟨by kernel_rfl, by kernel_rfl, rfl⟩
instance : TStr Try.prog 11 := ⟨by kernel_rfl⟩
instance : TOne Try.prog 11 (str []) := ⟨by kernel_rfl, by kernel_rfl, rfl⟩
instance : TInt Try.prog 12 .u64 := ⟨by kernel_rfl⟩
instance : TOne Try.prog 12 (.int .u64 0) := ⟨by kernel_rfl, by kernel_rfl, rfl⟩
instance : TField Try.prog 13 0 0 1 := ⟨_, _, Try.underlying13, rfl, rfl, by kernel_rfl, by decide⟩
instance : TField Try.prog 13 1 1 1 := ⟨_, _, Try.underlying13, rfl, rfl, by kernel_rfl, by decide⟩
instance : TRow Try.prog 13 2 := ⟨by kernel_rfl, by kernel_rfl⟩
instance : TZero Try.prog 13 ([str [], .int .u64 0]) := ⟨by kernel_rfl⟩
instance : TField Try.prog 14 0 0 1 := ⟨_, _, Try.underlying14, rfl, rfl, by kernel_rfl, by decide⟩
instance : TField Try.prog 14 1 1 1 := ⟨_, _, Try.underlying14, rfl, rfl, by kernel_rfl, by decide⟩
instance : TRow Try.prog 14 2 := ⟨by kernel_rfl, by kernel_rfl⟩
instance : TZero Try.prog 14 ([str [], .int .u64 0]) := ⟨by kernel_rfl⟩
instance : TPtr Try.prog 15 109 := ⟨by kernel_rfl⟩
instance : TOne Try.prog 15 (.pointer none) := ⟨by kernel_rfl, by kernel_rfl, rfl⟩
instance : TPtr Try.prog 16 112 := ⟨by kernel_rfl⟩
instance : TOne Try.prog 16 (.pointer none) := ⟨by kernel_rfl, by kernel_rfl, rfl⟩
instance : TPtr Try.prog 17 120 := ⟨by kernel_rfl⟩
instance : TOne Try.prog 17 (.pointer none) := ⟨by kernel_rfl, by kernel_rfl, rfl⟩
instance : TField Try.prog 18 0 0 1 := ⟨_, _, Try.underlying18, rfl, rfl, by kernel_rfl, by decide⟩
instance : TRow Try.prog 18 1 := ⟨by kernel_rfl, by kernel_rfl⟩
instance : TZero Try.prog 18 ([.pointer none]) := ⟨by kernel_rfl⟩
instance : TField Try.prog 19 0 0 1 := ⟨_, _, Try.underlying19, rfl, rfl, by kernel_rfl, by decide⟩
instance : TRow Try.prog 19 1 := ⟨by kernel_rfl, by kernel_rfl⟩
instance : TZero Try.prog 19 ([.pointer none]) := ⟨by kernel_rfl⟩
instance : TOne Try.prog 20 (.nilIface) := ⟨by kernel_rfl, by kernel_rfl, rfl⟩
instance : TInt Try.prog 21 .i32 := ⟨by kernel_rfl⟩
instance : TOne Try.prog 21 (.int .i32 0) := ⟨by kernel_rfl, by kernel_rfl, rfl⟩
instance : TSlice Try.prog 22 5 1 1 (zeroOf Try.prog 5) := ⟨by kernel_rfl, by kernel_rfl, by kernel_rfl⟩
instance : TOne Try.prog 22 (.slice none 0 0) := ⟨by kernel_rfl, by kernel_rfl, rfl⟩
instance : TOne Try.prog 23 (.nilFunc) := ⟨by kernel_rfl, by kernel_rfl, rfl⟩
instance : TPtr Try.prog 24 54 := ⟨by kernel_rfl⟩
instance : TOne Try.prog 24 (.pointer none) := ⟨by kernel_rfl, by kernel_rfl, rfl⟩
instance : TOne Try.prog 25 (.nilFunc) := ⟨by kernel_rfl, by kernel_rfl, rfl⟩
instance : TPtr Try.prog 26 58 := ⟨by kernel_rfl⟩
instance : TOne Try.prog 26 (.pointer none) := ⟨by kernel_rfl, by kernel_rfl, rfl⟩
instance : TOne Try.prog 27 (.nilFunc) := ⟨by kernel_rfl, by kernel_rfl, rfl⟩
instance : TArr Try.prog 28 32 5 1 := ⟨by kernel_rfl, by kernel_rfl⟩
instance : TRow Try.prog 28 32 := ⟨by kernel_rfl, by kernel_rfl⟩
instance : TZero Try.prog 28 (List.replicate 32 (.int .u8 0)) := ⟨by kernel_rfl⟩
instance : TArr Try.prog 29 32 5 1 := ⟨by kernel_rfl, by kernel_rfl⟩
instance : TRow Try.prog 29 32 := ⟨by kernel_rfl, by kernel_rfl⟩
instance : TZero Try.prog 29 (List.replicate 32 (.int .u8 0)) := ⟨by kernel_rfl⟩
instance : TOne Try.prog 30 (.nilFunc) := ⟨by kernel_rfl, by kernel_rfl, rfl⟩
instance : TInt Try.prog 31 .i64 := ⟨by kernel_rfl⟩
instance : TOne Try.prog 31 (.int .i64 0) := ⟨by kernel_rfl, by kernel_rfl, rfl⟩
instance : TOne Try.prog 33 (.nilFunc) := ⟨by kernel_rfl, by kernel_rfl, rfl⟩
instance : TOne Try.prog 34 (.nilFunc) := ⟨by kernel_rfl, by kernel_rfl, rfl⟩
instance : TSlice Try.prog 35 3 1 8 (zeroOf Try.prog 3) := ⟨by kernel_rfl, by kernel_rfl, by kernel_rfl⟩
instance : TOne Try.prog 35 (.slice none 0 0) := ⟨by kernel_rfl, by kernel_rfl, rfl⟩
instance : TSlice Try.prog 36 9 1 16 (zeroOf Try.prog 9) := ⟨by kernel_rfl, by kernel_rfl, by kernel_rfl⟩
instance : TOne Try.prog 36 (.slice none 0 0) := ⟨by kernel_rfl, by kernel_rfl, rfl⟩
instance : TOne Try.prog 37 (.nilFunc) := ⟨by kernel_rfl, by kernel_rfl, rfl⟩
instance : TOne Try.prog 38 (.nilFunc) := ⟨by kernel_rfl, by kernel_rfl, rfl⟩
instance : TOne Try.prog 39 (.nilFunc) := ⟨by kernel_rfl, by kernel_rfl, rfl⟩
instance : TOne Try.prog 40 (.nilFunc) := ⟨by kernel_rfl, by kernel_rfl, rfl⟩
instance : TOne Try.prog 41 (.nilFunc) := ⟨by kernel_rfl, by kernel_rfl, rfl⟩
instance : TOne Try.prog 42 (.nilFunc) := ⟨by kernel_rfl, by kernel_rfl, rfl⟩
instance : TOne Try.prog 43 (.nilFunc) := ⟨by kernel_rfl, by kernel_rfl, rfl⟩
instance : TOne Try.prog 44 (.nilFunc) := ⟨by kernel_rfl, by kernel_rfl, rfl⟩
instance : TOne Try.prog 45 (.nilFunc) := ⟨by kernel_rfl, by kernel_rfl, rfl⟩
instance : TArr Try.prog 46 12 5 1 := ⟨by kernel_rfl, by kernel_rfl⟩
instance : TRow Try.prog 46 12 := ⟨by kernel_rfl, by kernel_rfl⟩
instance : TZero Try.prog 46 ([.int .u8 0, .int .u8 0, .int .u8 0, .int .u8 0, .int .u8 0, .int .u8 0, .int .u8 0, .int .u8 0, .int .u8 0, .int .u8 0, .int .u8 0, .int .u8 0]) := ⟨by kernel_rfl⟩
instance : TOne Try.prog 47 (.nilFunc) := ⟨by kernel_rfl, by kernel_rfl, rfl⟩
instance : TOne Try.prog 48 (.nilFunc) := ⟨by kernel_rfl, by kernel_rfl, rfl⟩
instance : TOne Try.prog 49 (.nilFunc) := ⟨by kernel_rfl, by kernel_rfl, rfl⟩
instance : TOne Try.prog 50 (.map none) := ⟨by kernel_rfl, by kernel_rfl, rfl⟩
instance : TOne Try.prog 51 (.nilIface) := ⟨by kernel_rfl, by kernel_rfl, rfl⟩
instance : TOne Try.prog 52 (.nilIface) := ⟨by kernel_rfl, by kernel_rfl, rfl⟩
instance : TField Try.prog 53 0 0 1 := ⟨_, _, Try.underlying53, rfl, rfl, by kernel_rfl, by decide⟩
instance : TField Try.prog 53 1 1 32 := ⟨_, _, Try.underlying53, rfl, rfl, by kernel_rfl, by decide⟩
instance : TField Try.prog 53 2 33 1 := ⟨_, _, Try.underlying53, rfl, rfl, by kernel_rfl, by decide⟩
instance : TField Try.prog 53 3 34 1 := ⟨_, _, Try.underlying53, rfl, rfl, by kernel_rfl, by decide⟩
instance : TField Try.prog 53 4 35 1 := ⟨_, _, Try.underlying53, rfl, rfl, by kernel_rfl, by decide⟩
instance : TRow Try.prog 53 36 := ⟨by kernel_rfl, by kernel_rfl⟩
instance : TZero Try.prog 53 ([.nilIface] ++ (List.replicate 32 (.int .u8 0) ++ ([.int .i64 0, .map none, .int .i64 0]))) := ⟨by kernel_rfl⟩
instance : TField Try.prog 54 0 0 1 := ⟨_, _, Try.underlying54, rfl, rfl, by kernel_rfl, by decide⟩
instance : TField Try.prog 54 1 1 32 := ⟨_, _, Try.underlying54, rfl, rfl, by kernel_rfl, by decide⟩
instance : TField Try.prog 54 2 33 1 := ⟨_, _, Try.underlying54, rfl, rfl, by kernel_rfl, by decide⟩
instance : TField Try.prog 54 3 34 1 := ⟨_, _, Try.underlying54, rfl, rfl, by kernel_rfl, by decide⟩
instance : TField Try.prog 54 4 35 1 := ⟨_, _, Try.underlying54, rfl, rfl, by kernel_rfl, by decide⟩
instance : TPlaces Try.prog 54 [(0, 1), (1, 32), (33, 1), (34, 1), (35, 1)] ([.nilIface] ++ (List.replicate 32 (.int .u8 0) ++ ([.int .i64 0, .map none, .int .i64 0]))) := ⟨⟨_, Try.underlying54, fun w => by simp [run_size (P := Try.prog) (t := 3) (n := 1) (by kernel_rfl), run_size (P := Try.prog) (t := 29) (n := 32) (by kernel_rfl), run_size (P := Try.prog) (t := 50) (n := 1) (by kernel_rfl), run_size (P := Try.prog) (t := 52) (n := 1) (by kernel_rfl)]⟩, by kernel_rfl⟩
instance : TRow Try.prog 54 36 := ⟨by kernel_rfl, by kernel_rfl⟩
instance : TZero Try.prog 54 ([.nilIface] ++ (List.replicate 32 (.int .u8 0) ++ ([.int .i64 0, .map none, .int .i64 0]))) := ⟨by kernel_rfl⟩
instance : TOne Try.prog 55 (.map none) := ⟨by kernel_rfl, by kernel_rfl, rfl⟩
instance : TOne Try.prog 56 (.map none) := ⟨by kernel_rfl, by kernel_rfl, rfl⟩
instance : TField Try.prog 57 0 0 1 := ⟨_, _, Try.underlying57, rfl, rfl, by kernel_rfl, by decide⟩
instance : TField Try.prog 57 1 1 1 := ⟨_, _, Try.underlying57, rfl, rfl, by kernel_rfl, by decide⟩
instance : TRow Try.prog 57 2 := ⟨by kernel_rfl, by kernel_rfl⟩
instance : TZero Try.prog 57 ([.map none, .map none]) := ⟨by kernel_rfl⟩
instance : TField Try.prog 58 0 0 1 := ⟨_, _, Try.underlying58, rfl, rfl, by kernel_rfl, by decide⟩
instance : TField Try.prog 58 1 1 1 := ⟨_, _, Try.underlying58, rfl, rfl, by kernel_rfl, by decide⟩
instance : TPlaces Try.prog 58 [(0, 1), (1, 1)] ([.map none, .map none]) := ⟨⟨_, Try.underlying58, fun w => by simp [run_size (P := Try.prog) (t := 55) (n := 1) (by kernel_rfl), run_size (P := Try.prog) (t := 56) (n := 1) (by kernel_rfl)]⟩, by kernel_rfl⟩
instance : TRow Try.prog 58 2 := ⟨by kernel_rfl, by kernel_rfl⟩
instance : TZero Try.prog 58 ([.map none, .map none]) := ⟨by kernel_rfl⟩
instance : TRow Try.prog 59 0 := ⟨by kernel_rfl, by kernel_rfl⟩
instance : TZero Try.prog 59 ([]) := ⟨by kernel_rfl⟩
instance : TPlaces Try.prog 60 [] ([]) := ⟨⟨_, Try.underlying60, fun w => by simp []⟩, by kernel_rfl⟩
instance : TRow Try.prog 60 0 := ⟨by kernel_rfl, by kernel_rfl⟩
instance : TZero Try.prog 60 ([]) := ⟨by kernel_rfl⟩
instance : TSlice Try.prog 61 22 1 24 (zeroOf Try.prog 22) := ⟨by kernel_rfl, by kernel_rfl, by kernel_rfl⟩
instance : TOne Try.prog 61 (.slice none 0 0) := ⟨by kernel_rfl, by kernel_rfl, rfl⟩
instance : TOne Try.prog 62 (.nilFunc) := ⟨by kernel_rfl, by kernel_rfl, rfl⟩
instance : TOne Try.prog 63 (.nilFunc) := ⟨by kernel_rfl, by kernel_rfl, rfl⟩
instance : TField Try.prog 65 0 0 32 := ⟨_, _, Try.underlying65, rfl, rfl, by kernel_rfl, by decide⟩
instance : TField Try.prog 65 1 32 12 := ⟨_, _, Try.underlying65, rfl, rfl, by kernel_rfl, by decide⟩
instance : TRow Try.prog 65 44 := ⟨by kernel_rfl, by kernel_rfl⟩
instance : TZero Try.prog 65 (List.replicate 44 (.int .u8 0)) := ⟨by kernel_rfl⟩
instance : TField Try.prog 66 0 0 32 := ⟨_, _, Try.underlying66, rfl, rfl, by kernel_rfl, by decide⟩
instance : TField Try.prog 66 1 32 12 := ⟨_, _, Try.underlying66, rfl, rfl, by kernel_rfl, by decide⟩
instance : TPlaces Try.prog 66 [(0, 32), (32, 12)] (List.replicate 44 (.int .u8 0)) := ⟨⟨_, Try.underlying66, fun w => by simp [run_size (P := Try.prog) (t := 29) (n := 32) (by kernel_rfl), run_size (P := Try.prog) (t := 46) (n := 12) (by kernel_rfl)]⟩, by kernel_rfl⟩
instance : TRow Try.prog 66 44 := ⟨by kernel_rfl, by kernel_rfl⟩
instance : TZero Try.prog 66 (List.replicate 44 (.int .u8 0)) := ⟨by kernel_rfl⟩
instance : TPtr Try.prog 67 69 := ⟨by kernel_rfl⟩
instance : TOne Try.prog 67 (.pointer none) := ⟨by kernel_rfl, by kernel_rfl, rfl⟩
instance : TField Try.prog 68 0 0 1 := ⟨_, _, Try.underlying68, rfl, rfl, by kernel_rfl, by decide⟩
instance : TRow Try.prog 68 1 := ⟨by kernel_rfl, by kernel_rfl⟩
instance : TZero Try.prog 68 ([.slice none 0 0]) := ⟨by kernel_rfl⟩
instance : TField Try.prog 69 0 0 1 := ⟨_, _, Try.underlying69, rfl, rfl, by kernel_rfl, by decide⟩
instance : TPlaces Try.prog 69 [(0, 1)] ([.slice none 0 0]) := ⟨⟨_, Try.underlying69, fun w => by simp [run_size (P := Try.prog) (t := 22) (n := 1) (by kernel_rfl)]⟩, by kernel_rfl⟩
instance : TRow Try.prog 69 1 := ⟨by kernel_rfl, by kernel_rfl⟩
instance : TZero Try.prog 69 ([.slice none 0 0]) := ⟨by kernel_rfl⟩
instance : TOne Try.prog 70 (.nilFunc) := ⟨by kernel_rfl, by kernel_rfl, rfl⟩
instance : TOne Try.prog 71 (.nilFunc) := ⟨by kernel_rfl, by kernel_rfl, rfl⟩
instance : TOne Try.prog 72 (.nilFunc) := ⟨by kernel_rfl, by kernel_rfl, rfl⟩
instance : TOne Try.prog 73 (.nilFunc) := ⟨by kernel_rfl, by kernel_rfl, rfl⟩
instance : TOne Try.prog 74 (.nilFunc) := ⟨by kernel_rfl, by kernel_rfl, rfl⟩
instance : TOne Try.prog 75 (.nilFunc) := ⟨by kernel_rfl, by kernel_rfl, rfl⟩
instance : TOne Try.prog 77 (.nilFunc) := ⟨by kernel_rfl, by kernel_rfl, rfl⟩
instance : TInt Try.prog 78 .u32 := ⟨by kernel_rfl⟩
instance : TOne Try.prog 78 (.int .u32 0) := ⟨by kernel_rfl, by kernel_rfl, rfl⟩
instance : TArr Try.prog 79 8 78 1 := ⟨by kernel_rfl, by kernel_rfl⟩
instance : TRow Try.prog 79 8 := ⟨by kernel_rfl, by kernel_rfl⟩
instance : TZero Try.prog 79 ([.int .u32 0, .int .u32 0, .int .u32 0, .int .u32 0, .int .u32 0, .int .u32 0, .int .u32 0, .int .u32 0]) := ⟨by kernel_rfl⟩
instance : TOne Try.prog 80 (.nilFunc) := ⟨by kernel_rfl, by kernel_rfl, rfl⟩
instance : TArr Try.prog 81 64 78 1 := ⟨by kernel_rfl, by kernel_rfl⟩
instance : TRow Try.prog 81 64 := ⟨by kernel_rfl, by kernel_rfl⟩
instance : TZero Try.prog 81 (List.replicate 64 (.int .u32 0)) := ⟨by kernel_rfl⟩
instance : TOne Try.prog 82 (.nilFunc) := ⟨by kernel_rfl, by kernel_rfl, rfl⟩
instance : TOne Try.prog 83 (.nilFunc) := ⟨by kernel_rfl, by kernel_rfl, rfl⟩
instance : TInt Try.prog 84 .u64 := ⟨by kernel_rfl⟩
instance : TOne Try.prog 84 (.int .u64 0) := ⟨by kernel_rfl, by kernel_rfl, rfl⟩
instance : TSlice Try.prog 85 97 4 4 (zeroOf Try.prog 97) := ⟨by kernel_rfl, by kernel_rfl, by kernel_rfl⟩
instance : TOne Try.prog 85 (.slice none 0 0) := ⟨by kernel_rfl, by kernel_rfl, rfl⟩
instance : TOne Try.prog 86 (.nilFunc) := ⟨by kernel_rfl, by kernel_rfl, rfl⟩
instance : TOne Try.prog 87 (.nilFunc) := ⟨by kernel_rfl, by kernel_rfl, rfl⟩
instance : TArr Try.prog 88 16 5 1 := ⟨by kernel_rfl, by kernel_rfl⟩
instance : TRow Try.prog 88 16 := ⟨by kernel_rfl, by kernel_rfl⟩
instance : TZero Try.prog 88 ([.int .u8 0, .int .u8 0, .int .u8 0, .int .u8 0, .int .u8 0, .int .u8 0, .int .u8 0, .int .u8 0, .int .u8 0, .int .u8 0, .int .u8 0, .int .u8 0, .int .u8 0, .int .u8 0, .int .u8 0, .int .u8 0]) := ⟨by kernel_rfl⟩
instance : TOne Try.prog 89 (.nilFunc) := ⟨by kernel_rfl, by kernel_rfl, rfl⟩
instance : TOne Try.prog 90 (.nilFunc) := ⟨by kernel_rfl, by kernel_rfl, rfl⟩
instance : TOne Try.prog 91 (.nilFunc) := ⟨by kernel_rfl, by kernel_rfl, rfl⟩
instance : TOne Try.prog 92 (.nilFunc) := ⟨by kernel_rfl, by kernel_rfl, rfl⟩
instance : TInt Try.prog 93 .u64 := ⟨by kernel_rfl⟩
instance : TOne Try.prog 93 (.int .u64 0) := ⟨by kernel_rfl, by kernel_rfl, rfl⟩
instance : TOne Try.prog 94 (.nilFunc) := ⟨by kernel_rfl, by kernel_rfl, rfl⟩
instance : TOne Try.prog 95 (.nilFunc) := ⟨by kernel_rfl, by kernel_rfl, rfl⟩
instance : TOne Try.prog 96 (.nilFunc) := ⟨by kernel_rfl, by kernel_rfl, rfl⟩
instance : TArr Try.prog 97 4 5 1 := ⟨by kernel_rfl, by kernel_rfl⟩
instance : TRow Try.prog 97 4 := ⟨by kernel_rfl, by kernel_rfl⟩
instance : TZero Try.prog 97 ([.int .u8 0, .int .u8 0, .int .u8 0, .int .u8 0]) := ⟨by kernel_rfl⟩
instance : TOne Try.prog 98 (.nilFunc) := ⟨by kernel_rfl, by kernel_rfl, rfl⟩
instance : TOne Try.prog 99 (.nilFunc) := ⟨by kernel_rfl, by kernel_rfl, rfl⟩
instance : TOne Try.prog 100 (.nilFunc) := ⟨by kernel_rfl, by kernel_rfl, rfl⟩
instance : TOne Try.prog 101 (.nilFunc) := ⟨by kernel_rfl, by kernel_rfl, rfl⟩
instance : TArr Try.prog 102 5 3 1 := ⟨by kernel_rfl, by kernel_rfl⟩
instance : TRow Try.prog 102 5 := ⟨by kernel_rfl, by kernel_rfl⟩
instance : TZero Try.prog 102 ([.int .i64 0, .int .i64 0, .int .i64 0, .int .i64 0, .int .i64 0]) := ⟨by kernel_rfl⟩
instance : TOne Try.prog 103 (.nilFunc) := ⟨by kernel_rfl, by kernel_rfl, rfl⟩
instance : TOne Try.prog 104 (.nilFunc) := ⟨by kernel_rfl, by kernel_rfl, rfl⟩
instance : TOne Try.prog 105 (.nilFunc) := ⟨by kernel_rfl, by kernel_rfl, rfl⟩
instance : TArr Try.prog 106 4 3 1 := ⟨by kernel_rfl, by kernel_rfl⟩
instance : TRow Try.prog 106 4 := ⟨by kernel_rfl, by kernel_rfl⟩
instance : TZero Try.prog 106 ([.int .i64 0, .int .i64 0, .int .i64 0, .int .i64 0]) := ⟨by kernel_rfl⟩
instance : TOne Try.prog 107 (.nilFunc) := ⟨by kernel_rfl, by kernel_rfl, rfl⟩
instance : TField Try.prog 108 0 0 1 := ⟨_, _, Try.underlying108, rfl, rfl, by kernel_rfl, by decide⟩
instance : TField Try.prog 108 1 1 1 := ⟨_, _, Try.underlying108, rfl, rfl, by kernel_rfl, by decide⟩
instance : TField Try.prog 108 2 2 1 := ⟨_, _, Try.underlying108, rfl, rfl, by kernel_rfl, by decide⟩
instance : TField Try.prog 108 3 3 1 := ⟨_, _, Try.underlying108, rfl, rfl, by kernel_rfl, by decide⟩
instance : TRow Try.prog 108 4 := ⟨by kernel_rfl, by kernel_rfl⟩
instance : TZero Try.prog 108 ([.pointer none, .pointer none, .pointer none, str []]) := ⟨by kernel_rfl⟩
instance : TField Try.prog 109 0 0 1 := ⟨_, _, Try.underlying109, rfl, rfl, by kernel_rfl, by decide⟩
instance : TField Try.prog 109 1 1 1 := ⟨_, _, Try.underlying109, rfl, rfl, by kernel_rfl, by decide⟩
instance : TField Try.prog 109 2 2 1 := ⟨_, _, Try.underlying109, rfl, rfl, by kernel_rfl, by decide⟩
instance : TField Try.prog 109 3 3 1 := ⟨_, _, Try.underlying109, rfl, rfl, by kernel_rfl, by decide⟩
instance : TRow Try.prog 109 4 := ⟨by kernel_rfl, by kernel_rfl⟩
instance : TZero Try.prog 109 ([.pointer none, .pointer none, .pointer none, str []]) := ⟨by kernel_rfl⟩
instance : TArr Try.prog 110 0 16 1 := ⟨by kernel_rfl, by kernel_rfl⟩
instance : TRow Try.prog 110 0 := ⟨by kernel_rfl, by kernel_rfl⟩
instance : TZero Try.prog 110 ([]) := ⟨by kernel_rfl⟩
instance : TRow Try.prog 111 0 := ⟨by kernel_rfl, by kernel_rfl⟩
instance : TZero Try.prog 111 ([]) := ⟨by kernel_rfl⟩
instance : TRow Try.prog 112 0 := ⟨by kernel_rfl, by kernel_rfl⟩
instance : TZero Try.prog 112 ([]) := ⟨by kernel_rfl⟩
instance : TInt Try.prog 113 .u8 := ⟨by kernel_rfl⟩
instance : TOne Try.prog 113 (.int .u8 0) := ⟨by kernel_rfl, by kernel_rfl, rfl⟩
instance : TInt Try.prog 114 .u8 := ⟨by kernel_rfl⟩
instance : TOne Try.prog 114 (.int .u8 0) := ⟨by kernel_rfl, by kernel_rfl, rfl⟩
instance : TOne Try.prog 115 (.nilFunc) := ⟨by kernel_rfl, by kernel_rfl, rfl⟩
instance : TPtr Try.prog 116 5 := ⟨by kernel_rfl⟩
instance : TOne Try.prog 116 (.pointer none) := ⟨by kernel_rfl, by kernel_rfl, rfl⟩
instance : TInt Try.prog 117 .i32 := ⟨by kernel_rfl⟩
instance : TOne Try.prog 117 (.int .i32 0) := ⟨by kernel_rfl, by kernel_rfl, rfl⟩
instance : TInt Try.prog 118 .i32 := ⟨by kernel_rfl⟩
instance : TOne Try.prog 118 (.int .i32 0) := ⟨by kernel_rfl, by kernel_rfl, rfl⟩
instance : TField Try.prog 119 0 0 1 := ⟨_, _, Try.underlying119, rfl, rfl, by kernel_rfl, by decide⟩
instance : TField Try.prog 119 1 1 1 := ⟨_, _, Try.underlying119, rfl, rfl, by kernel_rfl, by decide⟩
instance : TField Try.prog 119 2 2 1 := ⟨_, _, Try.underlying119, rfl, rfl, by kernel_rfl, by decide⟩
instance : TField Try.prog 119 3 3 1 := ⟨_, _, Try.underlying119, rfl, rfl, by kernel_rfl, by decide⟩
instance : TField Try.prog 119 4 4 1 := ⟨_, _, Try.underlying119, rfl, rfl, by kernel_rfl, by decide⟩
instance : TField Try.prog 119 5 5 1 := ⟨_, _, Try.underlying119, rfl, rfl, by kernel_rfl, by decide⟩
instance : TField Try.prog 119 6 6 1 := ⟨_, _, Try.underlying119, rfl, rfl, by kernel_rfl, by decide⟩
instance : TField Try.prog 119 7 7 1 := ⟨_, _, Try.underlying119, rfl, rfl, by kernel_rfl, by decide⟩
instance : TField Try.prog 119 8 8 1 := ⟨_, _, Try.underlying119, rfl, rfl, by kernel_rfl, by decide⟩
instance : TField Try.prog 119 9 9 1 := ⟨_, _, Try.underlying119, rfl, rfl, by kernel_rfl, by decide⟩
instance : TField Try.prog 119 10 10 1 := ⟨_, _, Try.underlying119, rfl, rfl, by kernel_rfl, by decide⟩
instance : TRow Try.prog 119 11 := ⟨by kernel_rfl, by kernel_rfl⟩
instance : TZero Try.prog 119 ([.int .u64 0, .int .u64 0, .int .u32 0, .int .u8 0, .int .u8 0, .int .u8 0, .int .u8 0, .nilFunc, .pointer none, .int .i32 0, .int .i32 0]) := ⟨by kernel_rfl⟩
instance : TField Try.prog 120 0 0 1 := ⟨_, _, Try.underlying120, rfl, rfl, by kernel_rfl, by decide⟩
instance : TField Try.prog 120 1 1 1 := ⟨_, _, Try.underlying120, rfl, rfl, by kernel_rfl, by decide⟩
instance : TField Try.prog 120 2 2 1 := ⟨_, _, Try.underlying120, rfl, rfl, by kernel_rfl, by decide⟩
instance : TField Try.prog 120 3 3 1 := ⟨_, _, Try.underlying120, rfl, rfl, by kernel_rfl, by decide⟩
instance : TField Try.prog 120 4 4 1 := ⟨_, _, Try.underlying120, rfl, rfl, by kernel_rfl, by decide⟩
instance : TField Try.prog 120 5 5 1 := ⟨_, _, Try.underlying120, rfl, rfl, by kernel_rfl, by decide⟩
instance : TField Try.prog 120 6 6 1 := ⟨_, _, Try.underlying120, rfl, rfl, by kernel_rfl, by decide⟩
instance : TField Try.prog 120 7 7 1 := ⟨_, _, Try.underlying120, rfl, rfl, by kernel_rfl, by decide⟩
instance : TField Try.prog 120 8 8 1 := ⟨_, _, Try.underlying120, rfl, rfl, by kernel_rfl, by decide⟩
instance : TField Try.prog 120 9 9 1 := ⟨_, _, Try.underlying120, rfl, rfl, by kernel_rfl, by decide⟩
instance : TField Try.prog 120 10 10 1 := ⟨_, _, Try.underlying120, rfl, rfl, by kernel_rfl, by decide⟩
instance : TRow Try.prog 120 11 := ⟨by kernel_rfl, by kernel_rfl⟩
instance : TZero Try.prog 120 ([.int .u64 0, .int .u64 0, .int .u32 0, .int .u8 0, .int .u8 0, .int .u8 0, .int .u8 0, .nilFunc, .pointer none, .int .i32 0, .int .i32 0]) := ⟨by kernel_rfl⟩
instance : TOne Try.prog 121 (.nilFunc) := ⟨by kernel_rfl, by kernel_rfl, rfl⟩
instance : TOne Try.prog 122 (.nilFunc) := ⟨by kernel_rfl, by kernel_rfl, rfl⟩
instance : TOne Try.prog 123 (.nilFunc) := ⟨by kernel_rfl, by kernel_rfl, rfl⟩
instance : TOne Try.prog 125 (.nilFunc) := ⟨by kernel_rfl, by kernel_rfl, rfl⟩
instance : TPtr Try.prog 126 146 := ⟨by kernel_rfl⟩
instance : TOne Try.prog 126 (.pointer none) := ⟨by kernel_rfl, by kernel_rfl, rfl⟩
instance : TOne Try.prog 128 (.nilFunc) := ⟨by kernel_rfl, by kernel_rfl, rfl⟩
instance : TOne Try.prog 129 (.nilFunc) := ⟨by kernel_rfl, by kernel_rfl, rfl⟩
instance : TArr Try.prog 130 12 5 1 := ⟨by kernel_rfl, by kernel_rfl⟩
instance : TRow Try.prog 130 12 := ⟨by kernel_rfl, by kernel_rfl⟩
instance : TZero Try.prog 130 ([.int .u8 0, .int .u8 0, .int .u8 0, .int .u8 0, .int .u8 0, .int .u8 0, .int .u8 0, .int .u8 0, .int .u8 0, .int .u8 0, .int .u8 0, .int .u8 0]) := ⟨by kernel_rfl⟩
instance : TPtr Try.prog 131 137 := ⟨by kernel_rfl⟩
instance : TOne Try.prog 131 (.pointer none) := ⟨by kernel_rfl, by kernel_rfl, rfl⟩
instance : TOne Try.prog 132 (.nilFunc) := ⟨by kernel_rfl, by kernel_rfl, rfl⟩
instance : TOne Try.prog 133 (.nilFunc) := ⟨by kernel_rfl, by kernel_rfl, rfl⟩
instance : TPtr Try.prog 134 152 := ⟨by kernel_rfl⟩
instance : TOne Try.prog 134 (.pointer none) := ⟨by kernel_rfl, by kernel_rfl, rfl⟩
instance : TArr Try.prog 135 64 5 1 := ⟨by kernel_rfl, by kernel_rfl⟩
instance : TRow Try.prog 135 64 := ⟨by kernel_rfl, by kernel_rfl⟩
instance : TZero Try.prog 135 (List.replicate 64 (.int .u8 0)) := ⟨by kernel_rfl⟩
instance : TField Try.prog 136 0 0 1 := ⟨_, _, Try.underlying136, rfl, rfl, by kernel_rfl, by decide⟩
instance : TField Try.prog 136 1 1 64 := ⟨_, _, Try.underlying136, rfl, rfl, by kernel_rfl, by decide⟩
instance : TRow Try.prog 136 65 := ⟨by kernel_rfl, by kernel_rfl⟩
instance : TZero Try.prog 136 ([.pointer none] ++ (List.replicate 64 (.int .u8 0))) := ⟨by kernel_rfl⟩
instance : TField Try.prog 137 0 0 1 := ⟨_, _, Try.underlying137, rfl, rfl, by kernel_rfl, by decide⟩
instance : TField Try.prog 137 1 1 64 := ⟨_, _, Try.underlying137, rfl, rfl, by kernel_rfl, by decide⟩
instance : TPlaces Try.prog 137 [(0, 1), (1, 64)] ([.pointer none] ++ (List.replicate 64 (.int .u8 0))) := ⟨⟨_, Try.underlying137, fun w => by simp [run_size (P := Try.prog) (t := 134) (n := 1) (by kernel_rfl), run_size (P := Try.prog) (t := 135) (n := 64) (by kernel_rfl)]⟩, by kernel_rfl⟩
instance : TRow Try.prog 137 65 := ⟨by kernel_rfl, by kernel_rfl⟩
instance : TZero Try.prog 137 ([.pointer none] ++ (List.replicate 64 (.int .u8 0))) := ⟨by kernel_rfl⟩
instance : TOne Try.prog 138 (.nilFunc) := ⟨by kernel_rfl, by kernel_rfl, rfl⟩
instance : TOne Try.prog 139 (.nilFunc) := ⟨by kernel_rfl, by kernel_rfl, rfl⟩
instance : TPtr Try.prog 140 156 := ⟨by kernel_rfl⟩
instance : TOne Try.prog 140 (.pointer none) := ⟨by kernel_rfl, by kernel_rfl, rfl⟩
instance : TOne Try.prog 142 (.nilFunc) := ⟨by kernel_rfl, by kernel_rfl, rfl⟩
instance : TArr Try.prog 143 16 5 1 := ⟨by kernel_rfl, by kernel_rfl⟩
instance : TRow Try.prog 143 16 := ⟨by kernel_rfl, by kernel_rfl⟩
instance : TZero Try.prog 143 ([.int .u8 0, .int .u8 0, .int .u8 0, .int .u8 0, .int .u8 0, .int .u8 0, .int .u8 0, .int .u8 0, .int .u8 0, .int .u8 0, .int .u8 0, .int .u8 0, .int .u8 0, .int .u8 0, .int .u8 0, .int .u8 0]) := ⟨by kernel_rfl⟩
instance : TOne Try.prog 144 (.nilFunc) := ⟨by kernel_rfl, by kernel_rfl, rfl⟩
instance : TField Try.prog 145 0 0 1 := ⟨_, _, Try.underlying145, rfl, rfl, by kernel_rfl, by decide⟩
instance : TField Try.prog 145 1 1 16 := ⟨_, _, Try.underlying145, rfl, rfl, by kernel_rfl, by decide⟩
instance : TRow Try.prog 145 17 := ⟨by kernel_rfl, by kernel_rfl⟩
instance : TZero Try.prog 145 ([.pointer none, .int .u8 0, .int .u8 0, .int .u8 0, .int .u8 0, .int .u8 0, .int .u8 0, .int .u8 0, .int .u8 0, .int .u8 0, .int .u8 0, .int .u8 0, .int .u8 0, .int .u8 0, .int .u8 0, .int .u8 0, .int .u8 0]) := ⟨by kernel_rfl⟩
instance : TField Try.prog 146 0 0 1 := ⟨_, _, Try.underlying146, rfl, rfl, by kernel_rfl, by decide⟩
instance : TField Try.prog 146 1 1 16 := ⟨_, _, Try.underlying146, rfl, rfl, by kernel_rfl, by decide⟩
instance : TPlaces Try.prog 146 [(0, 1), (1, 16)] ([.pointer none, .int .u8 0, .int .u8 0, .int .u8 0, .int .u8 0, .int .u8 0, .int .u8 0, .int .u8 0, .int .u8 0, .int .u8 0, .int .u8 0, .int .u8 0, .int .u8 0, .int .u8 0, .int .u8 0, .int .u8 0, .int .u8 0]) := ⟨⟨_, Try.underlying146, fun w => by simp [run_size (P := Try.prog) (t := 140) (n := 1) (by kernel_rfl), run_size (P := Try.prog) (t := 143) (n := 16) (by kernel_rfl)]⟩, by kernel_rfl⟩
instance : TRow Try.prog 146 17 := ⟨by kernel_rfl, by kernel_rfl⟩
instance : TZero Try.prog 146 ([.pointer none, .int .u8 0, .int .u8 0, .int .u8 0, .int .u8 0, .int .u8 0, .int .u8 0, .int .u8 0, .int .u8 0, .int .u8 0, .int .u8 0, .int .u8 0, .int .u8 0, .int .u8 0, .int .u8 0, .int .u8 0, .int .u8 0]) := ⟨by kernel_rfl⟩
instance : TOne Try.prog 147 (.nilFunc) := ⟨by kernel_rfl, by kernel_rfl, rfl⟩
instance : TOne Try.prog 148 (.nilFunc) := ⟨by kernel_rfl, by kernel_rfl, rfl⟩
instance : TOne Try.prog 149 (.nilFunc) := ⟨by kernel_rfl, by kernel_rfl, rfl⟩
instance : TArr Try.prog 150 8 78 1 := ⟨by kernel_rfl, by kernel_rfl⟩
instance : TRow Try.prog 150 8 := ⟨by kernel_rfl, by kernel_rfl⟩
instance : TZero Try.prog 150 ([.int .u32 0, .int .u32 0, .int .u32 0, .int .u32 0, .int .u32 0, .int .u32 0, .int .u32 0, .int .u32 0]) := ⟨by kernel_rfl⟩
instance : TField Try.prog 151 0 0 8 := ⟨_, _, Try.underlying151, rfl, rfl, by kernel_rfl, by decide⟩
instance : TField Try.prog 151 1 8 64 := ⟨_, _, Try.underlying151, rfl, rfl, by kernel_rfl, by decide⟩
instance : TField Try.prog 151 2 72 1 := ⟨_, _, Try.underlying151, rfl, rfl, by kernel_rfl, by decide⟩
instance : TField Try.prog 151 3 73 1 := ⟨_, _, Try.underlying151, rfl, rfl, by kernel_rfl, by decide⟩
instance : TRow Try.prog 151 74 := ⟨by kernel_rfl, by kernel_rfl⟩
instance : TZero Try.prog 151 ([.int .u32 0, .int .u32 0, .int .u32 0, .int .u32 0, .int .u32 0, .int .u32 0, .int .u32 0, .int .u32 0] ++ (List.replicate 64 (.int .u8 0) ++ ([.int .i64 0, .int .u64 0]))) := ⟨by kernel_rfl⟩
instance : TField Try.prog 152 0 0 8 := ⟨_, _, Try.underlying152, rfl, rfl, by kernel_rfl, by decide⟩
instance : TField Try.prog 152 1 8 64 := ⟨_, _, Try.underlying152, rfl, rfl, by kernel_rfl, by decide⟩
instance : TField Try.prog 152 2 72 1 := ⟨_, _, Try.underlying152, rfl, rfl, by kernel_rfl, by decide⟩
instance : TField Try.prog 152 3 73 1 := ⟨_, _, Try.underlying152, rfl, rfl, by kernel_rfl, by decide⟩
instance : TPlaces Try.prog 152 [(0, 8), (8, 64), (72, 1), (73, 1)] ([.int .u32 0, .int .u32 0, .int .u32 0, .int .u32 0, .int .u32 0, .int .u32 0, .int .u32 0, .int .u32 0] ++ (List.replicate 64 (.int .u8 0) ++ ([.int .i64 0, .int .u64 0]))) := ⟨⟨_, Try.underlying152, fun w => by simp [run_size (P := Try.prog) (t := 3) (n := 1) (by kernel_rfl), run_size (P := Try.prog) (t := 93) (n := 1) (by kernel_rfl), run_size (P := Try.prog) (t := 135) (n := 64) (by kernel_rfl), run_size (P := Try.prog) (t := 150) (n := 8) (by kernel_rfl)]⟩, by kernel_rfl⟩
instance : TRow Try.prog 152 74 := ⟨by kernel_rfl, by kernel_rfl⟩
instance : TZero Try.prog 152 ([.int .u32 0, .int .u32 0, .int .u32 0, .int .u32 0, .int .u32 0, .int .u32 0, .int .u32 0, .int .u32 0] ++ (List.replicate 64 (.int .u8 0) ++ ([.int .i64 0, .int .u64 0]))) := ⟨by kernel_rfl⟩
instance : TOne Try.prog 153 (.nilFunc) := ⟨by kernel_rfl, by kernel_rfl, rfl⟩
instance : TSlice Try.prog 154 143 16 16 (zeroOf Try.prog 143) := ⟨by kernel_rfl, by kernel_rfl, by kernel_rfl⟩
instance : TOne Try.prog 154 (.slice none 0 0) := ⟨by kernel_rfl, by kernel_rfl, rfl⟩
instance : TField Try.prog 155 0 0 1 := ⟨_, _, Try.underlying155, rfl, rfl, by kernel_rfl, by decide⟩
instance : TRow Try.prog 155 1 := ⟨by kernel_rfl, by kernel_rfl⟩
instance : TZero Try.prog 155 ([.slice none 0 0]) := ⟨by kernel_rfl⟩
instance : TField Try.prog 156 0 0 1 := ⟨_, _, Try.underlying156, rfl, rfl, by kernel_rfl, by decide⟩
instance : TPlaces Try.prog 156 [(0, 1)] ([.slice none 0 0]) := ⟨⟨_, Try.underlying156, fun w => by simp [run_size (P := Try.prog) (t := 154) (n := 1) (by kernel_rfl)]⟩, by kernel_rfl⟩
instance : TRow Try.prog 156 1 := ⟨by kernel_rfl, by kernel_rfl⟩
instance : TZero Try.prog 156 ([.slice none 0 0]) := ⟨by kernel_rfl⟩
instance : TOne Try.prog 157 (.nilFunc) := ⟨by kernel_rfl, by kernel_rfl, rfl⟩
instance : TOne Try.prog 158 (.nilFunc) := ⟨by kernel_rfl, by kernel_rfl, rfl⟩
instance : TOne Try.prog 159 (.nilFunc) := ⟨by kernel_rfl, by kernel_rfl, rfl⟩
instance : TPtr Try.prog 160 150 := ⟨by kernel_rfl⟩
instance : TOne Try.prog 160 (.pointer none) := ⟨by kernel_rfl, by kernel_rfl, rfl⟩
instance : TOne Try.prog 161 (.nilFunc) := ⟨by kernel_rfl, by kernel_rfl, rfl⟩
instance : TOne Try.prog 162 (.nilFunc) := ⟨by kernel_rfl, by kernel_rfl, rfl⟩
instance : TOne Try.prog 163 (.nilFunc) := ⟨by kernel_rfl, by kernel_rfl, rfl⟩
instance : TPtr Try.prog 164 143 := ⟨by kernel_rfl⟩
instance : TOne Try.prog 164 (.pointer none) := ⟨by kernel_rfl, by kernel_rfl, rfl⟩
instance : TPtr Try.prog 165 170 := ⟨by kernel_rfl⟩
instance : TOne Try.prog 165 (.pointer none) := ⟨by kernel_rfl, by kernel_rfl, rfl⟩
instance : TOne Try.prog 166 (.nilFunc) := ⟨by kernel_rfl, by kernel_rfl, rfl⟩
instance : TOne Try.prog 167 (.nilFunc) := ⟨by kernel_rfl, by kernel_rfl, rfl⟩
instance : TOne Try.prog 168 (.nilFunc) := ⟨by kernel_rfl, by kernel_rfl, rfl⟩
instance : TField Try.prog 169 0 0 16 := ⟨_, _, Try.underlying169, rfl, rfl, by kernel_rfl, by decide⟩
instance : TField Try.prog 169 1 16 16 := ⟨_, _, Try.underlying169, rfl, rfl, by kernel_rfl, by decide⟩
instance : TRow Try.prog 169 32 := ⟨by kernel_rfl, by kernel_rfl⟩
instance : TZero Try.prog 169 (List.replicate 32 (.int .u8 0)) := ⟨by kernel_rfl⟩
instance : TField Try.prog 170 0 0 16 := ⟨_, _, Try.underlying170, rfl, rfl, by kernel_rfl, by decide⟩
instance : TField Try.prog 170 1 16 16 := ⟨_, _, Try.underlying170, rfl, rfl, by kernel_rfl, by decide⟩
instance : TPlaces Try.prog 170 [(0, 16), (16, 16)] (List.replicate 32 (.int .u8 0)) := ⟨⟨_, Try.underlying170, fun w => by simp [run_size (P := Try.prog) (t := 143) (n := 16) (by kernel_rfl)]⟩, by kernel_rfl⟩
instance : TRow Try.prog 170 32 := ⟨by kernel_rfl, by kernel_rfl⟩
instance : TZero Try.prog 170 (List.replicate 32 (.int .u8 0)) := ⟨by kernel_rfl⟩
instance : TOne Try.prog 171 (.nilFunc) := ⟨by kernel_rfl, by kernel_rfl, rfl⟩
instance : TArr Try.prog 172 8 5 1 := ⟨by kernel_rfl, by kernel_rfl⟩
instance : TRow Try.prog 172 8 := ⟨by kernel_rfl, by kernel_rfl⟩
instance : TZero Try.prog 172 ([.int .u8 0, .int .u8 0, .int .u8 0, .int .u8 0, .int .u8 0, .int .u8 0, .int .u8 0, .int .u8 0]) := ⟨by kernel_rfl⟩
instance : TOne Try.prog 174 (.nilFunc) := ⟨by kernel_rfl, by kernel_rfl, rfl⟩
instance : TOne Try.prog 175 (.pointer none) := ⟨by kernel_rfl, by kernel_rfl, rfl⟩
instance : TOne Try.prog 176 (.nilFunc) := ⟨by kernel_rfl, by kernel_rfl, rfl⟩
instance : TOne Try.prog 177 (.nilFunc) := ⟨by kernel_rfl, by kernel_rfl, rfl⟩
instance : TOne Try.prog 178 (.nilFunc) := ⟨by kernel_rfl, by kernel_rfl, rfl⟩
end Go.Proofs.Ytjofjkjghakcoaa

/- The writer of bytes (package code); pieces: a slice of slices of bytes. -/
namespace Go.Proofs.Ytjofjkjghakcoaa
open Go.RowKit
/-! ### Pieces -/
def slv (qs : List (Option Addr × Nat)) (ps : List Bs) : List Value := List.zipWith (fun q p => .slice q.1 p.length q.2) qs ps
/-- The slice reads as slices that read as these bytes. -/
structure PsIn (H : World → Prop) (v : Value) (ps : List Bs) (qs : List (Option Addr × Nat)) : Prop where
  len : qs.length = ps.length
  row : HasR H v ps.length (slv qs ps)
  each : ∀ (i : Nat) (q : Option Addr × Nat) (p : Bs), qs[i]? = some q → ps[i]? = some p → HasR H (.slice q.1 p.length q.2) p.length (bvs p)
def Ps (H : World → Prop) (v : Value) (ps : List Bs) : Prop := ∃ qs, PsIn H v ps qs
section
variable {c : Con} {L : List HP} {A : HP} {H : World → Prop} {v : Value} {ps : List Bs} {qs : List (Option Addr × Nat)}
theorem PsIn.tl (h : PsIn (St c L) v ps qs) : PsIn (St c (A :: L)) v ps qs := ⟨h.len, hasR_tl h.row, fun i q p hq hp => hasR_tl (h.each i q p hq hp)⟩
theorem Ps.tl (h : Ps (St c L) v ps) : Ps (St c (A :: L)) v ps := h.imp fun _ h => h.tl
theorem PsIn.get (h : PsIn H v ps qs) {i : Nat} {p : Bs} (hp : ps[i]? = some p) : ∃ q, qs[i]? = some q ∧ (slv qs ps)[i]? = some (.slice q.1 p.length q.2) ∧ HasR H (.slice q.1 p.length q.2) p.length (bvs p) := by
  have hi : i < qs.length := by rw [h.len]; exact (List.getElem?_eq_some_iff.1 hp).1
  refine ⟨qs[i], List.getElem?_eq_getElem hi, ?_, h.each i _ p (List.getElem?_eq_getElem hi) hp⟩
  unfold slv
  rw [List.getElem?_zipWith, List.getElem?_eq_getElem hi, hp]
theorem Ps.nil : Ps H (.slice none 0 0) [] := ⟨[], rfl, fun _ _ => ⟨rfl, .inl ⟨rfl, rfl⟩⟩, fun _ _ _ h => by cases h⟩
theorem Ps.one {b T cap : Nat} {A : Option Addr} {n k : Nat} {p : Bs} (hc : Has H b (.cells [Value.slice A n k].toArray T (0, 0))) (h : HasR H (.slice A n k) n (bvs p)) (hn : p.length = n) (h1 : 1 ≤ cap ∧ cap ≤ 9223372036854775807) : Ps H (.slice (some ⟨b, 0, none⟩) 1 cap) [p] := by
  subst hn
  refine ⟨[(A, k)], rfl, reads_has (cs := [Value.slice A p.length k]) (hasCells_all hc) rfl h1.1 h1.2, fun i q p' hq hp => ?_⟩
  cases i with
  | zero => cases hq; cases hp; exact h
  | succ i => cases hq
theorem PsIn.cons {b T cap m : Nat} {l : List Value} {ps : List Bs} {qs : List (Option Addr × Nat)} (hc : Has H b (.cells l.toArray T (0, 0))) (hl : l = slv qs ps) (hq : qs.length = ps.length) (hm : ps.length = m) (h1 : m ≤ cap ∧ cap ≤ 9223372036854775807)
    (h : ∀ (i : Nat) (q : Option Addr × Nat) (p : Bs), qs[i]? = some q → ps[i]? = some p → HasR H (.slice q.1 p.length q.2) p.length (bvs p)) : Ps H (.slice (some ⟨b, 0, none⟩) m cap) ps := by
  subst hm hl
  refine ⟨qs, hq, reads_has (hasCells_all hc) (by simp [slv, hq]) h1.1 h1.2, h⟩
theorem Ps.two {b T cap : Nat} {A1 A2 : Option Addr} {n1 k1 n2 k2 : Nat} {p1 p2 : Bs} (hc : Has H b (.cells [Value.slice A1 n1 k1, .slice A2 n2 k2].toArray T (0, 0))) (h1 : HasR H (.slice A1 n1 k1) n1 (bvs p1)) (h2 : HasR H (.slice A2 n2 k2) n2 (bvs p2)) (hn1 : p1.length = n1) (hn2 : p2.length = n2) (hcap : 2 ≤ cap ∧ cap ≤ 9223372036854775807) : Ps H (.slice (some ⟨b, 0, none⟩) 2 cap) [p1, p2] := by
  subst hn1 hn2
  refine PsIn.cons (qs := [(A1, k1), (A2, k2)]) hc rfl rfl rfl hcap fun i q p hq hp => ?_
  rcases i with _ | _ | i
  · cases hq; cases hp; exact h1
  · cases hq; cases hp; exact h2
  · cases hq
theorem Ps.three {b T cap : Nat} {A1 A2 A3 : Option Addr} {n1 k1 n2 k2 n3 k3 : Nat} {p1 p2 p3 : Bs} (hc : Has H b (.cells [Value.slice A1 n1 k1, .slice A2 n2 k2, .slice A3 n3 k3].toArray T (0, 0))) (h1 : HasR H (.slice A1 n1 k1) n1 (bvs p1)) (h2 : HasR H (.slice A2 n2 k2) n2 (bvs p2)) (h3 : HasR H (.slice A3 n3 k3) n3 (bvs p3)) (hn1 : p1.length = n1) (hn2 : p2.length = n2) (hn3 : p3.length = n3) (hcap : 3 ≤ cap ∧ cap ≤ 9223372036854775807) : Ps H (.slice (some ⟨b, 0, none⟩) 3 cap) [p1, p2, p3] := by
  subst hn1 hn2 hn3
  refine PsIn.cons (qs := [(A1, k1), (A2, k2), (A3, k3)]) hc rfl rfl rfl hcap fun i q p hq hp => ?_
  rcases i with _ | _ | _ | i
  · cases hq; cases hp; exact h1
  · cases hq; cases hp; exact h2
  · cases hq; cases hp; exact h3
  · cases hq
theorem Ps.four {b T cap : Nat} {A1 A2 A3 A4 : Option Addr} {n1 k1 n2 k2 n3 k3 n4 k4 : Nat} {p1 p2 p3 p4 : Bs} (hc : Has H b (.cells [Value.slice A1 n1 k1, .slice A2 n2 k2, .slice A3 n3 k3, .slice A4 n4 k4].toArray T (0, 0))) (h1 : HasR H (.slice A1 n1 k1) n1 (bvs p1)) (h2 : HasR H (.slice A2 n2 k2) n2 (bvs p2)) (h3 : HasR H (.slice A3 n3 k3) n3 (bvs p3)) (h4 : HasR H (.slice A4 n4 k4) n4 (bvs p4)) (hn1 : p1.length = n1) (hn2 : p2.length = n2) (hn3 : p3.length = n3) (hn4 : p4.length = n4) (hcap : 4 ≤ cap ∧ cap ≤ 9223372036854775807) : Ps H (.slice (some ⟨b, 0, none⟩) 4 cap) [p1, p2, p3, p4] := by
  subst hn1 hn2 hn3 hn4
  refine PsIn.cons (qs := [(A1, k1), (A2, k2), (A3, k3), (A4, k4)]) hc rfl rfl rfl hcap fun i q p hq hp => ?_
  rcases i with _ | _ | _ | _ | i
  · cases hq; cases hp; exact h1
  · cases hq; cases hp; exact h2
  · cases hq; cases hp; exact h3
  · cases hq; cases hp; exact h4
  · cases hq
end
/-! ### The writer -/
/-- The writer p has written l. -/
def WrAt (p : Nat) (l : Bs) : HP := Ex fun q : Option Addr × Nat => Join [Bl p 69 [.slice q.1 l.length q.2], OwnP 5 1 (.slice q.1 l.length q.2) l.length (bvs l)]
attribute [local irreducible] Y OW YK OWK W WL WP X CV GvL GvP Ev Evs HasCell HasCells Has Met Again Kept
section
variable {c : Con} {F : List HP} {w : World} {p : Nat}
theorem St.openWr {l : Bs} (H : St c (WrAt p l :: F) w) : ∃ q : Option Addr × Nat, St c (Bl p 69 [.slice q.1 l.length q.2] :: OwnP 5 1 (.slice q.1 l.length q.2) l.length (bvs l) :: F) w := by
  obtain ⟨q, H⟩ := St.ex H
  exact ⟨q, St.join.1 H⟩
theorem St.shutWr {l : Bs} {A : Option Addr} {n cap : Nat} (hn : l.length = n) (H : St c (Bl p 69 [.slice A n cap] :: OwnP 5 1 (.slice A n cap) n (bvs l) :: F) w) : St c (WrAt p l :: F) w := by
  subst hn
  exact St.toEx (A := fun q : Option Addr × Nat => Join [Bl p 69 [.slice q.1 l.length q.2], OwnP 5 1 (.slice q.1 l.length q.2) l.length (bvs l)]) (A, cap) (St.join.2 H)
theorem St.newWr {b : Nat} (H : St c (Bl b 69 [.slice none 0 0] :: F) w) : St c (WrAt b [] :: F) w := by
  obtain ⟨h, a, l, r⟩ := H.stars
  refine St.shutWr (l := []) rfl ⟨H.con, h, a, l, fun _ => none, ⟨rfl, .inl ⟨rfl, rfl⟩⟩, fun _ _ e => (by cases e), r.mono (fun _ k => ⟨k, rfl⟩) fun _ _ _ e => e⟩
theorem w_byte {l ds l' : Bs} {A : Option Addr} {n cap : Nat} (hr : HasR (St c F) (.slice A n cap) n (bvs ds)) (hl : l ++ ds = l') (hs : l'.length ≤ 1099511627776) (H : St c (WrAt p l :: F) w) : Calls Try.prog 40 #[.pointer (some ⟨p, 0, none⟩), .slice A n cap] w fun e w' => e = .returned (.tuple #[]) ∧ St c (WrAt p l' :: F) w' := by
  obtain ⟨⟨B, k⟩, H⟩ := H.openWr
  have hn : ds.length = n := by obtain ⟨h1, -⟩ := hr w H.tail.tail; rw [bvs_length] at h1; omega
  subst hl
  rw [List.length_append] at hs
  have h1 := bvs_oneCell ds
  have hk : l.length + n = (l ++ ds).length := by rw [List.length_append]; omega
  have he : bvs l ++ bvs ds = bvs (l ++ ds) := (bvs_append _ _).symm
  have hb : (l ++ ds).length ≤ 9223372036854775807 ∧ (l ++ ds).length * 1 ≤ 140737488355328 := by rw [List.length_append]; omega
  generalize hl2 : l ++ ds = l2 at *
  refine calls_w (vs := [.pointer (some ⟨p, 0, none⟩), .slice A n cap]) Try.func40 rfl rfl rfl ?_ w H
  (repeat' (first
      | ((with_reducible refine at_builtinO (b := .append) ?_); with_reducible refine owk (ow_appendR (ev_tmp rfl) (ev_tmp rfl) (hasR_tl (hasR_tl hr)) h1 hk he hb pick_auto) (fun q => ?_))
      | (with_reducible refine is_yk ?_; refine yk_auto (k := ?_))
      | (with_reducible refine is_owk0 ?_; refine owk0_auto (k := ?_))
      | (with_reducible refine is_owkc ?_; refine owk_auto (k := fun _ => ?_))
      | refine go1 (k := ?_)
      | (refine go2 (ka := ?_) (kb := ?_) <;> intro _)
      | fail))
  exact x_end0 rfl (fun w H => ⟨rfl, St.shutWr rfl (Sel.st (.cons (.tl .hd) (.cons .hd sel_all)) H)⟩)
theorem w_bytes {l : Bs} {n : Nat} (hn : l.length = n) (hs : n ≤ 1099511627776) (H : St c (WrAt p l :: F) w) : Calls Try.prog 27 #[.pointer (some ⟨p, 0, none⟩)] w fun e w' =>
    ∃ q : Option Addr × Nat, e = .returned (.slice q.1 n q.2) ∧ St c (OwnP 5 1 (.slice q.1 n q.2) n (bvs l) :: WrAt p l :: F) w' := by
  subst hn
  obtain ⟨⟨B, k⟩, H⟩ := H.openWr
  have h1 := bvs_oneCell l
  have hb : l.length ≤ 9223372036854775807 ∧ l.length * 1 ≤ 140737488355328 := by omega
  refine calls_w (vs := [.pointer (some ⟨p, 0, none⟩)]) Try.func27 rfl rfl rfl ?_ w H
  (repeat' (first
      | ((with_reducible refine at_builtinO (b := .append) ?_); with_reducible refine owk (ow_appendR0 ev_const (ev_tmp rfl) (hasR_tl hasR_own) h1 (by omega)) (fun q => ?_))
      | (with_reducible refine is_yk ?_; refine yk_auto (k := ?_))
      | (with_reducible refine is_owk0 ?_; refine owk0_auto (k := ?_))
      | (with_reducible refine is_owkc ?_; refine owk_auto (k := fun _ => ?_))
      | refine go1 (k := ?_)
      | (refine go2 (ka := ?_) (kb := ?_) <;> intro _)
      | fail))
  exact x_ret1 rfl rfl (fun w H => ⟨_, rfl, (St.shutWr rfl H.pull2.pull2).swap⟩)
end
end Go.Proofs.Ytjofjkjghakcoaa

/- The writer of bytes (package code): numbers, texts. -/
namespace Go.Proofs.Ytjofjkjghakcoaa
open Go.RowKit
def i64s (l : List Int) : List Value := l.map fun n => .int .i64 n
theorem i64s_get {l : List Int} {i : Nat} (h : i < l.length) : (i64s l)[i]? = some (.int .i64 l[i]) := by simp [i64s, h]
theorem i64s_length (l : List Int) : (i64s l).length = l.length := by simp [i64s]
def strs (l : List Bs) : List Value := l.map str
theorem strs_get {l : List Bs} {i : Nat} (h : i < l.length) : (strs l)[i]? = some (str l[i]) := by simp [strs, h]
theorem strs_length (l : List Bs) : (strs l).length = l.length := by simp [strs]
theorem u64_of (n : Int) : ∃ x : Nat, x < 18446744073709551616 ∧ (n % 18446744073709551616).toNat = x ∧ IntKind.u64.wrap n = (x : Int) := by
  refine ⟨(n % 18446744073709551616).toNat, by omega, rfl, ?_⟩
  show n % 18446744073709551616 = _
  omega
theorem leB_take : ∀ (k j x : Nat), j ≤ k → (leB k x).take j = leB j x
  | _, 0, _, _ => by simp [leB]
  | k + 1, j + 1, x, h => by rw [leB, leB, List.take_succ_cons, leB_take k j _ (by omega)]
theorem u8_of (x j : Nat) : IntKind.u8.wrap (((x / 256 ^ j : Nat)) : Int) = ((UInt8.ofNat (x / 256 ^ j % 256)).toNat : Int) := by
  have e : IntKind.u8.wrap (((x / 256 ^ j : Nat)) : Int) = ((x / 256 ^ j : Nat) : Int) % 256 := rfl
  rw [e, UInt8.toNat_ofNat']; omega
theorem shr_of (x j : Nat) {m : Int} (hj : m = ((8 * j : Nat) : Int)) : ((x : Int).fdiv (2 ^ m.toNat)) = ((x / 256 ^ j : Nat) : Int) := by
  have e : (2 : Int) ^ (8 * j) = ((256 ^ j : Nat) : Int) := by rw [Int.natCast_pow, show ((256 : Nat) : Int) = (2 : Int) ^ 8 from rfl, ← Int.pow_mul]
  rw [hj, Int.toNat_natCast, e, Int.fdiv_eq_ediv_of_nonneg _ (Int.natCast_nonneg _)]
  rfl
attribute [local irreducible] Y OW YK OWK W WL WP X CV GvL GvP Ev Evs HasCell HasCells Has Met Again Kept
section
variable {c : Con} {F : List HP} {w : World} {p : Nat}
theorem hasR_one {b T : Nat} {L : List HP} {x : UInt8} : HasR (St c (Bl b T (List.flatMap vcells [Value.int .u8 x.toNat]) :: L)) (.slice (some ⟨b, 0, none⟩) 1 1) 1 (bvs [x]) := reads_has (hasCells_bl has_hd rfl) rfl (by decide) (by decide)
set_option maxRecDepth 100000 in
theorem w_num {l l' : Bs} {ns : List Int} {A : Option Addr} {n cap : Nat} (hr : HasR (St c F) (.slice A n cap) n (i64s ns)) (hl : l ++ ns.flatMap num8 = l') (hs : l'.length ≤ 1099511627776) (H : St c (WrAt p l :: F) w) : Calls Try.prog 26 #[.pointer (some ⟨p, 0, none⟩), .slice A n cap] w fun e w' => e = .returned (.tuple #[]) ∧ St c (WrAt p l' :: F) w' := by
  subst hl
  have hR := hr w H.tail
  have hn : ns.length = n := by have := hR.1; rw [i64s_length] at this; omega
  have hA : 0 < n → ∃ ad, A = some ad := fun h0 => by
    rcases hR.2 with ⟨e, e2⟩ | ⟨a, k, e, _⟩
    · omega
    · cases e; exact ⟨a, rfl⟩
  have hn63 : n ≤ 9223372036854775807 := by
    obtain ⟨A', cap', e, h1, h2⟩ := hR.form
    omega
  have hfl : ∀ i, (ns.flatMap num8).length = (((ns.take i).flatMap num8)).length + ((ns.drop i).flatMap num8).length := fun i => by rw [← List.length_append, ← List.flatMap_append, List.take_append_drop]
  rw [List.length_append] at hs
  clear hR
  refine calls_w (vs := [.pointer (some ⟨p, 0, none⟩), .slice A n cap]) Try.func26 rfl rfl rfl ?_ w H
  (repeat' (first
      | (with_reducible refine is_yk ?_; refine yk_auto (k := ?_))
      | (with_reducible refine is_owk0 ?_; refine owk0_auto (k := ?_))
      | (with_reducible refine is_owkc ?_; refine owk_auto (k := fun _ => ?_))
      | refine go1 (k := ?_)
      | (refine go2 (ka := ?_) (kb := ?_) <;> intro _)
      | fail))
  refine w_loop (α := Nat) (fun i => i ≤ n) (fun i => [(9, .int .i64 (i : Int)), (8, .int .i64 (n : Int)), (7, .slice A n cap), (0, .pointer (some ⟨p, 0, none⟩))])
    (fun i => WrAt p (l ++ (ns.take i).flatMap num8) :: F) (fun i => n - i) 0 (Nat.zero_le _) sub_auto (by show Sel _ (WrAt p (l ++ []) :: F); rw [List.append_nil]; exact sel_auto) (fun i hi => ?_)
  by_cases hlt : i < n
  · obtain ⟨ad, rfl⟩ := hA (by omega)
    have hget := i64s_get (l := ns) (i := i) (by omega)
    have hsplit : ns.take (i + 1) = ns.take i ++ [ns[i]] := List.take_succ_eq_append_getElem (by omega)
    have hlen := hfl (i + 1)
    rw [hsplit, List.flatMap_append, List.length_append] at hlen
    generalize ns[i] = x at hget hsplit hlen
    have hx8 : ([x].flatMap num8) = num8 x := by simp
    rw [hx8, num8_length] at hlen
    (repeat' (first
      | (with_reducible refine at_load ?_; first | refine yk (y_load (ev_tmp rfl) (hasCell_tl (hasR_cell hr hget rfl))) ?_)
      | (with_reducible refine is_yk ?_; refine yk_auto (k := ?_))
      | (with_reducible refine is_owk0 ?_; refine owk0_auto (k := ?_))
      | (with_reducible refine is_owkc ?_; refine owk_auto (k := fun _ => ?_))
      | refine go1 (k := ?_)
      | (refine go2 (ka := ?_) (kb := ?_) <;> intro _)
      | fail))
    obtain ⟨X, hX, hX1, hX2⟩ := u64_of x
    generalize hL : l ++ (ns.take i).flatMap num8 = L at *
    have hLl : L.length + 8 ≤ 1099511627776 := by rw [← hL, List.length_append]; omega
    refine w_loop (α := Nat) (fun j => j ≤ 8) (fun j => [(13, .int .i64 (j : Int)), (5, .int .i64 x), (9, .int .i64 (i : Int)), (8, .int .i64 (n : Int)), (7, .slice (some ad) n cap), (0, .pointer (some ⟨p, 0, none⟩))])
      (fun j => WrAt p (L ++ leB j X) :: F) (fun j => 8 - j) 0 (Nat.zero_le _) sub_auto (by show Sel _ (WrAt p (L ++ []) :: F); rw [List.append_nil]; exact sel_auto) (fun j hj => ?_)
    by_cases hj8 : j < 8
    · have h1 := u8_of X j
      have h2 := shr_of X j (m := 8 * (j : Int)) (by omega)
      have h3 := leB_snoc j X
      have h4 := leB_length j X
      have h5 : (L ++ leB j X) ++ [UInt8.ofNat (X / 256 ^ j % 256)] = L ++ leB (j + 1) X := by rw [h3, List.append_assoc]
      have h6 : (L ++ leB (j + 1) X).length ≤ 1099511627776 := by rw [List.length_append, leB_length]; omega
      generalize X / 256 ^ j = y at h1 h2 h5
      generalize UInt8.ofNat (y % 256) = b at h1 h5
      (repeat' (first
      | ((with_reducible refine at_fn 40 ?_); with_reducible refine owk_c1 evs_auto (by kernel_rfl) pick_auto (fun w H => w_byte hasR_one h5 h6 H) ?_)
      | (with_reducible refine at_conv ?_; first | refine yk_eq (y_conv_int (ev_tmp rfl)) (congrArg _ hX2) ?_ | refine yk_eq (y_conv_int (ev_tmp rfl)) (congrArg _ h1) ?_)
      | (with_reducible refine at_bin ?_; first | refine yk_eq (y_shr (ev_tmp rfl) (ev_tmp rfl) (by omega) (by simp [IntKind.bits]; omega)) (congrArg _ h2) ?_)
      | (with_reducible refine is_yk ?_; refine yk_auto (k := ?_))
      | (with_reducible refine is_owk0 ?_; refine owk0_auto (k := ?_))
      | (with_reducible refine is_owkc ?_; refine owk_auto (k := fun _ => ?_))
      | refine go1 (k := ?_)
      | (refine go2 (ka := ?_) (kb := ?_) <;> intro _)
      | fail))
      exact x_again (j + 1) (by omega) (by omega) sub_auto sel_auto
    · have : j = 8 := by omega
      subst this
      have h7 : L ++ leB 8 X = l ++ (ns.take (i + 1)).flatMap num8 := by rw [hsplit, List.flatMap_append, hx8, ← List.append_assoc, hL, num8, hX1]
      rw [h7]
      (repeat' (first
      | (with_reducible refine is_yk ?_; refine yk_auto (k := ?_))
      | (with_reducible refine is_owk0 ?_; refine owk0_auto (k := ?_))
      | (with_reducible refine is_owkc ?_; refine owk_auto (k := fun _ => ?_))
      | refine go1 (k := ?_)
      | (refine go2 (ka := ?_) (kb := ?_) <;> intro _)
      | fail))
      exact x_again (i + 1) (by omega) (by omega) sub_auto sel_auto
  · have : i = n := by omega
    subst this
    rw [List.take_of_length_le (by omega)]
    (repeat' (first
      | (with_reducible refine is_yk ?_; refine yk_auto (k := ?_))
      | (with_reducible refine is_owk0 ?_; refine owk0_auto (k := ?_))
      | (with_reducible refine is_owkc ?_; refine owk_auto (k := fun _ => ?_))
      | refine go1 (k := ?_)
      | (refine go2 (ka := ?_) (kb := ?_) <;> intro _)
      | fail))
    exact x_end0 rfl (fun w H => ⟨rfl, H⟩)
/-- A text, and how many bytes it has in three. -/
def text3 (s : Bs) : Bs := leB 3 s.length ++ s
theorem text3_length (s : Bs) : (text3 s).length = s.length + 3 := by simp [text3, leB_length]; omega
theorem hasR_three {b T : Nat} {L : List HP} {x y z : UInt8} : HasR (St c (Bl b T (List.flatMap vcells [Value.int .u8 x.toNat, .int .u8 y.toNat, .int .u8 z.toNat]) :: L)) (.slice (some ⟨b, 0, none⟩) 3 3) 3 (bvs [x, y, z]) := reads_has (hasCells_bl has_hd rfl) rfl (by decide) (by decide)
set_option maxRecDepth 100000 in
theorem w_text {l l' : Bs} {ss : List Bs} {A : Option Addr} {n cap : Nat} (hr : HasR (St c F) (.slice A n cap) n (strs ss)) (hl : l ++ ss.flatMap text3 = l') (hs : l'.length ≤ 1099511627776) (hs3 : ∀ s ∈ ss, s.length < 16777216) (H : St c (WrAt p l :: F) w) : Calls Try.prog 25 #[.pointer (some ⟨p, 0, none⟩), .slice A n cap] w fun e w' => e = .returned (.tuple #[]) ∧ St c (WrAt p l' :: F) w' := by
  subst hl
  have hR := hr w H.tail
  have hn : ss.length = n := by have := hR.1; rw [strs_length] at this; omega
  have hA : 0 < n → ∃ ad, A = some ad := fun h0 => by
    rcases hR.2 with ⟨e, e2⟩ | ⟨a, k, e, _⟩
    · omega
    · cases e; exact ⟨a, rfl⟩
  have hn63 : n ≤ 9223372036854775807 := by
    obtain ⟨A', cap', e, h1, h2⟩ := hR.form
    omega
  have hfl : ∀ i, (ss.flatMap text3).length = (((ss.take i).flatMap text3)).length + ((ss.drop i).flatMap text3).length := fun i => by rw [← List.length_append, ← List.flatMap_append, List.take_append_drop]
  rw [List.length_append] at hs
  clear hR
  refine calls_w (vs := [.pointer (some ⟨p, 0, none⟩), .slice A n cap]) Try.func25 rfl rfl rfl ?_ w H
  (repeat' (first
      | (with_reducible refine is_yk ?_; refine yk_auto (k := ?_))
      | (with_reducible refine is_owk0 ?_; refine owk0_auto (k := ?_))
      | (with_reducible refine is_owkc ?_; refine owk_auto (k := fun _ => ?_))
      | refine go1 (k := ?_)
      | (refine go2 (ka := ?_) (kb := ?_) <;> intro _)
      | fail))
  refine w_loop (α := Nat) (fun i => i ≤ n) (fun i => [(9, .int .i64 (i : Int)), (8, .int .i64 (n : Int)), (7, .slice A n cap), (0, .pointer (some ⟨p, 0, none⟩))])
    (fun i => WrAt p (l ++ (ss.take i).flatMap text3) :: F) (fun i => n - i) 0 (Nat.zero_le _) sub_auto (by show Sel _ (WrAt p (l ++ []) :: F); rw [List.append_nil]; exact sel_auto) (fun i hi => ?_)
  by_cases hlt : i < n
  · obtain ⟨ad, rfl⟩ := hA (by omega)
    have hget := strs_get (l := ss) (i := i) (by omega)
    have hsplit : ss.take (i + 1) = ss.take i ++ [ss[i]] := List.take_succ_eq_append_getElem (by omega)
    have hlen := hfl (i + 1)
    have hlt3 : (ss[i].length : Int) < 16777216 := by have := hs3 ss[i] (List.getElem_mem (by omega)); omega
    rw [hsplit, List.flatMap_append, List.length_append] at hlen
    generalize ss[i] = x at hget hsplit hlen hlt3
    have hx8 : ([x].flatMap text3) = text3 x := by simp
    rw [hx8, text3_length] at hlen
    generalize hL : l ++ (ss.take i).flatMap text3 = L at *
    have hLl : L.length + x.length + 3 ≤ 1099511627776 := by rw [← hL, List.length_append]; omega
    have h1 := u8_of x.length 0
    have h2 := u8_of x.length 1
    have h3 := u8_of x.length 2
    have k1 := shr_of x.length 1 (m := 8) (by omega)
    have k2 := shr_of x.length 2 (m := 16) (by omega)
    have e0 : x.length / 256 ^ 0 = x.length := by simp
    rw [e0] at h1
    have h4 : L ++ [UInt8.ofNat (x.length % 256), UInt8.ofNat (x.length / 256 ^ 1 % 256), UInt8.ofNat (x.length / 256 ^ 2 % 256)] = L ++ leB 3 x.length := by simp [leB, Nat.div_div_eq_div_mul]
    have h5 : (L ++ leB 3 x.length).length ≤ 1099511627776 := by rw [List.length_append, leB_length]; omega
    have h6 : (L ++ leB 3 x.length) ++ x = l ++ (ss.take (i + 1)).flatMap text3 := by rw [hsplit, List.flatMap_append, hx8, ← List.append_assoc, hL, text3, List.append_assoc]
    have h7 : (l ++ (ss.take (i + 1)).flatMap text3).length ≤ 1099511627776 := by rw [← h6, List.length_append, List.length_append, leB_length]; omega
    generalize UInt8.ofNat (x.length % 256) = b0 at h1 h4
    generalize UInt8.ofNat (x.length / 256 ^ 1 % 256) = b1 at h2 h4
    generalize UInt8.ofNat (x.length / 256 ^ 2 % 256) = b2 at h3 h4
    (repeat' (first
      | ((with_reducible refine at_fn 40 ?_); with_reducible refine owk_c1 evs_auto (by kernel_rfl) pick_auto (fun w H => w_byte hasR_three h4 h5 H) ?_)
      | ((with_reducible refine at_fn 40 ?_); with_reducible refine owk_c1 evs_auto (by kernel_rfl) pick_auto (fun w H => w_byte rds_auto h6 h7 H) ?_)
      | (with_reducible refine at_load ?_; first | refine yk (y_load (ev_tmp rfl) (hasCell_tl (hasR_cell hr hget rfl))) ?_)
      | (with_reducible refine at_conv ?_; first | refine yk_eq (y_conv_int (ev_tmp rfl)) (congrArg _ h1) ?_ | refine yk_eq (y_conv_int (ev_tmp rfl)) (congrArg _ h2) ?_ | refine yk_eq (y_conv_int (ev_tmp rfl)) (congrArg _ h3) ?_)
      | (with_reducible refine at_bin ?_; first | refine yk_eq (y_shr (ev_tmp rfl) ev_const (by omega) (by simp [IntKind.bits])) (congrArg _ k1) ?_ | refine yk_eq (y_shr (ev_tmp rfl) ev_const (by omega) (by simp [IntKind.bits])) (congrArg _ k2) ?_)
      | (with_reducible refine is_yk ?_; refine yk_auto (k := ?_))
      | (with_reducible refine is_owk0 ?_; refine owk0_auto (k := ?_))
      | (with_reducible refine is_owkc ?_; refine owk_auto (k := fun _ => ?_))
      | refine go1 (k := ?_)
      | (refine go2 (ka := ?_) (kb := ?_) <;> intro _)
      | fail))
    exact x_again (i + 1) (by omega) (by omega) sub_auto sel_auto
  · have : i = n := by omega
    subst this
    rw [List.take_of_length_le (by omega)]
    (repeat' (first
      | (with_reducible refine is_yk ?_; refine yk_auto (k := ?_))
      | (with_reducible refine is_owk0 ?_; refine owk0_auto (k := ?_))
      | (with_reducible refine is_owkc ?_; refine owk_auto (k := fun _ => ?_))
      | refine go1 (k := ?_)
      | (refine go2 (ka := ?_) (kb := ?_) <;> intro _)
      | fail))
    exact x_end0 rfl (fun w H => ⟨rfl, H⟩)
end
end Go.Proofs.Ytjofjkjghakcoaa

/- The ideal world (package ideal) as plain data. No program in sight. -/
namespace Go.Proofs.Ytjofjkjghakcoaa
open Go.RowKit
/-- What something is made of, as a text. -/
def nameOf (kind : UInt8) (parts : List Bs) : Bs := kind :: parts.flatMap part8
/-- All that was made, by what it was made of; and the texts. -/
structure IdealM where
  made : List (Bs × Int)
  texts : List (Bs × Bs)
/-- The bytes of a thing: its number, its kind, a mark. -/
def markB (kind : UInt8) (num : Int) (n : Nat) : Bs := num8 num ++ kind :: List.replicate (n - 9) 238
theorem markB_length {kind : UInt8} {num : Int} {n : Nat} (h : 9 ≤ n) : (markB kind num n).length = n := by
  simp [markB, num8_length]; omega
def IdealM.num (I : IdealM) (key : Bs) : Int := (getM I.made key).getD (IntKind.i64.wrap (I.made.length + 1))
def IdealM.note (I : IdealM) (key : Bs) : IdealM := if (getM I.made key).isSome then I else { I with made := setM I.made key (IntKind.i64.wrap (I.made.length + 1)) }
def IdealM.make (I : IdealM) (kind : UInt8) (n : Nat) (parts : List Bs) : Bs := markB kind (I.num (nameOf kind parts)) n
def IdealM.made' (I : IdealM) (kind : UInt8) (parts : List Bs) : IdealM := I.note (nameOf kind parts)
def IdealM.sealB (I : IdealM) (key nonce text known : Bs) : Bs := I.make 83 (text.length + 16) [key, nonce, known, text]
def IdealM.sealed (I : IdealM) (key nonce text known : Bs) : IdealM :=
  { made := (I.made' 83 [key, nonce, known, text]).made, texts := setM I.texts (nameOf 83 [key, nonce, known, I.sealB key nonce text known]) text }
def IdealM.opened (I : IdealM) (key nonce b known : Bs) : Option Bs := getM I.texts (nameOf 83 [key, nonce, known, b])
theorem made'_texts (I : IdealM) (kind : UInt8) (parts : List Bs) : (I.made' kind parts).texts = I.texts := by
  unfold IdealM.made' IdealM.note; split <;> rfl
theorem seal_length (I : IdealM) (key nonce text known : Bs) : (I.sealB key nonce text known).length = text.length + 16 := markB_length (by omega)
theorem opened_sealed (I : IdealM) (key nonce text known : Bs) : (I.sealed key nonce text known).opened key nonce (I.sealB key nonce text known) known = some text := by
  unfold IdealM.opened IdealM.sealed; rw [getM_setM, if_pos rfl]
end Go.Proofs.Ytjofjkjghakcoaa

/- Values of many bytes (arrays of bytes, structs of such): are two the same; as keys of maps. Interfaces. No program in sight. -/
namespace Go.Proofs.Ytjofjkjghakcoaa
open Go.RowKit
/-- Of the type t, n bytes: are two the same? -/
def EqB (P : Program) (d : Nat) (t : TypeId) (n : Nat) : Prop := ∀ (xs ys : Bs) (w : World), xs.length = n → ys.length = n →
  (Op.equalIn d t (.agg (bvs xs).toArray) (.agg (bvs ys).toArray)).run P w = .ok (decide (xs = ys)) w
def CheckB (P : Program) (d : Nat) (t : TypeId) (n : Nat) : Prop := ∀ (b : Bool) (xs : Bs) (w : World), xs.length = n → (Instr.checkKey b d t (.agg (bvs xs).toArray)).run P w = .ok () w
def aggB : TypeDesc → Bool
  | .struct _ | .array _ _ => true
  | _ => false
section
variable {P : Program}
theorem isAgg_of {t : TypeId} {d : TypeDesc} (h : P.underlying t = some d) (w : World) : (isAgg t).run P w = .ok (aggB d) w := by
  unfold isAgg; simp only [Sem.run_bind, run_underlying h, Result.andThen_ok]
  cases d <;> rfl
theorem size_of {t : TypeId} {i : TypeInfo} (h : P.info? t = some i) : (P.info? t).map (·.size) = some i.size := by rw [h]; rfl
theorem bvs_get? (l : Bs) (i : Nat) : (bvs l)[i]? = l[i]?.map bv := by simp [bvs]
theorem bv_inj {a b : UInt8} (h : a.toNat = b.toNat) : a = b := UInt8.toNat_inj.1 h
theorem run_part_byte {e : TypeId} (he : P.underlying e = some (.int .u8)) (l : Bs) (i : Nat) (b : UInt8) (hb : l[i]? = some b) (w : World) : (part e (bvs l).toArray i).run P w = .ok (bv b) w := by
  have h1 : (bvs l).toArray[i]? = some (bv b) := by rw [List.getElem?_toArray, bvs_get?, hb]; rfl
  unfold part
  simp only [Sem.run_bind, isAgg_of he, Result.andThen_ok, aggB, Bool.false_eq_true, if_false, h1, Sem.run_pure]
theorem eqItems_bytes {e : TypeId} (he : P.underlying e = some (.int .u8)) (d : Nat) (xs ys : Bs) : ∀ (k s : Nat) (w : World), s + k ≤ xs.length → s + k ≤ ys.length →
    (Op.eqItems (d + 1) e 1 (bvs xs).toArray (bvs ys).toArray (List.range' s k)).run P w = .ok (decide ((xs.drop s).take k = (ys.drop s).take k)) w
  | 0, s, w, _, _ => by simp [Op.eqItems]
  | k + 1, s, w, hx, hy => by
    have ex := List.getElem?_eq_getElem (l := xs) (i := s) (by omega)
    have ey := List.getElem?_eq_getElem (l := ys) (i := s) (by omega)
    have ih := eqItems_bytes he d xs ys k (s + 1) w (by omega) (by omega)
    rw [List.range'_succ]
    simp only [Op.eqItems, Sem.run_bind, Nat.mul_one, run_part_byte he xs s _ ex, run_part_byte he ys s _ ey, Result.andThen_ok]
    unfold bv
    rw [run_equalIn_int w d e .u8 .u8 _ _ he]
    rw [List.drop_eq_getElem_cons (l := xs) (i := s) (by omega), List.drop_eq_getElem_cons (l := ys) (i := s) (by omega), List.take_succ_cons, List.take_succ_cons]
    by_cases h : xs[s] = ys[s]
    · rw [h]
      simp only [Result.andThen_ok, beq_self_eq_true, Bool.not_true, Bool.false_eq_true, if_false, ih]
      simp
    · have h' : ((xs[s].toNat : Int) == (ys[s].toNat : Int)) = false := by
        rw [beq_eq_false_iff_ne]; intro e; exact h (bv_inj (by omega))
      simp [h', h]
theorem eqB_array {t e n : Nat} (ht : P.underlying t = some (.array n e)) (he : P.underlying e = some (.int .u8)) (hi : (P.info? e).isSome = true) (hc : P.cellsOf e = 1) (d : Nat) : EqB P (d + 2) t n := fun xs ys w hx hy => by
  obtain ⟨i, hi⟩ := Option.isSome_iff_exists.1 hi
  rw [run_equalIn_array w (d + 1) _ _ ht hi, hc, List.range_eq_range', eqItems_bytes he d xs ys n 0 w (by omega) (by omega)]
  simp [List.take_of_length_le, hx, hy]
theorem run_part_row {t : TypeId} {dsc : TypeDesc} {n : Nat} (ht : P.underlying t = some dsc) (hd : aggB dsc = true) (hs : (P.info? t).map (·.size) = some n) (l : Bs) (o : Nat) (w : World) : (part t (bvs l).toArray o).run P w = .ok (.agg (bvs ((l.drop o).take n)).toArray) w := by
  unfold part
  simp only [Sem.run_bind, isAgg_of ht, Result.andThen_ok, hd, if_true, run_size hs, Sem.run_pure]
  congr 2
  apply Array.toList_inj.1
  simp [bvs, List.extract_eq_take_drop]
/-- A struct of two of them. -/
theorem eqB_struct2 {t t0 t1 n0 n1 n d : Nat} {d0 d1 : TypeDesc} {f0 f1 : Field} (hf : P.underlying t = some (.struct #[f0, f1])) (hp : P.stoodInHeld t = false) (hn0 : f0.name ≠ "_") (hn1 : f1.name ≠ "_") (e0 : f0.type = t0 ∧ f0.offset = 0) (e1 : f1.type = t1 ∧ f1.offset = n0)
    (hu0 : P.underlying t0 = some d0) (hu1 : P.underlying t1 = some d1) (ha0 : aggB d0 = true) (ha1 : aggB d1 = true) (hs0 : (P.info? t0).map (·.size) = some n0) (hs1 : (P.info? t1).map (·.size) = some n1) (hn : n = n0 + n1) (h0 : EqB P d t0 n0) (h1 : EqB P d t1 n1) : EqB P (d + 1) t n := fun xs ys w hx hy => by
  subst hn
  obtain ⟨e0, o0⟩ := e0
  obtain ⟨e1, o1⟩ := e1
  have hfo : P.fieldsOf t = #[f0, f1] := by simp [Program.fieldsOf, hf]
  rw [run_equalIn_struct w d t _ _ (by rw [hfo]; exact hf) hp, hfo]
  simp only [Op.eqFields, hn0, hn1, ne_eq, not_false_eq_true, if_true, Sem.run_bind, e0, o0, e1, o1, run_part_row hu0 ha0 hs0, run_part_row hu1 ha1 hs1, Result.andThen_ok, List.drop_zero]
  rw [h0 _ _ w (by simp; omega) (by simp; omega)]
  have hxx := List.take_append_drop n0 xs
  have hyy := List.take_append_drop n0 ys
  have k1 : (xs.drop n0).take n1 = xs.drop n0 := List.take_of_length_le (by simp; omega)
  have k2 : (ys.drop n0).take n1 = ys.drop n0 := List.take_of_length_le (by simp; omega)
  by_cases h : xs.take n0 = ys.take n0
  · simp only [Result.andThen_ok, h, decide_true, Bool.not_true, Bool.false_eq_true, if_false, Sem.run_bind, run_part_row hu1 ha1 hs1, k1, k2]
    rw [h1 _ _ w (by simp; omega) (by simp; omega)]
    by_cases h2 : xs.drop n0 = ys.drop n0
    · have : xs = ys := by rw [← hxx, ← hyy, h, h2]
      simp [h2, this]
    · have : ¬ xs = ys := fun e => h2 (by rw [e])
      simp [h2, this]
  · have : ¬ xs = ys := fun e => h (by rw [e])
    simp [h, this]
theorem forIn_ok {α : Type} (f : α → Sem Unit) (w : World) : ∀ (l : List α), (∀ x ∈ l, (f x).run P w = .ok () w) → (forIn l PUnit.unit (fun x _ => do f x; pure (ForInStep.yield PUnit.unit))).run P w = .ok PUnit.unit w
  | [], _ => by simp
  | x :: l, h => by
    simp only [List.forIn_cons, Sem.run_bind, h x List.mem_cons_self, Result.andThen_ok, Sem.run_pure]
    exact forIn_ok f w l fun y hy => h y (List.mem_cons_of_mem _ hy)
theorem checkB_array {t e n : Nat} (ht : P.underlying t = some (.array n e)) (he : P.underlying e = some (.int .u8)) (hi : (P.info? e).isSome = true) (hc : P.cellsOf e = 1) (d : Nat) : CheckB P (d + 2) t n := fun b xs w hx => by
  obtain ⟨i, hi⟩ := Option.isSome_iff_exists.1 hi
  have hs : ∀ w, (sizeOf e).run P w = .ok 1 w := fun w => by rw [run_sizeOf w hi, hc]
  unfold Instr.checkKey
  simp only [Sem.run_bind, run_underlying ht, Result.andThen_ok]
  rw [Std.Legacy.Range.forIn_eq_forIn_range']
  have := forIn_ok (P := P) (fun j : Nat => do Instr.checkKey b (d + 1) e (← part e (bvs xs).toArray (j * (← sizeOf e)))) w (List.range' 0 n) (fun j hj => by
    have hj' : j < xs.length := by have := List.mem_range'.1 hj; omega
    simp only [Sem.run_bind, hs, Result.andThen_ok, Nat.mul_one, run_part_byte he xs j _ (List.getElem?_eq_getElem hj')]
    unfold Instr.checkKey bv
    simp [run_underlying he])
  simp [Std.Legacy.Range.size] at this ⊢
  rw [this]; rfl
theorem checkB_struct2 {t t0 t1 n0 n1 n d : Nat} {d0 d1 : TypeDesc} {f0 f1 : Field} (hf : P.underlying t = some (.struct #[f0, f1])) (e0 : f0.type = t0 ∧ f0.offset = 0) (e1 : f1.type = t1 ∧ f1.offset = n0) (hn0 : f0.name ≠ "_") (hn1 : f1.name ≠ "_")
    (hu0 : P.underlying t0 = some d0) (hu1 : P.underlying t1 = some d1) (ha0 : aggB d0 = true) (ha1 : aggB d1 = true) (hs0 : (P.info? t0).map (·.size) = some n0) (hs1 : (P.info? t1).map (·.size) = some n1) (hn : n = n0 + n1) (h0 : CheckB P d t0 n0) (h1 : CheckB P d t1 n1) : CheckB P (d + 1) t n := fun b xs w hx => by
  subst hn
  obtain ⟨e0, o0⟩ := e0
  obtain ⟨e1, o1⟩ := e1
  unfold Instr.checkKey
  simp only [Sem.run_bind, run_underlying hf, Result.andThen_ok]
  rw [← Array.forIn_toList]
  simp only [List.forIn_cons, List.forIn_nil, hn0, hn1, ne_eq, not_false_eq_true, if_true, Sem.run_bind, e0, o0, e1, o1, run_part_row hu0 ha0 hs0, run_part_row hu1 ha1 hs1, Result.andThen_ok, List.drop_zero]
  rw [h0 b _ w (by simp; omega)]
  simp only [Result.andThen_ok, Sem.run_pure, Sem.run_bind, run_part_row hu1 ha1 hs1]
  rw [h1 b _ w (by simp; omega)]
  simp
theorem zip_self_all {α : Type} (f : α → α → Bool) (h : ∀ x, f x x = true) : ∀ l : List α, ((l.zip l).all fun (x, y) => f x y) = true
  | [] => rfl
  | x :: l => by simp only [List.zip_cons_cons, List.all_cons, h, Bool.true_and]; exact zip_self_all f h l
theorem sameBits_bytes (l : Bs) (n : Nat) : Instr.sameBits (n + 1) (.agg (bvs l).toArray) (.agg (bvs l).toArray) = true := by
  unfold Instr.sameBits
  rw [beq_self_eq_true, Bool.true_and]
  show (((bvs l).zip (bvs l)).all fun (x, y) => Instr.sameBits n x y) = true
  unfold bvs
  induction l with
  | nil => rfl
  | cons b l ih => simp only [List.map_cons, List.zip_cons_cons, List.all_cons, ih, Bool.and_true]; simp [bv, Instr.sameBits]
class TEqB (P : Program) (t : TypeId) (n : outParam Nat) : Prop where
  eq : EqB P 10000 t n
  guard : P.eqGuardType P.depth t = false
end
section
variable {P : Program} {N : Nat} {c : Con} {H : World → Prop} {E : Env} {L F : List HP} {d : Option Nat} {ty : TypeId} {pos : String} {aft : Array Edge} {g : Option (Nat × Bool)}
theorem y_eql_B {x y : Operand} {t t' n : Nat} {xs ys : Bs} [ht : TEqB P t n] (hx : Ev E x (.agg (bvs xs).toArray)) (hy : Ev E y (.agg (bvs ys).toArray)) (h1 : xs.length = n) (h2 : ys.length = n) :
    Y P H E (Oper.mk d (.binOp .eql t x y t') ty pos aft g) (.bool (decide (xs = ys))) := fun N a w hf _ => by
  unfold execOp
  simp [hx N a hf, hy N a hf, run_eqGuard_agg w _ _ _ _ _ _ ht.guard, run_eql_struct, ht.eq xs ys w h1 h2]
theorem y_neq_B {x y : Operand} {t t' n : Nat} {xs ys : Bs} [ht : TEqB P t n] (hx : Ev E x (.agg (bvs xs).toArray)) (hy : Ev E y (.agg (bvs ys).toArray)) (h1 : xs.length = n) (h2 : ys.length = n) :
    Y P H E (Oper.mk d (.binOp .neq t x y t') ty pos aft g) (.bool (decide (¬ xs = ys))) := fun N a w hf _ => by
  unfold execOp
  simp [hx N a hf, hy N a hf, run_eqGuard_agg w _ _ _ _ _ _ ht.guard, run_neq_struct, ht.eq xs ys w h1 h2]
/-- Keys of n bytes. -/
abbrev KeyB (n : Nat) := { l : Bs // l.length = n }
def encB (n : Nat) (k : KeyB n) : Value := .agg (bvs k.1).toArray
theorem tkey_bytes {t n : Nat} (hwide : (match P.underlying t with | some (.array _ _) | some (.struct _) => true | _ => false) = true) (he : EqB P 10000 t n) (hc : CheckB P 10000 t n) : TKey P t (encB n) where
  check b k w := hc b k.1 w k.2
  find k encV es l w h := by
    rw [run_findKey_eq w hwide]
    exact findAsking_is (P := P) (kt := t) (enc := encB n) (fun a b w => by
      have := he a.1 b.1 w a.2 b.2
      unfold Op.equal
      show (Op.equalIn 10000 t _ _).run P w = _
      rw [show encB n a = .agg (bvs a.1).toArray from rfl, show encB n b = .agg (bvs b.1).toArray from rfl, this]
      congr 1
      exact decide_eq_decide.2 ⟨fun e => Subtype.ext e, fun e => by rw [e]⟩) k encV es l 0 w h
  same k := sameBits_bytes _ _
/-- A value in an interface. -/
theorem y_makeIface {x : Operand} {t : TypeId} {dsc : TypeDesc} {v : Value} (hx : Ev E x v) (hu : P.underlying t = some dsc) (hd : ∀ ms, dsc ≠ .interface ms) : Y P H E (Oper.mk d (.makeInterface t x) ty pos aft g) (.iface t v) := fun N a w hf _ => by
  unfold execOp Instr.makeInterface
  simp only [hx N a hf, Sem.run_bind, run_underlying hu, Result.andThen_ok]
  cases dsc <;> simp_all
theorem y_nilCheckI {x : Operand} {t : TypeId} {v : Value} (hx : Ev E x (.iface t v)) : Y P H E (Oper.mk d (.nilCheck x) ty pos aft g) (.iface t v) := fun N a w hf _ => by
  unfold execOp; simp [hx N a hf]
/-- A call by an interface's method. -/
theorem ow_invoke {β : Type} {r : β → Value} {L' : β → List HP} {f : FuncId} {ro : Operand} {name : String} {xs : Array Operand} {ts : Array TypeId} {vs : List Value} {t : TypeId} {v rv : Value} (hro : Ev E ro (.iface t v)) (hx : Evs E xs vs)
    (hm : ∀ w, (method (P.types.size + Made.depth) t v name).run P w = .ok (f, rv) w) (he : entersB P f = true)
    (pre : ∀ w, St c L w → Calls P f (rv :: vs).toArray w fun e w' => ∃ x, e = .returned (r x) ∧ St c (L' x) w') :
    OW P N c E L (Oper.mk d (.call { callee := .invoke ro name, args := xs, argTypes := ts }) ty pos aft g) r L' := fun Q K a w hf H hk => by
  have h0 : (xs.map a.eval) = vs.toArray := hx N a hf
  unfold Oper.wp execOp
  have e2 : (#[Value.iface t v] ++ vs.toArray)[0]? = some (.iface t v) := by simp
  have e3 : (#[Value.iface t v] ++ vs.toArray).extract 1 (#[Value.iface t v] ++ vs.toArray).size = vs.toArray := by simp
  have e4 : #[rv] ++ vs.toArray = (rv :: vs).toArray := by simp
  simp only [resolve, h0, hro N a hf, Sem.run_bind, Sem.run_pure, Result.andThen_ok, invoke, e2, e3, callMethod, run_program, hm, e4, run_enters he, Oper.upon_enter]
  refine (pre w H).mono fun e w' h => ?_
  obtain ⟨x, rfl, H'⟩ := h
  exact hk x w' H'
theorem y_buildZ {t : Nat} {z : List Value} {len e : Nat} [ht : TZero P t z] (hu : P.underlying t = some (.array len e)) (hi : (P.info? e).isSome = true) : Y P H E (Oper.mk d (.build t #[]) ty pos aft g) (.agg z.toArray) := fun N a w hf _ => by
  obtain ⟨i, hi⟩ := Option.isSome_iff_exists.1 hi
  have h0 := hf.size
  have hz := run_zeroOf (P := P) (t := t) (z := .agg z.toArray) ht.i w
  have hs := run_size (size_of hi) w
  unfold execOp
  simp [Instr.build, hz, run_underlying hu, hs, Value.cells, Instr.fill]
end
end Go.Proofs.Ytjofjkjghakcoaa

/- The ideal world (package ideal): name, joined. -/
namespace Go.Proofs.Ytjofjkjghakcoaa
open Go.RowKit
theorem PsIn.row1 {H : World → Prop} {v : Value} {ps : List Bs} {qs : List (Option Addr × Nat)} (h : PsIn H v ps qs) : HasR H v ps.length (slv qs ps) := h.row
theorem flat_split (f : Bs → Bs) (ps : List Bs) (i : Nat) : (ps.flatMap f).length = ((ps.take i).flatMap f).length + ((ps.drop i).flatMap f).length := by rw [← List.length_append, ← List.flatMap_append, List.take_append_drop]
attribute [local irreducible] Y OW YK OWK W WL WP X CV GvL GvP Ev Evs HasCell HasCells Has Met Again Kept
section
variable {c : Con} {F : List HP} {w : World} {p : Nat}
theorem hasR_oneI {b T : Nat} {L : List HP} (n : Int) : HasR (St c (Bl b T (List.flatMap vcells [Value.int .i64 n]) :: L)) (.slice (some ⟨b, 0, none⟩) 1 1) 1 (i64s [n]) := reads_has (hasCells_bl has_hd rfl) rfl (by decide) (by decide)
set_option maxRecDepth 100000 in
theorem i_joined {ps : List Bs} {x : Bs} {A : Option Addr} {n cap k : Nat} (hp : Ps (St c F) (.slice A n cap) ps) (hx : ps.flatMap id = x) (hk : x.length = k) (hs : k ≤ 1099511627776) (H : St c F w) : Calls Try.prog 75 #[.slice A n cap] w fun e w' =>
    ∃ q : Option Addr × Nat, e = .returned (.slice q.1 k q.2) ∧ St c (OwnP 5 1 (.slice q.1 k q.2) k (bvs x) :: F) w' := by
  subst hx
  obtain ⟨qs, hp⟩ := hp
  have hR := hp.row w H
  obtain ⟨A', cap', e, hf1, hf2⟩ := hR.form
  obtain ⟨rfl, rfl, rfl⟩ := Value.slice.inj e
  subst hk
  refine calls_w (vs := [.slice A ps.length cap]) Try.func75 rfl rfl rfl ?_ w H
  (repeat' (first
      | (with_reducible refine is_yk ?_; refine yk_auto (k := ?_))
      | (with_reducible refine is_owk0 ?_; refine owk0_auto (k := ?_))
      | (with_reducible refine is_owkc ?_; refine owk_auto (k := fun _ => ?_))
      | refine go1 (k := ?_)
      | (refine go2 (ka := ?_) (kb := ?_) <;> intro _)
      | fail))
  refine w_loop (α := Nat × Bs × Option Addr × Nat) (fun x => x.1 ≤ ps.length ∧ (ps.take x.1).flatMap id = x.2.1) (fun x => [(8, .int .i64 (x.1 : Int)), (7, .int .i64 (ps.length : Int)), (6, .slice A ps.length cap), (3, .slice x.2.2.1 x.2.1.length x.2.2.2)])
    (fun x => OwnP 5 1 (.slice x.2.2.1 x.2.1.length x.2.2.2) x.2.1.length (bvs x.2.1) :: F) (fun x => ps.length - x.1) (0, [], none, 0) ⟨Nat.zero_le _, rfl⟩ sub_auto (by show Sel _ (OwnP 5 1 (.slice none 0 0) 0 [] :: F); exact sel_auto) (fun x hx => ?_)
  obtain ⟨i, L, B, k⟩ := x
  obtain ⟨hx, hL⟩ := hx
  dsimp only at hx hL ⊢
  by_cases hlt : i < ps.length
  · obtain ⟨q, hq, hget, hqr⟩ := hp.get (List.getElem?_eq_getElem hlt)
    obtain ⟨ad, rfl⟩ : ∃ ad, A = some ad := by
      rcases hR.2 with ⟨e, e2⟩ | ⟨a, k, e, _⟩
      · omega
      · cases e; exact ⟨a, rfl⟩
    have hsplit : ps.take (i + 1) = ps.take i ++ [ps[i]] := List.take_succ_eq_append_getElem hlt
    have hlen := flat_split id ps (i + 1)
    rw [hsplit, List.flatMap_append, List.length_append] at hlen
    generalize ps[i] = x at hget hqr hsplit hlen
    have hx1 : [x].flatMap id = x := by simp
    rw [hx1, hL] at hlen
    obtain ⟨L', hL'⟩ : ∃ L', L ++ x = L' := ⟨_, rfl⟩
    have hfl : (ps.take (i + 1)).flatMap id = L' := by rw [hsplit, List.flatMap_append, hx1, hL, hL']
    have h1 : L.length + x.length = L'.length := by rw [← hL', List.length_append]
    have h2 : bvs L ++ bvs x = bvs L' := by rw [← hL', bvs_append]
    have h3 : L'.length ≤ 9223372036854775807 ∧ L'.length * 1 ≤ 140737488355328 := by omega
    have ho := bvs_oneCell x
    (repeat' (first
      | ((with_reducible refine at_builtinO (b := .append) ?_); with_reducible refine owk (ow_appendR (ev_tmp rfl) (ev_tmp rfl) (hasR_tl hqr) ho h1 h2 h3 pick_auto) (fun q2 => ?_))
      | (with_reducible refine at_load ?_; first | refine yk (y_load (ev_tmp rfl) (hasCell_tl (hasR_cell hp.row hget rfl))) ?_)
      | (with_reducible refine is_yk ?_; refine yk_auto (k := ?_))
      | (with_reducible refine is_owk0 ?_; refine owk0_auto (k := ?_))
      | (with_reducible refine is_owkc ?_; refine owk_auto (k := fun _ => ?_))
      | refine go1 (k := ?_)
      | (refine go2 (ka := ?_) (kb := ?_) <;> intro _)
      | fail))
    exact x_again (i + 1, L', q2.1, q2.2) ⟨hlt, hfl⟩ (show ps.length - (i + 1) < ps.length - i by omega) sub_auto sel_auto
  · have : i = ps.length := by omega
    subst this
    rw [List.take_length] at hL
    subst hL
    (repeat' (first
      | (with_reducible refine is_yk ?_; refine yk_auto (k := ?_))
      | (with_reducible refine is_owk0 ?_; refine owk0_auto (k := ?_))
      | (with_reducible refine is_owkc ?_; refine owk_auto (k := fun _ => ?_))
      | refine go1 (k := ?_)
      | (refine go2 (ka := ?_) (kb := ?_) <;> intro _)
      | fail))
    exact x_ret1 rfl rfl (fun w H => ⟨(B, k), rfl, H⟩)
set_option maxRecDepth 100000 in
theorem i_name {ps : List Bs} {A : Option Addr} {n cap : Nat} {kd : UInt8} {kv : Int} (hkv : kv = kd.toNat) (hp : Ps (St c F) (.slice A n cap) ps) (hs : (nameOf kd ps).length ≤ 1099511627776) (H : St c F w) : Calls Try.prog 76 #[.int .u8 kv, .slice A n cap] w fun e w' =>
    e = .returned (str (nameOf kd ps)) ∧ St c F w' := by
  subst hkv
  obtain ⟨qs, hp⟩ := hp
  have hR := hp.row w H
  obtain ⟨A', cap', e, hf1, hf2⟩ := hR.form
  obtain ⟨rfl, rfl, rfl⟩ := Value.slice.inj e
  have hs1 : ([kd] : Bs).length ≤ 1099511627776 := by show 1 ≤ _; decide
  refine calls_w (vs := [.int .u8 kd.toNat, .slice A ps.length cap]) Try.func76 rfl rfl rfl ?_ w H
  (repeat' (first
      | ((with_reducible refine at_fn 40 ?_); with_reducible refine owk_c1 (A := Bl _ 69 _) evs_auto (by kernel_rfl) pick_auto (fun w H => w_byte hasR_one (List.nil_append [kd]) hs1 H.newWr) ?_)
      | (with_reducible refine is_yk ?_; refine yk_auto (k := ?_))
      | (with_reducible refine is_owk0 ?_; refine owk0_auto (k := ?_))
      | (with_reducible refine is_owkc ?_; refine owk_auto (k := fun _ => ?_))
      | refine go1 (k := ?_)
      | (refine go2 (ka := ?_) (kb := ?_) <;> intro _)
      | fail))
  rename_i wp b1
  refine w_loop (α := Nat × Bs) (fun x => x.1 ≤ ps.length ∧ kd :: (ps.take x.1).flatMap part8 = x.2) (fun x => [(16, .int .i64 (x.1 : Int)), (15, .int .i64 (ps.length : Int)), (14, .slice A ps.length cap), (5, .pointer (some ⟨wp, 0, none⟩))])
    (fun x => WrAt wp x.2 :: F) (fun x => ps.length - x.1) (0, [kd]) ⟨Nat.zero_le _, rfl⟩ sub_auto sel_auto (fun x hx => ?_)
  obtain ⟨i, L⟩ := x
  obtain ⟨hx, hL⟩ := hx
  dsimp only at hx hL ⊢
  by_cases hlt : i < ps.length
  · obtain ⟨q, hq, hget, hqr⟩ := hp.get (List.getElem?_eq_getElem hlt)
    obtain ⟨ad, rfl⟩ : ∃ ad, A = some ad := by
      rcases hR.2 with ⟨e, e2⟩ | ⟨a, k, e, _⟩
      · omega
      · cases e; exact ⟨a, rfl⟩
    have hsplit : ps.take (i + 1) = ps.take i ++ [ps[i]] := List.take_succ_eq_append_getElem hlt
    have hlen := flat_split part8 ps (i + 1)
    rw [hsplit, List.flatMap_append, List.length_append] at hlen
    generalize ps[i] = x at hget hqr hsplit hlen
    have hx1 : [x].flatMap part8 = part8 x := by simp
    have hLl : L.length = ((ps.take i).flatMap part8).length + 1 := by rw [← hL]; rfl
    have hsn : (nameOf kd ps).length = (ps.flatMap part8).length + 1 := rfl
    rw [hx1, part8_length] at hlen
    obtain ⟨L1, hL1⟩ : ∃ L1, L ++ [(x.length : Int)].flatMap num8 = L1 := ⟨_, rfl⟩
    obtain ⟨L2, hL2⟩ : ∃ L2, L1 ++ x = L2 := ⟨_, rfl⟩
    have hl1 : L1.length = L.length + 8 := by rw [← hL1, List.length_append]; simp [num8_length]
    have hl2 : L2.length = L1.length + x.length := by rw [← hL2, List.length_append]
    have hfl : kd :: (ps.take (i + 1)).flatMap part8 = L2 := by
      rw [hsplit, List.flatMap_append, hx1, ← List.cons_append, hL, ← hL2, ← hL1, part8, List.append_assoc]; simp
    have h1 : L1.length ≤ 1099511627776 := by omega
    have h2 : L2.length ≤ 1099511627776 := by omega
    (repeat' (first
      | ((with_reducible refine at_fn 26 ?_); with_reducible refine owk_c1 evs_auto (by kernel_rfl) pick_auto (fun w H => w_num (hasR_oneI _) hL1 h1 H) ?_)
      | ((with_reducible refine at_fn 40 ?_); with_reducible refine owk_c1 evs_auto (by kernel_rfl) pick_auto (fun w H => w_byte (hasR_tl hqr) hL2 h2 H) ?_)
      | (with_reducible refine at_load ?_; first | refine yk (y_load (ev_tmp rfl) (hasCell_tl (hasR_cell hp.row hget rfl))) ?_)
      | (with_reducible refine is_yk ?_; refine yk_auto (k := ?_))
      | (with_reducible refine is_owk0 ?_; refine owk0_auto (k := ?_))
      | (with_reducible refine is_owkc ?_; refine owk_auto (k := fun _ => ?_))
      | refine go1 (k := ?_)
      | (refine go2 (ka := ?_) (kb := ?_) <;> intro _)
      | fail))
    exact x_again (i + 1, L2) ⟨hlt, hfl⟩ (show ps.length - (i + 1) < ps.length - i by omega) sub_auto sel_auto
  · have : i = ps.length := by omega
    subst this
    rw [List.take_length] at hL
    have hn : L.length ≤ 1099511627776 := by rw [← hL]; exact hs
    have hL' : nameOf kd ps = L := hL
    rw [hL']
    (repeat' (first
      | ((with_reducible refine at_fn 27 ?_); with_reducible refine owk_c1x evs_auto (by kernel_rfl) pick_auto (fun w H => w_bytes rfl hn H) (fun q => ?_))
      | (with_reducible refine at_conv ?_; first | refine yk (y_str (n := L.length) (l := L) (ev_tmp rfl) hasR_own) ?_)
      | (with_reducible refine is_yk ?_; refine yk_auto (k := ?_))
      | (with_reducible refine is_owk0 ?_; refine owk0_auto (k := ?_))
      | (with_reducible refine is_owkc ?_; refine owk_auto (k := fun _ => ?_))
      | refine go1 (k := ?_)
      | (refine go2 (ka := ?_) (kb := ?_) <;> intro _)
      | fail))
    exact x_ret1 rfl rfl (fun w H => ⟨rfl, Sel.st sel_auto H⟩)
end
end Go.Proofs.Ytjofjkjghakcoaa

/- The ideal world (package ideal): New, make. -/
namespace Go.Proofs.Ytjofjkjghakcoaa
open Go.RowKit
abbrev encI : Int → Value := fun n => .int .i64 n
instance : TMap Try.prog 55 9 3 (.int .i64 0) := ⟨by kernel_rfl, by kernel_rfl⟩
instance : TMap Try.prog 56 9 9 (str []) := ⟨by kernel_rfl, by kernel_rfl⟩
/-- The ideal world. -/
def IdealAt (q : Nat) (I : IdealM) : HP := Ex fun ab : Nat × Nat => Join [Bl q 58 [.map (some ab.1), .map (some ab.2)], Mp str encI ab.1 I.made, Mp str str ab.2 I.texts]
theorem bvs_set (l : Bs) (j : Nat) (b : UInt8) : (bvs l).set j (.int .u8 b.toNat) = bvs (l.set j b) := by simp [bvs, bv, List.map_set]
theorem fill_set (n i : Nat) (h : i < n) : (List.replicate i (238 : UInt8) ++ List.replicate (n - i) 0).set i 238 = List.replicate (i + 1) 238 ++ List.replicate (n - (i + 1)) 0 := by
  obtain ⟨k, rfl⟩ : ∃ k, n = i + (k + 1) := ⟨n - i - 1, by omega⟩
  rw [show i + (k + 1) - i = k + 1 by omega, show i + (k + 1) - (i + 1) = k by omega, List.set_append_right _ _ (by simp), List.length_replicate, Nat.sub_self]
  rw [List.replicate_succ, List.set_cons_zero, List.replicate_succ' (n := i), List.append_assoc]
  rfl
theorem put_set (n j X : Nat) (h : j < n) : (leB j X ++ List.replicate (n - j) (238 : UInt8)).set j (UInt8.ofNat (X / 256 ^ j % 256)) = leB (j + 1) X ++ List.replicate (n - (j + 1)) 238 := by
  obtain ⟨k, rfl⟩ : ∃ k, n = j + (k + 1) := ⟨n - j - 1, by omega⟩
  rw [show j + (k + 1) - j = k + 1 by omega, show j + (k + 1) - (j + 1) = k by omega, List.set_append_right _ _ (by rw [leB_length]; omega), leB_length, Nat.sub_self, List.replicate_succ, List.set_cons_zero, leB_snoc, List.append_assoc]
  rfl
theorem mark_set {n X : Nat} {kd : UInt8} {num : Int} (h : 9 ≤ n) (hX : (num % 18446744073709551616).toNat = X) : (leB 8 X ++ List.replicate (n - 8) (238 : UInt8)).set 8 kd = markB kd num n := by
  obtain ⟨k, rfl⟩ : ∃ k, n = k + 9 := ⟨n - 9, by omega⟩
  rw [show k + 9 - 8 = k + 1 by omega, List.set_append_right _ _ (by rw [leB_length]; omega), leB_length, Nat.sub_self, List.replicate_succ, List.set_cons_zero]
  unfold markB num8; rw [hX]; rfl
theorem look_num (I : IdealM) (key : Bs) : ∃ (n : Int) (b : Bool), (Value.tuple #[((getM I.made key).map encI).getD (.int .i64 0), .bool (getM I.made key).isSome]) = .tuple #[.int .i64 n, .bool b] ∧
    (b = true → I.note key = I ∧ I.num key = n) ∧ (b = false → I.note key = { I with made := setM I.made key (IntKind.i64.wrap (I.made.length + 1)) } ∧ I.num key = IntKind.i64.wrap (I.made.length + 1)) := by
  unfold IdealM.note IdealM.num
  cases h : getM I.made key with
  | none => exact ⟨0, false, rfl, fun e => (by cases e), fun _ => ⟨rfl, rfl⟩⟩
  | some v => exact ⟨v, true, rfl, fun _ => ⟨rfl, rfl⟩, fun e => (by cases e)⟩
attribute [local irreducible] Y OW YK OWK W WL WP X CV GvL GvP Ev Evs HasCell HasCells Has Met Again Kept
section
variable {c : Con} {F : List HP} {w : World} {q : Nat} {I : IdealM}
theorem St.openI (H : St c (IdealAt q I :: F) w) : ∃ a b, St c (Bl q 58 [.map (some a), .map (some b)] :: Mp str encI a I.made :: Mp str str b I.texts :: F) w := by
  obtain ⟨q, H⟩ := St.ex H
  exact ⟨_, _, St.join.1 H⟩
theorem St.shutI {a b : Nat} (H : St c (Bl q 58 [.map (some a), .map (some b)] :: Mp str encI a I.made :: Mp str str b I.texts :: F) w) : St c (IdealAt q I :: F) w := St.toEx (a, b) (St.join.2 H)
theorem i_new (H : St c F w) : Calls Try.prog 9 #[] w fun e w' => ∃ q : Nat, e = .returned (.pointer (some ⟨q, 0, none⟩)) ∧ St c (IdealAt q ⟨[], []⟩ :: F) w' := by
  refine calls_w (vs := []) Try.func9 rfl rfl rfl ?_ w H
  (repeat' (first
      | ((with_reducible refine at_makeMapO ?_); with_reducible refine owk (ow_makeMap (t := 55) str encI) (fun ma => ?_))
      | ((with_reducible refine at_makeMapO ?_); with_reducible refine owk (ow_makeMap (t := 56) str str) (fun mb => ?_))
      | (with_reducible refine is_yk ?_; refine yk_auto (k := ?_))
      | (with_reducible refine is_owk0 ?_; refine owk0_auto (k := ?_))
      | (with_reducible refine is_owkc ?_; refine owk_auto (k := fun _ => ?_))
      | refine go1 (k := ?_)
      | (refine go2 (ka := ?_) (kb := ?_) <;> intro _)
      | fail))
  exact x_ret1 rfl rfl (fun w H => ⟨_, rfl, St.shutI (I := ⟨[], []⟩) (Sel.st (.cons .hd (.cons (.tl .hd) (.cons .hd sel_all))) H)⟩)
set_option maxRecDepth 100000 in
theorem i_make {kd : UInt8} {kv nv : Int} {n : Nat} {ps : List Bs} {A : Option Addr} {m cap : Nat} {B : Bs} {I' : IdealM} (hkv : kv = kd.toNat) (hnv : nv = n) (hn : 9 ≤ n ∧ n ≤ 1099511627776) (hp : Ps (St c F) (.slice A m cap) ps) (hs : (nameOf kd ps).length ≤ 1099511627776) (hB : I.make kd n ps = B) (hI : I.made' kd ps = I')
    (H : St c (IdealAt q I :: F) w) : Calls Try.prog 74 #[.pointer (some ⟨q, 0, none⟩), .int .u8 kv, .int .i64 nv, .slice A m cap] w fun e w' =>
    ∃ b : Nat, e = .returned (.slice (some ⟨b, 0, none⟩) n n) ∧ St c (Bl b 5 (bvs B) :: IdealAt q I' :: F) w' := by
  subst hkv hnv hI hB
  obtain ⟨a, b, H⟩ := H.openI
  refine calls_w (vs := [.pointer (some ⟨q, 0, none⟩), .int .u8 kd.toNat, .int .i64 n, .slice A m cap]) Try.func74 rfl rfl rfl ?_ w H
  have hps3 := hp.tl (A := Mp str str b I.texts) |>.tl (A := Mp str encI a I.made) |>.tl (A := Bl q 58 [.map (some a), .map (some b)])
  have HM : ∀ {L : List HP}, HasM str encI (St c (Bl q 58 [.map (some a), .map (some b)] :: Mp str encI a I.made :: L)) a I.made := hasM_tl hasM_hd
  have hmx : max (n : Int) 9 = (n : Int) := by omega
  obtain ⟨n0, b0, hl0, hb1, hb2⟩ := look_num I (nameOf kd ps)
  obtain ⟨num, hnum⟩ : ∃ num, I.num (nameOf kd ps) = num := ⟨_, rfl⟩
  have htx := made'_texts I kd ps
  have hIB : I.make kd n ps = markB kd num n := by unfold IdealM.make; rw [hnum]
  have hIm : I.made' kd ps = I.note (nameOf kd ps) := rfl
  rw [hIB]
  rw [hIm] at htx ⊢
  rw [hnum] at hb1 hb2
  obtain ⟨I2, hI2⟩ : ∃ I2, I.note (nameOf kd ps) = I2 := ⟨_, rfl⟩
  rw [hI2] at hb1 hb2 htx ⊢
  (repeat' (first
      | ((with_reducible refine at_fn 76 ?_); with_reducible refine owk_c0s evs_auto (by kernel_rfl) (fun w H => i_name rfl hps3 hs H) ?_)
      | (with_reducible refine at_lookup ?_; first | refine yk_eq (y_lookup2 (encK := str) (encV := encI) (k := nameOf kd ps) (l := I.made) (ev_tmp rfl) (ev_tmp rfl) rfl HM) hl0 ?_)
      | (with_reducible refine is_w ?_; first | refine w_meetS (id := 3) (α := Unit) (fun _ => True) (fun _ => [(10, .int .i64 num), (0, .pointer (some ⟨q, 0, none⟩)), (1, .int .u8 kd.toNat), (2, .int .i64 n)]) (fun _ => Bl q 58 [.map (some a), .map (some b)] :: Mp str encI a I2.made :: Mp str str b I2.texts :: F) ?_ ?_)
      | (with_reducible refine is_yk ?_; refine yk_auto (k := ?_))
      | (with_reducible refine is_owk0 ?_; refine owk0_auto (k := ?_))
      | (with_reducible refine is_owkc ?_; refine owk_auto (k := fun _ => ?_))
      | refine go1 (k := ?_)
      | (refine go2 (ka := ?_) (kb := ?_) <;> intro _)
      | fail))
  · unfold Stop
    cases b0 with
    | true =>
      obtain ⟨e1, e2⟩ := hb1 rfl
      subst e1 e2
      (repeat' (first
      | (with_reducible refine is_yk ?_; refine yk_auto (k := ?_))
      | (with_reducible refine is_owk0 ?_; refine owk0_auto (k := ?_))
      | (with_reducible refine is_owkc ?_; refine owk_auto (k := fun _ => ?_))
      | refine go1 (k := ?_)
      | (refine go2 (ka := ?_) (kb := ?_) <;> intro _)
      | fail))
      exact x_met () trivial sub_auto sel_auto
    | false =>
      obtain ⟨e1, e2⟩ := hb2 rfl
      have e3 : I2.made = setM I.made (nameOf kd ps) num := by rw [e1, e2]
      rw [htx, e3]
      (repeat' (first
      | ((with_reducible refine at_mapUpdateO ?_); with_reducible refine owk0 (ow_mapUpdate (encK := str) (encV := encI) (k := nameOf kd ps) (v := num) (l := I.made) (ev_tmp rfl) (ev_tmp rfl) (ev_tmp rfl) pick_auto rfl rfl) ?_)
      | (with_reducible refine at_call ?_; first | refine yk (y_lenMap (ev_tmp rfl) HM) ?_)
      | (with_reducible refine at_bin ?_; first | refine yk_eq (y_add (ev_tmp rfl) ev_const) (congrArg _ e2.symm) ?_)
      | (with_reducible refine is_yk ?_; refine yk_auto (k := ?_))
      | (with_reducible refine is_owk0 ?_; refine owk0_auto (k := ?_))
      | (with_reducible refine is_owkc ?_; refine owk_auto (k := fun _ => ?_))
      | refine go1 (k := ?_)
      | (refine go2 (ka := ?_) (kb := ?_) <;> intro _)
      | fail))
      exact x_met () trivial sub_auto sel_auto
  · intro _ _
    have hz : List.replicate n (Value.int .u8 0) = bvs (List.replicate 0 238 ++ List.replicate (n - 0) 0) := by simp [bvs, bv]
    (repeat' (first
      | ((with_reducible refine at_makeSliceO ?_); with_reducible refine owk (ow_makeSliceI (n := n) (ev_tmp rfl) (ev_tmp rfl) rfl (by omega) (by omega)) (fun r => ?_); rw [hz])
      | (with_reducible refine at_call ?_; first | refine yk_eq (y_max (ev_tmp rfl) ev_const) (congrArg _ hmx) ?_)
      | (with_reducible refine is_yk ?_; refine yk_auto (k := ?_))
      | (with_reducible refine is_owk0 ?_; refine owk0_auto (k := ?_))
      | (with_reducible refine is_owkc ?_; refine owk_auto (k := fun _ => ?_))
      | refine go1 (k := ?_)
      | (refine go2 (ka := ?_) (kb := ?_) <;> intro _)
      | fail))
    refine w_loop (α := Nat) (fun i => i ≤ n) (fun i => [(46, .int .i64 (i : Int)), (45, .int .i64 (n : Int)), (12, .slice (some ⟨r, 0, none⟩) n n), (10, .int .i64 num), (1, .int .u8 kd.toNat), (2, .int .i64 n)])
      (fun i => Bl r 5 (bvs (List.replicate i 238 ++ List.replicate (n - i) 0)) :: Bl q 58 [.map (some a), .map (some b)] :: Mp str encI a I2.made :: Mp str str b I2.texts :: F) (fun i => n - i) 0 (Nat.zero_le _) sub_auto sel_auto (fun i hi => ?_)
    by_cases hlt : i < n
    · have h1 := fill_set n i hlt
      have h2 : (bvs (List.replicate i 238 ++ List.replicate (n - i) 0)).set (0 + i * 1) (.int .u8 238) = bvs (List.replicate (i + 1) 238 ++ List.replicate (n - (i + 1)) 0) := by
        rw [Nat.mul_one, Nat.zero_add, ← h1]; exact bvs_set _ i 238
      have hV : (bvs (List.replicate i 238 ++ List.replicate (n - i) 0)).length = n := by simp [bvs_length]; omega
      generalize bvs (List.replicate i 238 ++ List.replicate (n - i) 0) = V at h2 hV ⊢
      (repeat' (first
      | (with_reducible refine is_yk ?_; refine yk_auto (k := ?_))
      | (with_reducible refine is_owk0 ?_; refine owk0_auto (k := ?_))
      | (with_reducible refine is_owkc ?_; refine owk_auto (k := fun _ => ?_))
      | refine go1 (k := ?_)
      | (refine go2 (ka := ?_) (kb := ?_) <;> intro _)
      | fail))
      rw [h2]
      exact x_again (i + 1) hlt (show n - (i + 1) < n - i by omega) sub_auto sel_auto
    · have : i = n := by omega
      subst this
      have e0 : List.replicate i 238 ++ List.replicate (i - i) 0 = leB 0 0 ++ List.replicate (i - 0) 238 := by simp [leB]
      rw [e0]
      obtain ⟨X, hX, hX1, hX2⟩ := u64_of num
      (repeat' (first
      | (with_reducible refine is_yk ?_; refine yk_auto (k := ?_))
      | (with_reducible refine is_owk0 ?_; refine owk0_auto (k := ?_))
      | (with_reducible refine is_owkc ?_; refine owk_auto (k := fun _ => ?_))
      | refine go1 (k := ?_)
      | (refine go2 (ka := ?_) (kb := ?_) <;> intro _)
      | fail))
      refine w_loop (α := Nat) (fun j => j ≤ 8) (fun j => [(53, .int .i64 (j : Int)), (12, .slice (some ⟨r, 0, none⟩) i i), (10, .int .i64 num), (1, .int .u8 kd.toNat), (2, .int .i64 i)])
        (fun j => Bl r 5 (bvs (leB j X ++ List.replicate (i - j) 238)) :: Bl q 58 [.map (some a), .map (some b)] :: Mp str encI a I2.made :: Mp str str b I2.texts :: F) (fun j => 8 - j) 0 (Nat.zero_le _) sub_auto sel_auto (fun j hj => ?_)
      by_cases hj8 : j < 8
      · have h1 := u8_of X j
        have h2 := shr_of X j (m := 8 * (j : Int)) (by omega)
        have h3 := put_set i j X (by omega)
        have h4 : (bvs (leB j X ++ List.replicate (i - j) 238)).set (0 + j * 1) (.int .u8 (UInt8.ofNat (X / 256 ^ j % 256)).toNat) = bvs (leB (j + 1) X ++ List.replicate (i - (j + 1)) 238) := by
          rw [Nat.mul_one, Nat.zero_add, ← h3]; exact bvs_set _ j _
        have hV : (bvs (leB j X ++ List.replicate (i - j) 238)).length = i := by simp [bvs_length, leB_length]; omega
        generalize bvs (leB j X ++ List.replicate (i - j) 238) = V at h4 hV ⊢
        generalize X / 256 ^ j = y at h1 h2 h4
        generalize UInt8.ofNat (y % 256) = bb at h1 h4
        (repeat' (first
      | (with_reducible refine at_conv ?_; first | refine yk_eq (y_conv_int (ev_tmp rfl)) (congrArg _ hX2) ?_ | refine yk_eq (y_conv_int (ev_tmp rfl)) (congrArg _ h1) ?_)
      | (with_reducible refine at_bin ?_; first | refine yk_eq (y_shr (ev_tmp rfl) (ev_tmp rfl) (by omega) (by simp [IntKind.bits]; omega)) (congrArg _ h2) ?_)
      | (with_reducible refine is_yk ?_; refine yk_auto (k := ?_))
      | (with_reducible refine is_owk0 ?_; refine owk0_auto (k := ?_))
      | (with_reducible refine is_owkc ?_; refine owk_auto (k := fun _ => ?_))
      | refine go1 (k := ?_)
      | (refine go2 (ka := ?_) (kb := ?_) <;> intro _)
      | fail))
        rw [h4]
        exact x_again (j + 1) (by omega) (by omega) sub_auto sel_auto
      · have : j = 8 := by omega
        subst this
        have h5 : (bvs (leB 8 X ++ List.replicate (i - 8) 238)).set (0 + Int.toNat 8 * 1) (.int .u8 kd.toNat) = bvs (markB kd num i) := by
          rw [← mark_set hn.1 hX1]; exact bvs_set _ 8 _
        have hV : (bvs (leB 8 X ++ List.replicate (i - 8) 238)).length = i := by simp [bvs_length, leB_length]; omega
        generalize bvs (leB 8 X ++ List.replicate (i - 8) 238) = V at h5 hV ⊢
        (repeat' (first
      | (with_reducible refine is_yk ?_; refine yk_auto (k := ?_))
      | (with_reducible refine is_owk0 ?_; refine owk0_auto (k := ?_))
      | (with_reducible refine is_owkc ?_; refine owk_auto (k := fun _ => ?_))
      | refine go1 (k := ?_)
      | (refine go2 (ka := ?_) (kb := ?_) <;> intro _)
      | fail))
        rw [h5]
        exact x_ret1 rfl rfl (fun w H => ⟨r, rfl, (St.shutI (Sel.st (.cons (.tl .hd) (.cons (.tl .hd) (.cons (.tl .hd) (.cons .hd sel_all)))) H)).swap⟩)
end
end Go.Proofs.Ytjofjkjghakcoaa

/- Results that lie in cells. No program in sight. -/
namespace Go.Proofs.Ytjofjkjghakcoaa
open Go.RowKit
section
variable {P : Program} {N : Nat} {c : Con} {E : Env} {L : List HP}
/-- A function's result that lies in a cell. -/
theorem results_c {fn : Func} {p : Tmp} {ty : TypeId} (h : fn.results = #[.cell p ty]) (tmps : Array Value) (w : World) (g : Nat) (t : TypeId) (cs : Array Value) (fr : Nat × Nat) (d : TypeDesc)
    (hp : tmps.getD p undef = .pointer (some ⟨g, 0, none⟩)) (hg : w.heap[g]? = some (.cells cs t fr))
    (hu : P.underlying ty = some d) (hd : d.isRow = true) (hi : (P.info? ty).map (·.size) = some cs.size) :
    (results fn tmps).run P w = .ok (.agg cs) w := by
  have hp' : tmps[p]?.getD undef = .pointer (some ⟨g, 0, none⟩) := by simpa using hp
  have hr : w.rangeAt g 0 cs.toList := fun j v hv => by rw [Nat.zero_add, cell_of_row w g j cs t fr hg]; simpa using hv
  have hl := run_loadVar_mid (P := P) w g 0 ty cs.toList d hr hu hd (by rw [hi, Array.length_toList])
  rw [Array.toArray_toList] at hl
  simp [results, h, hp', asAddr, hl]
theorem x_retC {fn : Func} {R : Ending → World → Prop} {t ty T b n : Nat} {cs : List Value} [hrow : TRow P ty n] (hr : fn.results = #[.cell t ty]) (hl : look E t = some (.pointer (some ⟨b, 0, none⟩))) (hb : Has (St c L) b (.cells cs.toArray T (0, 0))) (hn : cs.length = n)
    (h : ∀ w, St c L w → R (.returned (.agg cs.toArray)) w) : X N c (bodyPost P fn R) .ret E L := fun a w hf H => by
  have hd := hrow.u
  cases hq : P.underlying ty with
  | none => rw [hq] at hd; cases hd
  | some ds =>
    rw [hq] at hd
    exact bodyPost_ret (v := .agg cs.toArray) (results_c hr a.tmps w b T cs.toArray (0, 0) ds (hf.get t _ hl) (hb w H) hq (by simpa using hd) (by rw [hrow.i, ← hn]; simp)) hf.defers (h w H)
theorem x_retCT {fn : Func} {R : Ending → World → Prop} {t u ty T b n : Nat} {cs : List Value} {v : Value} [hrow : TRow P ty n] (hr : fn.results = #[.cell t ty, .tmp u]) (hl : look E t = some (.pointer (some ⟨b, 0, none⟩))) (hu : look E u = some v) (hb : Has (St c L) b (.cells cs.toArray T (0, 0))) (hn : cs.length = n)
    (h : ∀ w, St c L w → R (.returned (.tuple #[.agg cs.toArray, v])) w) : X N c (bodyPost P fn R) .ret E L := fun a w hf H => by
  have hd := hrow.u
  cases hq : P.underlying ty with
  | none => rw [hq] at hd; cases hd
  | some ds =>
    rw [hq] at hd
    have hd' : ds.isRow = true := by simpa using hd
    refine bodyPost_ret (v := .tuple #[.agg cs.toArray, v]) ?_ hf.defers (h w H)
    have e := results_ct hr a.tmps w b T cs.toArray (0, 0) ds (hf.get t _ hl) (hb w H) hq hd' (by rw [hrow.i, ← hn]; simp)
    rw [hf.get u v hu] at e
    exact e
end
end Go.Proofs.Ytjofjkjghakcoaa
