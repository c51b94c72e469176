/- Part 2 of what the statement rests on: each piece below begins with its own remark. -/
import Derived.Test.YtocejpklpggfnaaPart1
import Derived.Laws.MakeOwn
import Derived.ProofKit
import Derived.OpenShut
import Derived.SizedLaws
import Derived.ChangeOld
import Derived.Lib.SmallJoins
import Derived.Deep.Slices
import Derived.Test.YtocejpklpggfnaaProg
import Derived.Deep.AppendSrc
import Derived.OwnWalk
/- The operations that make memory: slices put together, structs put together, conversions. No program in sight. -/
namespace Go.Proofs.Ytocejpklpggfnaa
open Go.RowKit

def vcells (v : Value) : List Value := v.cells.toList
/-- The parts of a slice that is put together, in order. -/
inductive Parts (E : Env) : Nat → List (Nat × Operand) → List Value → Prop where
  | nil {k : Nat} : Parts E k [] []
  | cons {k : Nat} {x : Operand} {v : Value} {ps : List (Nat × Operand)} {vs : List Value} (h : Ev E x v) (r : Parts E (k + 1) ps vs) : Parts E k ((k, x) :: ps) (v :: vs)
theorem Parts.eval {E : Env} {N k : Nat} {ps : List (Nat × Operand)} {vs : List Value} {a : Act} (hf : Fr N E a) (h : Parts E k ps vs) : ps.map (fun p => (p.1, a.eval p.2)) = (vs.zipIdx k).map fun p => (p.2, p.1) := by
  induction h with
  | nil => rfl
  | cons h _ ih => simp [h N a hf, ih]
theorem Parts.length {E : Env} {k : Nat} {ps : List (Nat × Operand)} {vs : List Value} (h : Parts E k ps vs) : vs.length = ps.length := by
  induction h with
  | nil => rfl
  | cons _ _ ih => simp [ih]
theorem fill_parts (size : Nat) : ∀ (vs : List Value) (k : Nat) (acc tail : List Value), (∀ v ∈ vs, v.cells.size = size) → acc.length = k * size → tail.length = vs.length * size →
    Instr.fill (fun i => some (i * size, size)) (acc ++ tail).toArray ((vs.zipIdx k).map fun p => (p.2, p.1)) = some (acc ++ vs.flatMap vcells).toArray
  | [], k, acc, tail, _, _, ht => by
    have : tail = [] := List.eq_nil_of_length_eq_zero (by simpa using ht)
    subst this
    simp [Instr.fill]
  | v :: vs, k, acc, tail, hv, ha, ht => by
    have h1 := hv v List.mem_cons_self
    have e := fold_set (k * size) v.cells.toList 0 (acc ++ tail).toArray (by simp [ha, ht, h1, Nat.add_mul])
    rw [← Array.toList_zipIdx, Nat.add_zero, Array.foldl_toList] at e
    have hn : ¬ (decide (v.cells.size ≠ size) || decide (k * size + v.cells.size > (acc ++ tail).toArray.size)) = true := by
      simp [h1, ha, ht, Nat.add_mul]
    simp only [List.zipIdx_cons, List.map_cons, Instr.fill]
    rw [if_neg hn]
    have e2 : (splice (acc ++ tail).toArray.toList (k * size) v.cells.toList).toArray = ((acc ++ vcells v) ++ tail.drop size).toArray := by
      simp only [splice, vcells, ← ha, List.take_left]
      rw [List.drop_append, List.drop_of_length_le (by omega)]
      simp [h1]
    have := fill_parts size vs (k + 1) (acc ++ vcells v) (tail.drop size) (fun u hu => hv u (List.mem_cons_of_mem _ hu)) (by simp [vcells, ha, h1, Nat.add_mul]) (by simp [ht, Nat.add_mul])
    rw [e, e2, this]
    simp

section
variable {P : Program} {N : Nat} {c : Con} {E : Env} {L L' : List HP} {H : World → Prop} {d : Option Nat} {ty : TypeId} {pos : String} {aft : Array Edge} {g : Option (Nat × Bool)}
theorem ow_buildSlice {t e size bytes n : Nat} {z : Value} {ps : List (Nat × Operand)} {vs : List Value} [ht : TSlice P t e size bytes z] (hp : Parts E 0 ps vs) (hn : ps.length = n) (hc : ∀ v ∈ vs, v.cells.size = size)
    (h0 : 0 < n * size) (h1 : n * size ≤ 16777216) : OW P N c E L (Oper.mk d (.buildSlice t n ps.toArray) ty pos aft g) (fun b => .slice (some ⟨b, 0, none⟩) n n) fun b => Bl b e (vs.flatMap vcells) :: L := fun Q K a w hf H hk => by
  have hi := ht.i
  cases hq : P.info? e with
  | none => simp [hq] at hi
  | some ie =>
    simp only [hq, Option.map_some, Option.some.injEq, Prod.mk.injEq] at hi
    refine wp_buildSlice (P := P) t e n ps.toArray rfl (vs.flatMap vcells).toArray ie z ht.u hq hi.1 (by rw [hi.2.1]; omega) (by rw [hi.2.1]; omega) ?_ (hk _ _ (H.allocPt _))
    have e1 : (ps.toArray.map fun (i, x) => (i, a.eval x)).toList = (vs.zipIdx 0).map fun p => (p.2, p.1) := by
      rw [← hp.eval hf]; simp
    have h2 := fill_parts size vs 0 [] ((Array.range (n * ie.size)).map (z.cells[· % z.cells.size]!)).toList hc (by simp) (by simp [hi.2.1, ← hn, hp.length])
    rw [e1, hi.2.1]
    rw [hi.2.1] at h2
    rw [List.nil_append, Array.toArray_toList, List.nil_append] at h2
    exact h2

/-- A slice of none, that isn't nil. -/
theorem ow_buildEmpty {t e size bytes : Nat} {z : Value} [ht : TSlice P t e size bytes z] : OW P N c E L (Oper.mk d (.buildSlice t 0 #[]) ty pos aft g) (fun b => .slice (some ⟨b, 0, none⟩) 0 0) fun b => OwnP e size (.slice (some ⟨b, 0, none⟩) 0 0) 0 [] :: L := fun Q K a w hf H hk => by
  have hi := ht.i
  have _ := hf
  cases hq : P.info? e with
  | none => simp [hq] at hi
  | some ie =>
    unfold Oper.wp execOp
    have hr : (Instr.buildSlice t 0 #[]).run P w = .ok (.slice (some ⟨w.heap.size, 0, none⟩) 0 0) (w.alloc (.cells #[] e)) := by
      have e0 : ∀ f : Nat → Value, Array.map f (Array.range 0) = #[] := fun f => by apply Array.ext'; simp
      simp [Instr.buildSlice, run_underlying ht.u, sizeOf, typeInfo, program, Sem.run, hq, Instr.fill, newRow, newObj, e0]
    simp only [List.map_toArray, List.map_nil, Sem.run_bind, hr, Result.andThen_ok, Sem.run_pure]
    exact hk _ _ ((H.allocPt (.cells #[] e)).imp fun h hb => ⟨by simp, .inr ⟨w.heap.size, 0, #[], rfl, hb, Nat.le_refl _, Nat.zero_le _, by simp, by simp⟩⟩)
/-- Structs put together. -/
inductive Lay (E : Env) (ps : List (Nat × Nat)) : List Value → List (Nat × Operand) → List Value → Prop where
  | nil {z : List Value} : Lay E ps z [] z
  | cons {z out : List Value} {i o s : Nat} {x : Operand} {v : Value} {r : List (Nat × Operand)} (h : Ev E x v) (hp : ps[i]? = some (o, s)) (hs : (vcells v).length = s) (hz : o + s ≤ z.length) (k : Lay E ps (splice z o (vcells v)) r out) :
      Lay E ps z ((i, x) :: r) out
theorem Lay.fill {E : Env} {N : Nat} {ps : List (Nat × Nat)} {z out : List Value} {r : List (Nat × Operand)} {a : Act} (hf : Fr N E a) (h : Lay E ps z r out) : Instr.fill (ps.toArray[·]?) z.toArray (r.map fun p => (p.1, a.eval p.2)) = some out.toArray := by
  induction h with
  | nil => simp [Instr.fill]
  | @cons z out i o s x v r h hp hs hz _ ih =>
    have hs' : v.cells.size = s := by simpa [vcells] using hs
    have e := fold_set o v.cells.toList 0 z.toArray (by simp [hs']; omega)
    rw [← Array.toList_zipIdx, Nat.add_zero, Array.foldl_toList] at e
    have hn' : ¬ (decide (v.cells.size ≠ s) || decide (o + v.cells.size > z.toArray.size)) = true := by simp [hs']; omega
    have hp' : ps.toArray[i]? = some (o, s) := by simpa using hp
    simp only [List.map_cons, h N a hf, Instr.fill, hp']
    rw [if_neg hn', e]
    exact ih
theorem y_build {t : Nat} {ps : List (Nat × Nat)} {z out : List Value} {parts : List (Nat × Operand)} [ht : TPlaces P t ps z] (hl : Lay E ps z parts out) : Y P H E (Oper.mk d (.build t parts.toArray) ty pos aft g) (.agg out.toArray) := fun N a w hf _ => by
  obtain ⟨fs, h1, h2⟩ := ht.u
  have hi := ht.i
  cases hq : P.info? t with
  | none => simp [hq] at hi
  | some i =>
    have hz : i.zero = some (.agg z.toArray) := by simpa [hq] using hi
    have h3 := hl.fill hf
    have e1 : (parts.toArray.map fun (i, x) => (i, a.eval x)).toList = parts.map fun p => (p.1, a.eval p.2) := by simp
    unfold execOp
    simp only [Instr.build, Sem.run_bind, zeroValue, typeInfo, program, Sem.run, hq, hz, Sem.run_pure, Result.andThen_ok, run_underlying h1, h2, Value.cells, e1]
    have h3' : Instr.fill (fun x => ps.toArray[x]?) z.toArray (parts.map fun p => (p.1, a.eval p.2)) = some out.toArray := h3
    have h4 : (fun x : Nat => ps.toArray[x]?) = fun x : Nat => ps[x]? := by funext x; simp
    rw [h4] at h3'
    simp [h3']

/-- A slice of bytes, turned into itself. -/
theorem freeze_heap (w : World) (b n : Nat) (cs : Array Value) (T : TypeId) (hb : w.heap[b]? = some (.cells cs T (0, 0))) :
    (w.freeze ⟨b, n, none⟩ 1).heap[b]? = some (.cells cs T (n, n + 1)) ∧ ∀ k, k ≠ b → (w.freeze ⟨b, n, none⟩ 1).heap[k]? = w.heap[k]? := by
  refine ⟨by simp [World.freeze, Array.getElem?_modify, hb], fun k hk => ?_⟩
  simp [World.freeze, Array.getElem?_modify, Ne.symm hk]
theorem St.freeze {F : List HP} {w : World} {b : Nat} {cs : Array Value} {T : TypeId} (H : St c (Pt b (.cells cs T (0, 0)) :: F) w) (n : Nat) : St c (Pt b (.cells cs T (n, n + 1)) :: F) (w.freeze ⟨b, n, none⟩ 1) := by
  obtain ⟨h, a, l, u⟩ := H.upd
  have hb := l b _ a
  obtain ⟨h1, h2⟩ := freeze_heap w b n cs T hb
  have hc : conOf (w.freeze ⟨b, n, none⟩ 1) = conOf w := by unfold World.freeze; rfl
  refine u _ _ hc (fun k hk hn => h2 k ?_) ?_
  · rintro rfl; rw [a] at hn; cases hn
  · simp only [Pt]
    rw [if_pos (.inl (by rw [a]; rfl))]
    exact h1
theorem ow_mark {F : List HP} {x : Operand} {t e size bytes b o n cap T : Nat} {z : Value} {cs : Array Value} [ht : TSlice P t e size bytes z] [he : TInt P e .u8] (hx : Ev E x (.slice (some ⟨b, o, none⟩) n cap)) (hp : Pick L (Pt b (.cells cs T (0, 0))) F) :
    OW P N c E L (Oper.mk d (.convert t t x) ty pos aft g) (fun _ : Unit => .slice (some ⟨b, o, none⟩) n cap) fun _ => Pt b (.cells cs T (cs.size, cs.size + 1)) :: F := fun Q K a w hf H hk => by
  have H1 := hp.st H
  have hb := H1.pt
  have hs : w.shape? b = some (T, cs.size) := by simp [World.shape?, hb]
  unfold Oper.wp execOp
  simp [hx N a hf, convert, run_underlying ht.u, run_underlying he.u, markStringish, shape, Sem.run, hs, freeze]
  exact hk () _ (H1.freeze cs.size)
/-- The bytes of a string, as memory of its own. -/
def BytesP (b cap : Nat) (e : TypeId) (l : List UInt8) : HP := Pt b (.cells (bvs l ++ List.replicate (cap - l.length) (Value.int .u8 0)).toArray e (cap, cap + 1))
theorem bytesP_reads {F : List HP} {b cap e : Nat} {l : List UInt8} (h1 : l.length ≤ cap) (h2 : cap ≤ 9223372036854775807) : ∀ w, St c (BytesP b cap e l :: F) w → Reads w (.slice (some ⟨b, 0, none⟩) l.length cap) l.length 1 (bvs l) := fun w H => by
  have hb : w.heap[b]? = _ := St.pt (c := c) (L := F) H
  refine ⟨by simp [bvs_length], .inr ⟨_, cap, rfl, h1, h2, fun j u hu => ?_⟩⟩
  rw [add_mid, Nat.zero_add, cell_of_row w b j _ _ _ hb]
  have hj := (List.getElem?_eq_some_iff.1 hu).1
  simp [List.getElem?_append_left hj, hu]
theorem ow_toBytes {x : Operand} {t t' e size bytes : Nat} {z : Value} {l : List UInt8} [hs : TStr P t] [ht : TSlice P t' e size bytes z] [he : TInt P e .u8] (hx : Ev E x (str l)) (hl : l.length ≤ 9223372036854775807) :
    OW P N c E L (Oper.mk d (.convert t t' x) ty pos aft g) (fun q : { q : Nat × Nat // l.length ≤ q.2 ∧ q.2 ≤ 9223372036854775807 } => .slice (some ⟨q.1.1, 0, none⟩) l.length q.1.2) fun q => BytesP q.1.1 q.1.2 e l :: L := fun Q K a w hf H hk => by
  have hge : ∀ t : Nat, l.length ≤ (Question.appendCap l.length 0 e).cut t ∧ (Question.appendCap l.length 0 e).cut t ≤ 9223372036854775807 := fun t => by
    have := Nat.mod_lt t (show 0 < 2 ^ 63 - l.length by omega)
    simp only [Question.cut]; omega
  have hg := hge (w.tape w.drawn (.appendCap l.length 0 e))
  generalize hcap : (Question.appendCap l.length 0 e).cut (w.tape w.drawn (.appendCap l.length 0 e)) = cap at hg
  have e1 : (l.toArray.map fun b => Value.int .u8 (b.toNat : Int)) ++ Array.replicate (cap - l.length) (Value.int .u8 0) = (bvs l ++ List.replicate (cap - l.length) (Value.int .u8 0)).toArray := by
    apply Array.ext'; simp [bvs, bv]
  have hsz : (bvs l ++ List.replicate (cap - l.length) (Value.int .u8 0)).toArray.size = cap := by simp [bvs_length]; omega
  have H1 := (H.drew.allocPt (.cells (bvs l ++ List.replicate (cap - l.length) (Value.int .u8 0)).toArray e)).freeze cap
  have hsh : (w.drew.alloc (.cells (bvs l ++ List.replicate (cap - l.length) (Value.int .u8 0)).toArray e)).shape? w.heap.size = some (e, cap) := by
    have := heap_alloc_new w.drew (.cells (bvs l ++ List.replicate (cap - l.length) (Value.int .u8 0)).toArray e)
    have h0 : w.drew.heap.size = w.heap.size := rfl
    rw [h0] at this
    simp only [World.shape?, this, hsz]
  unfold Oper.wp execOp
  have hr : (convert t t' (str l)).run P w = .ok (.slice (some ⟨w.heap.size, 0, none⟩) l.length cap) ((w.drew.alloc (.cells (bvs l ++ List.replicate (cap - l.length) (Value.int .u8 0)).toArray e)).freeze ⟨w.heap.size, cap, none⟩ 1) := by
    simp only [convert, str, Sem.run_bind, run_underlying hs.u, run_underlying ht.u, Result.andThen_ok, run_underlying he.u, Conv.stringToBytes, choose, Sem.run, Question.forced, Bool.false_eq_true, if_false, str_size, hcap, newRow, newObj, Sem.run_pure, e1, markStringish, shape]
    have hsh' : ({ heap := (w.heap.push (.cells (bvs l ++ List.replicate (cap - l.length) (Value.int .u8 0)).toArray e)), tape := w.tape, drawn := w.drawn + 1, os := w.os, output := w.output } : World).shape? w.heap.size = some (e, cap) := hsh
    simp only [hsh', freeze, Sem.run, Result.andThen_ok]
    rfl
  simp only [hx N a hf, Sem.run_bind, hr, Result.andThen_ok, Sem.run_pure]
  exact hk ⟨(w.heap.size, cap), hg⟩ _ H1
theorem made_one (z : Value) (n : Nat) : (madeCells #[z] n).toList = List.replicate n z := by
  apply List.ext_getElem
  · simp [madeCells]
  · intro i h1 h2
    simp [madeCells, Nat.mod_one]
theorem ow_makeSlice {x y : Operand} {t e bytes : Nat} {z z' : Value} {n : Nat} {k k' : IntKind} [ht : TSlice P t e 1 bytes z] [he : TOne P e z'] (hx : Ev E x (.int k n)) (hy : Ev E y (.int k' n)) (hb : bytes * n ≤ 281474976710656) (h63 : n ≤ 9223372036854775807) :
    OW P N c E L (Oper.mk d (.makeSlice t x y) ty pos aft g) (fun b => .slice (some ⟨b, 0, none⟩) n n) fun b => Bl b e (List.replicate n z') :: L := fun Q K a w hf H hk => by
  have hi := ht.i
  have hi' := he.i
  cases hq : P.info? e with
  | none => simp [hq] at hi
  | some ie =>
    simp only [hq, Option.map_some, Option.some.injEq, Prod.mk.injEq] at hi hi'
    have hz : z = z' := Option.some.inj (hi.1.symm.trans hi'.1)
    subst hz
    have hr := run_make (P := P) w t e ie z ht.u hq hi.1 k k' n n (by omega) (by omega) (by rw [hi.2.2]; omega) (by omega)
    unfold Oper.wp execOp
    simp only [hx N a hf, hy N a hf, Sem.run_bind, hr, Result.andThen_ok, Sem.run_pure, Int.toNat_natCast]
    have e1 : madeCells z.cells (n * ie.size) = (List.replicate n z).toArray := by
      rw [he.one, hi.2.1, Nat.mul_one]; apply Array.ext'; rw [made_one]
    rw [e1]
    exact hk _ _ (H.allocPt _)
theorem replicate_bvs (n : Nat) : List.replicate n (Value.int .u8 0) = bvs (zeros n) := by simp [bvs, zeros, bv]
/-- A block as a slice of one's own. -/
theorem own_of_bl {b e size n : Nat} {cs : List Value} (hl : cs.length = n * size) (hn : n ≤ maxLen) : ∀ h, Bl b e cs h → OwnP e size (.slice (some ⟨b, 0, none⟩) n n) n cs h := fun h hb =>
  ⟨hl, .inr ⟨b, n, cs.toArray, rfl, hb, Nat.le_refl _, hn, by simpa using hl, by simp [← hl]⟩⟩
end
/-! ### clear of a slice -/
theorem ow_clear {P : Program} {N : Nat} {c : Con} {E : Env} {L F : List HP} {d : Option Nat} {ty : TypeId} {pos : String} {aft : Array Edge} {g : Option (Nat × Bool)} {x : Operand} {t e size bytes b o n cap T : Nat} {z : Value} {A : Option Addr} {cur : List Value}
    [ht : TSlice P t e size bytes z] (hx : Ev E x (.slice A n cap)) (hA : 0 < n → A = some ⟨b, o, none⟩) (h1 : ∀ u ∈ z.cells.toList, u.oneCell' = true) (hp : Pick L (Bl b T cur) F) (hfit : o + n * size ≤ cur.length) :
    OW P N c E L (Oper.mk d (.call { callee := .builtin .clear, args := #[x], argTypes := #[t] }) ty pos aft g) (fun _ : { zs : List Value // zs.length = n * size } => .tuple #[]) fun zs => Bl b T (splice cur o zs.1) :: F := fun Q K a w hf H hk => by
  have hi := ht.i
  have H1 := hp.st H
  cases hq : P.info? e with
  | none => simp [hq] at hi
  | some ie =>
    simp only [hq, Option.map_some, Option.some.injEq, Prod.mk.injEq] at hi
    unfold Oper.wp execOp
    by_cases hn : n = 0
    · subst hn
      have hk' := hk ⟨[], by simp⟩ w (by
        have e0 : splice cur o [] = cur := by simp [splice]
        show St c (Bl b T (splice cur o []) :: F) w
        rw [e0]; exact H1)
      have hr : ∀ A, (Builtin.clear_ #[t] ty #[.slice A 0 cap]).run P w = .ok (.tuple #[]) w := fun A => by cases A <;> simp [Builtin.clear_, run_underlying ht.u]
      simp only [resolve, invoke, builtin, Sem.run_bind, Sem.run_pure, Result.andThen_ok, List.map_toArray, List.map_cons, List.map_nil, hx N a hf, hr]
      exact hk'
    · have hA := hA (by omega)
      subst hA
      have hz1 : ∀ u ∈ (Builtin.zeroCells z.cells n).toList, u.oneCell' = true := by
        intro u hu
        simp only [Builtin.zeroCells, Array.toList_map, List.mem_map] at hu
        obtain ⟨i, hi', rfl⟩ := hu
        have hs : 0 < z.cells.size := by
          rcases Nat.eq_zero_or_pos z.cells.size with h0 | h0
          · rw [h0] at hi'; simp at hi'
          · exact h0
        have hlt : i % z.cells.size < z.cells.size := Nat.mod_lt _ hs
        rw [getElem!_pos z.cells _ hlt]
        exact h1 _ (by simp)
      have hzl : (Builtin.zeroCells z.cells n).toList.length = n * size := by simp [size_zeroCells, ht.zs]
      have hst := run_storeCells_at P b o T (Builtin.zeroCells z.cells n).toList 0 cur.toArray w H1.pt (by rw [Nat.add_zero, hzl]; simpa using hfit) hz1
      have hr : (Builtin.clear_ #[t] ty #[.slice (some ⟨b, o, none⟩) n cap]).run P w = .ok (.tuple #[]) (w.setRow b (splice cur o (Builtin.zeroCells z.cells n).toList).toArray) := by
        obtain ⟨m, rfl⟩ : ∃ m, n = m + 1 := ⟨n - 1, by omega⟩
        simp only [Nat.add_zero] at hst
        simp [Builtin.clear_, run_underlying ht.u, zeroValue, typeInfo, hq, hi.1, hst, splice]
      simp only [resolve, invoke, builtin, Sem.run_bind, Sem.run_pure, Result.andThen_ok, List.map_toArray, List.map_cons, List.map_nil, hx N a hf, hr]
      exact hk ⟨_, hzl⟩ _ (H1.setRowPt _)

theorem vcells_int (k : IntKind) (x : Int) : vcells (.int k x) = [.int k x] := rfl
theorem vcells_str (l : List UInt8) : vcells (str l) = [str l] := rfl
theorem vcells_bool (b : Bool) : vcells (.bool b) = [.bool b] := rfl
theorem vcells_slice (A : Option Addr) (n m : Nat) : vcells (.slice A n m) = [.slice A n m] := rfl
theorem vcells_ptr (A : Option Addr) : vcells (.pointer A) = [.pointer A] := rfl
section
variable {E : Env}
theorem Lay.one {ps : List (Nat × Nat)} {z out : List Value} {i o : Nat} {x : Operand} {v : Value} {r : List (Nat × Operand)} (h : Ev E x v) (hp : ps[i]? = some (o, 1)) (hv : vcells v = [v]) (hz : o < z.length) (k : Lay E ps (z.set o v) r out) : Lay E ps z ((i, x) :: r) out := by
  refine .cons h hp (by rw [hv]; rfl) (by omega) ?_
  have e : splice z o (vcells v) = z.set o v := by
    rw [hv, splice, List.set_eq_take_append_cons_drop, if_pos hz]
    simp
  rw [e]; exact k
end

/-! ### What fills itself: the tactics stand here once -/
section
variable {P : Program} {N : Nat} {c : Con} {E : Env} {L : List HP} {Q : Exit → Act → World → Prop} {ops : Array Oper} {H : World → Prop}
theorem ev_auto {x : Operand} {v : Value} (h : Ev E x v := by (first | exact ev_tmp rfl | exact ev_const | exact ev_func)) : Ev E x v := h
theorem evs_auto {xs : Array Operand} {vs : List Value} (h : Evs E xs vs := by ((repeat (first | exact evs_nil | ((apply evs_cons); focus (first | exact ev_tmp rfl | exact ev_const | exact ev_func)))); (first | done | fail))) : Evs E xs vs := h
theorem parts_auto {k : Nat} {ps : List (Nat × Operand)} {vs : List Value} (h : Parts E k ps vs := by ((repeat (first | exact Parts.nil | ((apply Parts.cons); focus (first | exact ev_tmp rfl | exact ev_const | exact ev_func)))); (first | done | fail))) : Parts E k ps vs := h
theorem lay_auto {ps : List (Nat × Nat)} {z out : List Value} {r : List (Nat × Operand)} (h : Lay E ps z r out := by ((repeat (first | exact Lay.nil | ((apply Lay.one); (first | exact ev_tmp rfl | exact ev_const | exact ev_func); (with_unfolding_all exact rfl); (first | exact vcells_int _ _ | exact vcells_str _ | exact vcells_bool _ | exact vcells_slice _ _ _ | exact vcells_ptr _); (with_unfolding_all exact Nat.le_of_ble_eq_true rfl)) | ((apply Lay.cons); (first | exact ev_tmp rfl | exact ev_const | exact ev_func); (with_unfolding_all exact rfl); (with_unfolding_all exact rfl); (with_unfolding_all exact Nat.le_of_ble_eq_true rfl)))); (first | done | fail))) : Lay E ps z r out := h
theorem sub_auto {E' : Env} (h : Sub E' E := by ((repeat (first | exact sub_nil | refine sub_cons rfl ?_)); (first | done | fail))) : Sub E' E := h
theorem pick_auto {A : HP} {F : List HP} (h : Pick L A F := by ((repeat (first | with_reducible exact Pick.hd | with_reducible apply Pick.tl)); (first | done | fail))) : Pick L A F := h
theorem pickd_auto {A : HP} {F : List HP} (h : Pick L A F := by ((repeat (first | with_reducible exact Pick.hd | exact Pick.hd | with_reducible apply Pick.tl)); (first | done | fail))) : Pick L A F := h
theorem sel_auto {L' : List HP} (h : Sel L L' := by ((repeat (first | with_reducible exact sel_all | exact Sel.nil | ((with_reducible apply Sel.cons); focus (exact pick_auto)) | with_reducible apply Sel.own0 | ((with_reducible apply Sel.cons); focus (exact pickd_auto)) | with_reducible apply Sel.tl)); (first | done | fail))) : Sel L L' := h
theorem has_auto {b : Nat} {o : Obj} (h : Has H b o := by ((repeat (first | with_reducible exact has_hd | with_reducible refine has_tl ?_)); (first | done | fail))) : Has H b o := h
theorem upd_auto {L' : List HP} {b : Nat} {T : TypeId} {cs cs' : List Value} (h : Upd L b T cs cs' L' := by ((repeat (first | with_reducible exact Upd.hd | with_reducible apply Upd.tl)); (first | done | fail))) : Upd L b T cs cs' L' := h
class IsAct (o : Op) : Prop where
  t : True
instance {b : Call} : IsAct (.call b) := ⟨trivial⟩
instance {t : TypeId} : IsAct (.alloc t) := ⟨trivial⟩
instance {t : TypeId} {x : Operand} : IsAct (.box t x) := ⟨trivial⟩
instance {t : TypeId} {x y : Operand} : IsAct (.store t x y) := ⟨trivial⟩
instance {t n : Nat} {ps : Array (Nat × Operand)} : IsAct (.buildSlice t n ps) := ⟨trivial⟩
instance {t : TypeId} {x y : Operand} : IsAct (.makeSlice t x y) := ⟨trivial⟩
instance {t t' : TypeId} {x : Operand} : IsAct (.convert t t' x) := ⟨trivial⟩
theorem is_owkc {K : Value → List HP → Prop} {d : Option Nat} {ty : TypeId} {pos : String} {aft : Array Edge} {g : Option (Nat × Bool)} {op : Op} [IsAct op] (h : OWK P N c E L (Oper.mk d op ty pos aft g) K) : OWK P N c E L (Oper.mk d op ty pos aft g) K := h
theorem gy_move {v : Value} {d : Option Nat} {ty : TypeId} {pos : String} {aft : Array Edge} {g : Option (Nat × Bool)} {x : Operand} (k : Y P H E (Oper.mk d (.move x) ty pos aft g) v) : Y P H E (Oper.mk d (.move x) ty pos aft g) v := k
theorem gy_assign {v : Value} {d : Option Nat} {ty : TypeId} {pos : String} {aft : Array Edge} {g : Option (Nat × Bool)} {x : Operand} (k : Y P H E (Oper.mk d (.assign x) ty pos aft g) v) : Y P H E (Oper.mk d (.assign x) ty pos aft g) v := k
theorem gy_nilCheck {v : Value} {d : Option Nat} {ty : TypeId} {pos : String} {aft : Array Edge} {g : Option (Nat × Bool)} {x : Operand} (k : Y P H E (Oper.mk d (.nilCheck x) ty pos aft g) v) : Y P H E (Oper.mk d (.nilCheck x) ty pos aft g) v := k
theorem gy_field {v : Value} {d : Option Nat} {ty : TypeId} {pos : String} {aft : Array Edge} {g : Option (Nat × Bool)} {s f : Nat} {x : Operand} (k : Y P H E (Oper.mk d (.fieldAddr s x f) ty pos aft g) v) : Y P H E (Oper.mk d (.fieldAddr s x f) ty pos aft g) v := k
theorem gy_load {v : Value} {d : Option Nat} {ty : TypeId} {pos : String} {aft : Array Edge} {g : Option (Nat × Bool)} {t : TypeId} {x : Operand} (k : Y P H E (Oper.mk d (.load t x) ty pos aft g) v) : Y P H E (Oper.mk d (.load t x) ty pos aft g) v := k
theorem gy_bin {v : Value} {d : Option Nat} {ty : TypeId} {pos : String} {aft : Array Edge} {g : Option (Nat × Bool)} {o : BinOp} {t t' : TypeId} {x y : Operand} (k : Y P H E (Oper.mk d (.binOp o t x y t') ty pos aft g) v) : Y P H E (Oper.mk d (.binOp o t x y t') ty pos aft g) v := k
theorem gy_pick {v : Value} {d : Option Nat} {ty : TypeId} {pos : String} {aft : Array Edge} {g : Option (Nat × Bool)} {x y z : Operand} (k : Y P H E (Oper.mk d (.pick x y z) ty pos aft g) v) : Y P H E (Oper.mk d (.pick x y z) ty pos aft g) v := k
theorem gy_extract {v : Value} {d : Option Nat} {ty : TypeId} {pos : String} {aft : Array Edge} {g : Option (Nat × Bool)} {x : Operand} {i : Nat} (k : Y P H E (Oper.mk d (.extract x i) ty pos aft g) v) : Y P H E (Oper.mk d (.extract x i) ty pos aft g) v := k
theorem gy_un {v : Value} {d : Option Nat} {ty : TypeId} {pos : String} {aft : Array Edge} {g : Option (Nat × Bool)} {o : UnOp} {t : TypeId} {x : Operand} (k : Y P H E (Oper.mk d (.unOp o t x) ty pos aft g) v) : Y P H E (Oper.mk d (.unOp o t x) ty pos aft g) v := k
theorem gy_call {v : Value} {d : Option Nat} {ty : TypeId} {pos : String} {aft : Array Edge} {g : Option (Nat × Bool)} {b : Call} (k : Y P H E (Oper.mk d (.call b) ty pos aft g) v) : Y P H E (Oper.mk d (.call b) ty pos aft g) v := k
theorem gy_index {v : Value} {d : Option Nat} {ty : TypeId} {pos : String} {aft : Array Edge} {g : Option (Nat × Bool)} {t : TypeId} {x i : Operand} (k : Y P H E (Oper.mk d (.indexAddr t x i) ty pos aft g) v) : Y P H E (Oper.mk d (.indexAddr t x i) ty pos aft g) v := k
theorem gy_slice {v : Value} {d : Option Nat} {ty : TypeId} {pos : String} {aft : Array Edge} {g : Option (Nat × Bool)} {t : TypeId} {x : Operand} {l h' m : Option Operand} (k : Y P H E (Oper.mk d (.slice t x l h' m) ty pos aft g) v) : Y P H E (Oper.mk d (.slice t x l h' m) ty pos aft g) v := k
theorem gy_conv {v : Value} {d : Option Nat} {ty : TypeId} {pos : String} {aft : Array Edge} {g : Option (Nat × Bool)} {t t' : TypeId} {x : Operand} (k : Y P H E (Oper.mk d (.convert t t' x) ty pos aft g) v) : Y P H E (Oper.mk d (.convert t t' x) ty pos aft g) v := k
theorem gy_func {v : Value} {d : Option Nat} {ty : TypeId} {pos : String} {aft : Array Edge} {g : Option (Nat × Bool)} {fn : Fn} {a b : Array Operand} (k : Y P H E (Oper.mk d (.makeFunc fn a b) ty pos aft g) v) : Y P H E (Oper.mk d (.makeFunc fn a b) ty pos aft g) v := k
theorem gy_build {v : Value} {d : Option Nat} {ty : TypeId} {pos : String} {aft : Array Edge} {g : Option (Nat × Bool)} {t : TypeId} {ps : Array (Nat × Operand)} (k : Y P H E (Oper.mk d (.build t ps) ty pos aft g) v) : Y P H E (Oper.mk d (.build t ps) ty pos aft g) v := k
theorem ga_alloc {β : Type} {r : β → Value} {L' : β → List HP} {d : Option Nat} {ty : TypeId} {pos : String} {aft : Array Edge} {g : Option (Nat × Bool)} {t : TypeId} (k : OW P N c E L (Oper.mk d (.alloc t) ty pos aft g) r L') : OW P N c E L (Oper.mk d (.alloc t) ty pos aft g) r L' := k
theorem ga_box {β : Type} {r : β → Value} {L' : β → List HP} {d : Option Nat} {ty : TypeId} {pos : String} {aft : Array Edge} {g : Option (Nat × Bool)} {t : TypeId} {x : Operand} (k : OW P N c E L (Oper.mk d (.box t x) ty pos aft g) r L') : OW P N c E L (Oper.mk d (.box t x) ty pos aft g) r L' := k
theorem ga_store {β : Type} {r : β → Value} {L' : β → List HP} {d : Option Nat} {ty : TypeId} {pos : String} {aft : Array Edge} {g : Option (Nat × Bool)} {t : TypeId} {x y : Operand} (k : OW P N c E L (Oper.mk d (.store t x y) ty pos aft g) r L') : OW P N c E L (Oper.mk d (.store t x y) ty pos aft g) r L' := k
theorem ga_buildSlice {β : Type} {r : β → Value} {L' : β → List HP} {d : Option Nat} {ty : TypeId} {pos : String} {aft : Array Edge} {g : Option (Nat × Bool)} {t n : Nat} {ps : Array (Nat × Operand)} (k : OW P N c E L (Oper.mk d (.buildSlice t n ps) ty pos aft g) r L') : OW P N c E L (Oper.mk d (.buildSlice t n ps) ty pos aft g) r L' := k
theorem ga_makeSlice {β : Type} {r : β → Value} {L' : β → List HP} {d : Option Nat} {ty : TypeId} {pos : String} {aft : Array Edge} {g : Option (Nat × Bool)} {t : TypeId} {x y : Operand} (k : OW P N c E L (Oper.mk d (.makeSlice t x y) ty pos aft g) r L') : OW P N c E L (Oper.mk d (.makeSlice t x y) ty pos aft g) r L' := k
theorem ga_conv {β : Type} {r : β → Value} {L' : β → List HP} {d : Option Nat} {ty : TypeId} {pos : String} {aft : Array Edge} {g : Option (Nat × Bool)} {t t' : TypeId} {x : Operand} (k : OW P N c E L (Oper.mk d (.convert t t' x) ty pos aft g) r L') : OW P N c E L (Oper.mk d (.convert t t' x) ty pos aft g) r L' := k
class IsAct0 (o : Op) : Prop where
  t : True
instance {t : TypeId} {x y : Operand} : IsAct0 (.store t x y) := ⟨trivial⟩
instance {t t' : TypeId} {x : Operand} : IsAct0 (.convert t t' x) := ⟨trivial⟩
theorem is_owk0 {K : Value → List HP → Prop} {d : Option Nat} {ty : TypeId} {pos : String} {aft : Array Edge} {g : Option (Nat × Bool)} {op : Op} [IsAct0 op] (h : OWK P N c E L (Oper.mk d op ty pos aft g) K) : OWK P N c E L (Oper.mk d op ty pos aft g) K := h
theorem owk0_auto {o : Oper} {r : Value} {L' : List HP} {K : Value → List HP → Prop} (h : OW P N c E L o (fun _ : Unit => r) (fun _ => L') := by (first | (with_reducible apply ga_conv; first | exact ow_mark (ev_tmp rfl) pick_auto) | (with_reducible apply ga_store; first | exact ow_store (ev_tmp rfl) (ev_tmp rfl) rfl upd_auto (by simp) | exact ow_store (ev_tmp rfl) ev_const rfl upd_auto (by simp)))) (k : K r L') : OWK P N c E L o K := owk0 h k
class IsLook (o : Op) : Prop where
  t : True
instance {x : Operand} : IsLook (.move x) := ⟨trivial⟩
instance {x : Operand} : IsLook (.assign x) := ⟨trivial⟩
instance {x y z : Operand} : IsLook (.pick x y z) := ⟨trivial⟩
instance {t : TypeId} {x : Operand} : IsLook (.load t x) := ⟨trivial⟩
instance {x : Operand} : IsLook (.nilCheck x) := ⟨trivial⟩
instance {o : BinOp} {t t' : TypeId} {x y : Operand} : IsLook (.binOp o t x y t') := ⟨trivial⟩
instance {o : UnOp} {t : TypeId} {x : Operand} : IsLook (.unOp o t x) := ⟨trivial⟩
instance {t t' : TypeId} {x : Operand} : IsLook (.convert t t' x) := ⟨trivial⟩
instance {t : TypeId} {x : Operand} : IsLook (.sliceToArrayPointer t x) := ⟨trivial⟩
instance {t : TypeId} {x : Operand} : IsLook (.makeInterface t x) := ⟨trivial⟩
instance {fn : Fn} {a b : Array Operand} : IsLook (.makeFunc fn a b) := ⟨trivial⟩
instance {t : TypeId} {x : Operand} {l h' m : Option Operand} : IsLook (.slice t x l h' m) := ⟨trivial⟩
instance {t f : Nat} {x : Operand} : IsLook (.fieldAddr t x f) := ⟨trivial⟩
instance {t f : Nat} {x : Operand} : IsLook (.field t x f) := ⟨trivial⟩
instance {t : TypeId} {x i : Operand} : IsLook (.indexAddr t x i) := ⟨trivial⟩
instance {t : TypeId} {x i : Operand} : IsLook (.index t x i) := ⟨trivial⟩
instance {t : TypeId} {x i : Operand} {b : Bool} : IsLook (.lookup t x i b) := ⟨trivial⟩
instance {x : Operand} {t t' : TypeId} {b : Bool} : IsLook (.typeAssert x t t' b) := ⟨trivial⟩
instance {x : Operand} {i : Nat} : IsLook (.extract x i) := ⟨trivial⟩
instance {t : TypeId} {ps : Array (Nat × Operand)} : IsLook (.build t ps) := ⟨trivial⟩
instance {b : Builtin} {xs : Array Operand} {ts : Array TypeId} : IsLook (.call { callee := .builtin b, args := xs, argTypes := ts }) := ⟨trivial⟩
theorem owk_look {K : Value → List HP → Prop} {d : Option Nat} {ty : TypeId} {pos : String} {aft : Array Edge} {g : Option (Nat × Bool)} {op : Op} [IsLook op] (h : YK P (St c L) E (Oper.mk d op ty pos aft g) fun v => K v L) : OWK P N c E L (Oper.mk d op ty pos aft g) K := owk_yk h
theorem yk_auto {o : Oper} {v : Value} {K : Value → Prop} (h : Y P H E o v := by (first | (with_reducible apply gy_move; first | exact y_move (ev_tmp rfl) | exact y_move ev_const) | (with_reducible apply gy_assign; first | exact y_assign (ev_tmp rfl) | exact y_assign ev_const) | (with_reducible apply gy_nilCheck; first | exact y_nilCheck (ev_tmp rfl)) | (with_reducible apply gy_field; first | exact y_field (ev_tmp rfl)) | (with_reducible apply gy_load; first | exact y_load (ev_tmp rfl) (hasCell_bl has_auto rfl) | exact y_load (ev_tmp rfl) (by assumption) | exact y_loadN (ev_tmp rfl) (hasCells_all has_auto) rfl | exact y_loadN (ev_tmp rfl) (hasCells_all has_auto) (by assumption)) | (with_reducible apply gy_bin; first | exact y_lss (ev_tmp rfl) (ev_tmp rfl) | exact y_lss (ev_tmp rfl) ev_const | exact y_lss ev_const (ev_tmp rfl) | exact y_leq (ev_tmp rfl) (ev_tmp rfl) | exact y_leq (ev_tmp rfl) ev_const | exact y_leq ev_const (ev_tmp rfl) | exact y_gtr (ev_tmp rfl) (ev_tmp rfl) | exact y_gtr (ev_tmp rfl) ev_const | exact y_gtr ev_const (ev_tmp rfl) | exact y_geq (ev_tmp rfl) (ev_tmp rfl) | exact y_geq (ev_tmp rfl) ev_const | exact y_geq ev_const (ev_tmp rfl) | exact y_eql (ev_tmp rfl) (ev_tmp rfl) | exact y_eql (ev_tmp rfl) ev_const | exact y_eql ev_const (ev_tmp rfl) | exact y_neq (ev_tmp rfl) (ev_tmp rfl) | exact y_neq (ev_tmp rfl) ev_const | exact y_neq ev_const (ev_tmp rfl) | exact y_add64 (ev_tmp rfl) (ev_tmp rfl) (by omega) | exact y_add64 (ev_tmp rfl) ev_const (by omega) | exact y_add64 ev_const (ev_tmp rfl) (by omega) | exact y_sub64 (ev_tmp rfl) (ev_tmp rfl) (by omega) | exact y_sub64 (ev_tmp rfl) ev_const (by omega) | exact y_sub64 ev_const (ev_tmp rfl) (by omega) | exact y_mul64 (ev_tmp rfl) (ev_tmp rfl) (by omega) | exact y_mul64 (ev_tmp rfl) ev_const (by omega) | exact y_mul64 ev_const (ev_tmp rfl) (by omega) | exact y_quo64 (ev_tmp rfl) (ev_tmp rfl) (by omega) | exact y_quo64 (ev_tmp rfl) ev_const (by omega) | exact y_quo64 ev_const (ev_tmp rfl) (by omega) | exact y_rem (ev_tmp rfl) (ev_tmp rfl) (by omega) | exact y_rem (ev_tmp rfl) ev_const (by omega) | exact y_rem ev_const (ev_tmp rfl) (by omega) | exact y_eql_some (ev_tmp rfl) ev_const | exact y_neq_some (ev_tmp rfl) ev_const | exact y_eql_none (ev_tmp rfl) ev_const | exact y_neq_none (ev_tmp rfl) ev_const | exact y_eql_d (ev_tmp rfl) (ev_tmp rfl) | exact y_neq_d (ev_tmp rfl) (ev_tmp rfl) | exact y_eql_b (ev_tmp rfl) (ev_tmp rfl) | exact y_eql_b (ev_tmp rfl) ev_const | exact y_eql_b ev_const (ev_tmp rfl) | exact y_neq_b (ev_tmp rfl) (ev_tmp rfl) | exact y_neq_b (ev_tmp rfl) ev_const | exact y_neq_b ev_const (ev_tmp rfl) | exact y_eql_s (ev_tmp rfl) (ev_tmp rfl) | exact y_eql_s (ev_tmp rfl) ev_const | exact y_eql_s ev_const (ev_tmp rfl) | exact y_neq_s (ev_tmp rfl) (ev_tmp rfl) | exact y_neq_s (ev_tmp rfl) ev_const | exact y_neq_s ev_const (ev_tmp rfl) | exact y_add_s (ev_tmp rfl) (ev_tmp rfl) (by omega) | exact y_add_s (ev_tmp rfl) ev_const (by omega) | exact y_add_s ev_const (ev_tmp rfl) (by omega) | exact y_shr (ev_tmp rfl) (ev_tmp rfl) (by omega) (by simp [IntKind.bits]) | exact y_shr (ev_tmp rfl) ev_const (by omega) (by simp [IntKind.bits]) | exact y_shr ev_const (ev_tmp rfl) (by omega) (by simp [IntKind.bits]) | exact y_add (ev_tmp rfl) (ev_tmp rfl) | exact y_add (ev_tmp rfl) ev_const | exact y_add ev_const (ev_tmp rfl) | exact y_sub (ev_tmp rfl) (ev_tmp rfl) | exact y_sub (ev_tmp rfl) ev_const | exact y_sub ev_const (ev_tmp rfl) | exact y_mul (ev_tmp rfl) (ev_tmp rfl) | exact y_mul (ev_tmp rfl) ev_const | exact y_mul ev_const (ev_tmp rfl) | exact y_bits (.inl rfl) (ev_tmp rfl) (ev_tmp rfl) | exact y_bits (.inl rfl) (ev_tmp rfl) ev_const | exact y_bits (.inr (.inl rfl)) (ev_tmp rfl) (ev_tmp rfl) | exact y_bits (.inr (.inl rfl)) (ev_tmp rfl) ev_const | exact y_bits (.inr (.inr (.inl rfl))) (ev_tmp rfl) (ev_tmp rfl) | exact y_bits (.inr (.inr (.inl rfl))) (ev_tmp rfl) ev_const | exact y_bits (.inr (.inr (.inr rfl))) (ev_tmp rfl) (ev_tmp rfl) | exact y_bits (.inr (.inr (.inr rfl))) (ev_tmp rfl) ev_const) | (with_reducible apply gy_pick; first | exact y_pick_t (ev_tmp rfl) (ev_tmp rfl) | exact y_pick_t (ev_tmp rfl) ev_const | exact y_pick_f (ev_tmp rfl) (ev_tmp rfl) | exact y_pick_f (ev_tmp rfl) ev_const) | (with_reducible apply gy_extract; first | exact y_ext20 (ev_tmp rfl) | exact y_ext21 (ev_tmp rfl) | exact y_ext30 (ev_tmp rfl) | exact y_ext31 (ev_tmp rfl) | exact y_ext32 (ev_tmp rfl) | exact y_ext40 (ev_tmp rfl) | exact y_ext41 (ev_tmp rfl) | exact y_ext42 (ev_tmp rfl) | exact y_ext43 (ev_tmp rfl) | exact y_extract (ev_tmp rfl) rfl) | (with_reducible apply gy_un; first | exact y_not_t (ev_tmp rfl) | exact y_not_f (ev_tmp rfl) | exact y_not (ev_tmp rfl) | exact y_not_b (ev_tmp rfl) rfl) | (with_reducible apply gy_index; first | exact y_indexN (ev_tmp rfl) (ev_tmp rfl) (by omega) | exact y_indexN (ev_tmp rfl) ev_const (by omega) | exact y_index (ev_tmp rfl) (ev_tmp rfl) (by omega) | exact y_index (ev_tmp rfl) ev_const (by omega) | exact y_indexAN (ev_tmp rfl) (ev_tmp rfl) (by omega) | exact y_indexAN (ev_tmp rfl) ev_const (by omega) | exact y_indexA (ev_tmp rfl) (ev_tmp rfl) (by omega) | exact y_indexA (ev_tmp rfl) ev_const (by omega) | exact y_indexArr (ev_tmp rfl) (ev_tmp rfl) (by omega) | exact y_indexArr (ev_tmp rfl) ev_const (by omega)) | (with_reducible apply gy_slice; first | exact y_sliceArr (ev_tmp rfl) | exact y_sliceLo (ev_tmp rfl) (ev_tmp rfl) (by omega) | exact y_sliceHi (ev_tmp rfl) (ev_tmp rfl) (by omega) | exact y_sliceStr (ev_tmp rfl) (ev_tmp rfl) (ev_tmp rfl) (by omega) | exact y_sliceStrLo (ev_tmp rfl) (ev_tmp rfl) (by omega) | exact y_sliceStrHi (ev_tmp rfl) (ev_tmp rfl) (by omega)) | (with_reducible apply gy_call; first | exact y_lenSlice (ev_tmp rfl) | exact y_lenStr (ev_tmp rfl) | exact y_min (ev_tmp rfl) (ev_tmp rfl) | exact y_min (ev_tmp rfl) ev_const | exact y_min ev_const (ev_tmp rfl) | exact y_max (ev_tmp rfl) (ev_tmp rfl) | exact y_max (ev_tmp rfl) ev_const | exact y_max ev_const (ev_tmp rfl)) | (with_reducible apply gy_build; first | exact y_build lay_auto) | (with_reducible apply gy_conv; first | exact y_conv_int (ev_tmp rfl)) | (with_reducible apply gy_func; first | exact y_makeFunc evs_auto))) (k : K v) : YK P H E o K := ⟨v, h, k⟩
theorem owk_auto {o : Oper} {β : Type} {r : β → Value} {L' : β → List HP} {K : Value → List HP → Prop} (h : OW P N c E L o r L' := by (first | (with_reducible apply ga_alloc; first | exact ow_alloc1 | exact ow_allocN) | (with_reducible apply ga_box; first | exact ow_box1 (ev_tmp rfl) rfl | exact ow_boxAgg (ev_tmp rfl) | exact ow_box (ev_tmp rfl) rfl) | (with_reducible apply ga_buildSlice; first | exact ow_buildEmpty | exact ow_buildSlice parts_auto rfl (by first | (simp [Value.cells, str]; done) | fail) (by decide) (by decide)) | (with_reducible apply ga_makeSlice; first | exact ow_makeSlice (ev_tmp rfl) (ev_tmp rfl) (by omega) (by omega) | exact ow_makeSlice ev_const ev_const (by omega) (by omega)) | (with_reducible apply ga_conv; first | exact ow_toBytes (ev_tmp rfl) (by omega)))) (k : ∀ x, K (r x) (L' x)) : OWK P N c E L o K := ⟨β, r, L', h, k⟩
/-! A guard by its value -/
section
variable {d t i j : Nat} {dst : Option Nat} {op : Op} {ty : TypeId} {pos : String} {aft : Array Edge} {rest : List Oper} {b b' q : Bool} {v : Value} {R : List HP} {er : Nat → Bool} {r : Plan}
def GvL (P : Program) (N : Nat) (c : Con) (ops : Array Oper) (Q : Exit → Act → World → Prop) (dst : Option Nat) (op : Op) (ty : TypeId) (pos : String) (aft : Array Edge) (i : Nat) (b : Bool) (rest : List Oper) (t : Nat) (E : Env) (L : List HP) (v : Value) : Prop :=
  guardSlot ops i = some t → look E t = some v → WL P N c ops Q (⟨dst, op, ty, pos, aft, some (i, b)⟩ :: rest) E L
theorem wl_guard (hs : guardSlot ops i = some t) (hl : look E t = some v) (h : GvL P N c ops Q dst op ty pos aft i b rest t E L v) : WL P N c ops Q (⟨dst, op, ty, pos, aft, some (i, b)⟩ :: rest) E L := h hs hl
theorem gvl_in (h : WL P N c ops Q (⟨dst, op, ty, pos, aft, none⟩ :: rest) E L) : GvL P N c ops Q dst op ty pos aft i b rest t E L (.bool b) := fun hs hl => wl_in hs hl h
theorem gvl_out (hb : (b' == b) = false) (hd : Nat.blt d N = true) (h : WL P N c ops Q rest ((d, undef) :: E) L) : GvL P N c ops Q (some d) op ty pos aft i b rest t E L (.bool b') := fun hs hl => wl_out hs hl hb hd h
theorem gvl_out0 (hb : (b' == b) = false) (h : WL P N c ops Q rest E L) : GvL P N c ops Q none op ty pos aft i b rest t E L (.bool b') := fun hs hl => wl_out0 hs hl hb h
theorem gvl_outU (hd : Nat.blt d N = true) (h : WL P N c ops Q rest ((d, undef) :: E) L) : GvL P N c ops Q (some d) op ty pos aft i b rest t E L undef := fun hs hl => wl_outU hs hl hd h
theorem gvl_part {p : Prop} [Decidable p] (h1 : p → WL P N c ops Q (⟨dst, op, ty, pos, aft, some (i, b)⟩ :: rest) ((t, .bool true) :: E) L) (h2 : ¬ p → WL P N c ops Q (⟨dst, op, ty, pos, aft, some (i, b)⟩ :: rest) ((t, .bool false) :: E) L) :
    GvL P N c ops Q dst op ty pos aft i b rest t E L (.bool (decide p)) := fun hs hl => wl_part hs hl h1 h2
theorem gvl_part_t {p : Prop} [Decidable p] (h : p) (h1 : WL P N c ops Q (⟨dst, op, ty, pos, aft, some (i, b)⟩ :: rest) ((t, .bool true) :: E) L) : GvL P N c ops Q dst op ty pos aft i b rest t E L (.bool (decide p)) := gvl_part (fun _ => h1) fun k => absurd h k
theorem gvl_part_f {p : Prop} [Decidable p] (h : ¬ p) (h1 : WL P N c ops Q (⟨dst, op, ty, pos, aft, some (i, b)⟩ :: rest) ((t, .bool false) :: E) L) : GvL P N c ops Q dst op ty pos aft i b rest t E L (.bool (decide p)) := gvl_part (fun k => absurd k h) fun _ => h1
theorem gvl_partB (h1 : b' = true → WL P N c ops Q (⟨dst, op, ty, pos, aft, some (i, b)⟩ :: rest) ((t, .bool true) :: E) L) (h2 : b' = false → WL P N c ops Q (⟨dst, op, ty, pos, aft, some (i, b)⟩ :: rest) ((t, .bool false) :: E) L) :
    GvL P N c ops Q dst op ty pos aft i b rest t E L (.bool b') := fun hs hl => wl_partB hs hl h1 h2
theorem gvl_partB_t (h : b' = true) (h1 : WL P N c ops Q (⟨dst, op, ty, pos, aft, some (i, b)⟩ :: rest) ((t, .bool true) :: E) L) : GvL P N c ops Q dst op ty pos aft i b rest t E L (.bool b') := gvl_partB (fun _ => h1) fun k => (by rw [h] at k; cases k)
theorem gvl_partB_f (h : b' = false) (h1 : WL P N c ops Q (⟨dst, op, ty, pos, aft, some (i, b)⟩ :: rest) ((t, .bool false) :: E) L) : GvL P N c ops Q dst op ty pos aft i b rest t E L (.bool b') := gvl_partB (fun k => (by rw [h] at k; cases k)) fun _ => h1
def GvP (P : Program) (N : Nat) (c : Con) (ops : Array Oper) (Q : Exit → Act → World → Prop) (R : List HP) (er : Nat → Bool) (j : Nat) (q : Bool) (r : Plan) (dst : Option Nat) (op : Op) (ty : TypeId) (pos : String) (aft : Array Edge) (i : Nat) (b : Bool) (t : Nat) (E : Env) (L : List HP) (v : Value) : Prop :=
  ops[j]? = some ⟨dst, op, ty, pos, aft, some (i, b)⟩ → guardSlot ops i = some t → look E t = some v → WP P N c ops Q R er ((j, q) :: r) E L
theorem wq_guard (ho : ops[j]? = some ⟨dst, op, ty, pos, aft, some (i, b)⟩) (hs : guardSlot ops i = some t) (hl : look E t = some v) (h : GvP P N c ops Q R er j q r dst op ty pos aft i b t E L v) : WP P N c ops Q R er ((j, q) :: r) E L := h ho hs hl
theorem gvp_stepG (hd : Nat.blt d N = true) (h : YK P (St c R) E ⟨some d, op, ty, pos, aft, none⟩ fun v => WP P N c ops Q R er r ((d, v) :: E) L) : GvP P N c ops Q R er j true r (some d) op ty pos aft i b t E L (.bool b) := fun ho hs hl => wq_stepG ho hs hl hd h
theorem gvp_out (hb : (b' == b) = false) (hd : Nat.blt d N = true) (h : WP P N c ops Q R er r ((d, undef) :: E) L) : GvP P N c ops Q R er j true r (some d) op ty pos aft i b t E L (.bool b') := fun ho hs hl => wq_out ho hs hl hb hd h
theorem gvp_outU (hd : Nat.blt d N = true) (h : WP P N c ops Q R er r ((d, undef) :: E) L) : GvP P N c ops Q R er j true r (some d) op ty pos aft i b t E L undef := fun ho hs hl a w hf H =>
  ⟨_, undef, ho, .inr ⟨by rw [wanted_undef hf rfl hs hl], rfl⟩, h _ _ (hf.put hd) H⟩
theorem gvp_actG (hd : Nat.blt d N = true) (h : OWK P N c E L ⟨some d, op, ty, pos, aft, none⟩ fun v L' => Kept P N c ops Q R er j r ((d, v) :: E) L') : GvP P N c ops Q R er j false r (some d) op ty pos aft i b t E L (.bool b) := fun ho hs hl => wq_actG ho hs hl hd h
theorem gvp_outa (hb : (b' == b) = false) (hd : Nat.blt d N = true) (hS : needB er j r = true → Sel L R) (h : WP P N c ops Q R er r ((d, undef) :: E) L) : GvP P N c ops Q R er j false r (some d) op ty pos aft i b t E L (.bool b') := fun ho hs hl => wq_outa ho hs hl hb hd hS h
theorem gvp_outaU (hd : Nat.blt d N = true) (hS : needB er j r = true → Sel L R) (h : WP P N c ops Q R er r ((d, undef) :: E) L) : GvP P N c ops Q R er j false r (some d) op ty pos aft i b t E L undef := fun ho hs hl a w hf H =>
  ⟨_, ho, by rw [if_neg (by rw [wanted_undef hf rfl hs hl]; simp)]; exact ⟨fun e => (hS e).st H, h _ _ (hf.put hd) H⟩⟩
theorem gvp_part {p : Prop} [Decidable p] (h1 : p → WP P N c ops Q R er ((j, q) :: r) ((t, .bool true) :: E) L) (h2 : ¬ p → WP P N c ops Q R er ((j, q) :: r) ((t, .bool false) :: E) L) : GvP P N c ops Q R er j q r dst op ty pos aft i b t E L (.bool (decide p)) := fun ho hs hl => wq_part ho hs hl h1 h2
theorem gvp_part_t {p : Prop} [Decidable p] (h : p) (h1 : WP P N c ops Q R er ((j, q) :: r) ((t, .bool true) :: E) L) : GvP P N c ops Q R er j q r dst op ty pos aft i b t E L (.bool (decide p)) := gvp_part (fun _ => h1) fun k => absurd h k
theorem gvp_part_f {p : Prop} [Decidable p] (h : ¬ p) (h1 : WP P N c ops Q R er ((j, q) :: r) ((t, .bool false) :: E) L) : GvP P N c ops Q R er j q r dst op ty pos aft i b t E L (.bool (decide p)) := gvp_part (fun k => absurd k h) fun _ => h1
theorem gvp_partB (h1 : b' = true → WP P N c ops Q R er ((j, q) :: r) ((t, .bool true) :: E) L) (h2 : b' = false → WP P N c ops Q R er ((j, q) :: r) ((t, .bool false) :: E) L) : GvP P N c ops Q R er j q r dst op ty pos aft i b t E L (.bool b') := fun ho hs hl => wq_partB ho hs hl h1 h2
end
section
variable {G : Prop}
theorem im_wl {l : List Oper} (h : G → WL P N c ops Q l E L) : G → WL P N c ops Q l E L := h
theorem im_owk {K : Value → List HP → Prop} {o : Oper} (h : G → OWK P N c E L o K) : G → OWK P N c E L o K := h
theorem im_w {x : Code} (h : G → W P N c Q x E L) : G → W P N c Q x E L := h
theorem im_x {e : Exit} (h : G → X N c Q e E L) : G → X N c Q e E L := h
theorem im_cv {x y : Code} {v : Value} (h : G → CV P N c Q x y E L v) : G → CV P N c Q x y E L v := h
theorem im_wp {R : List HP} {er : Nat → Bool} {p : Plan} (h : G → WP P N c ops Q R er p E L) : G → WP P N c ops Q R er p E L := h
theorem im_wpT {R : List HP} {er : Nat → Bool} {i : Nat} {r : Plan} (h : G → WP P N c ops Q R er ((i, true) :: r) E L) : G → WP P N c ops Q R er ((i, true) :: r) E L := h
theorem im_wpF {R : List HP} {er : Nat → Bool} {i : Nat} {r : Plan} (h : G → WP P N c ops Q R er ((i, false) :: r) E L) : G → WP P N c ops Q R er ((i, false) :: r) E L := h
theorem im_gvl {dst : Option Nat} {op : Op} {ty : TypeId} {pos : String} {aft : Array Edge} {i t : Nat} {b : Bool} {rest : List Oper} {v : Value} (h : G → GvL P N c ops Q dst op ty pos aft i b rest t E L v) : G → GvL P N c ops Q dst op ty pos aft i b rest t E L v := h
theorem im_gvpT {R : List HP} {er : Nat → Bool} {j i t : Nat} {b : Bool} {r : Plan} {dst : Option Nat} {op : Op} {ty : TypeId} {pos : String} {aft : Array Edge} {v : Value} (h : G → GvP P N c ops Q R er j true r dst op ty pos aft i b t E L v) : G → GvP P N c ops Q R er j true r dst op ty pos aft i b t E L v := h
theorem im_gvpF {R : List HP} {er : Nat → Bool} {j i t : Nat} {b : Bool} {r : Plan} {dst : Option Nat} {op : Op} {ty : TypeId} {pos : String} {aft : Array Edge} {v : Value} (h : G → GvP P N c ops Q R er j false r dst op ty pos aft i b t E L v) : G → GvP P N c ops Q R er j false r dst op ty pos aft i b t E L v := h
theorem im_kept {R : List HP} {er : Nat → Bool} {i : Nat} {r : Plan} (h : G → Kept P N c ops Q R er i r E L) : G → Kept P N c ops Q R er i r E L := h
end
end
theorem go1 {G G' : Prop} (h : G' → G := by (first | (with_reducible apply im_wl; first | exact fun h => wl_step rfl h | exact fun h => wl_nil h | exact fun h => wl_step0 h | exact fun h => wl_guard rfl rfl h) | (with_reducible apply im_owk; first | exact fun h => owk_look h) | (with_reducible apply im_w; first | exact fun h => w_seq h | exact fun h => w_region h | exact fun h => w_cv rfl h | exact fun h => w_skip h | exact fun h => w_ret h | exact fun h => w_exit h | exact fun h => w_block h) | (with_reducible apply im_x; first | exact fun h => x_then h | exact fun h => x_block h | exact fun h => x_noPanic h | exact fun h => x_thenR h | exact fun h => x_blockR h | exact fun h => x_thenE h | exact fun h => x_blockE h | exact fun h => x_blockE' rfl h) | (with_reducible apply im_cv; first | exact fun h => cv_true h | exact fun h => cv_false h | (refine fun h => cv_dec_t ?_ h; focus exact (by first | exact rfl | exact ne_self | decide | omega | assumption)) | (refine fun h => cv_dec_f ?_ h; focus exact (by first | exact rfl | exact ne_self | decide | omega | assumption)) | (refine fun h => cv_bool_t ?_ h; focus assumption) | (refine fun h => cv_bool_f ?_ h; focus assumption)) | (with_reducible apply im_gvl; first | exact fun h => gvl_in h | exact fun h => gvl_out rfl rfl h | exact fun h => gvl_out0 rfl h | exact fun h => gvl_outU rfl h | (refine fun h => gvl_part_t ?_ h; focus exact (by first | exact rfl | exact ne_self | decide | omega | assumption)) | (refine fun h => gvl_part_f ?_ h; focus exact (by first | exact rfl | exact ne_self | decide | omega | assumption)) | (refine fun h => gvl_partB_t ?_ h; focus assumption) | (refine fun h => gvl_partB_f ?_ h; focus assumption)) | (with_reducible apply im_wpT; first | exact fun h => wq_step rfl rfl h | exact fun h => wq_guard rfl rfl rfl h) | (with_reducible apply im_wpF; first | exact fun h => wq_act rfl rfl h | exact fun h => wq_act0 rfl h | exact fun h => wq_guard rfl rfl rfl h) | (with_reducible apply im_gvpT; first | exact fun h => gvp_stepG rfl h | exact fun h => gvp_out rfl rfl h | exact fun h => gvp_outU rfl h | (refine fun h => gvp_part_t ?_ h; focus exact (by first | exact rfl | exact ne_self | decide | omega | assumption)) | (refine fun h => gvp_part_f ?_ h; focus exact (by first | exact rfl | exact ne_self | decide | omega | assumption))) | (with_reducible apply im_gvpF; first | exact fun h => gvp_actG rfl h | (refine fun h => gvp_outa rfl rfl ?_ h; focus exact fun _ => sel_auto) | (refine fun h => gvp_outaU rfl ?_ h; focus exact fun _ => sel_auto) | (refine fun h => gvp_part_t ?_ h; focus exact (by first | exact rfl | exact ne_self | decide | omega | assumption)) | (refine fun h => gvp_part_f ?_ h; focus exact (by first | exact rfl | exact ne_self | decide | omega | assumption))) | (with_reducible apply im_wp; first | exact fun h => wq_nil h) | (with_reducible apply im_kept; first | exact fun h => kept_late (by decide +kernel) h | exact fun h => kept_same sel_auto h))) (k : G') : G := h k
theorem go2 {G A B : Prop} (h : A → B → G := by (first | exact fun h k => gvl_part h k | exact fun h k => gvl_partB h k | exact fun h k => cv_dec h k | exact fun h k => cv_bool h k | exact fun h k => gvp_part h k | exact fun h k => gvp_partB h k)) (ka : A) (kb : B) : G := h ka kb
end Go.Proofs.Ytocejpklpggfnaa

/- Slices that came in, of elements of any make: from their reading as data to what their cells hold. -/
namespace Go.Proofs.Ytocejpklpggfnaa
open Go.ChangeShapes Go.WideShapes Go.ChangeAt Go.RowKit Go.Deep

/-- Cells that lie at an address. -/
def CellsAt (w : World) (ad : Addr) (cs : List Value) : Prop := ∀ i u, cs[i]? = some u → w.cell? (ad.add i) = some u
theorem CellsAt.keep {w w' : World} {ad : Addr} {cs : List Value} (h : CellsAt w ad cs) (hk : ∀ b, b < w.heap.size → w'.heap[b]? = w.heap[b]?) : CellsAt w' ad cs := fun i u hu => by
  have e := h i u hu
  rw [World.cell?_of_block (w := w) (hk _ (World.block_lt_of_cell? w _ e))]
  exact e

/-- The slice (A, len) holds xs; R: what an element's cells say. -/
def ElemsOf {α : Type} (R : World → α → List Value → Prop) (size : Nat) (w : World) (A : Option Addr) (len : Nat) (xs : List α) : Prop :=
  xs.length = len ∧ len ≤ 9223372036854775807 ∧ ∀ (j : Nat) (x : α), xs[j]? = some x → ∃ a cs, A = some a ∧ R w x cs ∧ cs.length = size ∧ CellsAt w (a.add (j * size)) cs

section
variable {H : Type} {enc : TypeId × Value → H} {W : World} {α : Type}

theorem cells_at {P : Program} {ad : Addr} {n : Nat} {cs : List Value} (h : W.cells? 0 ad n = some cs) (_ : P = P) : cs.length = n ∧ CellsAt W ad cs := by
  unfold World.cells? at h
  rw [if_pos (Nat.zero_le _)] at h
  have hl : cs.length = n := by simpa using mapM_some_length h
  refine ⟨hl, fun i u hu => ?_⟩
  have hi : i < n := by rw [← hl]; exact (List.getElem?_eq_some_iff.1 hu).1
  have e := mapM_some_get h i i (by simp [hi])
  rw [hu] at e
  exact e

theorem open_elems {P : Program} {t e : TypeId} {size : Nat} {R : World → α → List Value → Prop} (ht : P.underlying t = some (.slice e)) (hs : P.cellsOf e = size)
    (hR : ∀ (n : Nat) (cs : List Value) (x : DataW H × List MemPlace), cs.length = size → DataW.trod enc P W 0 (fun _ => true) true n e cs = some x → ∃ y : α, R W y cs)
    {fuel : Nat} {cs0 : List Value} {x : DataW H × List MemPlace} (h : DataW.trod enc P W 0 (fun _ => true) true fuel t cs0 = some x) :
    ∃ a len cap, cs0 = [.slice a len cap] ∧ (a = none → len = 0 ∧ cap = 0) ∧ len ≤ cap ∧ cap ≤ 9223372036854775807 ∧ ∃ ys, ElemsOf R size W a len ys := by
  rcases open_slice ht h with ⟨rfl, _⟩ | ⟨a, len, cap, m, n, D, Pl, rfl, _, hl, hm, hmm, _, he⟩
  · exact ⟨none, 0, 0, rfl, fun _ => ⟨rfl, rfl⟩, Nat.le_refl _, by omega, [], rfl, by omega, fun j x h => by simp at h⟩
  · have hm' : m = cap := by simpa using hmm
    have hcap : cap ≤ 9223372036854775807 := by simpa [maxLen] using hm
    have hex : ∀ i : Nat, i < len → ∃ y cs, R W y cs ∧ cs.length = size ∧ CellsAt W (a.add (i * size)) cs := by
      intro i hi
      obtain ⟨cs', h1, h2⟩ := he i (by omega)
      rw [hs] at h1
      obtain ⟨h3, h4⟩ := cells_at (P := P) h1 rfl
      obtain ⟨y, hy⟩ := hR n cs' _ h3 h2
      exact ⟨y, cs', hy, h3, h4⟩
    refine ⟨some a, len, cap, rfl, (fun h => by cases h), hl, hcap, ?_⟩
    have build : ∀ k, k ≤ len → ∃ ys : List α, ys.length = k ∧ ∀ (j : Nat) (x : α), ys[j]? = some x → ∃ cs, R W x cs ∧ cs.length = size ∧ CellsAt W (a.add (j * size)) cs := by
      intro k
      induction k with
      | zero => intro _; exact ⟨[], rfl, fun j x h => by simp at h⟩
      | succ k ih =>
        intro hk
        obtain ⟨ys, h1, h2⟩ := ih (by omega)
        obtain ⟨y, cs, h3, h4, h5⟩ := hex k (by omega)
        refine ⟨ys ++ [y], by simp [h1], fun j x hx => ?_⟩
        rw [List.getElem?_append] at hx
        split at hx
        · exact h2 j x hx
        · rename_i hj
          have : j = k := by
            have := (List.getElem?_eq_some_iff.1 hx).1
            simp at this; omega
          subst this
          rw [h1, Nat.sub_self] at hx
          simp at hx
          subst hx
          exact ⟨cs, h3, h4, h5⟩
    obtain ⟨ys, h1, h2⟩ := build len (Nat.le_refl _)
    exact ⟨ys, h1, by omega, fun j x hx => by obtain ⟨cs, h⟩ := h2 j x hx; exact ⟨a, cs, rfl, h⟩⟩

/-! ### Elements -/
theorem elem_int {P : Program} {t : TypeId} (ht : P.underlying t = some (.int .i64)) {n : Nat} {cs : List Value} {x : DataW H × List MemPlace} (h : DataW.trod enc P W 0 (fun _ => true) true n t cs = some x) :
    ∃ z : Int, cs = [.int .i64 z] ∧ -9223372036854775808 ≤ z ∧ z ≤ 9223372036854775807 := by
  obtain ⟨z, h1, _, h2⟩ := DataW.trod_int ht h
  refine ⟨z, h1, ?_⟩
  simp [Lit.wf, IntKind.min, IntKind.max, IntKind.signed, IntKind.bits] at h2; omega
theorem elem_u64 {P : Program} {t : TypeId} (ht : P.underlying t = some (.int .u64)) {n : Nat} {cs : List Value} {x : DataW H × List MemPlace} (h : DataW.trod enc P W 0 (fun _ => true) true n t cs = some x) :
    ∃ z : Int, cs = [.int .u64 z] ∧ 0 ≤ z ∧ z < 18446744073709551616 := by
  obtain ⟨z, h1, _, h2⟩ := DataW.trod_int ht h
  refine ⟨z, h1, ?_⟩
  simp [Lit.wf, IntKind.min, IntKind.max, IntKind.signed, IntKind.bits] at h2; omega
theorem elem_byte {P : Program} {t : TypeId} (ht : P.underlying t = some (.int .u8)) {n : Nat} {cs : List Value} {x : DataW H × List MemPlace} (h : DataW.trod enc P W 0 (fun _ => true) true n t cs = some x) :
    ∃ b : UInt8, cs = [bv b] := by
  obtain ⟨z, h1, _, h2⟩ := DataW.trod_int ht h
  simp [Lit.wf, IntKind.min, IntKind.max, IntKind.signed, IntKind.bits] at h2
  refine ⟨UInt8.ofNat z.toNat, ?_⟩
  rw [h1, bv, UInt8.toNat_ofNat']
  congr 2
  omega
/-- An array of bytes. -/
theorem elem_bytes {P : Program} {t e : TypeId} {k : Nat} (ht : P.underlying t = some (.array k e)) (he : P.underlying e = some (.int .u8)) (hc : P.cellsOf e = 1) (hk : P.cellsOf t = k)
    {n : Nat} {cs : List Value} {x : DataW H × List MemPlace} (h : DataW.trod enc P W 0 (fun _ => true) true n t cs = some x) : ∃ r : List UInt8, cs = bvs r ∧ r.length = k := by
  obtain ⟨xs, m, _, _, hl, hxl, hf⟩ := DataW.trod_array ht h
  rw [hk] at hl
  have hex : ∀ i, i < k → ∃ b : UInt8, cs[i]? = some (bv b) := by
    intro i hi
    have e := hf i hi
    rw [hc, Nat.mul_one, List.getElem?_eq_getElem (by omega)] at e
    obtain ⟨b, hb⟩ := elem_byte he e
    refine ⟨b, ?_⟩
    have e2 := congrArg (fun l : List Value => l[0]?) hb
    simpa [List.getElem?_take, List.getElem?_drop] using e2
  have build : ∀ (l : List Value), (∀ i, i < l.length → ∃ b : UInt8, l[i]? = some (bv b)) → ∃ r : List UInt8, l = bvs r := by
    intro l
    induction l with
    | nil => intro _; exact ⟨[], rfl⟩
    | cons v l ih =>
      intro hb
      obtain ⟨b, h0⟩ := hb 0 (by simp)
      obtain ⟨r, hr⟩ := ih fun i hi => by simpa using hb (i + 1) (by simp; omega)
      refine ⟨b :: r, ?_⟩
      simp at h0
      rw [h0, hr]; rfl
  obtain ⟨r, rfl⟩ := build cs fun i hi => hex i (by omega)
  exact ⟨r, rfl, by simpa [bvs] using hl⟩
end
end Go.Proofs.Ytocejpklpggfnaa

/- What reads as bytes; strings of it. No program in sight. -/
namespace Go.Proofs.Ytocejpklpggfnaa
open Go.RowKit

/-- The slice v reads as n bytes. -/
def HasR (H : World → Prop) (v : Value) (n : Nat) (cs : List Value) : Prop := ∀ w, H w → Reads w v n 1 cs
section
variable {c : Con} {L : List HP} {A : HP} {H : World → Prop}
theorem hasR_tl {v : Value} {n : Nat} {cs : List Value} (h : HasR (St c L) v n cs) : HasR (St c (A :: L)) v n cs := fun w k => h w k.tail
theorem hasR_old {w0 : World} {v : Value} {n : Nat} {cs : List Value} (h : Reads w0 v n 1 cs) : HasR (St c (Old w0 :: L)) v n cs := fun w k => by
  refine ⟨h.1, h.2.imp (fun e => e) ?_⟩
  rintro ⟨a, cap, h1, h2, h3, h4⟩
  exact ⟨a, cap, h1, h2, h3, fun j u hu => by
    have e := h4 j u hu
    rw [World.cell?_of_block (w := w0) (k.old _ (World.block_lt_of_cell? w0 _ e))]; exact e⟩
theorem hasR_own {e n : Nat} {v : Value} {xs : List Value} : HasR (St c (OwnP e 1 v n xs :: L)) v n xs := fun w k => by
  obtain ⟨h, ⟨hx, ho⟩, l⟩ := k.get
  refine ⟨hx, ?_⟩
  rcases ho with ⟨h1, h2⟩ | ⟨g, cap, cur, h1, h2, h3, h4, h5, h6⟩
  · exact .inl ⟨h1, h2⟩
  · refine .inr ⟨_, cap, h1, h3, by simpa [maxLen] using h4, fun j u hu => ?_⟩
    rw [add_mid, Nat.zero_add, l.cell h2]
    rw [← h6, List.getElem?_take] at hu
    split at hu
    · simpa using hu
    · cases hu
theorem hasR_bytes {b cap e : Nat} {l : List UInt8} (h : l.length ≤ cap ∧ cap ≤ 9223372036854775807) : HasR (St c (BytesP b cap e l :: L)) (.slice (some ⟨b, 0, none⟩) l.length cap) l.length (bvs l) := bytesP_reads h.1 h.2
theorem hasR_bl {b T n cap : Nat} {fr : Nat × Nat} {cs ds : List Value} (hd : cs.take n = ds) (hn : n ≤ cs.length) (h1 : n ≤ cap) (h2 : cap ≤ 9223372036854775807) : HasR (St c (Pt b (.cells cs.toArray T fr) :: L)) (.slice (some ⟨b, 0, none⟩) n cap) n ds := fun w k => by
  subst hd
  refine ⟨by simp [hn], .inr ⟨_, cap, rfl, h1, h2, fun j u hu => ?_⟩⟩
  rw [add_mid, Nat.zero_add, cell_of_row w b j _ _ _ k.pt]
  rw [List.getElem?_take] at hu
  split at hu
  · simpa using hu
  · cases hu
theorem hasR_blAll {b T n cap : Nat} {fr : Nat × Nat} {cs : List Value} (hn : cs.length = n) (h1 : n ≤ cap) (h2 : cap ≤ 9223372036854775807) : HasR (St c (Pt b (.cells cs.toArray T fr) :: L)) (.slice (some ⟨b, 0, none⟩) n cap) n cs := hasR_bl (List.take_of_length_le (by omega)) (by omega) h1 h2
theorem HasR.bytes {v : Value} {n : Nat} {l : List UInt8} (h : HasR H v n (bvs l)) : ∀ w, H w → Reads w v l.length 1 (bvs l) := fun w k => by
  have h1 := h w k
  have h2 : l.length = n := by have := h1.1; rw [bvs_length] at this; omega
  rw [h2]; exact h1
section
variable {P : Program} {E : Env} {d : Option Nat} {ty : TypeId} {pos : String} {aft : Array Edge} {g : Option (Nat × Bool)}
theorem y_str {x : Operand} {t t' e s by' n : Nat} {z v : Value} {l : List UInt8} [ht : TSlice P t e s by' z] [he : TInt P e .u8] [hs : TStr P t'] (hx : Ev E x v) (hr : HasR H v n (bvs l)) :
    Y P H E (Oper.mk d (.convert t t' x) ty pos aft g) (str l) := y_toStr hx hr.bytes
theorem ow_makeSliceI {N : Nat} {x y : Operand} {t e bytes : Nat} {z z' : Value} {m : Int} {k k' : IntKind} [ht : TSlice P t e 1 bytes z] [he : TOne P e z'] (hx : Ev E x (.int k m)) (hy : Ev E y (.int k' m)) {n : Nat} (hm : m = n) (hb : bytes * n ≤ 281474976710656) (h63 : n ≤ 9223372036854775807) :
    OW P N c E L (Oper.mk d (.makeSlice t x y) ty pos aft g) (fun b => .slice (some ⟨b, 0, none⟩) n n) fun b => Bl b e (List.replicate n z') :: L := by
  subst hm; exact ow_makeSlice hx hy hb h63
theorem ow_appendR {N : Nat} {F : List HP} {s x : Operand} {t tx e bytes e' s' b' n m k cap : Nat} {z z' v : Value} {A : Option Addr} {xs news ys : List Value} [ht : TSlice P t e 1 bytes z] [htx : TSlice P tx e' s' b' z'] (hs : Ev E s (.slice A n cap)) (hx : Ev E x v)
    (hr : HasR (St c L) v m news) (h1 : ∀ u ∈ news, u.oneCell' = true) (hk : n + m = k) (he : xs ++ news = ys) (hb : k ≤ 9223372036854775807 ∧ k * bytes ≤ 140737488355328) (hp : Pick L (OwnP e 1 (.slice A n cap) n xs) F) :
    OW P N c E L (Oper.mk d (.call { callee := .builtin .append, args := #[s, x], argTypes := #[t, tx] }) ty pos aft g) (fun q : Option Addr × Nat => .slice q.1 k q.2) fun q => OwnP e 1 (.slice q.1 k q.2) k ys :: F :=
  ow_append hs hx (fun w H => src_reads htx.u (hr w H) h1) hk he hb hp
end
end
theorem rds_auto {H : World → Prop} {v : Value} {n : Nat} {cs : List Value} (h : HasR H v n cs := by ((repeat (first | exact hasR_own | exact hasR_bytes (by first | assumption | omega) | exact hasR_old (by assumption) | exact hasR_blAll (by assumption) (by omega) (by omega) | refine hasR_tl ?_)); (first | done | fail))) : HasR H v n cs := h
/-! ### A slice of bytes that came in -/
section
variable {H : Type} {enc : TypeId × Value → H} {W : World}
def IsByte (_ : World) (b : UInt8) (cs : List Value) : Prop := cs = [bv b]
theorem reads_of_elems {a : Option Addr} {len cap : Nat} {l : List UInt8} (h : ElemsOf IsByte 1 W a len l) (h0 : a = none → len = 0 ∧ cap = 0) (h1 : len ≤ cap) (h2 : cap ≤ 9223372036854775807) : l.length = len ∧ Reads W (.slice a len cap) len 1 (bvs l) := by
  obtain ⟨hl, -, he⟩ := h
  refine ⟨hl, by rw [bvs_length, hl, Nat.mul_one], ?_⟩
  cases a with
  | none =>
    obtain ⟨rfl, rfl⟩ := h0 rfl
    exact .inl ⟨rfl, rfl⟩
  | some ad =>
    refine .inr ⟨ad, cap, rfl, h1, h2, fun j u hu => ?_⟩
    simp only [bvs, List.getElem?_map, Option.map_eq_some_iff] at hu
    obtain ⟨b, hb, rfl⟩ := hu
    obtain ⟨a', cs, ha, hcs, _, hc⟩ := he j b hb
    cases ha
    have := hc 0 (bv b) (by rw [hcs]; rfl)
    rw [Nat.mul_one] at this
    simpa [Addr.add] using this
end
end Go.Proofs.Ytocejpklpggfnaa

/- Slices of one's own, opened and shut; rows cut. No program in sight. -/
namespace Go.Proofs.Ytocejpklpggfnaa
open Go.RowKit
theorem St.ownOpen {c : Con} {F : List HP} {w : World} {e : TypeId} {size n : Nat} {v : Value} {xs : List Value} (H : St c (OwnP e size v n xs :: F) w) :
    (v = .slice none 0 0 ∧ n = 0 ∧ xs = [] ∧ St c F w) ∨ ∃ g cap cur, v = .slice (some ⟨g, 0, none⟩) n cap ∧ n ≤ cap ∧ cap ≤ 9223372036854775807 ∧ cur.length = cap * size ∧ cur.take (n * size) = xs ∧ xs.length = n * size ∧ St c (Pt g (.cells (cur : List Value).toArray e (0, 0)) :: F) w := by
  obtain ⟨h, ⟨hx, ho⟩, l, r⟩ := H.stars
  rcases ho with ⟨h1, h2⟩ | ⟨g, cap, cur, h1, h2, h3, h4, h5, h6⟩
  · subst h2
    exact .inl ⟨h1, rfl, List.eq_nil_of_length_eq_zero (by simpa using hx), H.tail⟩
  · refine .inr ⟨g, cap, cur.toList, h1, h3, by simpa [maxLen] using h4, by simpa using h5, h6, hx, H.con, h, ?_, l, r⟩
    simpa [Pt] using h2
theorem shutOwn {e : TypeId} {size n g cap : Nat} {cur xs : List Value} (h3 : n ≤ cap) (h4 : cap ≤ 9223372036854775807) (h5 : cur.length = cap * size) (h6 : cur.take (n * size) = xs) : ∀ h, Pt g (.cells cur.toArray e (0, 0)) h → OwnP e size (.slice (some ⟨g, 0, none⟩) n cap) n xs h := fun h hb => by
  have hle : n * size ≤ cur.length := by rw [h5]; exact Nat.mul_le_mul_right _ h3
  refine ⟨by rw [← h6, List.length_take]; omega, .inr ⟨g, cap, cur.toArray, rfl, hb, h3, by simpa [maxLen] using h4, by simpa using h5, by simpa using h6⟩⟩
theorem dropPast {α : Type} (a b : List α) (n : Nat) : (a ++ b).drop (a.length + n) = b.drop n := by
  rw [← List.drop_drop, List.drop_left]
theorem takePast {α : Type} (a b : List α) (n : Nat) : (a ++ b).take (a.length + n) = a ++ b.take n := by
  rw [List.take_append, List.take_of_length_le (by omega), show a.length + n - a.length = n by omega]
end Go.Proofs.Ytocejpklpggfnaa

/- The queue as plain data. No program in sight. -/
namespace Go.Proofs.Ytocejpklpggfnaa
open Go.RowKit

structure MsgM where
  id : Int
  till : Int
  tries : Int
  body : List UInt8
  dead : Bool
structure QueueM where
  number : Int
  quota : Int
  limit : Int
  wait : Int
  next : Int
  list : List MsgM
def mcell (m : MsgM) : List Value := [.int .i64 m.id, .int .i64 m.till, .int .i64 m.tries, str m.body, .bool m.dead]
def mcells (l : List MsgM) : List Value := l.flatMap mcell
theorem mcell_length (m : MsgM) : (mcell m).length = 5 := rfl
theorem mcell_one (m : MsgM) : ∀ v ∈ mcell m, v.oneCell' = true := by
  intro v hv
  simp only [mcell, List.mem_cons, List.not_mem_nil, or_false] at hv
  rcases hv with rfl | rfl | rfl | rfl | rfl <;> rfl
theorem mcells_length : ∀ l : List MsgM, (mcells l).length = l.length * 5
  | [] => rfl
  | x :: l => by
    have := mcells_length l
    simp only [mcells, List.flatMap_cons, List.length_append, List.length_cons, mcell_length] at this ⊢
    rw [this]; omega
theorem mcells_one (l : List MsgM) : ∀ v ∈ mcells l, v.oneCell' = true := by
  intro v hv
  obtain ⟨m, _, h⟩ := List.mem_flatMap.1 hv
  exact mcell_one m v h
theorem mcells_append (l l' : List MsgM) : mcells (l ++ l') = mcells l ++ mcells l' := by simp [mcells]
theorem mcells_drop : ∀ (l : List MsgM) (j : Nat), (mcells l).drop (j * 5) = mcells (l.drop j)
  | l, 0 => by simp
  | [], j + 1 => by simp [mcells]
  | x :: l, j + 1 => by
    have e : mcells (x :: l) = mcell x ++ mcells l := rfl
    rw [e, show (j + 1) * 5 = (mcell x).length + j * 5 by rw [mcell_length]; omega, ← List.drop_drop, List.drop_left, mcells_drop l j]
    rfl
theorem mcells_take : ∀ (l : List MsgM) (j : Nat), (mcells l).take (j * 5) = mcells (l.take j)
  | l, 0 => by simp [mcells]
  | [], j + 1 => by simp [mcells]
  | x :: l, j + 1 => by
    have e : mcells (x :: l) = mcell x ++ mcells l := rfl
    rw [e, show (j + 1) * 5 = (mcell x).length + j * 5 by rw [mcell_length]; omega, List.take_append, List.take_of_length_le (by omega), show (mcell x).length + j * 5 - (mcell x).length = j * 5 by omega, mcells_take l j]
    rfl
theorem mcells_at {l : List MsgM} {j : Nat} {m : MsgM} (h : l[j]? = some m) : ((mcells l).drop (j * 5)).take 5 = mcell m := by
  have hl : j < l.length := (List.getElem?_eq_some_iff.1 h).1
  have e : l[j] = m := by rw [List.getElem?_eq_getElem hl] at h; exact Option.some.inj h
  rw [mcells_drop, List.drop_eq_getElem_cons hl, e]
  rfl
/-- A message turned, in the cells. -/
theorem mcells_set : ∀ (l : List MsgM) (j : Nat) (m : MsgM), j < l.length → mcells (l.set j m) = splice (mcells l) (j * 5) (mcell m)
  | x :: l, 0, m, _ => rfl
  | x :: l, j + 1, m, h => by
    have e : ∀ y (r : List MsgM), mcells (y :: r) = mcell y ++ mcells r := fun _ _ => rfl
    have ih := mcells_set l j m (by simpa using h)
    rw [List.set_cons_succ, e, e, ih]
    unfold splice
    rw [show (j + 1) * 5 = (mcell x).length + j * 5 by rw [mcell_length]; omega, takePast, Nat.add_assoc, dropPast]
    simp only [List.append_assoc]

/-- By rising numbers. -/
def Rising (l : List MsgM) : Prop := l.Pairwise fun a b => a.id < b.id
theorem Rising.lt {l : List MsgM} (h : Rising l) {i j : Nat} {a b : MsgM} (ha : l[i]? = some a) (hb : l[j]? = some b) (hij : i < j) : a.id < b.id := by
  obtain ⟨h1, rfl⟩ := List.getElem?_eq_some_iff.1 ha
  obtain ⟨h2, rfl⟩ := List.getElem?_eq_some_iff.1 hb
  exact List.pairwise_iff_getElem.1 h i j h1 h2 hij
/-- A number's place. -/
def placeOf (id : Int) : List MsgM → Nat
  | [] => 0
  | m :: r => if m.id < id then placeOf id r + 1 else 0
theorem placeOf_le (id : Int) : ∀ l : List MsgM, placeOf id l ≤ l.length
  | [] => Nat.le_refl _
  | m :: r => by
    unfold placeOf
    split
    · have := placeOf_le id r; simp; omega
    · simp
/-- What a search comes to: all ahead are less, none from there on. -/
theorem placeOf_is {id : Int} : ∀ {l : List MsgM} {n : Nat}, n ≤ l.length → (∀ j m, l[j]? = some m → j < n → m.id < id) → (∀ j m, l[j]? = some m → n ≤ j → ¬ m.id < id) → placeOf id l = n
  | [], n, h, _, _ => by simp at h; simp [placeOf, h]
  | x :: r, 0, _, _, h2 => by
    have := h2 0 x rfl (Nat.le_refl _)
    simp [placeOf, this]
  | x :: r, n + 1, h, h1, h2 => by
    have hx := h1 0 x rfl (by omega)
    rw [placeOf, if_pos hx, placeOf_is (by simpa using h) (fun j m e k => h1 (j + 1) m (by simpa using e) (by omega)) (fun j m e k => h2 (j + 1) m (by simpa using e) (by omega))]
/-- Is there such a message? -/
def hasId (id : Int) (l : List MsgM) : Bool := match l[placeOf id l]? with
  | some m => decide (m.id = id)
  | none => false
theorem placeOf_at {l : List MsgM} (h : Rising l) {j : Nat} {m : MsgM} (hm : l[j]? = some m) : placeOf m.id l = j := by
  refine placeOf_is (Nat.le_of_lt (List.getElem?_eq_some_iff.1 hm).1) (fun i a ha hi => h.lt ha hm hi) (fun i a ha hi => ?_)
  rcases Nat.lt_or_eq_of_le hi with k | k
  · have := h.lt hm ha k; omega
  · subst k; rw [hm] at ha; cases ha; omega
theorem hasId_at {l : List MsgM} (h : Rising l) {j : Nat} {m : MsgM} (hm : l[j]? = some m) : hasId m.id l = true := by
  unfold hasId
  rw [placeOf_at h hm, hm]; simp
end Go.Proofs.Ytocejpklpggfnaa

/- What is known of the types, laid by program (wip/tools/types.py). -/
namespace Go.Proofs.Ytocejpklpggfnaa
open Go.RowKit
instance : TOne Try.prog 1 (.nilFunc) := ⟨by kernel_rfl, by kernel_rfl, rfl⟩
instance : TInt Try.prog 2 .i64 := ⟨by kernel_rfl⟩
instance : TOne Try.prog 2 (.int .i64 0) := ⟨by kernel_rfl, by kernel_rfl, rfl⟩
instance : TInt Try.prog 3 .i64 := ⟨by kernel_rfl⟩
instance : TOne Try.prog 3 (.int .i64 0) := ⟨by kernel_rfl, by kernel_rfl, rfl⟩
instance : TBool Try.prog 4 := ⟨by kernel_rfl⟩
instance : TOne Try.prog 4 (.bool false) := ⟨by kernel_rfl, by kernel_rfl, rfl⟩
instance : TInt Try.prog 5 .u8 := ⟨by kernel_rfl⟩
instance : TOne Try.prog 5 (.int .u8 0) := ⟨by kernel_rfl, by kernel_rfl, rfl⟩
instance : TInt Try.prog 6 .u8 := ⟨by kernel_rfl⟩
instance : TOne Try.prog 6 (.int .u8 0) := ⟨by kernel_rfl, by kernel_rfl, rfl⟩
instance : TField Try.prog 7 0 0 1 := ⟨_, _, Try.underlying7, rfl, rfl, by kernel_rfl, by decide⟩
instance : TField Try.prog 7 1 1 1 := ⟨_, _, Try.underlying7, rfl, rfl, by kernel_rfl, by decide⟩
instance : TField Try.prog 7 2 2 1 := ⟨_, _, Try.underlying7, rfl, rfl, by kernel_rfl, by decide⟩
instance : TField Try.prog 7 3 3 1 := ⟨_, _, Try.underlying7, rfl, rfl, by kernel_rfl, by decide⟩
instance : TRow Try.prog 7 4 := ⟨by kernel_rfl, by kernel_rfl⟩
instance : TZero Try.prog 7 ([.int .i64 0, .int .i64 0, .bool false, .int .u8 0]) := ⟨by kernel_rfl⟩
instance : TField Try.prog 8 0 0 1 := ⟨_, _, Try.underlying8, rfl, rfl, by kernel_rfl, by decide⟩
instance : TField Try.prog 8 1 1 1 := ⟨_, _, Try.underlying8, rfl, rfl, by kernel_rfl, by decide⟩
instance : TField Try.prog 8 2 2 1 := ⟨_, _, Try.underlying8, rfl, rfl, by kernel_rfl, by decide⟩
instance : TField Try.prog 8 3 3 1 := ⟨_, _, Try.underlying8, rfl, rfl, by kernel_rfl, by decide⟩
instance : TRow Try.prog 8 4 := ⟨by kernel_rfl, by kernel_rfl⟩
instance : TZero Try.prog 8 ([.int .i64 0, .int .i64 0, .bool false, .int .u8 0]) := ⟨by kernel_rfl⟩
instance : TStr Try.prog 9 := ⟨by kernel_rfl⟩
instance : TOne Try.prog 9 (str []) := ⟨by kernel_rfl, by kernel_rfl, rfl⟩
instance : TStr Try.prog 10 := ⟨by kernel_rfl⟩
instance : TOne Try.prog 10 (str []) := ⟨by kernel_rfl, by kernel_rfl, rfl⟩
instance : TStr Try.prog 11 := ⟨by kernel_rfl⟩
instance : TOne Try.prog 11 (str []) := ⟨by kernel_rfl, by kernel_rfl, rfl⟩
instance : TInt Try.prog 12 .u64 := ⟨by kernel_rfl⟩
instance : TOne Try.prog 12 (.int .u64 0) := ⟨by kernel_rfl, by kernel_rfl, rfl⟩
instance : TField Try.prog 13 0 0 1 := ⟨_, _, Try.underlying13, rfl, rfl, by kernel_rfl, by decide⟩
instance : TField Try.prog 13 1 1 1 := ⟨_, _, Try.underlying13, rfl, rfl, by kernel_rfl, by decide⟩
instance : TRow Try.prog 13 2 := ⟨by kernel_rfl, by kernel_rfl⟩
instance : TZero Try.prog 13 ([str [], .int .u64 0]) := ⟨by kernel_rfl⟩
instance : TField Try.prog 14 0 0 1 := ⟨_, _, Try.underlying14, rfl, rfl, by kernel_rfl, by decide⟩
instance : TField Try.prog 14 1 1 1 := ⟨_, _, Try.underlying14, rfl, rfl, by kernel_rfl, by decide⟩
instance : TRow Try.prog 14 2 := ⟨by kernel_rfl, by kernel_rfl⟩
instance : TZero Try.prog 14 ([str [], .int .u64 0]) := ⟨by kernel_rfl⟩
instance : TPtr Try.prog 15 74 := ⟨by kernel_rfl⟩
instance : TOne Try.prog 15 (.pointer none) := ⟨by kernel_rfl, by kernel_rfl, rfl⟩
instance : TPtr Try.prog 16 77 := ⟨by kernel_rfl⟩
instance : TOne Try.prog 16 (.pointer none) := ⟨by kernel_rfl, by kernel_rfl, rfl⟩
instance : TPtr Try.prog 17 86 := ⟨by kernel_rfl⟩
instance : TOne Try.prog 17 (.pointer none) := ⟨by kernel_rfl, by kernel_rfl, rfl⟩
instance : TField Try.prog 18 0 0 1 := ⟨_, _, Try.underlying18, rfl, rfl, by kernel_rfl, by decide⟩
instance : TRow Try.prog 18 1 := ⟨by kernel_rfl, by kernel_rfl⟩
instance : TZero Try.prog 18 ([.pointer none]) := ⟨by kernel_rfl⟩
instance : TField Try.prog 19 0 0 1 := ⟨_, _, Try.underlying19, rfl, rfl, by kernel_rfl, by decide⟩
instance : TRow Try.prog 19 1 := ⟨by kernel_rfl, by kernel_rfl⟩
instance : TZero Try.prog 19 ([.pointer none]) := ⟨by kernel_rfl⟩
instance : TOne Try.prog 20 (.nilIface) := ⟨by kernel_rfl, by kernel_rfl, rfl⟩
instance : TInt Try.prog 21 .i32 := ⟨by kernel_rfl⟩
instance : TOne Try.prog 21 (.int .i32 0) := ⟨by kernel_rfl, by kernel_rfl, rfl⟩
instance : TSlice Try.prog 22 9 1 16 (zeroOf Try.prog 9) := ⟨by kernel_rfl, by kernel_rfl, by kernel_rfl⟩
instance : TOne Try.prog 22 (.slice none 0 0) := ⟨by kernel_rfl, by kernel_rfl, rfl⟩
instance : TOne Try.prog 23 (.nilFunc) := ⟨by kernel_rfl, by kernel_rfl, rfl⟩
instance : TPtr Try.prog 24 52 := ⟨by kernel_rfl⟩
instance : TOne Try.prog 24 (.pointer none) := ⟨by kernel_rfl, by kernel_rfl, rfl⟩
instance : TInt Try.prog 25 .i64 := ⟨by kernel_rfl⟩
instance : TOne Try.prog 25 (.int .i64 0) := ⟨by kernel_rfl, by kernel_rfl, rfl⟩
instance : TOne Try.prog 27 (.nilFunc) := ⟨by kernel_rfl, by kernel_rfl, rfl⟩
instance : TField Try.prog 28 0 0 1 := ⟨_, _, Try.underlying28, rfl, rfl, by kernel_rfl, by decide⟩
instance : TField Try.prog 28 1 1 1 := ⟨_, _, Try.underlying28, rfl, rfl, by kernel_rfl, by decide⟩
instance : TField Try.prog 28 2 2 1 := ⟨_, _, Try.underlying28, rfl, rfl, by kernel_rfl, by decide⟩
instance : TField Try.prog 28 3 3 1 := ⟨_, _, Try.underlying28, rfl, rfl, by kernel_rfl, by decide⟩
instance : TField Try.prog 28 4 4 1 := ⟨_, _, Try.underlying28, rfl, rfl, by kernel_rfl, by decide⟩
instance : TField Try.prog 28 5 5 1 := ⟨_, _, Try.underlying28, rfl, rfl, by kernel_rfl, by decide⟩
instance : TRow Try.prog 28 6 := ⟨by kernel_rfl, by kernel_rfl⟩
instance : TZero Try.prog 28 ([.int .i64 0, .int .i64 0, .int .i64 0, .int .i64 0, .int .i64 0, str []]) := ⟨by kernel_rfl⟩
instance : TField Try.prog 29 0 0 1 := ⟨_, _, Try.underlying29, rfl, rfl, by kernel_rfl, by decide⟩
instance : TField Try.prog 29 1 1 1 := ⟨_, _, Try.underlying29, rfl, rfl, by kernel_rfl, by decide⟩
instance : TField Try.prog 29 2 2 1 := ⟨_, _, Try.underlying29, rfl, rfl, by kernel_rfl, by decide⟩
instance : TField Try.prog 29 3 3 1 := ⟨_, _, Try.underlying29, rfl, rfl, by kernel_rfl, by decide⟩
instance : TField Try.prog 29 4 4 1 := ⟨_, _, Try.underlying29, rfl, rfl, by kernel_rfl, by decide⟩
instance : TField Try.prog 29 5 5 1 := ⟨_, _, Try.underlying29, rfl, rfl, by kernel_rfl, by decide⟩
instance : TPlaces Try.prog 29 [(0, 1), (1, 1), (2, 1), (3, 1), (4, 1), (5, 1)] ([.int .i64 0, .int .i64 0, .int .i64 0, .int .i64 0, .int .i64 0, str []]) := ⟨⟨_, Try.underlying29, fun w => by simp [run_size (P := Try.prog) (t := 3) (n := 1) (by kernel_rfl), run_size (P := Try.prog) (t := 9) (n := 1) (by kernel_rfl)]⟩, by kernel_rfl⟩
instance : TRow Try.prog 29 6 := ⟨by kernel_rfl, by kernel_rfl⟩
instance : TZero Try.prog 29 ([.int .i64 0, .int .i64 0, .int .i64 0, .int .i64 0, .int .i64 0, str []]) := ⟨by kernel_rfl⟩
instance : TOne Try.prog 30 (.nilFunc) := ⟨by kernel_rfl, by kernel_rfl, rfl⟩
instance : TOne Try.prog 32 (.nilFunc) := ⟨by kernel_rfl, by kernel_rfl, rfl⟩
instance : TOne Try.prog 33 (.nilFunc) := ⟨by kernel_rfl, by kernel_rfl, rfl⟩
instance : TOne Try.prog 34 (.nilFunc) := ⟨by kernel_rfl, by kernel_rfl, rfl⟩
instance : TOne Try.prog 35 (.nilFunc) := ⟨by kernel_rfl, by kernel_rfl, rfl⟩
instance : TSlice Try.prog 36 41 9 88 (zeroOf Try.prog 41) := ⟨by kernel_rfl, by kernel_rfl, by kernel_rfl⟩
instance : TOne Try.prog 36 (.slice none 0 0) := ⟨by kernel_rfl, by kernel_rfl, rfl⟩
instance : TOne Try.prog 37 (.nilFunc) := ⟨by kernel_rfl, by kernel_rfl, rfl⟩
instance : TSlice Try.prog 38 3 1 8 (zeroOf Try.prog 3) := ⟨by kernel_rfl, by kernel_rfl, by kernel_rfl⟩
instance : TOne Try.prog 38 (.slice none 0 0) := ⟨by kernel_rfl, by kernel_rfl, rfl⟩
instance : TOne Try.prog 39 (.map none) := ⟨by kernel_rfl, by kernel_rfl, rfl⟩
instance : TField Try.prog 40 0 0 1 := ⟨_, _, Try.underlying40, rfl, rfl, by kernel_rfl, by decide⟩
instance : TField Try.prog 40 1 1 1 := ⟨_, _, Try.underlying40, rfl, rfl, by kernel_rfl, by decide⟩
instance : TField Try.prog 40 2 2 1 := ⟨_, _, Try.underlying40, rfl, rfl, by kernel_rfl, by decide⟩
instance : TField Try.prog 40 3 3 6 := ⟨_, _, Try.underlying40, rfl, rfl, by kernel_rfl, by decide⟩
instance : TRow Try.prog 40 9 := ⟨by kernel_rfl, by kernel_rfl⟩
instance : TZero Try.prog 40 ([.int .i64 0, .int .i64 0, str [], .int .i64 0, .int .i64 0, .int .i64 0, .int .i64 0, .int .i64 0, str []]) := ⟨by kernel_rfl⟩
instance : TField Try.prog 41 0 0 1 := ⟨_, _, Try.underlying41, rfl, rfl, by kernel_rfl, by decide⟩
instance : TField Try.prog 41 1 1 1 := ⟨_, _, Try.underlying41, rfl, rfl, by kernel_rfl, by decide⟩
instance : TField Try.prog 41 2 2 1 := ⟨_, _, Try.underlying41, rfl, rfl, by kernel_rfl, by decide⟩
instance : TField Try.prog 41 3 3 6 := ⟨_, _, Try.underlying41, rfl, rfl, by kernel_rfl, by decide⟩
instance : TPlaces Try.prog 41 [(0, 1), (1, 1), (2, 1), (3, 6)] ([.int .i64 0, .int .i64 0, str [], .int .i64 0, .int .i64 0, .int .i64 0, .int .i64 0, .int .i64 0, str []]) := ⟨⟨_, Try.underlying41, fun w => by simp [run_size (P := Try.prog) (t := 3) (n := 1) (by kernel_rfl), run_size (P := Try.prog) (t := 9) (n := 1) (by kernel_rfl), run_size (P := Try.prog) (t := 29) (n := 6) (by kernel_rfl)]⟩, by kernel_rfl⟩
instance : TRow Try.prog 41 9 := ⟨by kernel_rfl, by kernel_rfl⟩
instance : TZero Try.prog 41 ([.int .i64 0, .int .i64 0, str [], .int .i64 0, .int .i64 0, .int .i64 0, .int .i64 0, .int .i64 0, str []]) := ⟨by kernel_rfl⟩
instance : TOne Try.prog 42 (.nilFunc) := ⟨by kernel_rfl, by kernel_rfl, rfl⟩
instance : TOne Try.prog 44 (.nilFunc) := ⟨by kernel_rfl, by kernel_rfl, rfl⟩
instance : TOne Try.prog 45 (.nilFunc) := ⟨by kernel_rfl, by kernel_rfl, rfl⟩
instance : TSlice Try.prog 46 4 1 1 (zeroOf Try.prog 4) := ⟨by kernel_rfl, by kernel_rfl, by kernel_rfl⟩
instance : TOne Try.prog 46 (.slice none 0 0) := ⟨by kernel_rfl, by kernel_rfl, rfl⟩
instance : TOne Try.prog 48 (.nilFunc) := ⟨by kernel_rfl, by kernel_rfl, rfl⟩
instance : TOne Try.prog 49 (.nilFunc) := ⟨by kernel_rfl, by kernel_rfl, rfl⟩
instance : TSlice Try.prog 50 58 5 48 (zeroOf Try.prog 58) := ⟨by kernel_rfl, by kernel_rfl, by kernel_rfl⟩
instance : TOne Try.prog 50 (.slice none 0 0) := ⟨by kernel_rfl, by kernel_rfl, rfl⟩
instance : TField Try.prog 51 0 0 1 := ⟨_, _, Try.underlying51, rfl, rfl, by kernel_rfl, by decide⟩
instance : TField Try.prog 51 1 1 1 := ⟨_, _, Try.underlying51, rfl, rfl, by kernel_rfl, by decide⟩
instance : TField Try.prog 51 2 2 1 := ⟨_, _, Try.underlying51, rfl, rfl, by kernel_rfl, by decide⟩
instance : TField Try.prog 51 3 3 1 := ⟨_, _, Try.underlying51, rfl, rfl, by kernel_rfl, by decide⟩
instance : TField Try.prog 51 4 4 1 := ⟨_, _, Try.underlying51, rfl, rfl, by kernel_rfl, by decide⟩
instance : TField Try.prog 51 5 5 1 := ⟨_, _, Try.underlying51, rfl, rfl, by kernel_rfl, by decide⟩
instance : TRow Try.prog 51 6 := ⟨by kernel_rfl, by kernel_rfl⟩
instance : TZero Try.prog 51 ([.int .i64 0, .int .i64 0, .int .i64 0, .int .i64 0, .int .i64 0, .slice none 0 0]) := ⟨by kernel_rfl⟩
instance : TField Try.prog 52 0 0 1 := ⟨_, _, Try.underlying52, rfl, rfl, by kernel_rfl, by decide⟩
instance : TField Try.prog 52 1 1 1 := ⟨_, _, Try.underlying52, rfl, rfl, by kernel_rfl, by decide⟩
instance : TField Try.prog 52 2 2 1 := ⟨_, _, Try.underlying52, rfl, rfl, by kernel_rfl, by decide⟩
instance : TField Try.prog 52 3 3 1 := ⟨_, _, Try.underlying52, rfl, rfl, by kernel_rfl, by decide⟩
instance : TField Try.prog 52 4 4 1 := ⟨_, _, Try.underlying52, rfl, rfl, by kernel_rfl, by decide⟩
instance : TField Try.prog 52 5 5 1 := ⟨_, _, Try.underlying52, rfl, rfl, by kernel_rfl, by decide⟩
instance : TPlaces Try.prog 52 [(0, 1), (1, 1), (2, 1), (3, 1), (4, 1), (5, 1)] ([.int .i64 0, .int .i64 0, .int .i64 0, .int .i64 0, .int .i64 0, .slice none 0 0]) := ⟨⟨_, Try.underlying52, fun w => by simp [run_size (P := Try.prog) (t := 3) (n := 1) (by kernel_rfl), run_size (P := Try.prog) (t := 50) (n := 1) (by kernel_rfl)]⟩, by kernel_rfl⟩
instance : TRow Try.prog 52 6 := ⟨by kernel_rfl, by kernel_rfl⟩
instance : TZero Try.prog 52 ([.int .i64 0, .int .i64 0, .int .i64 0, .int .i64 0, .int .i64 0, .slice none 0 0]) := ⟨by kernel_rfl⟩
instance : TOne Try.prog 53 (.nilFunc) := ⟨by kernel_rfl, by kernel_rfl, rfl⟩
instance : TOne Try.prog 55 (.nilFunc) := ⟨by kernel_rfl, by kernel_rfl, rfl⟩
instance : TOne Try.prog 56 (.nilFunc) := ⟨by kernel_rfl, by kernel_rfl, rfl⟩
instance : TField Try.prog 57 0 0 1 := ⟨_, _, Try.underlying57, rfl, rfl, by kernel_rfl, by decide⟩
instance : TField Try.prog 57 1 1 1 := ⟨_, _, Try.underlying57, rfl, rfl, by kernel_rfl, by decide⟩
instance : TField Try.prog 57 2 2 1 := ⟨_, _, Try.underlying57, rfl, rfl, by kernel_rfl, by decide⟩
instance : TField Try.prog 57 3 3 1 := ⟨_, _, Try.underlying57, rfl, rfl, by kernel_rfl, by decide⟩
instance : TField Try.prog 57 4 4 1 := ⟨_, _, Try.underlying57, rfl, rfl, by kernel_rfl, by decide⟩
instance : TRow Try.prog 57 5 := ⟨by kernel_rfl, by kernel_rfl⟩
instance : TZero Try.prog 57 ([.int .i64 0, .int .i64 0, .int .i64 0, str [], .bool false]) := ⟨by kernel_rfl⟩
instance : TField Try.prog 58 0 0 1 := ⟨_, _, Try.underlying58, rfl, rfl, by kernel_rfl, by decide⟩
instance : TField Try.prog 58 1 1 1 := ⟨_, _, Try.underlying58, rfl, rfl, by kernel_rfl, by decide⟩
instance : TField Try.prog 58 2 2 1 := ⟨_, _, Try.underlying58, rfl, rfl, by kernel_rfl, by decide⟩
instance : TField Try.prog 58 3 3 1 := ⟨_, _, Try.underlying58, rfl, rfl, by kernel_rfl, by decide⟩
instance : TField Try.prog 58 4 4 1 := ⟨_, _, Try.underlying58, rfl, rfl, by kernel_rfl, by decide⟩
instance : TPlaces Try.prog 58 [(0, 1), (1, 1), (2, 1), (3, 1), (4, 1)] ([.int .i64 0, .int .i64 0, .int .i64 0, str [], .bool false]) := ⟨⟨_, Try.underlying58, fun w => by simp [run_size (P := Try.prog) (t := 3) (n := 1) (by kernel_rfl), run_size (P := Try.prog) (t := 4) (n := 1) (by kernel_rfl), run_size (P := Try.prog) (t := 9) (n := 1) (by kernel_rfl)]⟩, by kernel_rfl⟩
instance : TRow Try.prog 58 5 := ⟨by kernel_rfl, by kernel_rfl⟩
instance : TZero Try.prog 58 ([.int .i64 0, .int .i64 0, .int .i64 0, str [], .bool false]) := ⟨by kernel_rfl⟩
instance : TPtr Try.prog 59 58 := ⟨by kernel_rfl⟩
instance : TOne Try.prog 59 (.pointer none) := ⟨by kernel_rfl, by kernel_rfl, rfl⟩
instance : TOne Try.prog 60 (.nilFunc) := ⟨by kernel_rfl, by kernel_rfl, rfl⟩
instance : TOne Try.prog 61 (.nilFunc) := ⟨by kernel_rfl, by kernel_rfl, rfl⟩
instance : TOne Try.prog 62 (.nilFunc) := ⟨by kernel_rfl, by kernel_rfl, rfl⟩
instance : TOne Try.prog 63 (.nilFunc) := ⟨by kernel_rfl, by kernel_rfl, rfl⟩
instance : TSlice Try.prog 64 29 6 56 (zeroOf Try.prog 29) := ⟨by kernel_rfl, by kernel_rfl, by kernel_rfl⟩
instance : TOne Try.prog 64 (.slice none 0 0) := ⟨by kernel_rfl, by kernel_rfl, rfl⟩
instance : TOne Try.prog 65 (.nilFunc) := ⟨by kernel_rfl, by kernel_rfl, rfl⟩
instance : TOne Try.prog 66 (.nilFunc) := ⟨by kernel_rfl, by kernel_rfl, rfl⟩
instance : TOne Try.prog 67 (.nilFunc) := ⟨by kernel_rfl, by kernel_rfl, rfl⟩
instance : TOne Try.prog 68 (.nilFunc) := ⟨by kernel_rfl, by kernel_rfl, rfl⟩
instance : TOne Try.prog 69 (.nilFunc) := ⟨by kernel_rfl, by kernel_rfl, rfl⟩
instance : TInt Try.prog 70 .u64 := ⟨by kernel_rfl⟩
instance : TOne Try.prog 70 (.int .u64 0) := ⟨by kernel_rfl, by kernel_rfl, rfl⟩
instance : TOne Try.prog 71 (.nilFunc) := ⟨by kernel_rfl, by kernel_rfl, rfl⟩
instance : TOne Try.prog 72 (.nilFunc) := ⟨by kernel_rfl, by kernel_rfl, rfl⟩
instance : TField Try.prog 73 0 0 1 := ⟨_, _, Try.underlying73, rfl, rfl, by kernel_rfl, by decide⟩
instance : TField Try.prog 73 1 1 1 := ⟨_, _, Try.underlying73, rfl, rfl, by kernel_rfl, by decide⟩
instance : TField Try.prog 73 2 2 1 := ⟨_, _, Try.underlying73, rfl, rfl, by kernel_rfl, by decide⟩
instance : TField Try.prog 73 3 3 1 := ⟨_, _, Try.underlying73, rfl, rfl, by kernel_rfl, by decide⟩
instance : TRow Try.prog 73 4 := ⟨by kernel_rfl, by kernel_rfl⟩
instance : TZero Try.prog 73 ([.pointer none, .pointer none, .pointer none, str []]) := ⟨by kernel_rfl⟩
instance : TField Try.prog 74 0 0 1 := ⟨_, _, Try.underlying74, rfl, rfl, by kernel_rfl, by decide⟩
instance : TField Try.prog 74 1 1 1 := ⟨_, _, Try.underlying74, rfl, rfl, by kernel_rfl, by decide⟩
instance : TField Try.prog 74 2 2 1 := ⟨_, _, Try.underlying74, rfl, rfl, by kernel_rfl, by decide⟩
instance : TField Try.prog 74 3 3 1 := ⟨_, _, Try.underlying74, rfl, rfl, by kernel_rfl, by decide⟩
instance : TRow Try.prog 74 4 := ⟨by kernel_rfl, by kernel_rfl⟩
instance : TZero Try.prog 74 ([.pointer none, .pointer none, .pointer none, str []]) := ⟨by kernel_rfl⟩
instance : TArr Try.prog 75 0 16 1 := ⟨by kernel_rfl, by kernel_rfl⟩
instance : TRow Try.prog 75 0 := ⟨by kernel_rfl, by kernel_rfl⟩
instance : TZero Try.prog 75 ([]) := ⟨by kernel_rfl⟩
instance : TRow Try.prog 76 0 := ⟨by kernel_rfl, by kernel_rfl⟩
instance : TZero Try.prog 76 ([]) := ⟨by kernel_rfl⟩
instance : TRow Try.prog 77 0 := ⟨by kernel_rfl, by kernel_rfl⟩
instance : TZero Try.prog 77 ([]) := ⟨by kernel_rfl⟩
instance : TInt Try.prog 78 .u32 := ⟨by kernel_rfl⟩
instance : TOne Try.prog 78 (.int .u32 0) := ⟨by kernel_rfl, by kernel_rfl, rfl⟩
instance : TInt Try.prog 79 .u8 := ⟨by kernel_rfl⟩
instance : TOne Try.prog 79 (.int .u8 0) := ⟨by kernel_rfl, by kernel_rfl, rfl⟩
instance : TInt Try.prog 80 .u8 := ⟨by kernel_rfl⟩
instance : TOne Try.prog 80 (.int .u8 0) := ⟨by kernel_rfl, by kernel_rfl, rfl⟩
instance : TOne Try.prog 81 (.nilFunc) := ⟨by kernel_rfl, by kernel_rfl, rfl⟩
instance : TPtr Try.prog 82 5 := ⟨by kernel_rfl⟩
instance : TOne Try.prog 82 (.pointer none) := ⟨by kernel_rfl, by kernel_rfl, rfl⟩
instance : TInt Try.prog 83 .i32 := ⟨by kernel_rfl⟩
instance : TOne Try.prog 83 (.int .i32 0) := ⟨by kernel_rfl, by kernel_rfl, rfl⟩
instance : TInt Try.prog 84 .i32 := ⟨by kernel_rfl⟩
instance : TOne Try.prog 84 (.int .i32 0) := ⟨by kernel_rfl, by kernel_rfl, rfl⟩
instance : TField Try.prog 85 0 0 1 := ⟨_, _, Try.underlying85, rfl, rfl, by kernel_rfl, by decide⟩
instance : TField Try.prog 85 1 1 1 := ⟨_, _, Try.underlying85, rfl, rfl, by kernel_rfl, by decide⟩
instance : TField Try.prog 85 2 2 1 := ⟨_, _, Try.underlying85, rfl, rfl, by kernel_rfl, by decide⟩
instance : TField Try.prog 85 3 3 1 := ⟨_, _, Try.underlying85, rfl, rfl, by kernel_rfl, by decide⟩
instance : TField Try.prog 85 4 4 1 := ⟨_, _, Try.underlying85, rfl, rfl, by kernel_rfl, by decide⟩
instance : TField Try.prog 85 5 5 1 := ⟨_, _, Try.underlying85, rfl, rfl, by kernel_rfl, by decide⟩
instance : TField Try.prog 85 6 6 1 := ⟨_, _, Try.underlying85, rfl, rfl, by kernel_rfl, by decide⟩
instance : TField Try.prog 85 7 7 1 := ⟨_, _, Try.underlying85, rfl, rfl, by kernel_rfl, by decide⟩
instance : TField Try.prog 85 8 8 1 := ⟨_, _, Try.underlying85, rfl, rfl, by kernel_rfl, by decide⟩
instance : TField Try.prog 85 9 9 1 := ⟨_, _, Try.underlying85, rfl, rfl, by kernel_rfl, by decide⟩
instance : TField Try.prog 85 10 10 1 := ⟨_, _, Try.underlying85, rfl, rfl, by kernel_rfl, by decide⟩
instance : TRow Try.prog 85 11 := ⟨by kernel_rfl, by kernel_rfl⟩
instance : TZero Try.prog 85 ([.int .u64 0, .int .u64 0, .int .u32 0, .int .u8 0, .int .u8 0, .int .u8 0, .int .u8 0, .nilFunc, .pointer none, .int .i32 0, .int .i32 0]) := ⟨by kernel_rfl⟩
instance : TField Try.prog 86 0 0 1 := ⟨_, _, Try.underlying86, rfl, rfl, by kernel_rfl, by decide⟩
instance : TField Try.prog 86 1 1 1 := ⟨_, _, Try.underlying86, rfl, rfl, by kernel_rfl, by decide⟩
instance : TField Try.prog 86 2 2 1 := ⟨_, _, Try.underlying86, rfl, rfl, by kernel_rfl, by decide⟩
instance : TField Try.prog 86 3 3 1 := ⟨_, _, Try.underlying86, rfl, rfl, by kernel_rfl, by decide⟩
instance : TField Try.prog 86 4 4 1 := ⟨_, _, Try.underlying86, rfl, rfl, by kernel_rfl, by decide⟩
instance : TField Try.prog 86 5 5 1 := ⟨_, _, Try.underlying86, rfl, rfl, by kernel_rfl, by decide⟩
instance : TField Try.prog 86 6 6 1 := ⟨_, _, Try.underlying86, rfl, rfl, by kernel_rfl, by decide⟩
instance : TField Try.prog 86 7 7 1 := ⟨_, _, Try.underlying86, rfl, rfl, by kernel_rfl, by decide⟩
instance : TField Try.prog 86 8 8 1 := ⟨_, _, Try.underlying86, rfl, rfl, by kernel_rfl, by decide⟩
instance : TField Try.prog 86 9 9 1 := ⟨_, _, Try.underlying86, rfl, rfl, by kernel_rfl, by decide⟩
instance : TField Try.prog 86 10 10 1 := ⟨_, _, Try.underlying86, rfl, rfl, by kernel_rfl, by decide⟩
instance : TRow Try.prog 86 11 := ⟨by kernel_rfl, by kernel_rfl⟩
instance : TZero Try.prog 86 ([.int .u64 0, .int .u64 0, .int .u32 0, .int .u8 0, .int .u8 0, .int .u8 0, .int .u8 0, .nilFunc, .pointer none, .int .i32 0, .int .i32 0]) := ⟨by kernel_rfl⟩
instance : TOne Try.prog 87 (.pointer none) := ⟨by kernel_rfl, by kernel_rfl, rfl⟩
end Go.Proofs.Ytocejpklpggfnaa

/- The queue in memory; the search for a number. -/
namespace Go.Proofs.Ytocejpklpggfnaa
open Go.RowKit

theorem owk_fv0 {P : Program} {N : Nat} {E : Env} {c : Con} {L : List HP} {d : Option Nat} {ty : TypeId} {pos : String} {aft : Array Edge} {g : Option (Nat × Bool)} {f : FuncId} {fo : Operand} {xs : Array Operand} {ts : Array TypeId} {vs : List Value} {K : Value → List HP → Prop} {r : Value}
    (hf : Ev E fo (.func (.func f) #[] #[])) (hx : Evs E xs vs) (he : entersB P f = true)
    (pre : ∀ w, St c L w → Calls P f vs.toArray w fun e w' => e = .returned r ∧ St c L w') (k : K r L) :
    OWK P N c E L (Oper.mk d (.call { callee := .value fo, args := xs, argTypes := ts }) ty pos aft g) K :=
  owk0 (ow_call (caps := []) hf hx he fun w H => by rw [List.append_nil]; exact (pre w H).mono fun _ _ h => ⟨(), h⟩) k
def cmpI (x y : Int) : Int := if x < y then -1 else if y < x then 1 else 0
theorem cmpI_lt {x y : Int} : cmpI x y < 0 ↔ x < y := by unfold cmpI; split <;> (try split) <;> omega
theorem cmpI_eq {x y : Int} : cmpI x y = 0 ↔ x = y := by unfold cmpI; split <;> (try split) <;> omega

def qcells (v : Value) (Q : QueueM) : List Value := [.int .i64 Q.number, .int .i64 Q.quota, .int .i64 Q.limit, .int .i64 Q.wait, .int .i64 Q.next, v]
structure QueueM.WF (Q : QueueM) : Prop where
  rising : Rising Q.list
  most : Q.list.length ≤ 64
  quota : 1 ≤ Q.quota ∧ Q.quota ≤ 64
  limit : 1 ≤ Q.limit ∧ Q.limit ≤ 16
  wait : 1 ≤ Q.wait ∧ Q.wait ≤ 1048576
  next : 1 ≤ Q.next ∧ Q.next ≤ 1099511627776
  ids : ∀ m ∈ Q.list, 1 ≤ m.id ∧ m.id < Q.next
  tries : ∀ m ∈ Q.list, 0 ≤ m.tries ∧ m.tries ≤ 1000000
  till : ∀ m ∈ Q.list, 0 ≤ m.till ∧ m.till ≤ 4611686018427387904
def QueueAt (p : Nat) (Q : QueueM) : HP := Pure Q.WF (Ex fun q : Option Addr × Nat => Join [Bl p 52 (qcells (.slice q.1 Q.list.length q.2) Q), OwnP 58 5 (.slice q.1 Q.list.length q.2) Q.list.length (mcells Q.list)])
section
variable {P : Program} {N : Nat} {c : Con} {K : Exit → Act → World → Prop} {E : Env} {L F : List HP} {w : World} {p : Nat} {Q : QueueM}
theorem St.openQ (H : St c (QueueAt p Q :: F) w) : Q.WF ∧ ∃ q : Option Addr × Nat, St c (Bl p 52 [.int .i64 Q.number, .int .i64 Q.quota, .int .i64 Q.limit, .int .i64 Q.wait, .int .i64 Q.next, .slice q.1 Q.list.length q.2] :: OwnP 58 5 (.slice q.1 Q.list.length q.2) Q.list.length (mcells Q.list) :: F) w := by
  obtain ⟨h0, H⟩ := St.pure H
  obtain ⟨q, H⟩ := St.ex H
  exact ⟨h0, q, St.join.1 H⟩
theorem St.shutQ {A : Option Addr} {n cap : Nat} (h : Q.WF) (hn : Q.list.length = n) (H : St c (Bl p 52 [.int .i64 Q.number, .int .i64 Q.quota, .int .i64 Q.limit, .int .i64 Q.wait, .int .i64 Q.next, .slice A n cap] :: OwnP 58 5 (.slice A n cap) n (mcells Q.list) :: F) w) : St c (QueueAt p Q :: F) w := by
  subst hn
  exact St.toPure h (St.toEx (A, cap) (St.join.2 H))
/-- A message out of the row. -/
theorem hasMsg {H : World → Prop} {g T n j : Nat} {cur : List Value} {l : List MsgM} {m : MsgM} (h : Has H g (.cells cur.toArray T (0, 0))) (hc : cur.take (n * 5) = mcells l) (hn : l.length = n) (hm : l[j]? = some m) : HasCells H ⟨g, 0 + j * 5, none⟩ (mcell m) := by
  refine hasCells_bl h ?_
  show (cur.drop (0 + j * 5)).take (mcell m).length = mcell m
  have hj : j < n := by rw [← hn]; exact (List.getElem?_eq_some_iff.1 hm).1
  have hle : j * 5 + 5 ≤ n * 5 := by omega
  rw [Nat.zero_add, mcell_length, ← mcells_at hm, ← hc, List.drop_take, List.take_take, Nat.min_eq_left (by omega)]
/-- A field of it. -/
theorem hasFld {H : World → Prop} {g T n j i o : Nat} {cur : List Value} {l : List MsgM} {m : MsgM} {v : Value} (h : Has H g (.cells cur.toArray T (0, 0))) (hc : cur.take (n * 5) = mcells l) (hn : l.length = n) (hm : l[j]? = some m) (hv : (mcell m)[i]? = some v) (ho : o = 0 + j * 5 + i) : HasCell H ⟨g, o, none⟩ v := by
  subst ho
  have := hasMsg h hc hn hm i v hv
  rwa [add_mid] at this
end
attribute [local irreducible] Y OW YK OWK W WL WP X CV GvL GvP Ev Evs HasCell HasCells Has Met Again Kept
section
variable {c : Con} {F : List HP} {w : World} {p : Nat} {Q : QueueM}
theorem go_isNaN (x : Int) (H : St c F w) : Calls Try.prog 31 #[.int .i64 x] w fun e w' => e = .returned (.bool false) ∧ St c F w' := by
  refine calls_w (vs := [.int .i64 x]) Try.func31 rfl rfl rfl ?_ w H
  (repeat' (first
      | (with_reducible refine is_yk ?_; refine yk_auto (k := ?_))
      | (with_reducible refine is_owk0 ?_; refine owk0_auto (k := ?_))
      | (with_reducible refine is_owkc ?_; refine owk_auto (k := fun _ => ?_))
      | refine go1 (k := ?_)
      | (refine go2 (ka := ?_) (kb := ?_) <;> intro _)
      | fail))
  exact x_ret1 rfl rfl (fun w H => ⟨by simp, H⟩)
theorem go_compare (x y : Int) (H : St c F w) : Calls Try.prog 29 #[.int .i64 x, .int .i64 y] w fun e w' => e = .returned (.int .i64 (cmpI x y)) ∧ St c F w' := by
  refine calls_w (vs := [.int .i64 x, .int .i64 y]) Try.func29 rfl rfl rfl ?_ w H
  (repeat' (first
      | ((with_reducible refine at_fn 31 ?_); with_reducible refine owk_c0s evs_auto (by kernel_rfl) (fun w H => go_isNaN _ H) ?_)
      | (with_reducible refine is_yk ?_; refine yk_auto (k := ?_))
      | (with_reducible refine is_owk0 ?_; refine owk0_auto (k := ?_))
      | (with_reducible refine is_owkc ?_; refine owk_auto (k := fun _ => ?_))
      | refine go1 (k := ?_)
      | (refine go2 (ka := ?_) (kb := ?_) <;> intro _)
      | fail))
  · rename_i h
    exact x_ret1 rfl rfl (fun w H => ⟨by simp [cmpI, h], H⟩)
  · rename_i h h2
    exact x_ret1 rfl rfl (fun w H => ⟨by simp [cmpI, h, h2], H⟩)
  · rename_i h h2
    exact x_ret1 rfl rfl (fun w H => ⟨by simp [cmpI, h, h2], H⟩)
theorem q_cmp (m : MsgM) (id : Int) (H : St c F w) : Calls Try.prog 28 #[.agg (mcell m).toArray, .int .i64 id] w fun e w' => e = .returned (.int .i64 (cmpI m.id id)) ∧ St c F w' := by
  refine calls_w (vs := [.agg (mcell m).toArray, .int .i64 id]) Try.func28 rfl rfl rfl ?_ w H
  (repeat' (first
      | ((with_reducible refine at_fn 29 ?_); with_reducible refine owk_c0s evs_auto (by kernel_rfl) (fun w H => go_compare _ _ H) ?_)
      | (with_reducible refine is_yk ?_; refine yk_auto (k := ?_))
      | (with_reducible refine is_owk0 ?_; refine owk0_auto (k := ?_))
      | (with_reducible refine is_owkc ?_; refine owk_auto (k := fun _ => ?_))
      | refine go1 (k := ?_)
      | (refine go2 (ka := ?_) (kb := ?_) <;> intro _)
      | fail))
  exact x_ret1 rfl rfl (fun w H => ⟨rfl, H.tail⟩)
set_option maxRecDepth 100000 in
set_option maxHeartbeats 1000000 in
theorem q_search {l : List MsgM} {A : Option Addr} {n cap : Nat} (id : Int) (hn : l.length = n) (hR : Rising l) (hn64 : n ≤ 1000) (H : St c (OwnP 58 5 (.slice A n cap) n (mcells l) :: F) w) :
    Calls Try.prog 27 #[.slice A n cap, .int .i64 id, .func (.func 28) #[] #[]] w fun e w' =>
      e = .returned (.tuple #[.int .i64 (placeOf id l), .bool (hasId id l)]) ∧ St c (OwnP 58 5 (.slice A n cap) n (mcells l) :: F) w' := by
  refine calls_w (vs := [.slice A n cap, .int .i64 id, .func (.func 28) #[] #[]]) Try.func27 rfl rfl rfl ?_ w H
  (repeat' (first
      | (with_reducible refine is_yk ?_; refine yk_auto (k := ?_))
      | (with_reducible refine is_owk0 ?_; refine owk0_auto (k := ?_))
      | (with_reducible refine is_owkc ?_; refine owk_auto (k := fun _ => ?_))
      | refine go1 (k := ?_)
      | (refine go2 (ka := ?_) (kb := ?_) <;> intro _)
      | fail))
  refine w_loop (α := Nat × Nat) (fun x => x.1 ≤ x.2 ∧ x.2 ≤ n ∧ (∀ t m, l[t]? = some m → t < x.1 → m.id < id) ∧ (∀ t m, l[t]? = some m → x.2 ≤ t → ¬ m.id < id))
    (fun x => [(9, .int .i64 (x.1 : Int)), (10, .int .i64 (x.2 : Int)), (8, .int .i64 (n : Int)), (0, .slice A n cap), (1, .int .i64 id), (2, .func (.func 28) #[] #[])])
    (fun _ => OwnP 58 5 (.slice A n cap) n (mcells l) :: F) (fun x => x.2 - x.1) (0, n)
    ⟨Nat.zero_le _, Nat.le_refl _, fun t m _ h => by omega, fun t m e h => by have := (List.getElem?_eq_some_iff.1 e).1; omega⟩ sub_auto sel_auto (fun x hx => ?_)
  obtain ⟨lo, hi⟩ := x
  obtain ⟨hlh, hhn, h1, h2⟩ := hx
  dsimp only at hlh hhn h1 h2 ⊢
  by_cases hlt : lo < hi
  · obtain ⟨m, hm⟩ : ∃ m, l[(lo + hi) / 2]? = some m := ⟨_, List.getElem?_eq_getElem (by omega)⟩
    refine w_openOwn pick_auto (fun h1 h2 h3 => ?_) (fun g cap' cur e1 hc1 hc2 hc3 hc4 => ?_)
    · omega
    cases e1
    have hhm : (lo + hi) / 2 < n := by omega
    have k1 : Value.int .u64 (IntKind.u64.wrap ((lo : Int) + (hi : Int))) = .int .u64 ((lo + hi : Nat) : Int) := by
      congr 1; simp [IntKind.wrap, IntKind.signed, IntKind.bits]; omega
    have k2 : Value.int .u64 ((((lo + hi : Nat)) : Int).fdiv (2 ^ (1 : Int).toNat)) = .int .u64 (((lo + hi) / 2 : Nat) : Int) := by
      congr 1; rw [Int.fdiv_eq_ediv_of_nonneg _ (by decide)]; rfl
    have k3 : Value.int .i64 (IntKind.i64.wrap (((lo + hi) / 2 : Nat) : Int)) = .int .i64 (((lo + hi) / 2 : Nat) : Int) := by
      congr 1; rw [IntWalk.i64_left]; unfold wrap64; omega
    have hml := mcell_length m
    (repeat' (first
      | (with_reducible refine is_owkc ?_; first | refine owk_fv0 (ev_tmp rfl) evs_auto (by kernel_rfl) (fun w H => q_cmp m id H) ?_)
      | (with_reducible refine at_conv ?_; first | refine yk_eq (y_conv_int (ev_tmp rfl)) k1 ?_ | refine yk_eq (y_conv_int (ev_tmp rfl)) k3 ?_)
      | (with_reducible refine at_bin ?_; first | refine yk_eq (y_shr (ev_tmp rfl) ev_const (by omega) (by decide)) k2 ?_)
      | (with_reducible refine at_load ?_; first | refine yk (y_loadN (ev_tmp rfl) (hasMsg has_auto hc4 hn hm) hml) ?_)
      | (with_reducible refine is_yk ?_; refine yk_auto (k := ?_))
      | (with_reducible refine is_owk0 ?_; refine owk0_auto (k := ?_))
      | (with_reducible refine is_owkc ?_; refine owk_auto (k := fun _ => ?_))
      | refine go1 (k := ?_)
      | (refine go2 (ka := ?_) (kb := ?_) <;> intro _)
      | fail))
    · rename_i hc
      have hlt' := cmpI_lt.1 hc
      refine x_again ((lo + hi) / 2 + 1, hi) ⟨(by omega : (lo + hi) / 2 + 1 ≤ hi), hhn, fun t a ha ht => ?_, h2⟩ (show hi - ((lo + hi) / 2 + 1) < hi - lo by omega) sub_auto (.imp .hd (shutOwn hc1 hc2 hc3 hc4) sel_all)
      dsimp only at ht
      rcases Nat.lt_or_eq_of_le (Nat.lt_succ_iff.1 ht) with k | k
      · have := hR.lt ha hm k; omega
      · rw [k, hm] at ha; cases ha; exact hlt'
    · rename_i hc
      have hlt' : ¬ m.id < id := fun k => hc (cmpI_lt.2 k)
      refine x_again (lo, (lo + hi) / 2) ⟨(by omega : lo ≤ (lo + hi) / 2), (by omega : (lo + hi) / 2 ≤ n), h1, fun t a ha ht => ?_⟩ (show (lo + hi) / 2 - lo < hi - lo by omega) sub_auto (.imp .hd (shutOwn hc1 hc2 hc3 hc4) sel_all)
      dsimp only at ht
      rcases Nat.lt_or_eq_of_le ht with k | k
      · have := hR.lt hm ha k; omega
      · rw [← k, hm] at ha; cases ha; exact hlt'
  · obtain rfl : lo = hi := by omega
    have hp : placeOf id l = lo := placeOf_is (by omega) h1 h2
    by_cases hln : lo < n
    · obtain ⟨m, hm⟩ : ∃ m, l[lo]? = some m := ⟨_, List.getElem?_eq_getElem (by omega)⟩
      have hml := mcell_length m
      refine w_openOwn pick_auto (fun h1 h2 h3 => ?_) (fun g cap' cur e1 hc1 hc2 hc3 hc4 => ?_)
      · omega
      cases e1
      (repeat' (first
      | (with_reducible refine is_owkc ?_; first | refine owk_fv0 (ev_tmp rfl) evs_auto (by kernel_rfl) (fun w H => q_cmp m id H) ?_)
      | (with_reducible refine at_load ?_; first | refine yk (y_loadN (ev_tmp rfl) (hasMsg has_auto hc4 hn hm) hml) ?_)
      | (with_reducible refine is_yk ?_; refine yk_auto (k := ?_))
      | (with_reducible refine is_owk0 ?_; refine owk0_auto (k := ?_))
      | (with_reducible refine is_owkc ?_; refine owk_auto (k := fun _ => ?_))
      | refine go1 (k := ?_)
      | (refine go2 (ka := ?_) (kb := ?_) <;> intro _)
      | fail))
      refine x_ret2 rfl rfl rfl (fun w H => ⟨?_, Sel.st (.imp .hd (shutOwn hc1 hc2 hc3 hc4) sel_all) H⟩)
      have e : hasId id l = decide (cmpI m.id id = 0) := by
        unfold hasId
        rw [hp, hm]
        exact decide_eq_decide.2 cmpI_eq.symm
      rw [hp, e]
    · (repeat' (first
      | (with_reducible refine is_yk ?_; refine yk_auto (k := ?_))
      | (with_reducible refine is_owk0 ?_; refine owk0_auto (k := ?_))
      | (with_reducible refine is_owkc ?_; refine owk_auto (k := fun _ => ?_))
      | refine go1 (k := ?_)
      | (refine go2 (ka := ?_) (kb := ?_) <;> intro _)
      | fail))
      refine x_ret2 rfl rfl rfl (fun w H => ⟨?_, H⟩)
      have e : hasId id l = false := by
        unfold hasId
        rw [hp, List.getElem?_eq_none (by omega)]
      rw [hp, e]
theorem q_at (id : Int) (H : St c (QueueAt p Q :: F) w) : Calls Try.prog 20 #[.pointer (some ⟨p, 0, none⟩), .int .i64 id] w fun e w' => e = .returned (.tuple #[.int .i64 (placeOf id Q.list), .bool (hasId id Q.list)]) ∧ St c (QueueAt p Q :: F) w' := by
  obtain ⟨hw, ⟨A, cap⟩, H⟩ := H.openQ
  dsimp only at H
  obtain ⟨n, hn⟩ : ∃ n, Q.list.length = n := ⟨_, rfl⟩
  have hm := hw.most
  have hR := hw.rising
  rw [hn] at H hm
  refine calls_w (vs := [.pointer (some ⟨p, 0, none⟩), .int .i64 id]) Try.func20 rfl rfl rfl ?_ w H
  (repeat' (first
      | ((with_reducible refine at_fn 27 ?_); with_reducible refine owk_c1 evs_auto (by kernel_rfl) pick_auto (fun w H => q_search id hn hR (by omega) H) ?_)
      | (with_reducible refine is_yk ?_; refine yk_auto (k := ?_))
      | (with_reducible refine is_owk0 ?_; refine owk0_auto (k := ?_))
      | (with_reducible refine is_owkc ?_; refine owk_auto (k := fun _ => ?_))
      | refine go1 (k := ?_)
      | (refine go2 (ka := ?_) (kb := ?_) <;> intro _)
      | fail))
  exact x_ret2 rfl rfl rfl (fun w H => ⟨rfl, St.shutQ hw hn H.swap⟩)
def lastId (l : List MsgM) : Int := (l.getLast?.map (·.id)).getD 0
theorem q_last_o {A : Option Addr} {n cap : Nat} (hn : Q.list.length = n) (hm : n ≤ 64) (H : St c (Bl p 52 [.int .i64 Q.number, .int .i64 Q.quota, .int .i64 Q.limit, .int .i64 Q.wait, .int .i64 Q.next, .slice A n cap] :: OwnP 58 5 (.slice A n cap) n (mcells Q.list) :: F) w) : Calls Try.prog 21 #[.pointer (some ⟨p, 0, none⟩)] w fun e w' => e = .returned (.int .i64 (lastId Q.list)) ∧ St c (Bl p 52 [.int .i64 Q.number, .int .i64 Q.quota, .int .i64 Q.limit, .int .i64 Q.wait, .int .i64 Q.next, .slice A n cap] :: OwnP 58 5 (.slice A n cap) n (mcells Q.list) :: F) w' := by
  refine calls_w (vs := [.pointer (some ⟨p, 0, none⟩)]) Try.func21 rfl rfl rfl ?_ w H
  by_cases h0 : n = 0
  · subst h0
    (repeat' (first
      | (with_reducible refine is_yk ?_; refine yk_auto (k := ?_))
      | (with_reducible refine is_owk0 ?_; refine owk0_auto (k := ?_))
      | (with_reducible refine is_owkc ?_; refine owk_auto (k := fun _ => ?_))
      | refine go1 (k := ?_)
      | (refine go2 (ka := ?_) (kb := ?_) <;> intro _)
      | fail))
    exact x_ret1 rfl rfl (fun w H => ⟨by rw [lastId, List.getLast?_eq_none_iff.2 (List.eq_nil_of_length_eq_zero hn)]; rfl, H⟩)
  · obtain ⟨m, hml⟩ : ∃ m, Q.list[n - 1]? = some m := ⟨_, List.getElem?_eq_getElem (by omega)⟩
    have hlast : lastId Q.list = m.id := by rw [lastId, List.getLast?_eq_getElem?, hn, hml]; rfl
    rw [hlast]
    have hidx : 0 ≤ (n : Int) - 1 ∧ (n : Int) - 1 < n := by omega
    refine w_openOwn pick_auto (fun h1 h2 h3 => absurd h2 h0) (fun g cap' cur e1 hc1 hc2 hc3 hc4 => ?_)
    cases e1
    have hv : (mcell m)[0]? = some (.int .i64 m.id) := rfl
    have ho : 0 + ((n : Int) - 1).toNat * 5 + 0 = 0 + (n - 1) * 5 + 0 := by omega
    (repeat' (first
      | (with_reducible refine at_load ?_; first | refine yk (y_load (ev_tmp rfl) (hasFld has_auto hc4 hn hml hv ho)) ?_)
      | (with_reducible refine is_yk ?_; refine yk_auto (k := ?_))
      | (with_reducible refine is_owk0 ?_; refine owk0_auto (k := ?_))
      | (with_reducible refine is_owkc ?_; refine owk_auto (k := fun _ => ?_))
      | refine go1 (k := ?_)
      | (refine go2 (ka := ?_) (kb := ?_) <;> intro _)
      | fail))
    exact x_ret1 rfl rfl (fun w H => ⟨rfl, (Sel.st (.cons (.tl .hd) (.imp .hd (shutOwn hc1 hc2 hc3 hc4) sel_all)) H)⟩)
end
end Go.Proofs.Ytocejpklpggfnaa

/- Slices with three bounds; shifts to the left; bytes as a number. No program in sight. -/
namespace Go.Proofs.Ytocejpklpggfnaa
open Go.RowKit
section
variable {P : Program} {N : Nat} {c : Con} {E : Env} {H : World → Prop} {L F : List HP} {d : Option Nat} {ty : TypeId} {pos : String} {aft : Array Edge} {g : Option (Nat × Bool)}
theorem y_slice3 {x lo hi mx : Operand} {t e s by' : Nat} {z : Value} {A : Option Addr} {n cap : Nat} {k1 k2 k3 : IntKind} {l h m : Nat} [ht : TSlice P t e s by' z] (hx : Ev E x (.slice A n cap)) (hl : Ev E lo (.int k1 l)) (hh : Ev E hi (.int k2 h)) (hm : Ev E mx (.int k3 m)) (hb : l ≤ h ∧ h ≤ m ∧ m ≤ cap) :
    Y P H E (Oper.mk d (.slice t x (some lo) (some hi) (some mx)) ty pos aft g) (.slice (if m = l then A else A.map (·.add (l * s))) (h - l) (m - l)) := fun N a w hf _ => by
  unfold execOp
  have hz := ht.i
  cases hq : P.info? e with
  | none => simp [hq] at hz
  | some ie =>
    have hs : ie.size = s := by simp [hq] at hz; exact hz.2.1
    simp [hx N a hf, hl N a hf, hh N a hf, hm N a hf, Instr.sliceAt, Instr.slice, run_underlying ht.u, Instr.sliceBounds, Instr.sliceBound, asIntOf, sizeOf, typeInfo, hq, hs, hb.1, hb.2.1, hb.2.2]
theorem y_sliceLoHi {x lo hi : Operand} {t e s by' : Nat} {z : Value} {A : Option Addr} {n cap : Nat} {k1 k2 : IntKind} {l h : Nat} [ht : TSlice P t e s by' z] (hx : Ev E x (.slice A n cap)) (hl : Ev E lo (.int k1 l)) (hh : Ev E hi (.int k2 h)) (hb : l ≤ h ∧ h ≤ cap) :
    Y P H E (Oper.mk d (.slice t x (some lo) (some hi) none) ty pos aft g) (.slice (if cap = l then A else A.map (·.add (l * s))) (h - l) (cap - l)) := fun N a w hf _ => by
  unfold execOp
  have hz := ht.i
  cases hq : P.info? e with
  | none => simp [hq] at hz
  | some ie =>
    have hs : ie.size = s := by simp [hq] at hz; exact hz.2.1
    simp [hx N a hf, hl N a hf, hh N a hf, Instr.sliceAt, Instr.slice, run_underlying ht.u, Instr.sliceBounds, Instr.sliceBound, asIntOf, sizeOf, typeInfo, hq, hs, hb.1, hb.2]
theorem y_slice3h {x hi mx : Operand} {t e s by' : Nat} {z : Value} {A : Option Addr} {n cap : Nat} {k2 k3 : IntKind} {h m : Nat} [ht : TSlice P t e s by' z] (hx : Ev E x (.slice A n cap)) (hh : Ev E hi (.int k2 h)) (hm : Ev E mx (.int k3 m)) (hb : h ≤ m ∧ m ≤ cap) :
    Y P H E (Oper.mk d (.slice t x none (some hi) (some mx)) ty pos aft g) (.slice A h m) := fun N a w hf _ => by
  unfold execOp
  have hz := ht.i
  cases hq : P.info? e with
  | none => simp [hq] at hz
  | some ie =>
    have hs : ie.size = s := by simp [hq] at hz; exact hz.2.1
    simp [hx N a hf, hh N a hf, hm N a hf, Instr.sliceAt, Instr.slice, run_underlying ht.u, Instr.sliceBounds, Instr.sliceBound, asIntOf, sizeOf, typeInfo, hq, hs, hb.1, hb.2]
    intro _
    cases A <;> simp [Addr.add]
theorem y_strHi {x hi : Operand} {t : Nat} {l l' : List UInt8} {k : IntKind} {m : Int} {n : Nat} [ht : TStr P t] (hx : Ev E x (str l)) (hh : Ev E hi (.int k m)) (hm : m = n) (h : n ≤ l.length) (he : l.take n = l') :
    Y P H E (Oper.mk d (.slice t x none (some hi) none) ty pos aft g) (str l') := by subst hm he; exact y_sliceStrHi hx hh h
theorem y_strLo {x lo : Operand} {t : Nat} {l l' : List UInt8} {k : IntKind} {m : Int} {n : Nat} [ht : TStr P t] (hx : Ev E x (str l)) (hl : Ev E lo (.int k m)) (hm : m = n) (h : n ≤ l.length) (he : l.drop n = l') :
    Y P H E (Oper.mk d (.slice t x (some lo) none none) ty pos aft g) (str l') := by subst hm he; exact y_sliceStrLo hx hl h
theorem y_indexStr {x i : Operand} {t : Nat} {l : List UInt8} {k : IntKind} {m : Int} {j : Nat} {b : UInt8} [ht : TStr P t] (hx : Ev E x (str l)) (hi : Ev E i (.int k m)) (hm : m = j) (hb : l[j]? = some b) :
    Y P H E (Oper.mk d (.index t x i) ty pos aft g) (.int .u8 (b.toNat : Int)) := fun N a w hf _ => by
  subst hm
  have hj : j < l.length := (List.getElem?_eq_some_iff.1 hb).1
  have e : (ByteArray.mk l.toArray)[j]? = some b := by
    have h0 : j < (ByteArray.mk l.toArray).size := hj
    rw [getElem?_pos (ByteArray.mk l.toArray) j h0]
    rw [List.getElem?_eq_getElem hj] at hb
    exact hb
  unfold execOp
  simp [hx N a hf, hi N a hf, str, Instr.index, run_underlying ht.u, asIntOf, e]
theorem y_shl {k k' : IntKind} {x y : Operand} {t t' : TypeId} {m n : Int} (hx : Ev E x (.int k m)) (hy : Ev E y (.int k' n)) (h : 0 ≤ n) (hn : n.toNat ≤ k.bits) :
    Y P H E (Oper.mk d (.binOp .shl t x y t') ty pos aft g) (.int k (k.wrap (m * 2 ^ n.toNat))) := fun N a w hf _ => by
  have h0 : ¬ n < 0 := by omega
  unfold execOp; simp [hx N a hf, hy N a hf, eqGuard, binOp, Op.shift, h0, Nat.min_eq_left hn]
theorem y_build0z {t : Nat} {ps : List (Nat × Nat)} {z : List Value} [ht : TPlaces P t ps z] : Y P H E (Oper.mk d (.build t #[]) ty pos aft g) (.agg z.toArray) := y_build .nil
end
theorem hasR_cell {H : World → Prop} {ad : Addr} {n cap j o : Nat} {cs : List Value} {u : Value} (h : HasR H (.slice (some ad) n cap) n cs) (hu : cs[j]? = some u) (ho : o = j * 1) : HasCell H (ad.add o) u := fun w hw => by
  subst ho
  rw [Nat.mul_one]
  rcases (h w hw).2 with ⟨e, _⟩ | ⟨a, cap', e, _, _, h3⟩
  · cases e
  · cases e; exact h3 j u hu
theorem bvs_get {l : List UInt8} {j : Nat} (hj : j < l.length) : (bvs l)[j]? = some (.int .u8 (l[j].toNat : Int)) := by
  simp [bvs, bv, hj]
theorem hasR_blZ {c : Con} {L : List HP} {b T : Nat} (n : Nat) (h2 : n ≤ 9223372036854775807 := by omega) : HasR (St c (Bl b T (List.replicate n (.int .u8 0)) :: L)) (.slice (some ⟨b, 0, none⟩) n n) n (bvs (zeros n)) := by
  rw [replicate_bvs]; exact hasR_blAll (by simp [bvs_length, zeros_length]) (Nat.le_refl _) h2
theorem hasR_bytesN {c : Con} {L : List HP} {b cap e n : Nat} {l : List UInt8} (hn : l.length = n) (h : n ≤ cap ∧ cap ≤ 9223372036854775807) : HasR (St c (BytesP b cap e l :: L)) (.slice (some ⟨b, 0, none⟩) n cap) n (bvs l) := by
  subst hn; exact hasR_bytes h
theorem add_add (a : Addr) (l j : Nat) : (a.add l).add j = a.add (l + j) := by
  unfold Addr.add
  by_cases h1 : l = 0 <;> by_cases h2 : j = 0 <;> simp [h1, h2, Nat.add_assoc]
/-- A part of what reads. -/
theorem hasR_sub {H : World → Prop} {A : Option Addr} {n cap l h k s : Nat} {cs ds : List Value} (hr : HasR H (.slice A n cap) n cs) (hlh : l < h ∧ h ≤ n ∧ n ≤ 9223372036854775807) (hs : s = 1) (hk : k = h - l) (hd : (cs.take h).drop l = ds) :
    HasR H (.slice (A.map (·.add (l * s))) k k) k ds := fun w hw => by
  subst hs hk hd
  obtain ⟨hlen, h0⟩ := hr w hw
  rw [Nat.mul_one] at hlen
  refine ⟨by simp [hlen, Nat.min_eq_left hlh.2.1], ?_⟩
  rcases h0 with ⟨_, h2⟩ | ⟨a, cap', e, h1, h2, h3⟩
  · omega
  · obtain ⟨rfl, -, -⟩ := Value.slice.inj e
    refine .inr ⟨_, _, rfl, Nat.le_refl _, by omega, fun j u hu => ?_⟩
    rw [List.getElem?_drop, List.getElem?_take] at hu
    split at hu
    · have := h3 _ u hu
      rw [Nat.mul_one, add_add]
      exact this
    · cases hu
theorem ow_sel {P : Program} {N : Nat} {c : Con} {E : Env} {L L1 : List HP} {o : Oper} {β : Type} {r : β → Value} {L' : β → List HP} (s : Sel L L1) (h : OW P N c E L1 o r L') : OW P N c E L o r L' := fun Q K a w hf H hk => h Q K a w hf (s.st H) hk
/-- A slice of one's own that isn't empty, opened: its block, its capacity, its cells. -/
structure OB (k size : Nat) (ys : List Value) where
  g : Nat
  cap : Nat
  cur : List Value
  h1 : k ≤ cap
  h2 : cap ≤ 9223372036854775807
  h3 : cur.length = cap * size
  h4 : cur.take (k * size) = ys
theorem ow_opened {P : Program} {N : Nat} {c : Con} {E : Env} {L F : List HP} {o : Oper} {k size : Nat} {e : TypeId} {ys : List Value} (hk : 0 < k) (h : OW P N c E L o (fun q : Option Addr × Nat => .slice q.1 k q.2) fun q => OwnP e size (.slice q.1 k q.2) k ys :: F) :
    OW P N c E L o (fun x : OB k size ys => .slice (some ⟨x.g, 0, none⟩) k x.cap) fun x => Bl x.g e x.cur :: F := fun Q K a w hf H hh => h Q K a w hf H fun q w1 H1 => by
  rcases H1.ownOpen with ⟨_, h0, _⟩ | ⟨g, cap, cur, e1, h1, h2, h3, h4, h5, H2⟩
  · omega
  · show K (a.put o.dst (.slice q.1 k q.2)) w1
    rw [e1]
    exact hh ⟨g, cap, cur, h1, h2, h3, h4⟩ w1 H2
theorem OB.le {k size : Nat} {ys : List Value} (x : OB k size ys) {n : Nat} (h : n ≤ k) : n ≤ n ∧ n ≤ x.cap := ⟨Nat.le_refl _, Nat.le_trans h x.h1⟩
theorem OB.shut {k size : Nat} {ys : List Value} {e : TypeId} (x : OB k size ys) : ∀ h, Bl x.g e x.cur h → OwnP e size (.slice (some ⟨x.g, 0, none⟩) k x.cap) k ys h := shutOwn x.h1 x.h2 x.h3 x.h4
theorem OB.take1 {k : Nat} {ys : List Value} (x : OB k 1 ys) : x.cur.take k = ys := by have := x.h4; rwa [Nat.mul_one] at this
theorem OB.hasR {k : Nat} {ys : List Value} {e : TypeId} {c : Con} {L : List HP} (x : OB k 1 ys) : HasR (St c (Bl x.g e x.cur :: L)) (.slice (some ⟨x.g, 0, none⟩) k x.cap) k ys := hasR_bl x.take1 (by have h1 := x.h1; have h2 := x.h3; omega) x.h1 x.h2
/-- What lay there ahead. -/
theorem old_auto {H : World → Prop} {ad : Addr} {v : Value} (h : HasCell H ad v := by ((repeat (first | exact hasCell_old (by assumption) | apply hasCell_tl)); (first | done | fail))) : HasCell H ad v := h
/-- The walk stops here. -/
def Stop (p : Prop) : Prop := p
section
variable {P : Program} {N : Nat} {c : Con} {Q : Exit → Act → World → Prop} {E : Env} {L : List HP}
theorem w_meetS {id : Nat} {ops : Array Oper} {b : Bool} {x y : Code} {α : Type} (F : α → Prop) (Ev : α → Env) (Ls : α → List HP) (h : Stop (W P N c (Exit.then (Met N c F Ev Ls) Q) ((Code.region id ops b).seq x) E L)) (k : ∀ s, F s → W P N c Q y (Ev s) (Ls s)) : W P N c Q (((Code.region id ops b).seq x).seq y) E L := w_meet F Ev Ls h k
theorem w_stopR {id : Nat} {ops : Array Oper} {b : Bool} {x : Code} (h : Stop (W P N c Q ((Code.region id ops b).seq x) E L)) : W P N c Q ((Code.region id ops b).seq x) E L := h
end
/-- append onto nil. -/
theorem ow_appendR0 {P : Program} {N : Nat} {c : Con} {E : Env} {L : List HP} {d : Option Nat} {ty : TypeId} {pos : String} {aft : Array Edge} {g : Option (Nat × Bool)} {s x : Operand} {t tx e bytes e' s' b' m : Nat} {z z' v : Value} {news : List Value} [ht : TSlice P t e 1 bytes z] [htx : TSlice P tx e' s' b' z'] (hs : Ev E s (.slice none 0 0)) (hx : Ev E x v)
    (hr : HasR (St c L) v m news) (h1 : ∀ u ∈ news, u.oneCell' = true) (hb : m ≤ 9223372036854775807 ∧ m * bytes ≤ 140737488355328) :
    OW P N c E L (Oper.mk d (.call { callee := .builtin .append, args := #[s, x], argTypes := #[t, tx] }) ty pos aft g) (fun q : Option Addr × Nat => .slice q.1 m q.2) fun q => OwnP e 1 (.slice q.1 m q.2) m news :: L :=
  ow_sel (.own0 sel_all) (ow_appendR (k := m) (ys := news) hs hx (hasR_tl hr) h1 (Nat.zero_add m) (List.nil_append _) hb .hd)
/-- Bytes as a number, the lowest first. -/
def leN : List UInt8 → Nat
  | [] => 0
  | b :: r => b.toNat + 256 * leN r
theorem leN_lt : ∀ l : List UInt8, leN l < 256 ^ l.length
  | [] => by simp [leN]
  | b :: r => by
    have h1 := leN_lt r
    have h2 := b.toNat_lt
    rw [leN, List.length_cons, Nat.pow_succ]
    omega
theorem leN_snoc : ∀ (l : List UInt8) (b : UInt8), leN (l ++ [b]) = leN l + b.toNat * 256 ^ l.length
  | [], b => by simp [leN]
  | c :: r, b => by
    rw [List.cons_append, leN, leN, leN_snoc r b, List.length_cons, Nat.pow_succ, Nat.mul_add, ← Nat.mul_assoc, Nat.mul_comm 256 b.toNat, Nat.mul_comm (256 ^ r.length) 256, Nat.mul_assoc b.toNat, Nat.add_assoc]
/-- Two numbers without a common bit. -/
theorem bits_or_u64 {x y i : Nat} (hx : x < 2 ^ i) (hy : y * 2 ^ i + x < 2 ^ 64) : bits .or .u64 (x : Int) ((y * 2 ^ i : Nat) : Int) = ((x + y * 2 ^ i : Nat) : Int) := by
  have h2 : y * 2 ^ i < 2 ^ 64 := by omega
  have h1 : x < 2 ^ 64 := by omega
  have e := Nat.shiftLeft_add_eq_or_of_lt hx y
  rw [Nat.shiftLeft_eq] at e
  have e1 : (BitVec.ofInt 64 (x : Int)) = BitVec.ofNat 64 x := by simp
  have e2 : (BitVec.ofInt 64 ((y * 2 ^ i : Nat) : Int)) = BitVec.ofNat 64 (y * 2 ^ i) := by rw [BitVec.ofInt_natCast]
  show IntKind.u64.wrap (((BitVec.ofInt 64 (x : Int)) ||| (BitVec.ofInt 64 ((y * 2 ^ i : Nat) : Int))).toNat : Int) = _
  rw [e1, e2, BitVec.toNat_or, BitVec.toNat_ofNat, BitVec.toNat_ofNat, Nat.mod_eq_of_lt h1, Nat.mod_eq_of_lt h2, Nat.or_comm, ← e]
  have e3 : ∀ z : Int, IntKind.u64.wrap z = z % 18446744073709551616 := fun _ => rfl
  rw [e3]
  have : (2 : Nat) ^ 64 = 18446744073709551616 := rfl
  omega
/-- The number of eight bytes. -/
def leInt (l : List UInt8) : Int := wrap64 (leN l : Int)
end Go.Proofs.Ytocejpklpggfnaa

/- The queue: records, New, Put, Lease, held. -/
namespace Go.Proofs.Ytocejpklpggfnaa
open Go.RowKit

structure RecM where
  kind : Int
  queue : Int
  id : Int
  num : Int
  wait : Int
  body : List UInt8
def rcells (R : RecM) : List Value := [.int .i64 R.kind, .int .i64 R.queue, .int .i64 R.id, .int .i64 R.num, .int .i64 R.wait, str R.body]
def rec0 : RecM := ⟨0, 0, 0, 0, 0, []⟩
theorem rcells_length (R : RecM) : (rcells R).length = 6 := rfl
theorem rcells_one (R : RecM) : ∀ v ∈ rcells R, v.oneCell' = true := by
  intro v hv
  simp only [rcells, List.mem_cons, List.not_mem_nil, or_false] at hv
  rcases hv with rfl | rfl | rfl | rfl | rfl | rfl <;> rfl
section
variable {P : Program} {N : Nat} {c : Con} {E : Env} {H : World → Prop} {L : List HP} {d : Option Nat} {ty : TypeId} {pos : String} {aft : Array Edge} {g : Option (Nat × Bool)}
theorem y_rec5 {x0 x1 x2 x3 x5 : Operand} {k q i n : Int} {b : List UInt8} (h0 : Ev E x0 (.int .i64 k)) (h1 : Ev E x1 (.int .i64 q)) (h2 : Ev E x2 (.int .i64 i)) (h3 : Ev E x3 (.int .i64 n)) (h5 : Ev E x5 (str b)) :
    Y Try.prog H E (Oper.mk d (.build 29 #[(0, x0), (1, x1), (2, x2), (3, x3), (5, x5)]) ty pos aft g) (.agg (rcells ⟨k, q, i, n, 0, b⟩).toArray) := by
  have hl : Lay E [(0, 1), (1, 1), (2, 1), (3, 1), (4, 1), (5, 1)] [.int .i64 0, .int .i64 0, .int .i64 0, .int .i64 0, .int .i64 0, str []] [(0, x0), (1, x1), (2, x2), (3, x3), (5, x5)] (rcells ⟨k, q, i, n, 0, b⟩) :=
    .one h0 rfl rfl (by simp) (.one h1 rfl rfl (by simp) (.one h2 rfl rfl (by simp) (.one h3 rfl rfl (by simp) (.one h5 rfl rfl (by simp) .nil))))
  exact y_build (P := Try.prog) (t := 29) hl
theorem y_rec4 {x0 x1 x2 x3 x4 : Operand} {k q i n v : Int} (h0 : Ev E x0 (.int .i64 k)) (h1 : Ev E x1 (.int .i64 q)) (h2 : Ev E x2 (.int .i64 i)) (h3 : Ev E x3 (.int .i64 n)) (h4 : Ev E x4 (.int .i64 v)) :
    Y Try.prog H E (Oper.mk d (.build 29 #[(0, x0), (1, x1), (2, x2), (3, x3), (4, x4)]) ty pos aft g) (.agg (rcells ⟨k, q, i, n, v, []⟩).toArray) := by
  have hl : Lay E [(0, 1), (1, 1), (2, 1), (3, 1), (4, 1), (5, 1)] [.int .i64 0, .int .i64 0, .int .i64 0, .int .i64 0, .int .i64 0, str []] [(0, x0), (1, x1), (2, x2), (3, x3), (4, x4)] (rcells ⟨k, q, i, n, v, []⟩) :=
    .one h0 rfl rfl (by simp) (.one h1 rfl rfl (by simp) (.one h2 rfl rfl (by simp) (.one h3 rfl rfl (by simp) (.one h4 rfl rfl (by simp) .nil))))
  exact y_build (P := Try.prog) (t := 29) hl
theorem y_buildQ {x0 x1 x2 x3 x4 : Operand} {Q : QueueM} (h0 : Ev E x0 (.int .i64 Q.number)) (h1 : Ev E x1 (.int .i64 Q.quota)) (h2 : Ev E x2 (.int .i64 Q.limit)) (h3 : Ev E x3 (.int .i64 Q.wait)) (h4 : Ev E x4 (.int .i64 Q.next)) :
    Y Try.prog H E (Oper.mk d (.build 52 #[(0, x0), (1, x1), (2, x2), (3, x3), (4, x4)]) ty pos aft g) (.agg [.int .i64 Q.number, .int .i64 Q.quota, .int .i64 Q.limit, .int .i64 Q.wait, .int .i64 Q.next, .slice none 0 0].toArray) := by
  have hl : Lay E [(0, 1), (1, 1), (2, 1), (3, 1), (4, 1), (5, 1)] [.int .i64 0, .int .i64 0, .int .i64 0, .int .i64 0, .int .i64 0, .slice none 0 0] [(0, x0), (1, x1), (2, x2), (3, x3), (4, x4)] [.int .i64 Q.number, .int .i64 Q.quota, .int .i64 Q.limit, .int .i64 Q.wait, .int .i64 Q.next, .slice none 0 0] :=
    .one h0 rfl rfl (by simp) (.one h1 rfl rfl (by simp) (.one h2 rfl rfl (by simp) (.one h3 rfl rfl (by simp) (.one h4 rfl rfl (by simp) .nil))))
  exact y_build (P := Try.prog) (t := 52) hl
/-- A function's result that lies in a cell. -/
theorem results_c {fn : Func} {p : Tmp} {ty : TypeId} (h : fn.results = #[.cell p ty]) (tmps : Array Value) (w : World) (g : Nat) (t : TypeId) (cs : Array Value) (fr : Nat × Nat) (d : TypeDesc)
    (hp : tmps.getD p undef = .pointer (some ⟨g, 0, none⟩)) (hg : w.heap[g]? = some (.cells cs t fr))
    (hu : P.underlying ty = some d) (hd : d.isRow = true) (hi : (P.info? ty).map (·.size) = some cs.size) :
    (results fn tmps).run P w = .ok (.agg cs) w := by
  have hp' : tmps[p]?.getD undef = .pointer (some ⟨g, 0, none⟩) := by simpa using hp
  have hr : w.rangeAt g 0 cs.toList := fun j v hv => by rw [Nat.zero_add, cell_of_row w g j cs t fr hg]; simpa using hv
  have hl := run_loadVar_mid (P := P) w g 0 ty cs.toList d hr hu hd (by rw [hi, Array.length_toList])
  rw [Array.toArray_toList] at hl
  simp [results, h, hp', asAddr, hl]
theorem x_retC {fn : Func} {R : Ending → World → Prop} {t ty T b n : Nat} {cs : List Value} [hrow : TRow P ty n] (hr : fn.results = #[.cell t ty]) (hl : look E t = some (.pointer (some ⟨b, 0, none⟩))) (hb : Has (St c L) b (.cells cs.toArray T (0, 0))) (hn : cs.length = n)
    (h : ∀ w, St c L w → R (.returned (.agg cs.toArray)) w) : X N c (bodyPost P fn R) .ret E L := fun a w hf H => by
  have hd := hrow.u
  cases hq : P.underlying ty with
  | none => rw [hq] at hd; cases hd
  | some ds =>
    rw [hq] at hd
    exact bodyPost_ret (v := .agg cs.toArray) (results_c hr a.tmps w b T cs.toArray (0, 0) ds (hf.get t _ hl) (hb w H) hq (by simpa using hd) (by rw [hrow.i, ← hn]; simp)) hf.defers (h w H)
theorem x_retCT {fn : Func} {R : Ending → World → Prop} {t u ty T b n : Nat} {cs : List Value} {v : Value} [hrow : TRow P ty n] (hr : fn.results = #[.cell t ty, .tmp u]) (hl : look E t = some (.pointer (some ⟨b, 0, none⟩))) (hu : look E u = some v) (hb : Has (St c L) b (.cells cs.toArray T (0, 0))) (hn : cs.length = n)
    (h : ∀ w, St c L w → R (.returned (.tuple #[.agg cs.toArray, v])) w) : X N c (bodyPost P fn R) .ret E L := fun a w hf H => by
  have hd := hrow.u
  cases hq : P.underlying ty with
  | none => rw [hq] at hd; cases hd
  | some ds =>
    rw [hq] at hd
    have hd' : ds.isRow = true := by simpa using hd
    refine bodyPost_ret (v := .tuple #[.agg cs.toArray, v]) ?_ hf.defers (h w H)
    have e := results_ct hr a.tmps w b T cs.toArray (0, 0) ds (hf.get t _ hl) (hb w H) hq hd' (by rw [hrow.i, ← hn]; simp)
    rw [hf.get u v hu] at e
    exact e
end
theorem w_ex {P : Program} {N : Nat} {c : Con} {K : Exit → Act → World → Prop} {E : Env} {L : List HP} {β : Type} {x : Code} {L' : β → List HP} (h : ∀ w, St c L w → ∃ y, St c (L' y) w) (k : ∀ y, W P N c K x E (L' y)) : W P N c K x E L := fun a w hf H => by
  obtain ⟨y, H'⟩ := h w H
  exact k y a w hf H'
theorem has_tail {c : Con} {L : List HP} {A : HP} {b : Nat} {o : Obj} (h : Has (St c L) b o) : Has (St c (A :: L)) b o := fun w H => h w H.tail
namespace QueueM
def putE (Q : QueueM) (n : Nat) : Int := if 512 < n then 3 else if Q.quota ≤ (Q.list.length : Int) then 14 else if 1099511627776 ≤ Q.next then 10 else 0
def putR (Q : QueueM) (b : List UInt8) : RecM := if Q.putE b.length = 0 then ⟨3, Q.number, Q.next, 0, 0, b⟩ else rec0
def ready (m : MsgM) : Bool := decide (m.till = 0) && !m.dead
def leaseE (Q : QueueM) : Int := if (Q.list.find? ready).isSome then 0 else 13
def leaseR (Q : QueueM) (now : Int) : RecM := match Q.list.find? ready with
  | some m => ⟨4, Q.number, m.id, now + Q.wait, 0, []⟩
  | none => rec0
/-- Is the message leased? -/
def leased (Q : QueueM) (id : Int) : Bool := match Q.list[placeOf id Q.list]? with
  | some m => decide (m.id = id) && !decide (m.till = 0)
  | none => false
def heldE (Q : QueueM) (id : Int) : Int := if Q.leased id then 0 else 16
def heldR (Q : QueueM) (kind id : Int) : RecM := if Q.leased id then ⟨kind, Q.number, id, 0, 0, []⟩ else rec0
end QueueM
attribute [local irreducible] Y OW YK OWK W WL WP X CV GvL GvP Ev Evs HasCell HasCells Has Met Again Kept
section
variable {c : Con} {F : List HP} {w : World} {p : Nat} {Q : QueueM}
theorem q_made (quota limit wait : Int) (H : St c F w) : Calls Try.prog 8 #[.int .i64 quota, .int .i64 limit, .int .i64 wait] w fun e w' => e = .returned (.agg (rcells ⟨1, 1, limit, quota, wait, []⟩).toArray) ∧ St c F w' := by
  have hl := rcells_length ⟨1, 1, limit, quota, wait, []⟩
  have h0 : [Value.int .i64 0, .int .i64 0, .int .i64 0, .int .i64 0, .int .i64 0, str []].length = 6 := rfl
  have h1 := rcells_one ⟨1, 1, limit, quota, wait, []⟩
  refine calls_w (vs := [.int .i64 quota, .int .i64 limit, .int .i64 wait]) Try.func8 rfl rfl rfl ?_ w H
  (repeat' (first
      | ((with_reducible refine at_storeO ?_); with_reducible refine owk0 (ow_storeAll (ev_tmp rfl) (ev_tmp rfl) h1 hl upd_auto h0) ?_)
      | (with_reducible refine at_build ?_; first | refine yk (y_rec4 ev_const ev_const (ev_tmp rfl) (ev_tmp rfl) (ev_tmp rfl)) ?_)
      | (with_reducible refine is_yk ?_; refine yk_auto (k := ?_))
      | (with_reducible refine is_owk0 ?_; refine owk0_auto (k := ?_))
      | (with_reducible refine is_owkc ?_; refine owk_auto (k := fun _ => ?_))
      | refine go1 (k := ?_)
      | (refine go2 (ka := ?_) (kb := ?_) <;> intro _)
      | fail))
  exact x_retC rfl rfl has_hd hl (fun w H => ⟨rfl, H.tail⟩)
theorem q_record {v bv : Value} (kind id num : Int) (b : List UInt8) (hbv : bv = str b) (H : St c (Bl p 52 [.int .i64 Q.number, .int .i64 Q.quota, .int .i64 Q.limit, .int .i64 Q.wait, .int .i64 Q.next, v] :: F) w) :
    Calls Try.prog 19 #[.pointer (some ⟨p, 0, none⟩), .int .i64 kind, .int .i64 id, .int .i64 num, bv] w fun e w' => e = .returned (.agg (rcells ⟨kind, Q.number, id, num, 0, b⟩).toArray) ∧ St c (Bl p 52 [.int .i64 Q.number, .int .i64 Q.quota, .int .i64 Q.limit, .int .i64 Q.wait, .int .i64 Q.next, v] :: F) w' := by
  subst hbv
  have hl := rcells_length ⟨kind, Q.number, id, num, 0, b⟩
  have h0 : [Value.int .i64 0, .int .i64 0, .int .i64 0, .int .i64 0, .int .i64 0, str []].length = 6 := rfl
  have h1 := rcells_one ⟨kind, Q.number, id, num, 0, b⟩
  refine calls_w (vs := [.pointer (some ⟨p, 0, none⟩), .int .i64 kind, .int .i64 id, .int .i64 num, str b]) Try.func19 rfl rfl rfl ?_ w H
  (repeat' (first
      | ((with_reducible refine at_storeO ?_); with_reducible refine owk0 (ow_storeAll (ev_tmp rfl) (ev_tmp rfl) h1 hl upd_auto h0) ?_)
      | (with_reducible refine at_build ?_; first | refine yk (y_rec5 (ev_tmp rfl) (ev_tmp rfl) (ev_tmp rfl) (ev_tmp rfl) (ev_tmp rfl)) ?_)
      | (with_reducible refine is_yk ?_; refine yk_auto (k := ?_))
      | (with_reducible refine is_owk0 ?_; refine owk0_auto (k := ?_))
      | (with_reducible refine is_owkc ?_; refine owk_auto (k := fun _ => ?_))
      | refine go1 (k := ?_)
      | (refine go2 (ka := ?_) (kb := ?_) <;> intro _)
      | fail))
  exact x_retC rfl rfl has_hd hl (fun w H => ⟨rfl, H.tail⟩)
set_option maxRecDepth 100000 in
theorem q_new {quota limit wait : Int} (h1 : 1 ≤ quota ∧ quota ≤ 64) (h2 : 1 ≤ limit ∧ limit ≤ 16) (h3 : 1 ≤ wait ∧ wait ≤ 1048576) (H : St c F w) : Calls Try.prog 7 #[.agg (rcells ⟨1, 1, limit, quota, wait, []⟩).toArray] w fun e w' => ∃ p, e = .returned (.tuple #[.pointer (some ⟨p, 0, none⟩), .int .i64 0]) ∧ St c (QueueAt p ⟨1, quota, limit, wait, 1, []⟩ :: F) w' := by
  have hw : QueueM.WF ⟨1, quota, limit, wait, 1, []⟩ := ⟨List.Pairwise.nil, by simp, h1, h2, h3, by simp, by simp, by simp, by simp⟩
  refine calls_w (vs := [.agg (rcells ⟨1, 1, limit, quota, wait, []⟩).toArray]) Try.func7 rfl rfl rfl ?_ w H
  (repeat' (first
      | (with_reducible refine at_build ?_; first | refine yk (y_buildQ (Q := ⟨1, quota, limit, wait, 1, []⟩) (ev_tmp rfl) (ev_tmp rfl) (ev_tmp rfl) (ev_tmp rfl) ev_const) ?_)
      | (with_reducible refine is_yk ?_; refine yk_auto (k := ?_))
      | (with_reducible refine is_owk0 ?_; refine owk0_auto (k := ?_))
      | (with_reducible refine is_owkc ?_; refine owk_auto (k := fun _ => ?_))
      | refine go1 (k := ?_)
      | (refine go2 (ka := ?_) (kb := ?_) <;> intro _)
      | fail))
  all_goals dsimp only at *
  all_goals first | (exfalso; omega) | skip
  exact x_ret2 rfl rfl rfl (fun w H => ⟨_, rfl, St.shutQ (Q := ⟨1, quota, limit, wait, 1, []⟩) hw rfl (Sel.st (.cons .hd (.own0 (.tl sel_all))) H)⟩)
set_option maxRecDepth 100000 in
theorem q_new_bad {quota limit wait : Int} (hbad : ¬ ((1 ≤ quota ∧ quota ≤ 64) ∧ (1 ≤ limit ∧ limit ≤ 16) ∧ (1 ≤ wait ∧ wait ≤ 1048576))) (H : St c F w) : Calls Try.prog 7 #[.agg (rcells ⟨1, 1, limit, quota, wait, []⟩).toArray] w fun e w' => e = .returned (.tuple #[.pointer none, .int .i64 1]) ∧ St c F w' := by
  refine calls_w (vs := [.agg (rcells ⟨1, 1, limit, quota, wait, []⟩).toArray]) Try.func7 rfl rfl rfl ?_ w H
  (repeat' (first
      | (with_reducible refine at_build ?_; first | refine yk (y_buildQ (Q := ⟨1, quota, limit, wait, 1, []⟩) (ev_tmp rfl) (ev_tmp rfl) (ev_tmp rfl) (ev_tmp rfl) ev_const) ?_)
      | (with_reducible refine is_yk ?_; refine yk_auto (k := ?_))
      | (with_reducible refine is_owk0 ?_; refine owk0_auto (k := ?_))
      | (with_reducible refine is_owkc ?_; refine owk_auto (k := fun _ => ?_))
      | refine go1 (k := ?_)
      | (refine go2 (ka := ?_) (kb := ?_) <;> intro _)
      | fail))
  all_goals dsimp only at *
  all_goals first | exact x_ret2 rfl rfl rfl (fun w H => ⟨rfl, H.tail⟩) | (exfalso; omega)
set_option maxRecDepth 100000 in
theorem q_put {E : Int} {R : RecM} {bv : Value} (b : List UInt8) (hbv : bv = str b) (hE : Q.putE b.length = E) (hR : Q.putR b = R) (H : St c (QueueAt p Q :: F) w) : Calls Try.prog 9 #[.pointer (some ⟨p, 0, none⟩), bv] w fun e w' => e = .returned (.tuple #[.agg (rcells R).toArray, .int .i64 E]) ∧ St c (QueueAt p Q :: F) w' := by
  subst hE hR
  subst_vars
  obtain ⟨hw, ⟨A, cap⟩, H⟩ := H.openQ
  dsimp only at H
  obtain ⟨n, hn⟩ : ∃ n, Q.list.length = n := ⟨_, rfl⟩
  rw [hn] at H
  have hz := rcells_length rec0
  have h0 : [Value.int .i64 0, .int .i64 0, .int .i64 0, .int .i64 0, .int .i64 0, str []].length = 6 := rfl
  have hl := rcells_length ⟨3, Q.number, Q.next, 0, 0, b⟩
  have h1 := rcells_one ⟨3, Q.number, Q.next, 0, 0, b⟩
  have h2 := rcells_one rec0
  have e0 : Value.agg [Value.int .i64 0, .int .i64 0, .int .i64 0, .int .i64 0, .int .i64 0, str []].toArray = .agg (rcells rec0).toArray := rfl
  refine calls_w (vs := [.pointer (some ⟨p, 0, none⟩), str b]) Try.func9 rfl rfl rfl ?_ w H
  (repeat' (first
      | ((with_reducible refine at_fn 19 ?_); with_reducible refine owk_c1 evs_auto (by kernel_rfl) pick_auto (fun w H => q_record (Q := Q) 3 Q.next 0 b rfl H) ?_)
      | ((with_reducible refine at_storeO ?_); with_reducible refine owk0 (ow_storeAll (ev_tmp rfl) (ev_tmp rfl) h2 hz upd_auto h0) ?_)
      | ((with_reducible refine at_storeO ?_); with_reducible refine owk0 (ow_storeAll (ev_tmp rfl) (ev_tmp rfl) h1 hl upd_auto h0) ?_)
      | (with_reducible refine at_build ?_; first | refine yk_eq y_build0z e0 ?_)
      | (with_reducible refine is_w ?_; first | refine w_plan (id := 5) [(0, true), (1, true), (2, true), (3, true), (4, true), (5, true), (6, true), (7, true), (8, true), (9, true), (10, true)] _ (by kernel_rfl) (by kernel_rfl) sel_all ?_)
      | (with_reducible refine is_yk ?_; refine yk_auto (k := ?_))
      | (with_reducible refine is_owk0 ?_; refine owk0_auto (k := ?_))
      | (with_reducible refine is_owkc ?_; refine owk_auto (k := fun _ => ?_))
      | refine go1 (k := ?_)
      | (refine go2 (ka := ?_) (kb := ?_) <;> intro _)
      | fail))
  · rename_i k1
    have e : Q.putE b.length = 3 := if_pos (by omega)
    have e' : Q.putR b = rec0 := if_neg (by rw [e]; decide)
    rw [e, e']
    exact x_retCT rfl rfl rfl has_hd hz (fun w H => ⟨rfl, St.shutQ hw hn H.tail⟩)
  · rename_i k1 k2
    have e : Q.putE b.length = 14 := by unfold QueueM.putE; rw [if_neg (by omega), if_pos (by omega)]
    have e' : Q.putR b = rec0 := if_neg (by rw [e]; decide)
    rw [e, e']
    exact x_retCT rfl rfl rfl has_hd hz (fun w H => ⟨rfl, St.shutQ hw hn H.tail⟩)
  · rename_i k1 k2 k3
    have e : Q.putE b.length = 10 := by unfold QueueM.putE; rw [if_neg (by omega), if_neg (by omega), if_pos k3]
    have e' : Q.putR b = rec0 := if_neg (by rw [e]; decide)
    rw [e, e']
    exact x_retCT rfl rfl rfl has_hd hz (fun w H => ⟨rfl, St.shutQ hw hn H.tail⟩)
  · rename_i k1 k2 k3
    have e : Q.putE b.length = 0 := by unfold QueueM.putE; rw [if_neg (by omega), if_neg (by omega), if_neg k3]
    have e' : Q.putR b = ⟨3, Q.number, Q.next, 0, 0, b⟩ := if_pos e
    rw [e, e']
    exact x_retCT rfl rfl rfl (has_tail has_hd) hl (fun w H => ⟨rfl, St.shutQ hw hn (Sel.st (.cons .hd (.tl sel_all)) H)⟩)
set_option maxRecDepth 100000 in
theorem q_lease {E : Int} {R : RecM} (now : Int) (b0 : -1152921504606846976 ≤ now) (b1 : now ≤ 1152921504606846976) (hE : Q.leaseE = E) (hR : Q.leaseR now = R) (H : St c (QueueAt p Q :: F) w) : Calls Try.prog 11 #[.pointer (some ⟨p, 0, none⟩), .int .i64 now] w fun e w' => e = .returned (.tuple #[.agg (rcells R).toArray, .int .i64 E]) ∧ St c (QueueAt p Q :: F) w' := by
  subst hE hR
  obtain ⟨hw, ⟨A, cap⟩, H⟩ := H.openQ
  dsimp only at H
  obtain ⟨n, hn⟩ : ∃ n, Q.list.length = n := ⟨_, rfl⟩
  rw [hn] at H
  have hz := rcells_length rec0
  have h0 : [Value.int .i64 0, .int .i64 0, .int .i64 0, .int .i64 0, .int .i64 0, str []].length = 6 := rfl
  have h05 : [Value.int .i64 0, .int .i64 0, .int .i64 0, str [], .bool false].length = 5 := rfl
  have h2 := rcells_one rec0
  have e0 : Value.agg [Value.int .i64 0, .int .i64 0, .int .i64 0, .int .i64 0, .int .i64 0, str []].toArray = .agg (rcells rec0).toArray := rfl
  have hs0 : Value.string ⟨#[]⟩ = str [] := rfl
  have hwait := hw.wait
  have hmost := hw.most
  refine calls_w (vs := [.pointer (some ⟨p, 0, none⟩), .int .i64 now]) Try.func11 rfl rfl rfl ?_ w H
  (repeat' (first
      | (with_reducible refine is_yk ?_; refine yk_auto (k := ?_))
      | (with_reducible refine is_owk0 ?_; refine owk0_auto (k := ?_))
      | (with_reducible refine is_owkc ?_; refine owk_auto (k := fun _ => ?_))
      | refine go1 (k := ?_)
      | (refine go2 (ka := ?_) (kb := ?_) <;> intro _)
      | fail))
  rename_i t4
  refine w_loop (α := Nat) (fun j => j ≤ n ∧ (Q.list.drop j).find? QueueM.ready = Q.list.find? QueueM.ready)
    (fun j => [(16, .int .i64 (j : Int)), (15, .int .i64 (n : Int)), (14, .slice A n cap), (0, .pointer (some ⟨p, 0, none⟩)), (1, .int .i64 now), (4, .pointer (some ⟨t4, 0, none⟩))])
    (fun _ => Bl t4 29 [.int .i64 0, .int .i64 0, .int .i64 0, .int .i64 0, .int .i64 0, str []] :: Bl p 52 [.int .i64 Q.number, .int .i64 Q.quota, .int .i64 Q.limit, .int .i64 Q.wait, .int .i64 Q.next, .slice A n cap] :: OwnP 58 5 (.slice A n cap) n (mcells Q.list) :: F) (fun j => n - j) 0
    ⟨Nat.zero_le _, rfl⟩ sub_auto sel_auto (fun j hx => ?_)
  obtain ⟨hj, hfind⟩ := hx
  by_cases hlt : j < n
  · obtain ⟨m, hm⟩ : ∃ m, Q.list[j]? = some m := ⟨_, List.getElem?_eq_getElem (by omega)⟩
    have hml := mcell_length m
    have hmo := mcell_one m
    have hd : Q.list.drop j = m :: Q.list.drop (j + 1) := by
      have hl : j < Q.list.length := by omega
      rw [List.drop_eq_getElem_cons hl]
      rw [List.getElem?_eq_getElem hl] at hm
      rw [Option.some.inj hm]
    have hl := rcells_length ⟨4, Q.number, m.id, now + Q.wait, 0, []⟩
    have h1 := rcells_one ⟨4, Q.number, m.id, now + Q.wait, 0, []⟩
    refine w_openOwn pick_auto (fun h1 h2 h3 => ?_) (fun g cap' cur e1 hc1 hc2 hc3 hc4 => ?_)
    · omega
    cases e1
    (repeat' (first
      | ((with_reducible refine at_fn 19 ?_); with_reducible refine owk_c1 evs_auto (by kernel_rfl) pick_auto (fun w H => q_record (Q := Q) 4 m.id (now + Q.wait) [] hs0 H) ?_)
      | ((with_reducible refine at_storeO ?_); with_reducible refine owk0 (ow_storeAll (ev_tmp rfl) (ev_tmp rfl) hmo hml upd_auto h05) ?_)
      | ((with_reducible refine at_storeO ?_); with_reducible refine owk0 (ow_storeAll (ev_tmp rfl) (ev_tmp rfl) h1 hl upd_auto h0) ?_)
      | (with_reducible refine at_load ?_; first | refine yk (y_loadN (ev_tmp rfl) (hasMsg has_auto hc4 hn hm) hml) ?_)
      | (with_reducible refine is_w ?_; first | refine w_plan (id := 7) [(0, true), (1, true), (2, true), (3, true), (4, true), (5, true), (6, true), (7, true), (8, true), (9, false), (10, false), (11, false)] [Bl _ 58 (mcell m), Bl p 52 _] (by kernel_rfl) (by kernel_rfl) sel_auto ?_)
      | (with_reducible refine is_yk ?_; refine yk_auto (k := ?_))
      | (with_reducible refine is_owk0 ?_; refine owk0_auto (k := ?_))
      | (with_reducible refine is_owkc ?_; refine owk_auto (k := fun _ => ?_))
      | refine go1 (k := ?_)
      | (refine go2 (ka := ?_) (kb := ?_) <;> intro _)
      | fail))
    · rename_i k1 k2
      have hrd : QueueM.ready m = true := by simp [QueueM.ready, k1]; simpa using k2
      have hf : Q.list.find? QueueM.ready = some m := by rw [← hfind, hd, List.find?_cons_of_pos hrd]
      have e : Q.leaseE = 0 := by simp [QueueM.leaseE, hf]
      have e' : Q.leaseR now = ⟨4, Q.number, m.id, now + Q.wait, 0, []⟩ := by simp [QueueM.leaseR, hf]
      rw [e, e']
      exact x_retCT rfl rfl rfl has_auto hl (fun w H => ⟨rfl, St.shutQ hw hn (Sel.st (.cons .hd (.imp (.tl .hd) (shutOwn hc1 hc2 hc3 hc4) (.tl (.tl sel_all)))) H)⟩)
    · rename_i k1 k2
      have hrd : ¬ QueueM.ready m = true := by simp [QueueM.ready, k1]; simpa using k2
      exact x_again (j + 1) ⟨hlt, by rw [← hfind, hd, List.find?_cons_of_neg hrd]⟩ (show n - (j + 1) < n - j by omega) sub_auto (.cons (.tl (.tl .hd)) (.cons (.tl (.tl .hd)) (.imp (.tl .hd) (shutOwn hc1 hc2 hc3 hc4) (.tl sel_all))))
    · rename_i k1
      have hrd : ¬ QueueM.ready m = true := by simp [QueueM.ready, k1]
      exact x_again (j + 1) ⟨hlt, by rw [← hfind, hd, List.find?_cons_of_neg hrd]⟩ (show n - (j + 1) < n - j by omega) sub_auto (.cons (.tl (.tl .hd)) (.cons (.tl (.tl .hd)) (.imp (.tl .hd) (shutOwn hc1 hc2 hc3 hc4) (.tl sel_all))))
  · (repeat' (first
      | ((with_reducible refine at_storeO ?_); with_reducible refine owk0 (ow_storeAll (ev_tmp rfl) (ev_tmp rfl) h2 hz upd_auto h0) ?_)
      | (with_reducible refine at_build ?_; first | refine yk_eq y_build0z e0 ?_)
      | (with_reducible refine is_yk ?_; refine yk_auto (k := ?_))
      | (with_reducible refine is_owk0 ?_; refine owk0_auto (k := ?_))
      | (with_reducible refine is_owkc ?_; refine owk_auto (k := fun _ => ?_))
      | refine go1 (k := ?_)
      | (refine go2 (ka := ?_) (kb := ?_) <;> intro _)
      | fail))
    have hf : Q.list.find? QueueM.ready = none := by rw [← hfind, List.drop_eq_nil_of_le (by omega)]; rfl
    have e : Q.leaseE = 13 := by simp [QueueM.leaseE, hf]
    have e' : Q.leaseR now = rec0 := by simp [QueueM.leaseR, hf]
    rw [e, e']
    exact x_retCT rfl rfl rfl has_hd hz (fun w H => ⟨rfl, St.shutQ hw hn H.tail⟩)
/-- The queue with messages, opened. -/
abbrev QOpen (Q : QueueM) := { q : Nat × Nat × List Value // Q.list.length ≤ q.2.1 ∧ q.2.1 ≤ 9223372036854775807 ∧ q.2.2.length = q.2.1 * 5 ∧ q.2.2.take (Q.list.length * 5) = mcells Q.list }
theorem q_open_b (h0 : 0 < Q.list.length) (H : St c (QueueAt p Q :: F) w) : ∃ q : QOpen Q, St c (Bl p 52 [.int .i64 Q.number, .int .i64 Q.quota, .int .i64 Q.limit, .int .i64 Q.wait, .int .i64 Q.next, .slice (some ⟨q.1.1, 0, none⟩) Q.list.length q.1.2.1] :: Bl q.1.1 58 q.1.2.2 :: F) w := by
  obtain ⟨_, ⟨A, cap⟩, H⟩ := H.openQ
  dsimp only at H
  rcases H.swap.ownOpen with ⟨e1, e2, _⟩ | ⟨g, cap', cur, e1, h1, h2, h3, h4, h5, H2⟩
  · omega
  · cases e1
    exact ⟨⟨(g, cap, cur), h1, h2, h3, h4⟩, H2.swap⟩
theorem q_shut_b {q : QOpen Q} (hw : Q.WF) (H : St c (Bl p 52 [.int .i64 Q.number, .int .i64 Q.quota, .int .i64 Q.limit, .int .i64 Q.wait, .int .i64 Q.next, .slice (some ⟨q.1.1, 0, none⟩) Q.list.length q.1.2.1] :: Bl q.1.1 58 q.1.2.2 :: F) w) : St c (QueueAt p Q :: F) w :=
  St.shutQ hw rfl (Sel.st (.cons .hd (.imp .hd (shutOwn q.2.1 q.2.2.1 q.2.2.2.1 q.2.2.2.2) sel_all)) H)
theorem q_at_b (id : Int) {k : Nat} {b : Bool} (hk : placeOf id Q.list = k) (hb : hasId id Q.list = b) (h0 : 0 < Q.list.length) (H : St c (QueueAt p Q :: F) w) : Calls Try.prog 20 #[.pointer (some ⟨p, 0, none⟩), .int .i64 id] w fun e w' => ∃ q : QOpen Q, e = .returned (.tuple #[.int .i64 k, .bool b]) ∧
    St c (Bl p 52 [.int .i64 Q.number, .int .i64 Q.quota, .int .i64 Q.limit, .int .i64 Q.wait, .int .i64 Q.next, .slice (some ⟨q.1.1, 0, none⟩) Q.list.length q.1.2.1] :: Bl q.1.1 58 q.1.2.2 :: F) w' := by
  subst hk hb
  refine (q_at id H).mono fun e w' h => ?_
  obtain ⟨q, h2⟩ := q_open_b h0 h.2
  exact ⟨q, h.1, h2⟩
theorem q_at_is (id : Int) {k : Nat} {b : Bool} (hk : placeOf id Q.list = k) (hb : hasId id Q.list = b) (H : St c (QueueAt p Q :: F) w) : Calls Try.prog 20 #[.pointer (some ⟨p, 0, none⟩), .int .i64 id] w fun e w' => e = .returned (.tuple #[.int .i64 k, .bool b]) ∧ St c (QueueAt p Q :: F) w' := by
  subst hk hb; exact q_at id H
theorem hasId_some {id : Int} {l : List MsgM} (h : hasId id l = true) : ∃ m, l[placeOf id l]? = some m ∧ m.id = id := by
  unfold hasId at h
  cases e : l[placeOf id l]? with
  | none => rw [e] at h; cases h
  | some m => rw [e] at h; exact ⟨m, rfl, by simpa using h⟩
set_option maxRecDepth 100000 in
theorem q_held {E : Int} {R : RecM} (kind id : Int) (hE : Q.heldE id = E) (hR : Q.heldR kind id = R) (H : St c (QueueAt p Q :: F) w) : Calls Try.prog 24 #[.pointer (some ⟨p, 0, none⟩), .int .i64 kind, .int .i64 id] w fun e w' => e = .returned (.tuple #[.agg (rcells R).toArray, .int .i64 E]) ∧ St c (QueueAt p Q :: F) w' := by
  subst hE hR
  have hw := H.openQ.1
  have hz := rcells_length rec0
  have h0 : [Value.int .i64 0, .int .i64 0, .int .i64 0, .int .i64 0, .int .i64 0, str []].length = 6 := rfl
  have h2 := rcells_one rec0
  have hl := rcells_length ⟨kind, Q.number, id, 0, 0, []⟩
  have h1 := rcells_one ⟨kind, Q.number, id, 0, 0, []⟩
  have e0 : Value.agg [Value.int .i64 0, .int .i64 0, .int .i64 0, .int .i64 0, .int .i64 0, str []].toArray = .agg (rcells rec0).toArray := rfl
  have hs0 : Value.string ⟨#[]⟩ = str [] := rfl
  obtain ⟨k, hk⟩ : ∃ k, placeOf id Q.list = k := ⟨_, rfl⟩
  cases hb : hasId id Q.list
  · have e : Q.leased id = false := by
      unfold QueueM.leased
      unfold hasId at hb
      cases e : Q.list[placeOf id Q.list]? with
      | none => rfl
      | some m => rw [e] at hb; simp at hb; simp [hb]
    have e1 : Q.heldE id = 16 := by simp [QueueM.heldE, e]
    have e2 : Q.heldR kind id = rec0 := by simp [QueueM.heldR, e]
    rw [e1, e2]
    refine calls_w (vs := [.pointer (some ⟨p, 0, none⟩), .int .i64 kind, .int .i64 id]) Try.func24 rfl rfl rfl ?_ w H
    (repeat' (first
      | ((with_reducible refine at_fn 20 ?_); with_reducible refine owk_c1 evs_auto (by kernel_rfl) pick_auto (fun w H => q_at_is id hk hb H) ?_)
      | ((with_reducible refine at_storeO ?_); with_reducible refine owk0 (ow_storeAll (ev_tmp rfl) (ev_tmp rfl) h2 hz upd_auto h0) ?_)
      | (with_reducible refine at_build ?_; first | refine yk_eq y_build0z e0 ?_)
      | (with_reducible refine is_yk ?_; refine yk_auto (k := ?_))
      | (with_reducible refine is_owk0 ?_; refine owk0_auto (k := ?_))
      | (with_reducible refine is_owkc ?_; refine owk_auto (k := fun _ => ?_))
      | refine go1 (k := ?_)
      | (refine go2 (ka := ?_) (kb := ?_) <;> intro _)
      | fail))
    exact x_retCT rfl rfl rfl has_auto hz (fun w H => ⟨rfl, Sel.st (.cons .hd (.tl sel_all)) H⟩)
  · obtain ⟨m, hm, hid⟩ := hasId_some hb
    rw [hk] at hm
    have hkl : k < Q.list.length := (List.getElem?_eq_some_iff.1 hm).1
    have h00 : 0 < Q.list.length := by omega
    have hv1 : (mcell m)[1]? = some (.int .i64 m.till) := rfl
    have e : Q.leased id = !decide (m.till = 0) := by simp [QueueM.leased, hk, hm, hid]
    have hol : 0 + k * 5 + 1 = 0 + k * 5 + 1 := rfl
    refine calls_w (vs := [.pointer (some ⟨p, 0, none⟩), .int .i64 kind, .int .i64 id]) Try.func24 rfl rfl rfl ?_ w H
    (repeat' (first
      | ((with_reducible refine at_fn 20 ?_); with_reducible refine owk_c1x evs_auto (by kernel_rfl) pick_auto (fun w H => q_at_b id hk hb h00 H) (fun q => ?_))
      | ((with_reducible refine at_fn 19 ?_); with_reducible refine owk_c1 evs_auto (by kernel_rfl) pick_auto (fun w H => q_record (Q := Q) kind id 0 [] hs0 H) ?_)
      | ((with_reducible refine at_storeO ?_); with_reducible refine owk0 (ow_storeAll (ev_tmp rfl) (ev_tmp rfl) h2 hz upd_auto h0) ?_)
      | ((with_reducible refine at_storeO ?_); with_reducible refine owk0 (ow_storeAll (ev_tmp rfl) (ev_tmp rfl) h1 hl upd_auto h0) ?_)
      | (with_reducible refine at_build ?_; first | refine yk_eq y_build0z e0 ?_)
      | (with_reducible refine at_load ?_; first | refine yk (y_load (ev_tmp rfl) (hasFld has_auto q.2.2.2.2 rfl hm hv1 hol)) ?_)
      | (with_reducible refine is_yk ?_; refine yk_auto (k := ?_))
      | (with_reducible refine is_owk0 ?_; refine owk0_auto (k := ?_))
      | (with_reducible refine is_owkc ?_; refine owk_auto (k := fun _ => ?_))
      | refine go1 (k := ?_)
      | (refine go2 (ka := ?_) (kb := ?_) <;> intro _)
      | fail))
    · rename_i k1
      have e' : Q.leased id = false := by rw [e]; simp [k1]
      have e1 : Q.heldE id = 16 := by simp [QueueM.heldE, e']
      have e2 : Q.heldR kind id = rec0 := by simp [QueueM.heldR, e']
      rw [e1, e2]
      exact x_retCT rfl rfl rfl has_auto hz (fun w H => ⟨rfl, q_shut_b hw (Sel.st (.cons .hd (.cons .hd (.tl sel_all))) H)⟩)
    · rename_i k1
      have e' : Q.leased id = true := by rw [e]; simp [k1]
      have e1 : Q.heldE id = 0 := by simp [QueueM.heldE, e']
      have e2 : Q.heldR kind id = ⟨kind, Q.number, id, 0, 0, []⟩ := by simp [QueueM.heldR, e']
      rw [e1, e2]
      exact x_retCT rfl rfl rfl has_auto hl (fun w H => ⟨rfl, q_shut_b hw (Sel.st (.cons .hd (.cons .hd (.tl sel_all))) H)⟩)
theorem q_ack {E : Int} {R : RecM} (id : Int) (hE : Q.heldE id = E) (hR : Q.heldR 5 id = R) (H : St c (QueueAt p Q :: F) w) : Calls Try.prog 12 #[.pointer (some ⟨p, 0, none⟩), .int .i64 id] w fun e w' => e = .returned (.tuple #[.agg (rcells R).toArray, .int .i64 E]) ∧ St c (QueueAt p Q :: F) w' := by
  have h0 : [Value.int .i64 0, .int .i64 0, .int .i64 0, .int .i64 0, .int .i64 0, str []].length = 6 := rfl
  have hl := rcells_length R
  have h1 := rcells_one R
  refine calls_w (vs := [.pointer (some ⟨p, 0, none⟩), .int .i64 id]) Try.func12 rfl rfl rfl ?_ w H
  (repeat' (first
      | ((with_reducible refine at_fn 24 ?_); with_reducible refine owk_c1 evs_auto (by kernel_rfl) pick_auto (fun w H => q_held 5 id hE hR H) ?_)
      | ((with_reducible refine at_storeO ?_); with_reducible refine owk0 (ow_storeAll (ev_tmp rfl) (ev_tmp rfl) h1 hl upd_auto h0) ?_)
      | (with_reducible refine is_yk ?_; refine yk_auto (k := ?_))
      | (with_reducible refine is_owk0 ?_; refine owk0_auto (k := ?_))
      | (with_reducible refine is_owkc ?_; refine owk_auto (k := fun _ => ?_))
      | refine go1 (k := ?_)
      | (refine go2 (ka := ?_) (kb := ?_) <;> intro _)
      | fail))
  exact x_retCT rfl rfl rfl has_auto hl (fun w H => ⟨rfl, Sel.st (.cons .hd (.tl sel_all)) H⟩)
theorem q_nack {E : Int} {R : RecM} (id : Int) (hE : Q.heldE id = E) (hR : Q.heldR 6 id = R) (H : St c (QueueAt p Q :: F) w) : Calls Try.prog 14 #[.pointer (some ⟨p, 0, none⟩), .int .i64 id] w fun e w' => e = .returned (.tuple #[.agg (rcells R).toArray, .int .i64 E]) ∧ St c (QueueAt p Q :: F) w' := by
  have h0 : [Value.int .i64 0, .int .i64 0, .int .i64 0, .int .i64 0, .int .i64 0, str []].length = 6 := rfl
  have hl := rcells_length R
  have h1 := rcells_one R
  refine calls_w (vs := [.pointer (some ⟨p, 0, none⟩), .int .i64 id]) Try.func14 rfl rfl rfl ?_ w H
  (repeat' (first
      | ((with_reducible refine at_fn 24 ?_); with_reducible refine owk_c1 evs_auto (by kernel_rfl) pick_auto (fun w H => q_held 6 id hE hR H) ?_)
      | ((with_reducible refine at_storeO ?_); with_reducible refine owk0 (ow_storeAll (ev_tmp rfl) (ev_tmp rfl) h1 hl upd_auto h0) ?_)
      | (with_reducible refine is_yk ?_; refine yk_auto (k := ?_))
      | (with_reducible refine is_owk0 ?_; refine owk0_auto (k := ?_))
      | (with_reducible refine is_owkc ?_; refine owk_auto (k := fun _ => ?_))
      | refine go1 (k := ?_)
      | (refine go2 (ka := ?_) (kb := ?_) <;> intro _)
      | fail))
  exact x_retCT rfl rfl rfl has_auto hl (fun w H => ⟨rfl, Sel.st (.cons .hd (.tl sel_all)) H⟩)
end
end Go.Proofs.Ytocejpklpggfnaa

/- The queue: Apply of a record that puts. -/
namespace Go.Proofs.Ytocejpklpggfnaa
open Go.RowKit

section
variable {P : Program} {N : Nat} {c : Con} {E : Env} {H : World → Prop} {L F : List HP} {d : Option Nat} {ty : TypeId} {pos : String} {aft : Array Edge} {g : Option (Nat × Bool)}
theorem ow_buildAgg {t e size bytes : Nat} {z : Value} {x : Operand} {cs : List Value} [ht : TSlice P t e size bytes z] (hx : Ev E x (.agg cs.toArray)) (hl : cs.length = size) (h0 : 0 < size) (h1 : size ≤ 1000) :
    OW P N c E L (Oper.mk d (.buildSlice t 1 #[(0, x)]) ty pos aft g) (fun b => .slice (some ⟨b, 0, none⟩) 1 1) fun b => Bl b e cs :: L := fun Q K a w hf H hk => by
  have hn := ow_buildSlice (P := P) (N := N) (c := c) (E := E) (L := L) (d := d) (ty := ty) (pos := pos) (aft := aft) (g := g) (t := t) (e := e) (size := size) (bytes := bytes) (n := 1) (z := z) (ps := [(0, x)]) (vs := [.agg cs.toArray]) (.cons hx .nil) rfl (by intro v hv; simp at hv; subst hv; simpa [Value.cells] using hl) (by omega) (by omega)
  refine hn Q K a w hf H fun b w' H' => hk b w' ?_
  simpa [vcells, Value.cells] using H'
theorem y_buildMsg {x0 x1 x2 x3 x4 : Operand} {m : MsgM} {b : Bool} (hb : b = m.dead) (h0 : Ev E x0 (.int .i64 m.id)) (h1 : Ev E x1 (.int .i64 m.till)) (h2 : Ev E x2 (.int .i64 m.tries)) (h3 : Ev E x3 (str m.body)) (h4 : Ev E x4 (.bool b)) :
    Y Try.prog H E (Oper.mk d (.build 58 #[(0, x0), (1, x1), (2, x2), (3, x3), (4, x4)]) ty pos aft g) (.agg (mcell m).toArray) := by
  subst hb
  have hl : Lay E [(0, 1), (1, 1), (2, 1), (3, 1), (4, 1)] [.int .i64 0, .int .i64 0, .int .i64 0, str [], .bool false] [(0, x0), (1, x1), (2, x2), (3, x3), (4, x4)] (mcell m) :=
    .one h0 rfl rfl (by simp) (.one h1 rfl rfl (by simp) (.one h2 rfl rfl (by simp) (.one h3 rfl rfl (by simp) (.one h4 rfl rfl (by simp) .nil))))
  exact y_build (P := Try.prog) (t := 58) hl
end
theorem rc_lit (k q i n v : Int) (b : List UInt8) : rcells ⟨k, q, i, n, v, b⟩ = [.int .i64 k, .int .i64 q, .int .i64 i, .int .i64 n, .int .i64 v, str b] := rfl
namespace QueueM
def putM (Q : QueueM) (b : List UInt8) : QueueM := { Q with next := Q.next + 1, list := Q.list ++ [⟨Q.next, 0, 0, b, false⟩] }
end QueueM
theorem last_lt {Q : QueueM} (hw : Q.WF) : lastId Q.list < Q.next := by
  have h1 := hw.next
  unfold lastId
  cases e : Q.list.getLast? with
  | none => simp; omega
  | some m => have := hw.ids m (List.mem_of_getLast? e); simp; omega
theorem putM_wf {Q : QueueM} (hw : Q.WF) (hq : (Q.list.length : Int) < Q.quota) (hn : Q.next < 1099511627776) (b : List UInt8) : (Q.putM b).WF := by
  have h1 := hw.quota
  have h2 := hw.next
  have hmem : ∀ m ∈ (Q.putM b).list, m ∈ Q.list ∨ m = ⟨Q.next, 0, 0, b, false⟩ := fun m hm => by
    rcases List.mem_append.1 hm with h | h
    · exact .inl h
    · exact .inr (List.mem_singleton.1 h)
  refine ⟨?_, ?_, hw.quota, hw.limit, hw.wait, ⟨by show 1 ≤ Q.next + 1; omega, by show Q.next + 1 ≤ _; omega⟩, fun m hm => ?_, fun m hm => ?_, fun m hm => ?_⟩
  · refine List.pairwise_append.2 ⟨hw.rising, List.pairwise_singleton _ _, fun a ha m hm => ?_⟩
    rw [List.mem_singleton.1 hm]
    exact (hw.ids a ha).2
  · show (Q.list ++ _).length ≤ 64
    rw [List.length_append]; simp; omega
  · rcases hmem m hm with h | rfl
    · have := hw.ids m h; exact ⟨this.1, by show m.id < Q.next + 1; omega⟩
    · exact ⟨h2.1, by show Q.next < Q.next + 1; omega⟩
  · rcases hmem m hm with h | rfl
    · exact hw.tries m h
    · exact ⟨Int.le_refl _, by show (0 : Int) ≤ _; omega⟩
  · rcases hmem m hm with h | rfl
    · exact hw.till m h
    · exact ⟨Int.le_refl _, by show (0 : Int) ≤ _; omega⟩
attribute [local irreducible] Y OW YK OWK W WL WP X CV GvL GvP Ev Evs HasCell HasCells Has Met Again Kept
section
variable {c : Con} {F : List HP} {w : World} {p : Nat} {Q : QueueM}
theorem q_at_x (id : Int) {k : Nat} {b : Bool} (hk : placeOf id Q.list = k) (hb : hasId id Q.list = b) (H : St c (QueueAt p Q :: F) w) : Calls Try.prog 20 #[.pointer (some ⟨p, 0, none⟩), .int .i64 id] w fun e w' => ∃ q : Option Addr × Nat, e = .returned (.tuple #[.int .i64 k, .bool b]) ∧
    St c (Bl p 52 [.int .i64 Q.number, .int .i64 Q.quota, .int .i64 Q.limit, .int .i64 Q.wait, .int .i64 Q.next, .slice q.1 Q.list.length q.2] :: OwnP 58 5 (.slice q.1 Q.list.length q.2) Q.list.length (mcells Q.list) :: F) w' := by
  subst hk hb
  refine (q_at id H).mono fun e w' h => ?_
  obtain ⟨_, q, h2⟩ := h.2.openQ
  exact ⟨q, h.1, h2⟩
/-- The number of a queue, of it closed. -/
theorem hasCell_q {i : Nat} {v : Value} {L : List HP} (h : ∀ v', (qcells v' Q)[i]? = some v) : HasCell (St c (QueueAt p Q :: L)) ⟨p, i, none⟩ v := by
  unfold HasCell
  intro w H
  obtain ⟨_, q, H⟩ := H.openQ
  exact cell_of_row w p i _ _ _ H.pt |>.trans (by simpa [qcells] using h (.slice q.1 Q.list.length q.2))
theorem q_number {L : List HP} : HasCell (St c (QueueAt p Q :: L)) ⟨p, 0 + 0, none⟩ (.int .i64 Q.number) := hasCell_q fun _ => rfl
set_option maxRecDepth 100000 in
set_option maxHeartbeats 2000000 in
theorem q_apply_put {cs : List Value} (b : List UInt8) (hcs : cs = [.int .i64 3, .int .i64 Q.number, .int .i64 Q.next, .int .i64 0, .int .i64 0, str b]) (hq : (Q.list.length : Int) < Q.quota) (hn : Q.next < 1099511627776) (H : St c (QueueAt p Q :: F) w) : Calls Try.prog 10 #[.pointer (some ⟨p, 0, none⟩), .agg cs.toArray] w fun e w' => e = .returned (.int .i64 0) ∧ St c (QueueAt p (Q.putM b) :: F) w' := by
  have hw := H.openQ.1
  have hlast := last_lt hw
  have hlim := hw.limit
  have hmost := hw.most
  have hnx := hw.next
  have hwp := putM_wf hw hq hn b
  obtain ⟨k, hk⟩ : ∃ k, placeOf Q.next Q.list = k := ⟨_, rfl⟩
  obtain ⟨hb, hhb⟩ : ∃ hb, hasId Q.next Q.list = hb := ⟨_, rfl⟩
  obtain ⟨n, hln⟩ : ∃ n, Q.list.length = n := ⟨_, rfl⟩
  have hc13 : (decide ((3 : Int) = 12)) = (⟨Q.next, 0, 0, b, false⟩ : MsgM).dead := rfl
  have hml := mcell_length ⟨Q.next, 0, 0, b, false⟩
  have hmo := mcell_one ⟨Q.next, 0, 0, b, false⟩
  have hml1 : (mcell ⟨Q.next, 0, 0, b, false⟩).length = 1 * 5 := rfl
  have hb1 : Q.list.length + 1 ≤ 9223372036854775807 ∧ (Q.list.length + 1) * 48 ≤ 140737488355328 := by omega
  refine calls_w (vs := [.pointer (some ⟨p, 0, none⟩), .agg cs.toArray]) Try.func10 rfl rfl rfl ?_ w H
  subst hcs
  (repeat' (first
      | ((with_reducible refine at_fn 20 ?_); with_reducible refine owk_c1x evs_auto (by kernel_rfl) pick_auto (fun w H => q_at_x Q.next hk hhb H) (fun q => ?_))
      | ((with_reducible refine at_fn 21 ?_); with_reducible refine owk_c2 evs_auto (by kernel_rfl) pick_auto pick_auto (fun w H => q_last_o rfl hmost H) ?_)
      | ((with_reducible refine at_buildSliceO ?_); with_reducible refine owk (ow_buildAgg (cs := mcell ⟨Q.next, 0, 0, b, false⟩) (ev_tmp rfl) hml (by decide) (by decide)) (fun bb => ?_))
      | ((with_reducible refine at_builtinO (b := .append) ?_); with_reducible refine owk (ow_append (xs := mcells Q.list) (m := 1) (news := mcell ⟨Q.next, 0, 0, b, false⟩) (ev_tmp rfl) (ev_tmp rfl) (src_has Try.underlying50 (hasCells_all has_auto) hml1 (Nat.le_refl _) (by decide) hmo) rfl rfl hb1 pick_auto) (fun r => ?_))
      | (with_reducible refine at_load ?_; first | refine yk (y_load (ev_tmp rfl) (hasCell_tl q_number)) ?_)
      | (with_reducible refine at_build ?_; first | refine yk (y_buildMsg (m := ⟨Q.next, 0, 0, b, false⟩) hc13 (ev_tmp rfl) (ev_tmp rfl) (ev_tmp rfl) (ev_tmp rfl) (ev_tmp rfl)) ?_)
      | (with_reducible refine is_w ?_; first | refine w_plan (id := 3) [(0, true), (1, true), (2, true), (3, true), (4, true), (5, true), (6, true)] _ (by kernel_rfl) (by kernel_rfl) sel_all ?_ | refine w_plan (id := 10) [(0, true), (1, true), (2, true), (3, true), (4, true), (5, true), (6, true), (7, true), (8, true), (9, true), (10, true), (11, true), (12, true), (13, true), (14, true), (15, true), (16, false), (17, false), (18, false), (19, false), (20, true), (21, true), (22, true), (23, true), (24, true), (25, false), (26, false), (27, false), (28, false), (29, false), (30, false), (31, false), (32, true), (33, true), (34, false), (35, false), (36, false), (37, false), (38, false), (39, false), (40, false), (41, false), (42, false), (43, false), (44, false), (45, false), (46, false), (47, false), (48, false), (49, false), (50, true), (51, true), (52, false), (53, false), (54, false), (55, false), (56, false), (57, false), (58, false)] _ (by kernel_rfl) (by kernel_rfl) sel_all ?_ | refine w_plan (id := 12) [(0, true), (1, true), (2, true), (3, true), (4, true), (5, true), (6, true), (7, true), (8, true), (9, true), (10, true), (11, true), (12, true), (13, true), (14, true), (15, true), (16, true), (17, false), (18, false), (19, false), (20, false), (21, false)] [Bl p 52 _, Bl _ 29 _] (by kernel_rfl) (by kernel_rfl) sel_auto ?_ | refine w_plan (id := 13) [(0, true), (1, true), (2, true), (3, true), (4, true), (5, true), (6, true), (7, true), (8, true), (9, false), (10, false), (11, false)] _ (by kernel_rfl) (by kernel_rfl) sel_all ?_)
      | (with_reducible refine is_yk ?_; refine yk_auto (k := ?_))
      | (with_reducible refine is_owk0 ?_; refine owk0_auto (k := ?_))
      | (with_reducible refine is_owkc ?_; refine owk_auto (k := fun _ => ?_))
      | refine go1 (k := ?_)
      | (refine go2 (ka := ?_) (kb := ?_) <;> intro _)
      | fail))
  have hmax : max Q.next (Q.next + 1) = Q.next + 1 := by omega
  rw [hmax]
  have hmc : mcells (Q.putM b).list = mcells Q.list ++ mcell ⟨Q.next, 0, 0, b, false⟩ := by
    show mcells (Q.list ++ [_]) = _
    rw [mcells_append]; simp [mcells]
  exact x_ret1 rfl rfl (fun w H => ⟨rfl, St.shutQ (Q := Q.putM b) (A := r.1) (n := Q.list.length + 1) (cap := r.2) hwp (by simp [QueueM.putM]) (by rw [hmc]; exact Sel.st (.cons (.tl (.tl .hd)) (.cons .hd (.tl (.tl sel_all)))) H)⟩)
end
end Go.Proofs.Ytocejpklpggfnaa

/- The queue: Apply of a record that leases, gives back. -/
namespace Go.Proofs.Ytocejpklpggfnaa
open Go.RowKit

/-- One cell alone. -/
def Fld (p i : Nat) (v : Value) : HP := fun h => ∃ (cs : List Value) (T : TypeId), h p = some (.cells cs.toArray T (0, 0)) ∧ cs[i]? = some v
theorem hasCell_fld {c : Con} {L : List HP} {p i : Nat} {v : Value} : HasCell (St c (Fld p i v :: L)) ⟨p, i, none⟩ v := fun w H => by
  obtain ⟨h, ⟨cs, T, h1, h2⟩, l⟩ := H.get
  rw [l.cell h1]; simpa using h2
theorem bl_fld {b i : Nat} {T : TypeId} {cs : List Value} {v : Value} (hv : cs[i]? = some v) : ∀ h, Bl b T cs h → Fld b i v h := fun h a => ⟨cs, T, a, hv⟩
theorem cur_at {n j i : Nat} {cur : List Value} {l : List MsgM} {m : MsgM} {v : Value} (hc : cur.take (n * 5) = mcells l) (hn : l.length = n) (hm : l[j]? = some m) (hi : i < 5) (hv : (mcell m)[i]? = some v) : cur[0 + j * 5 + i]? = some v := by
  have hj : j < n := by rw [← hn]; exact (List.getElem?_eq_some_iff.1 hm).1
  have e := mcells_at hm
  have e2 : (((mcells l).drop (j * 5)).take 5)[i]? = some v := by rw [e]; exact hv
  rw [List.getElem?_take_of_lt hi, List.getElem?_drop, ← hc, List.getElem?_take_of_lt (by omega)] at e2
  rwa [Nat.zero_add]
theorem mcells_setFld : ∀ {l : List MsgM} {k i : Nat} {m m' : MsgM} {v : Value}, l[k]? = some m → i < 5 → (mcell m).set i v = mcell m' → (mcells l).set (0 + k * 5 + i) v = mcells (l.set k m')
  | x :: l, 0, i, m, m', v, hm, hi, hs => by
    obtain rfl : x = m := by simpa using hm
    have e : ∀ y (r : List MsgM), mcells (y :: r) = mcell y ++ mcells r := fun _ _ => rfl
    have e0 : 0 + 0 * 5 + i = i := by omega
    rw [List.set_cons_zero, e, e, e0, List.set_append_left _ _ (by rw [mcell_length]; exact hi), hs]
  | x :: l, k + 1, i, m, m', v, hm, hi, hs => by
    have e : ∀ y (r : List MsgM), mcells (y :: r) = mcell y ++ mcells r := fun _ _ => rfl
    have ih := mcells_setFld (l := l) (k := k) (i := i) (m := m) (m' := m') (v := v) (by simpa using hm) hi hs
    rw [List.set_cons_succ, e, e, ← ih, List.set_append_right _ _ (by rw [mcell_length]; omega)]
    congr 2
    rw [mcell_length]; omega
/-- A message turned: the queue's shape is as it was. -/
theorem set_wf {Q : QueueM} (hw : Q.WF) {k : Nat} {m m' : MsgM} (hm : Q.list[k]? = some m) (hid : m'.id = m.id) (ht : 0 ≤ m'.tries ∧ m'.tries ≤ 1000000) (hl : 0 ≤ m'.till ∧ m'.till ≤ 4611686018427387904) : QueueM.WF { Q with list := Q.list.set k m' } := by
  have hmem : ∀ x ∈ Q.list.set k m', x ∈ Q.list ∨ x = m' := fun x hx => List.mem_or_eq_of_mem_set hx
  have hmm := List.mem_of_getElem? hm
  refine ⟨?_, by show (Q.list.set k m').length ≤ 64; rw [List.length_set]; exact hw.most, hw.quota, hw.limit, hw.wait, hw.next, fun x hx => ?_, fun x hx => ?_, fun x hx => ?_⟩
  · refine List.pairwise_iff_getElem.2 fun i j hi hj hij => ?_
    have hi' : i < Q.list.length := by simpa using hi
    have hj' : j < Q.list.length := by simpa using hj
    have e : ∀ t (ht : t < Q.list.length), (Q.list.set k m')[t]'(by simpa using ht) = if k = t then m' else Q.list[t] := fun t ht => List.getElem_set ..
    have eid : ∀ t (ht : t < Q.list.length), ((Q.list.set k m')[t]'(by simpa using ht)).id = Q.list[t].id := fun t ht => by
      rw [e t ht]
      split
      · rename_i h; subst h
        rw [List.getElem?_eq_getElem ht] at hm
        rw [hid, Option.some.inj hm]
      · rfl
    have := List.pairwise_iff_getElem.1 hw.rising i j hi' hj' hij
    show ((Q.list.set k m')[i]).id < ((Q.list.set k m')[j]).id
    rw [eid i hi', eid j hj']; exact this
  · rcases hmem x hx with h | rfl
    · exact hw.ids x h
    · rw [hid]; exact hw.ids m hmm
  · rcases hmem x hx with h | rfl
    · exact hw.tries x h
    · exact ht
  · rcases hmem x hx with h | rfl
    · exact hw.till x h
    · exact hl
section
variable {c : Con} {F : List HP} {w : World} {p : Nat} {Q : QueueM}
/-- Shut, a message turned. -/
theorem q_shut_set {q : QOpen Q} {k : Nat} {m' : MsgM} {cur' : List Value} (hw : QueueM.WF { Q with list := Q.list.set k m' }) (hl : cur'.length = q.1.2.2.length) (hc : cur'.take (Q.list.length * 5) = mcells (Q.list.set k m'))
    (H : St c (Bl p 52 [.int .i64 Q.number, .int .i64 Q.quota, .int .i64 Q.limit, .int .i64 Q.wait, .int .i64 Q.next, .slice (some ⟨q.1.1, 0, none⟩) Q.list.length q.1.2.1] :: Bl q.1.1 58 cur' :: F) w) : St c (QueueAt p { Q with list := Q.list.set k m' } :: F) w := by
  have hn : ({ Q with list := Q.list.set k m' } : QueueM).list.length = Q.list.length := List.length_set ..
  exact St.shutQ (Q := { Q with list := Q.list.set k m' }) hw hn (Sel.st (.cons .hd (.imp .hd (shutOwn q.2.1 q.2.2.1 (by rw [hl]; exact q.2.2.2.1) hc) sel_all)) H)
end
attribute [local irreducible] Y OW YK OWK W WL WP X CV GvL GvP Ev Evs HasCell HasCells Has Met Again Kept
section
variable {c : Con} {F : List HP} {w : World} {p : Nat} {Q : QueueM}
set_option maxRecDepth 100000 in
set_option maxHeartbeats 2000000 in
theorem q_apply_lease {cs : List Value} {k : Nat} {m : MsgM} {num : Int} (hcs : cs = [.int .i64 4, .int .i64 Q.number, .int .i64 m.id, .int .i64 num, .int .i64 0, str []]) (hm : Q.list[k]? = some m) (ht : m.till = 0) (hd : m.dead = false) (h1 : 0 ≤ num ∧ num ≤ 4611686018427387904) (htr : m.tries < 1000000) (H : St c (QueueAt p Q :: F) w) :
    Calls Try.prog 10 #[.pointer (some ⟨p, 0, none⟩), .agg cs.toArray] w fun e w' => e = .returned (.int .i64 0) ∧ St c (QueueAt p { Q with list := Q.list.set k { m with till := num, tries := m.tries + 1 } } :: F) w' := by
  have hw := H.openQ.1
  have hmm := List.mem_of_getElem? hm
  have htr0 := (hw.tries m hmm).1
  have hws := set_wf hw hm (m' := { m with till := num, tries := m.tries + 1 }) rfl ⟨by show 0 ≤ m.tries + 1; omega, by show m.tries + 1 ≤ _; omega⟩ h1
  have hmost := hw.most
  have hkl : k < Q.list.length := (List.getElem?_eq_some_iff.1 hm).1
  have h00 : 0 < Q.list.length := by omega
  have hk := placeOf_at hw.rising hm
  have hb := hasId_at hw.rising hm
  have hv1 : (mcell m)[1]? = some (.int .i64 0) := by rw [← ht]; rfl
  have hv2 : (mcell m)[2]? = some (.int .i64 m.tries) := rfl
  have hv4 : (mcell m)[4]? = some (.bool false) := by rw [← hd]; rfl
  have ho1 : 0 + k * 5 + 1 = 0 + k * 5 + 1 := rfl
  have ho4 : 0 + k * 5 + 4 = 0 + k * 5 + 4 := rfl
  have hcl : ∀ q : QOpen Q, k * 5 + 5 ≤ q.1.2.2.length := fun q => by have := q.2.1; rw [q.2.2.2.1]; omega
  have hst1 : ∀ q : QOpen Q, 0 + k * 5 + 1 < q.1.2.2.length := fun q => by have := hcl q; omega
  have hst2 : ∀ q : QOpen Q, 0 + k * 5 + 2 < (q.1.2.2.set (0 + k * 5 + 1) (.int .i64 num)).length := fun q => by have := hcl q; rw [List.length_set]; omega
  have hf2 : ∀ q : QOpen Q, ∀ h, Bl q.1.1 58 (q.1.2.2.set (0 + k * 5 + 1) (.int .i64 num)) h → Fld q.1.1 (0 + k * 5 + 2) (.int .i64 m.tries) h := fun q => bl_fld (by rw [List.getElem?_set_ne (by omega)]; exact cur_at q.2.2.2.2 rfl hm (by decide) hv2)
  refine calls_w (vs := [.pointer (some ⟨p, 0, none⟩), .agg cs.toArray]) Try.func10 rfl rfl rfl ?_ w H
  subst hcs
  (repeat' (first
      | ((with_reducible refine at_fn 20 ?_); with_reducible refine owk_c1x evs_auto (by kernel_rfl) pick_auto (fun w H => q_at_b m.id hk hb h00 H) (fun q => ?_))
      | ((with_reducible refine at_storeO ?_); with_reducible refine owk0 (ow_store (ev_tmp rfl) (ev_tmp rfl) rfl upd_auto (hst1 q)) ?_)
      | ((with_reducible refine at_storeO ?_); with_reducible refine owk0 (ow_store (ev_tmp rfl) (ev_tmp rfl) rfl upd_auto (hst2 q)) ?_)
      | (with_reducible refine at_load ?_; first | refine yk (y_load (ev_tmp rfl) (hasCell_tl q_number)) ?_ | refine yk (y_load (ev_tmp rfl) (hasFld has_auto q.2.2.2.2 rfl hm hv1 ho1)) ?_ | refine yk (y_load (ev_tmp rfl) (hasFld has_auto q.2.2.2.2 rfl hm hv4 ho4)) ?_ | refine yk (y_load (ev_tmp rfl) hasCell_fld) ?_)
      | (with_reducible refine is_w ?_; first | refine w_plan (id := 3) [(0, true), (1, true), (2, true), (3, true), (4, true), (5, true), (6, true)] _ (by kernel_rfl) (by kernel_rfl) sel_all ?_ | refine w_plan (id := 25) [(0, true), (1, true), (2, true), (3, true), (4, true), (5, true), (6, true), (7, true), (8, true), (9, true), (10, true), (11, false), (12, false), (13, false), (14, false)] [Fld q.1.1 (0 + k * 5 + 2) (.int .i64 m.tries), Bl _ 29 _] (by kernel_rfl) (by kernel_rfl) (.imp pick_auto (bl_fld (cur_at q.2.2.2.2 rfl hm (by decide) hv2)) sel_auto) ?_)
      | (with_reducible refine is_kept ?_; first | refine kept_same (.imp pick_auto (hf2 q) sel_auto) ?_)
      | (with_reducible refine is_yk ?_; refine yk_auto (k := ?_))
      | (with_reducible refine is_owk0 ?_; refine owk0_auto (k := ?_))
      | (with_reducible refine is_owkc ?_; refine owk_auto (k := fun _ => ?_))
      | refine go1 (k := ?_)
      | (refine go2 (ka := ?_) (kb := ?_) <;> intro _)
      | fail))
  refine x_ret1 rfl rfl (fun w H => ⟨rfl, q_shut_set hws (by simp) ?_ (Sel.st (.cons .hd (.cons .hd (.tl sel_all))) H)⟩)
  have hk1 : (Q.list.set k { m with till := num })[k]? = some { m with till := num } := by simp [hkl]
  rw [List.take_set, List.take_set, q.2.2.2.2, mcells_setFld (m' := { m with till := num }) hm (by decide) rfl, mcells_setFld (m' := { m with till := num, tries := m.tries + 1 }) hk1 (by decide) rfl, List.set_set]
set_option maxRecDepth 100000 in
/-- free of a message in its row. -/
theorem q_free {k : Nat} {m : MsgM} {cur : List Value} {g : Nat} {v : Value} (hcur : cur.take (Q.list.length * 5) = mcells Q.list) (hlen : Q.list.length * 5 ≤ cur.length) (hm : Q.list[k]? = some m) (H : St c (Bl p 52 [.int .i64 Q.number, .int .i64 Q.quota, .int .i64 Q.limit, .int .i64 Q.wait, .int .i64 Q.next, v] :: Bl g 58 cur :: F) w) :
    Calls Try.prog 23 #[.pointer (some ⟨p, 0, none⟩), .pointer (some ⟨g, 0 + k * 5, none⟩)] w fun e w' => e = .returned (.tuple #[]) ∧
      St c (Bl p 52 [.int .i64 Q.number, .int .i64 Q.quota, .int .i64 Q.limit, .int .i64 Q.wait, .int .i64 Q.next, v] :: Bl g 58 ((cur.set (0 + k * 5 + 1) (.int .i64 0)).set (0 + k * 5 + 4) (.bool (decide (Q.limit ≤ m.tries)))) :: F) w' := by
  have hkl : k < Q.list.length := (List.getElem?_eq_some_iff.1 hm).1
  have hv2 : (mcell m)[2]? = some (.int .i64 m.tries) := rfl
  have h2 := cur_at hcur rfl hm (by decide) hv2
  have h2' : ((cur.set (0 + k * 5 + 1) (.int .i64 0)).toArray).toList[0 + k * 5 + 2]? = some (.int .i64 m.tries) := by
    show (cur.set (0 + k * 5 + 1) (.int .i64 0))[0 + k * 5 + 2]? = _
    rw [List.getElem?_set_ne (by omega)]; exact h2
  have hst1 : 0 + k * 5 + 1 < cur.length := by omega
  have hst2 : 0 + k * 5 + 4 < (cur.set (0 + k * 5 + 1) (.int .i64 0)).length := by rw [List.length_set]; omega
  refine calls_w (vs := [.pointer (some ⟨p, 0, none⟩), .pointer (some ⟨g, 0 + k * 5, none⟩)]) Try.func23 rfl rfl rfl ?_ w H
  (repeat' (first
      | ((with_reducible refine at_storeO ?_); with_reducible refine owk0 (ow_store (ev_tmp rfl) ev_const rfl upd_auto hst1) ?_)
      | ((with_reducible refine at_storeO ?_); with_reducible refine owk0 (ow_store (ev_tmp rfl) (ev_tmp rfl) rfl upd_auto hst2) ?_)
      | (with_reducible refine at_load ?_; first | refine yk (y_load (ev_tmp rfl) (hasCell_bl has_auto h2')) ?_)
      | (with_reducible refine is_w ?_; first | refine w_plan (id := 1) [(0, true), (1, true), (2, true), (3, true), (4, true), (5, true), (6, true), (7, true), (8, true), (9, true), (10, false), (11, false), (12, false)] _ (by kernel_rfl) (by kernel_rfl) sel_all ?_)
      | (with_reducible refine is_yk ?_; refine yk_auto (k := ?_))
      | (with_reducible refine is_owk0 ?_; refine owk0_auto (k := ?_))
      | (with_reducible refine is_owkc ?_; refine owk_auto (k := fun _ => ?_))
      | refine go1 (k := ?_)
      | (refine go2 (ka := ?_) (kb := ?_) <;> intro _)
      | fail))
  exact x_end0 rfl (fun w H => ⟨rfl, H⟩)
set_option maxRecDepth 100000 in
set_option maxHeartbeats 2000000 in
theorem q_apply_nack {cs : List Value} {k : Nat} {m : MsgM} (hcs : cs = [.int .i64 6, .int .i64 Q.number, .int .i64 m.id, .int .i64 0, .int .i64 0, str []]) (hm : Q.list[k]? = some m) (ht : 0 < m.till) (H : St c (QueueAt p Q :: F) w) :
    Calls Try.prog 10 #[.pointer (some ⟨p, 0, none⟩), .agg cs.toArray] w fun e w' => e = .returned (.int .i64 0) ∧ St c (QueueAt p { Q with list := Q.list.set k { m with till := 0, dead := decide (Q.limit ≤ m.tries) } } :: F) w' := by
  have hw := H.openQ.1
  have hmm := List.mem_of_getElem? hm
  have hws := set_wf hw hm (m' := { m with till := 0, dead := decide (Q.limit ≤ m.tries) }) rfl (hw.tries m hmm) ⟨Int.le_refl _, by show (0 : Int) ≤ _; omega⟩
  have hmost := hw.most
  have hkl : k < Q.list.length := (List.getElem?_eq_some_iff.1 hm).1
  have h00 : 0 < Q.list.length := by omega
  have hk := placeOf_at hw.rising hm
  have hb := hasId_at hw.rising hm
  have hv1 : (mcell m)[1]? = some (.int .i64 m.till) := rfl
  have ho1 : 0 + k * 5 + 1 = 0 + k * 5 + 1 := rfl
  have hlen : ∀ q : QOpen Q, Q.list.length * 5 ≤ q.1.2.2.length := fun q => by have := q.2.1; rw [q.2.2.2.1]; omega
  refine calls_w (vs := [.pointer (some ⟨p, 0, none⟩), .agg cs.toArray]) Try.func10 rfl rfl rfl ?_ w H
  subst hcs
  (repeat' (first
      | ((with_reducible refine at_fn 23 ?_); with_reducible refine owk_c2 evs_auto (by kernel_rfl) pick_auto pick_auto (fun w H => q_free q.2.2.2.2 (hlen q) hm H) ?_)
      | ((with_reducible refine at_fn 20 ?_); with_reducible refine owk_c1x evs_auto (by kernel_rfl) pick_auto (fun w H => q_at_b m.id hk hb h00 H) (fun q => ?_))
      | (with_reducible refine at_load ?_; first | refine yk (y_load (ev_tmp rfl) (hasCell_tl q_number)) ?_ | refine yk (y_load (ev_tmp rfl) (hasFld has_auto q.2.2.2.2 rfl hm hv1 ho1)) ?_)
      | (with_reducible refine is_w ?_; first | refine w_plan (id := 3) [(0, true), (1, true), (2, true), (3, true), (4, true), (5, true), (6, true)] _ (by kernel_rfl) (by kernel_rfl) sel_all ?_)
      | (with_reducible refine is_yk ?_; refine yk_auto (k := ?_))
      | (with_reducible refine is_owk0 ?_; refine owk0_auto (k := ?_))
      | (with_reducible refine is_owkc ?_; refine owk_auto (k := fun _ => ?_))
      | refine go1 (k := ?_)
      | (refine go2 (ka := ?_) (kb := ?_) <;> intro _)
      | fail))
  refine x_ret1 rfl rfl (fun w H => ⟨rfl, q_shut_set hws (by simp) ?_ (Sel.st (.cons .hd (.cons .hd (.tl sel_all))) H)⟩)
  have hk1 : (Q.list.set k { m with till := 0 })[k]? = some { m with till := 0 } := by simp [hkl]
  rw [List.take_set, List.take_set, q.2.2.2.2, mcells_setFld (m' := { m with till := 0 }) hm (by decide) rfl, mcells_setFld (m' := { m with till := 0, dead := decide (Q.limit ≤ m.tries) }) hk1 (by decide) rfl, List.set_set]
end
end Go.Proofs.Ytocejpklpggfnaa

/- The queue: slices.Delete, Apply of a record that makes done; Counts. -/
namespace Go.Proofs.Ytocejpklpggfnaa
open Go.RowKit
section
variable {P : Program} {N : Nat} {c : Con} {E : Env} {H : World → Prop} {L F : List HP} {d : Option Nat} {ty : TypeId} {pos : String} {aft : Array Edge} {g : Option (Nat × Bool)}
/-- append that has room, of whatever reads, onto the head of a block. -/
theorem ow_appendIn {s x : Operand} {t tx e size bytes n m b cap : Nat} {z v : Value} {cur news : List Value} [ht : TSlice P t e size bytes z] (hs : Ev E s (.slice (some ⟨b, 0, none⟩) n cap)) (hx : Ev E x v)
    (hsrc : ∀ w, St c L w → Src P size tx v m news w) (hroom : n + m ≤ cap) (hcur : cur.length = cap * size) (hp : Pick L (Bl b e cur) F) :
    OW P N c E L (Oper.mk d (.call { callee := .builtin .append, args := #[s, x], argTypes := #[t, tx] }) ty pos aft g) (fun _ : Unit => .slice (some ⟨b, 0, none⟩) (n + m) cap) fun _ => Bl b e (splice cur (n * size) news) :: F := fun Q K a w hf H hk => by
  have hi := ht.i
  cases hq : P.info? e with
  | none => simp [hq] at hi
  | some ie =>
    simp only [hq, Option.map_some, Option.some.injEq, Prod.mk.injEq] at hi
    have hS := hsrc w H
    have H1 := hp.st H
    have hgw := H1.pt
    have hle : (n + m) * size ≤ cap * size := Nat.mul_le_mul_right _ hroom
    have hfit : n * size + news.length ≤ cur.toArray.size := by rw [hS.newsLen, List.size_toArray, hcur, ← Nat.add_mul]; exact hle
    have hst := run_storeCells_at P b (n * size) e news 0 cur.toArray w hgw (by simpa using hfit) hS.one
    simp only [Nat.add_zero] at hst
    have hr : (Builtin.append_ #[t, tx] ty #[.slice (some ⟨b, 0, none⟩) n cap, v]).run P w = .ok (.slice (some ⟨b, 0, none⟩) (n + m) cap) (w.setRow b (splice cur (n * size) news).toArray) := by
      rcases hS.kind with ⟨e', hk'⟩ | hk' <;> simp [Builtin.append_, run_underlying ht.u, run_underlying hk', sizeOf, typeInfo, hq, hi.2.1, hS.len, hroom, hS.cells, add_mid, hst, splice]
    unfold Oper.wp execOp
    simp only [resolve, invoke, builtin, Sem.run_bind, Sem.run_pure, Result.andThen_ok, List.map_toArray, List.map_cons, List.map_nil, hs N a hf, hx N a hf, hr]
    refine hk () _ ?_
    obtain ⟨h0, a0, l0, u⟩ := H1.upd
    refine u _ _ rfl (fun k hk hn => setRow_other _ _ _ _ ?_) ?_
    · intro e0; rw [e0, show h0 b = _ from a0] at hn; cases hn
    · show (if (h0 b).isSome ∨ _ then _ else _) = _
      rw [if_pos (.inl (by rw [show h0 b = _ from a0]; rfl))]
      exact setRow_heap w b _ _ e _ hgw
end
theorem splice_take (a b : List Value) (o n : Nat) (h : n ≤ o) (ho : o ≤ a.length) : (splice a o b).take n = a.take n := by
  unfold splice
  rw [List.append_assoc, List.take_append_of_le_length (by rw [List.length_take]; omega), List.take_take, Nat.min_eq_left h]
theorem splice_length' (a b : List Value) (o : Nat) (h : o + b.length ≤ a.length) : (splice a o b).length = a.length := by
  unfold splice
  simp only [List.length_append, List.length_take, List.length_drop]
  omega
theorem mcells_erase (l : List MsgM) (k : Nat) : mcells (l.eraseIdx k) = mcells (l.take k) ++ mcells (l.drop (k + 1)) := by
  rw [List.eraseIdx_eq_take_drop_succ, mcells_append]
theorem msg_zero : ∀ u ∈ (zeroOf Try.prog 58).cells.toList, u.oneCell' = true := List.all_eq_true.1 (show (zeroOf Try.prog 58).cells.toList.all (·.oneCell') = true by kernel_rfl)
attribute [local irreducible] Y OW YK OWK W WL WP X CV GvL GvP Ev Evs HasCell HasCells Has Met Again Kept
section
variable {c : Con} {F : List HP} {w : World} {p : Nat} {Q : QueueM}
set_option maxRecDepth 100000 in
set_option maxHeartbeats 1000000 in
theorem q_delete {l : List MsgM} {n k cap g : Nat} {cur : List Value} (hn : l.length = n) (hk : k < n) (hcur : cur.take (n * 5) = mcells l) (hlen : cur.length = cap * 5) (hnc : n ≤ cap) (hc : cap ≤ 9223372036854775807) (hn64 : n ≤ 1000) (H : St c (Bl g 58 cur :: F) w) :
    Calls Try.prog 22 #[.slice (some ⟨g, 0, none⟩) n cap, .int .i64 (k : Int), .int .i64 ((k : Int) + 1)] w fun e w' => ∃ q : { cur' : List Value // cur'.length = cur.length ∧ cur'.take ((n - 1) * 5) = mcells (l.eraseIdx k) }, e = .returned (.slice (some ⟨g, 0, none⟩) (n - 1) cap) ∧ St c (Bl g 58 q.1 :: F) w' := by
  have hk1 : Value.int .i64 ((k : Int) + 1) = .int .i64 ((k + 1 : Nat) : Int) := rfl
  obtain ⟨ad2, ha2, ha3⟩ : ∃ ad2 : Addr, (if cap = k + 1 then some (⟨g, 0, none⟩ : Addr) else (some (⟨g, 0, none⟩ : Addr)).map (·.add ((k + 1) * 5))) = some ad2 ∧ (0 < n - (k + 1) → ad2 = ⟨g, 0 + (k + 1) * 5, none⟩) := by
    by_cases h : cap = k + 1
    · rw [if_pos h]; exact ⟨_, rfl, fun h2 => by omega⟩
    · rw [if_neg h]; exact ⟨_, rfl, fun _ => add_mid _ _ _⟩
  have hv2 : Value.slice (if cap = k + 1 then some (⟨g, 0, none⟩ : Addr) else (some (⟨g, 0, none⟩ : Addr)).map (·.add ((k + 1) * 5))) (n - (k + 1)) (cap - (k + 1)) = .slice (some ad2) (n - (k + 1)) (cap - (k + 1)) := by rw [ha2]
  have hnl : (mcells (l.drop (k + 1))).length = (n - (k + 1)) * 5 := by rw [mcells_length, List.length_drop, hn]
  have hsrc : ∀ w, St c (Bl g 58 cur :: F) w → Src Try.prog 5 50 (.slice (some ad2) (n - (k + 1)) (cap - (k + 1))) (n - (k + 1)) (mcells (l.drop (k + 1))) w := fun w H => by
    refine src_reads Try.underlying50 ⟨hnl, .inr ⟨ad2, _, rfl, by omega, by omega, fun j u hu => ?_⟩⟩ (mcells_one _)
    have hj : j < (n - (k + 1)) * 5 := by rw [← hnl]; exact (List.getElem?_eq_some_iff.1 hu).1
    rw [ha3 (by omega), add_mid, cell_of_row w g _ _ _ _ H.pt, List.getElem?_toArray]
    rw [← mcells_drop, List.getElem?_drop, ← hcur, List.getElem?_take_of_lt (by omega)] at hu
    rw [Nat.zero_add]; exact hu
  have hn1' : n - 1 = k + (n - (k + 1)) := by omega
  have happ : (splice cur (k * 5) (mcells (l.drop (k + 1)))).length = cur.length := splice_length' cur (mcells (l.drop (k + 1))) (k * 5) (by rw [hnl, hlen]; have : (k + (n - (k + 1))) * 5 ≤ cap * 5 := Nat.mul_le_mul_right _ (by omega); rw [Nat.add_mul] at this; exact this)
  have hAd : 0 < n - (k + (n - (k + 1))) → (if cap = k + (n - (k + 1)) then some (⟨g, 0, none⟩ : Addr) else (some (⟨g, 0, none⟩ : Addr)).map (·.add ((k + (n - (k + 1))) * 5))) = some ⟨g, 0 + (k + (n - (k + 1))) * 5, none⟩ := fun _ => by
    rw [if_neg (by omega)]; exact congrArg some (add_mid _ _ _)
  have hfit : 0 + (k + (n - (k + 1))) * 5 + (n - (k + (n - (k + 1)))) * 5 ≤ (splice cur (k * 5) (mcells (l.drop (k + 1)))).length := by rw [happ, hlen]; omega
  rw [hn1']
  refine calls_w (vs := [.slice (some ⟨g, 0, none⟩) n cap, .int .i64 (k : Int), .int .i64 ((k : Int) + 1)]) Try.func22 rfl rfl rfl ?_ w H
  (repeat' (first
      | ((with_reducible refine at_builtinO (b := .append) ?_); with_reducible refine owk0 (ow_appendIn (m := n - (k + 1)) (news := mcells (l.drop (k + 1))) (ev_tmp rfl) (ev_tmp rfl) hsrc (by omega) hlen pick_auto) ?_)
      | ((with_reducible refine at_builtinO (b := .clear) ?_); with_reducible refine owk (ow_clear (cur := splice cur (k * 5) (mcells (l.drop (k + 1)))) (ev_tmp rfl) hAd msg_zero pick_auto hfit) (fun zs => ?_))
      | (with_reducible refine at_move ?_; first | refine yk_eq (y_move (ev_tmp rfl)) hk1 ?_)
      | (with_reducible refine at_slice ?_; first | refine yk (y_slice3 (ev_tmp rfl) (ev_tmp rfl) (ev_tmp rfl) (ev_tmp rfl) (by omega)) ?_ | refine yk_eq (y_sliceLo (ev_tmp rfl) (ev_tmp rfl) (by omega)) hv2 ?_ | refine yk (y_sliceLoHi (ev_tmp rfl) (ev_tmp rfl) (ev_tmp rfl) (by omega)) ?_)
      | (with_reducible refine is_w ?_; first | refine w_plan (id := 5) [(0, true), (1, true), (2, true), (3, true), (4, true), (5, true), (6, false), (7, false)] [] (by kernel_rfl) (by kernel_rfl) Sel.nil ?_)
      | (with_reducible refine is_yk ?_; refine yk_auto (k := ?_))
      | (with_reducible refine is_owk0 ?_; refine owk0_auto (k := ?_))
      | (with_reducible refine is_owkc ?_; refine owk_auto (k := fun _ => ?_))
      | refine go1 (k := ?_)
      | (refine go2 (ka := ?_) (kb := ?_) <;> intro _)
      | fail))
  refine x_ret1 rfl rfl (fun w H => ⟨⟨splice (splice cur (k * 5) (mcells (l.drop (k + 1)))) (0 + (k + (n - (k + 1))) * 5) zs.1, ?_, ?_⟩, rfl, H⟩)
  · rw [splice_length' _ _ _ (by rw [zs.2]; exact hfit)]; exact happ
  · rw [splice_take _ _ _ _ (by omega) (by rw [happ, hlen]; omega), mcells_erase]
    have e1 : (cur.take (k * 5)) = mcells (l.take k) := by rw [← mcells_take, ← hcur, List.take_take, Nat.min_eq_left (by omega)]
    unfold splice
    rw [e1, List.take_append_of_le_length (by rw [List.length_append, hnl, mcells_length, List.length_take, hn]; omega)]
    exact List.take_of_length_le (by rw [List.length_append, hnl, mcells_length, List.length_take, hn]; omega)
set_option maxRecDepth 100000 in
set_option maxHeartbeats 2000000 in
theorem q_apply_ack {cs : List Value} {k : Nat} {m : MsgM} (hcs : cs = [.int .i64 5, .int .i64 Q.number, .int .i64 m.id, .int .i64 0, .int .i64 0, str []]) (hm : Q.list[k]? = some m) (ht : 0 < m.till) (H : St c (QueueAt p Q :: F) w) :
    Calls Try.prog 10 #[.pointer (some ⟨p, 0, none⟩), .agg cs.toArray] w fun e w' => e = .returned (.int .i64 0) ∧ St c (QueueAt p { Q with list := Q.list.eraseIdx k } :: F) w' := by
  have hw := H.openQ.1
  have hmost := hw.most
  have hkl : k < Q.list.length := (List.getElem?_eq_some_iff.1 hm).1
  have hel : (Q.list.eraseIdx k).length = Q.list.length - 1 := by rw [List.length_eraseIdx, if_pos hkl]
  have hws : QueueM.WF { Q with list := Q.list.eraseIdx k } := ⟨hw.rising.sublist (List.eraseIdx_sublist ..), by show (Q.list.eraseIdx k).length ≤ 64; omega, hw.quota, hw.limit, hw.wait, hw.next, fun x hx => hw.ids x (List.mem_of_mem_eraseIdx hx), fun x hx => hw.tries x (List.mem_of_mem_eraseIdx hx), fun x hx => hw.till x (List.mem_of_mem_eraseIdx hx)⟩
  have h00 : 0 < Q.list.length := by omega
  have hk := placeOf_at hw.rising hm
  have hb := hasId_at hw.rising hm
  have hv1 : (mcell m)[1]? = some (.int .i64 m.till) := rfl
  have ho1 : 0 + k * 5 + 1 = 0 + k * 5 + 1 := rfl
  refine calls_w (vs := [.pointer (some ⟨p, 0, none⟩), .agg cs.toArray]) Try.func10 rfl rfl rfl ?_ w H
  subst hcs
  (repeat' (first
      | ((with_reducible refine at_fn 22 ?_); with_reducible refine owk_c1x evs_auto (by kernel_rfl) pick_auto (fun w H => q_delete rfl hkl q.2.2.2.2 q.2.2.2.1 q.2.1 q.2.2.1 (by omega) H) (fun r => ?_))
      | ((with_reducible refine at_fn 20 ?_); with_reducible refine owk_c1x evs_auto (by kernel_rfl) pick_auto (fun w H => q_at_b m.id hk hb h00 H) (fun q => ?_))
      | (with_reducible refine at_load ?_; first | refine yk (y_load (ev_tmp rfl) (hasCell_tl q_number)) ?_ | refine yk (y_load (ev_tmp rfl) (hasFld has_auto q.2.2.2.2 rfl hm hv1 ho1)) ?_)
      | (with_reducible refine is_w ?_; first | refine w_plan (id := 3) [(0, true), (1, true), (2, true), (3, true), (4, true), (5, true), (6, true)] _ (by kernel_rfl) (by kernel_rfl) sel_all ?_)
      | (with_reducible refine is_yk ?_; refine yk_auto (k := ?_))
      | (with_reducible refine is_owk0 ?_; refine owk0_auto (k := ?_))
      | (with_reducible refine is_owkc ?_; refine owk_auto (k := fun _ => ?_))
      | refine go1 (k := ?_)
      | (refine go2 (ka := ?_) (kb := ?_) <;> intro _)
      | fail))
  exact x_ret1 rfl rfl (fun w H => ⟨rfl, St.shutQ (Q := { Q with list := Q.list.eraseIdx k }) hws hel (Sel.st (.cons (.tl .hd) (.imp .hd (shutOwn (by have := q.2.1; omega) q.2.2.1 (by rw [r.2.1]; exact q.2.2.2.1) r.2.2) (.tl sel_all))) H)⟩)
end
end Go.Proofs.Ytocejpklpggfnaa

/- The queue: Counts; what the laws ask first. -/
namespace Go.Proofs.Ytocejpklpggfnaa
open Go.RowKit
def isDead (m : MsgM) : Bool := m.dead
def isOut (m : MsgM) : Bool := !m.dead && decide (0 < m.till)
def isIn (m : MsgM) : Bool := !m.dead && !decide (0 < m.till)
theorem take_one {l : List MsgM} {j : Nat} {m : MsgM} (h : l[j]? = some m) : l.take (j + 1) = l.take j ++ [m] := by rw [List.take_add_one, h]; rfl
theorem count_one (f : MsgM → Bool) {l : List MsgM} {j : Nat} {m : MsgM} (h : l[j]? = some m) : ((l.take (j + 1)).countP f) = (l.take j).countP f + (if f m then 1 else 0) := by
  rw [take_one h, List.countP_append, List.countP_singleton]
theorem x_ret3 {P : Program} {N : Nat} {c : Con} {E : Env} {L : List HP} {fn : Func} {R : Ending → World → Prop} {t u v : Nat} {a b d : Value} (hr : fn.results = #[.tmp t, .tmp u, .tmp v]) (h1 : look E t = some a) (h2 : look E u = some b) (h3 : look E v = some d)
    (h : ∀ w, St c L w → R (.returned (.tuple #[a, b, d])) w) : X N c (bodyPost P fn R) .ret E L := fun ac w hf H =>
  bodyPost_ret (v := .tuple #[a, b, d]) (by rw [results_tmp3 hr, hf.get t a h1, hf.get u b h2, hf.get v d h3]) hf.defers (h w H)
attribute [local irreducible] Y OW YK OWK W WL WP X CV GvL GvP Ev Evs HasCell HasCells Has Met Again Kept
section
variable {c : Con} {F : List HP} {w : World} {p : Nat} {Q : QueueM}
set_option maxRecDepth 100000 in
theorem q_counts {a b d : Nat} (ha : Q.list.countP isIn = a) (hb : Q.list.countP isOut = b) (hd : Q.list.countP isDead = d) (H : St c (QueueAt p Q :: F) w) : Calls Try.prog 17 #[.pointer (some ⟨p, 0, none⟩)] w fun e w' => e = .returned (.tuple #[.int .i64 a, .int .i64 b, .int .i64 d]) ∧ St c (QueueAt p Q :: F) w' := by
  subst ha hb hd
  obtain ⟨hw, ⟨A, cap⟩, H⟩ := H.openQ
  dsimp only at H
  obtain ⟨n, hn⟩ : ∃ n, Q.list.length = n := ⟨_, rfl⟩
  have hmost := hw.most
  rw [hn] at H hmost
  have h05 : [Value.int .i64 0, .int .i64 0, .int .i64 0, str [], .bool false].length = 5 := rfl
  refine calls_w (vs := [.pointer (some ⟨p, 0, none⟩)]) Try.func17 rfl rfl rfl ?_ w H
  (repeat' (first
      | (with_reducible refine is_yk ?_; refine yk_auto (k := ?_))
      | (with_reducible refine is_owk0 ?_; refine owk0_auto (k := ?_))
      | (with_reducible refine is_owkc ?_; refine owk_auto (k := fun _ => ?_))
      | refine go1 (k := ?_)
      | (refine go2 (ka := ?_) (kb := ?_) <;> intro _)
      | fail))
  refine w_loop (α := Nat × Nat × Nat × Nat) (fun x => x.1 ≤ n ∧ (Q.list.take x.1).countP isIn = x.2.1 ∧ (Q.list.take x.1).countP isOut = x.2.2.1 ∧ (Q.list.take x.1).countP isDead = x.2.2.2 ∧ x.2.1 ≤ x.1 ∧ x.2.2.1 ≤ x.1 ∧ x.2.2.2 ≤ x.1)
    (fun x => [(8, .int .i64 (x.1 : Int)), (5, .int .i64 (x.2.1 : Int)), (6, .int .i64 (x.2.2.1 : Int)), (7, .int .i64 (x.2.2.2 : Int)), (0, .pointer (some ⟨p, 0, none⟩))])
    (fun _ => Bl p 52 [.int .i64 Q.number, .int .i64 Q.quota, .int .i64 Q.limit, .int .i64 Q.wait, .int .i64 Q.next, .slice A n cap] :: OwnP 58 5 (.slice A n cap) n (mcells Q.list) :: F) (fun x => n - x.1) (0, 0, 0, 0)
    ⟨Nat.zero_le _, by simp, by simp, by simp, Nat.le_refl _, Nat.le_refl _, Nat.le_refl _⟩ sub_auto sel_auto (fun x hx => ?_)
  obtain ⟨j, r, l, dd⟩ := x
  obtain ⟨hj, e1, e2, e3, b1, b2, b3⟩ := hx
  dsimp only at hj e1 e2 e3 b1 b2 b3 ⊢
  by_cases hlt : j < n
  · obtain ⟨m, hm⟩ : ∃ m, Q.list[j]? = some m := ⟨_, List.getElem?_eq_getElem (by omega)⟩
    have hml := mcell_length m
    have hmo := mcell_one m
    have c1 := count_one isIn hm
    have c2 := count_one isOut hm
    have c3 := count_one isDead hm
    refine w_openOwn pick_auto (fun h1 h2 h3 => ?_) (fun g cap' cur q1 hc1 hc2 hc3 hc4 => ?_)
    · omega
    cases q1
    (repeat' (first
      | ((with_reducible refine at_storeO ?_); with_reducible refine owk0 (ow_storeAll (ev_tmp rfl) (ev_tmp rfl) hmo hml upd_auto h05) ?_)
      | (with_reducible refine at_load ?_; first | refine yk (y_loadN (ev_tmp rfl) (hasMsg has_auto hc4 hn hm) hml) ?_)
      | (with_reducible refine is_yk ?_; refine yk_auto (k := ?_))
      | (with_reducible refine is_owk0 ?_; refine owk0_auto (k := ?_))
      | (with_reducible refine is_owkc ?_; refine owk_auto (k := fun _ => ?_))
      | refine go1 (k := ?_)
      | (refine go2 (ka := ?_) (kb := ?_) <;> intro _)
      | fail))
    · rename_i k1
      refine x_again (j + 1, r, l, dd + 1) ⟨hlt, ?_, ?_, ?_, by dsimp only; omega, by dsimp only; omega, by dsimp only; omega⟩ (show n - (j + 1) < n - j by omega) sub_auto (.cons (.tl (.tl .hd)) (.imp (.tl .hd) (shutOwn hc1 hc2 hc3 hc4) (.tl sel_all)))
      · rw [c1, e1]; simp [isIn, k1]
      · rw [c2, e2]; simp [isOut, k1]
      · rw [c3, e3]; simp [isDead, k1]
    · rename_i k1 k2
      refine x_again (j + 1, r, l + 1, dd) ⟨hlt, ?_, ?_, ?_, by dsimp only; omega, by dsimp only; omega, by dsimp only; omega⟩ (show n - (j + 1) < n - j by omega) sub_auto (.cons (.tl (.tl .hd)) (.imp (.tl .hd) (shutOwn hc1 hc2 hc3 hc4) (.tl sel_all)))
      · rw [c1, e1]; simp [isIn, k1, k2]
      · rw [c2, e2]; simp [isOut, k1, k2]
      · rw [c3, e3]; simp [isDead, k1]
    · rename_i k1 k2
      refine x_again (j + 1, r + 1, l, dd) ⟨hlt, ?_, ?_, ?_, by dsimp only; omega, by dsimp only; omega, by dsimp only; omega⟩ (show n - (j + 1) < n - j by omega) sub_auto (.cons (.tl (.tl .hd)) (.imp (.tl .hd) (shutOwn hc1 hc2 hc3 hc4) (.tl sel_all)))
      · rw [c1, e1]; simp [isIn, k1, k2]
      · rw [c2, e2]; simp [isOut, k1, k2]
      · rw [c3, e3]; simp [isDead, k1]
  · have hjn : Q.list.take j = Q.list := List.take_of_length_le (by omega)
    rw [hjn] at e1 e2 e3
    (repeat' (first
      | (with_reducible refine is_yk ?_; refine yk_auto (k := ?_))
      | (with_reducible refine is_owk0 ?_; refine owk0_auto (k := ?_))
      | (with_reducible refine is_owkc ?_; refine owk_auto (k := fun _ => ?_))
      | refine go1 (k := ?_)
      | (refine go2 (ka := ?_) (kb := ?_) <;> intro _)
      | fail))
    exact x_ret3 rfl rfl rfl rfl (fun w H => ⟨by rw [e1, e2, e3], St.shutQ hw hn H⟩)
end
end Go.Proofs.Ytocejpklpggfnaa
