/- Part 2 of what the statement rests on: each piece below begins with its own remark. -/
import Derived.Test.YtakeilefbcpabaaPart1
import Derived.Laws.MakeOwn
import Derived.ProofKit
import Derived.OpenShut
import Derived.SizedLaws
import Derived.ChangeOld
import Derived.Lib.SmallJoins
import Derived.Deep.Slices
import Derived.Test.YtakeilefbcpabaaProg
/- The operations that make memory: slices put together, structs put together, conversions. No program in sight. -/
namespace Go.Proofs.Ytakeilefbcpabaa
open Go.RowKit

def vcells (v : Value) : List Value := v.cells.toList
/-- The parts of a slice that is put together, in order. -/
inductive Parts (E : Env) : Nat → List (Nat × Operand) → List Value → Prop where
  | nil {k : Nat} : Parts E k [] []
  | cons {k : Nat} {x : Operand} {v : Value} {ps : List (Nat × Operand)} {vs : List Value} (h : Ev E x v) (r : Parts E (k + 1) ps vs) : Parts E k ((k, x) :: ps) (v :: vs)
theorem Parts.eval {E : Env} {N k : Nat} {ps : List (Nat × Operand)} {vs : List Value} {a : Act} (hf : Fr N E a) (h : Parts E k ps vs) : ps.map (fun p => (p.1, a.eval p.2)) = (vs.zipIdx k).map fun p => (p.2, p.1) := by
  induction h with
  | nil => rfl
  | cons h _ ih => simp [h N a hf, ih]
theorem Parts.length {E : Env} {k : Nat} {ps : List (Nat × Operand)} {vs : List Value} (h : Parts E k ps vs) : vs.length = ps.length := by
  induction h with
  | nil => rfl
  | cons _ _ ih => simp [ih]
theorem fill_parts (size : Nat) : ∀ (vs : List Value) (k : Nat) (acc tail : List Value), (∀ v ∈ vs, v.cells.size = size) → acc.length = k * size → tail.length = vs.length * size →
    Instr.fill (fun i => some (i * size, size)) (acc ++ tail).toArray ((vs.zipIdx k).map fun p => (p.2, p.1)) = some (acc ++ vs.flatMap vcells).toArray
  | [], k, acc, tail, _, _, ht => by
    have : tail = [] := List.eq_nil_of_length_eq_zero (by simpa using ht)
    subst this
    simp [Instr.fill]
  | v :: vs, k, acc, tail, hv, ha, ht => by
    have h1 := hv v List.mem_cons_self
    have e := fold_set (k * size) v.cells.toList 0 (acc ++ tail).toArray (by simp [ha, ht, h1, Nat.add_mul])
    rw [← Array.toList_zipIdx, Nat.add_zero, Array.foldl_toList] at e
    have hn : ¬ (decide (v.cells.size ≠ size) || decide (k * size + v.cells.size > (acc ++ tail).toArray.size)) = true := by
      simp [h1, ha, ht, Nat.add_mul]
    simp only [List.zipIdx_cons, List.map_cons, Instr.fill]
    rw [if_neg hn]
    have e2 : (splice (acc ++ tail).toArray.toList (k * size) v.cells.toList).toArray = ((acc ++ vcells v) ++ tail.drop size).toArray := by
      simp only [splice, vcells, ← ha, List.take_left]
      rw [List.drop_append, List.drop_of_length_le (by omega)]
      simp [h1]
    have := fill_parts size vs (k + 1) (acc ++ vcells v) (tail.drop size) (fun u hu => hv u (List.mem_cons_of_mem _ hu)) (by simp [vcells, ha, h1, Nat.add_mul]) (by simp [ht, Nat.add_mul])
    rw [e, e2, this]
    simp

section
variable {P : Program} {N : Nat} {c : Con} {E : Env} {L L' : List HP} {H : World → Prop} {d : Option Nat} {ty : TypeId} {pos : String} {aft : Array Edge} {g : Option (Nat × Bool)}
theorem ow_buildSlice {t e size bytes n : Nat} {z : Value} {ps : List (Nat × Operand)} {vs : List Value} [ht : TSlice P t e size bytes z] (hp : Parts E 0 ps vs) (hn : ps.length = n) (hc : ∀ v ∈ vs, v.cells.size = size)
    (h0 : 0 < n * size) (h1 : n * size ≤ 16777216) : OW P N c E L (Oper.mk d (.buildSlice t n ps.toArray) ty pos aft g) (fun b => .slice (some ⟨b, 0, none⟩) n n) fun b => Bl b e (vs.flatMap vcells) :: L := fun Q K a w hf H hk => by
  have hi := ht.i
  cases hq : P.info? e with
  | none => simp [hq] at hi
  | some ie =>
    simp only [hq, Option.map_some, Option.some.injEq, Prod.mk.injEq] at hi
    refine wp_buildSlice (P := P) t e n ps.toArray rfl (vs.flatMap vcells).toArray ie z ht.u hq hi.1 (by rw [hi.2.1]; omega) (by rw [hi.2.1]; omega) ?_ (hk _ _ (H.allocPt _))
    have e1 : (ps.toArray.map fun (i, x) => (i, a.eval x)).toList = (vs.zipIdx 0).map fun p => (p.2, p.1) := by
      rw [← hp.eval hf]; simp
    have h2 := fill_parts size vs 0 [] ((Array.range (n * ie.size)).map (z.cells[· % z.cells.size]!)).toList hc (by simp) (by simp [hi.2.1, ← hn, hp.length])
    rw [e1, hi.2.1]
    rw [hi.2.1] at h2
    rw [List.nil_append, Array.toArray_toList, List.nil_append] at h2
    exact h2

/-- A slice of none, that isn't nil. -/
theorem ow_buildEmpty {t e size bytes : Nat} {z : Value} [ht : TSlice P t e size bytes z] : OW P N c E L (Oper.mk d (.buildSlice t 0 #[]) ty pos aft g) (fun b => .slice (some ⟨b, 0, none⟩) 0 0) fun b => OwnP e size (.slice (some ⟨b, 0, none⟩) 0 0) 0 [] :: L := fun Q K a w hf H hk => by
  have hi := ht.i
  have _ := hf
  cases hq : P.info? e with
  | none => simp [hq] at hi
  | some ie =>
    unfold Oper.wp execOp
    have hr : (Instr.buildSlice t 0 #[]).run P w = .ok (.slice (some ⟨w.heap.size, 0, none⟩) 0 0) (w.alloc (.cells #[] e)) := by
      have e0 : ∀ f : Nat → Value, Array.map f (Array.range 0) = #[] := fun f => by apply Array.ext'; simp
      simp [Instr.buildSlice, run_underlying ht.u, sizeOf, typeInfo, program, Sem.run, hq, Instr.fill, newRow, newObj, e0]
    simp only [List.map_toArray, List.map_nil, Sem.run_bind, hr, Result.andThen_ok, Sem.run_pure]
    exact hk _ _ ((H.allocPt (.cells #[] e)).imp fun h hb => ⟨by simp, .inr ⟨w.heap.size, 0, #[], rfl, hb, Nat.le_refl _, Nat.zero_le _, by simp, by simp⟩⟩)
/-- Structs put together. -/
inductive Lay (E : Env) (ps : List (Nat × Nat)) : List Value → List (Nat × Operand) → List Value → Prop where
  | nil {z : List Value} : Lay E ps z [] z
  | cons {z out : List Value} {i o s : Nat} {x : Operand} {v : Value} {r : List (Nat × Operand)} (h : Ev E x v) (hp : ps[i]? = some (o, s)) (hs : (vcells v).length = s) (hz : o + s ≤ z.length) (k : Lay E ps (splice z o (vcells v)) r out) :
      Lay E ps z ((i, x) :: r) out
theorem Lay.fill {E : Env} {N : Nat} {ps : List (Nat × Nat)} {z out : List Value} {r : List (Nat × Operand)} {a : Act} (hf : Fr N E a) (h : Lay E ps z r out) : Instr.fill (ps.toArray[·]?) z.toArray (r.map fun p => (p.1, a.eval p.2)) = some out.toArray := by
  induction h with
  | nil => simp [Instr.fill]
  | @cons z out i o s x v r h hp hs hz _ ih =>
    have hs' : v.cells.size = s := by simpa [vcells] using hs
    have e := fold_set o v.cells.toList 0 z.toArray (by simp [hs']; omega)
    rw [← Array.toList_zipIdx, Nat.add_zero, Array.foldl_toList] at e
    have hn' : ¬ (decide (v.cells.size ≠ s) || decide (o + v.cells.size > z.toArray.size)) = true := by simp [hs']; omega
    have hp' : ps.toArray[i]? = some (o, s) := by simpa using hp
    simp only [List.map_cons, h N a hf, Instr.fill, hp']
    rw [if_neg hn', e]
    exact ih
theorem y_build {t : Nat} {ps : List (Nat × Nat)} {z out : List Value} {parts : List (Nat × Operand)} [ht : TPlaces P t ps z] (hl : Lay E ps z parts out) : Y P H E (Oper.mk d (.build t parts.toArray) ty pos aft g) (.agg out.toArray) := fun N a w hf _ => by
  obtain ⟨fs, h1, h2⟩ := ht.u
  have hi := ht.i
  cases hq : P.info? t with
  | none => simp [hq] at hi
  | some i =>
    have hz : i.zero = some (.agg z.toArray) := by simpa [hq] using hi
    have h3 := hl.fill hf
    have e1 : (parts.toArray.map fun (i, x) => (i, a.eval x)).toList = parts.map fun p => (p.1, a.eval p.2) := by simp
    unfold execOp
    simp only [Instr.build, Sem.run_bind, zeroValue, typeInfo, program, Sem.run, hq, hz, Sem.run_pure, Result.andThen_ok, run_underlying h1, h2, Value.cells, e1]
    have h3' : Instr.fill (fun x => ps.toArray[x]?) z.toArray (parts.map fun p => (p.1, a.eval p.2)) = some out.toArray := h3
    have h4 : (fun x : Nat => ps.toArray[x]?) = fun x : Nat => ps[x]? := by funext x; simp
    rw [h4] at h3'
    simp [h3']

/-- A slice of bytes, turned into itself. -/
theorem freeze_heap (w : World) (b n : Nat) (cs : Array Value) (T : TypeId) (hb : w.heap[b]? = some (.cells cs T (0, 0))) :
    (w.freeze ⟨b, n, none⟩ 1).heap[b]? = some (.cells cs T (n, n + 1)) ∧ ∀ k, k ≠ b → (w.freeze ⟨b, n, none⟩ 1).heap[k]? = w.heap[k]? := by
  refine ⟨by simp [World.freeze, Array.getElem?_modify, hb], fun k hk => ?_⟩
  simp [World.freeze, Array.getElem?_modify, Ne.symm hk]
theorem St.freeze {F : List HP} {w : World} {b : Nat} {cs : Array Value} {T : TypeId} (H : St c (Pt b (.cells cs T (0, 0)) :: F) w) (n : Nat) : St c (Pt b (.cells cs T (n, n + 1)) :: F) (w.freeze ⟨b, n, none⟩ 1) := by
  obtain ⟨h, a, l, u⟩ := H.upd
  have hb := l b _ a
  obtain ⟨h1, h2⟩ := freeze_heap w b n cs T hb
  have hc : conOf (w.freeze ⟨b, n, none⟩ 1) = conOf w := by unfold World.freeze; rfl
  refine u _ _ hc (fun k hk hn => h2 k ?_) ?_
  · rintro rfl; rw [a] at hn; cases hn
  · simp only [Pt]
    rw [if_pos (.inl (by rw [a]; rfl))]
    exact h1
theorem ow_mark {F : List HP} {x : Operand} {t e size bytes b o n cap T : Nat} {z : Value} {cs : Array Value} [ht : TSlice P t e size bytes z] [he : TInt P e .u8] (hx : Ev E x (.slice (some ⟨b, o, none⟩) n cap)) (hp : Pick L (Pt b (.cells cs T (0, 0))) F) :
    OW P N c E L (Oper.mk d (.convert t t x) ty pos aft g) (fun _ : Unit => .slice (some ⟨b, o, none⟩) n cap) fun _ => Pt b (.cells cs T (cs.size, cs.size + 1)) :: F := fun Q K a w hf H hk => by
  have H1 := hp.st H
  have hb := H1.pt
  have hs : w.shape? b = some (T, cs.size) := by simp [World.shape?, hb]
  unfold Oper.wp execOp
  simp [hx N a hf, convert, run_underlying ht.u, run_underlying he.u, markStringish, shape, Sem.run, hs, freeze]
  exact hk () _ (H1.freeze cs.size)
/-- The bytes of a string, as memory of its own. -/
def BytesP (b cap : Nat) (e : TypeId) (l : List UInt8) : HP := Pt b (.cells (bvs l ++ List.replicate (cap - l.length) (Value.int .u8 0)).toArray e (cap, cap + 1))
theorem bytesP_reads {F : List HP} {b cap e : Nat} {l : List UInt8} (h1 : l.length ≤ cap) (h2 : cap ≤ 9223372036854775807) : ∀ w, St c (BytesP b cap e l :: F) w → Reads w (.slice (some ⟨b, 0, none⟩) l.length cap) l.length 1 (bvs l) := fun w H => by
  have hb : w.heap[b]? = _ := St.pt (c := c) (L := F) H
  refine ⟨by simp [bvs_length], .inr ⟨_, cap, rfl, h1, h2, fun j u hu => ?_⟩⟩
  rw [add_mid, Nat.zero_add, cell_of_row w b j _ _ _ hb]
  have hj := (List.getElem?_eq_some_iff.1 hu).1
  simp [List.getElem?_append_left hj, hu]
theorem ow_toBytes {x : Operand} {t t' e size bytes : Nat} {z : Value} {l : List UInt8} [hs : TStr P t] [ht : TSlice P t' e size bytes z] [he : TInt P e .u8] (hx : Ev E x (str l)) (hl : l.length ≤ 9223372036854775807) :
    OW P N c E L (Oper.mk d (.convert t t' x) ty pos aft g) (fun q : { q : Nat × Nat // l.length ≤ q.2 ∧ q.2 ≤ 9223372036854775807 } => .slice (some ⟨q.1.1, 0, none⟩) l.length q.1.2) fun q => BytesP q.1.1 q.1.2 e l :: L := fun Q K a w hf H hk => by
  have hge : ∀ t : Nat, l.length ≤ (Question.appendCap l.length 0 e).cut t ∧ (Question.appendCap l.length 0 e).cut t ≤ 9223372036854775807 := fun t => by
    have := Nat.mod_lt t (show 0 < 2 ^ 63 - l.length by omega)
    simp only [Question.cut]; omega
  have hg := hge (w.tape w.drawn (.appendCap l.length 0 e))
  generalize hcap : (Question.appendCap l.length 0 e).cut (w.tape w.drawn (.appendCap l.length 0 e)) = cap at hg
  have e1 : (l.toArray.map fun b => Value.int .u8 (b.toNat : Int)) ++ Array.replicate (cap - l.length) (Value.int .u8 0) = (bvs l ++ List.replicate (cap - l.length) (Value.int .u8 0)).toArray := by
    apply Array.ext'; simp [bvs, bv]
  have hsz : (bvs l ++ List.replicate (cap - l.length) (Value.int .u8 0)).toArray.size = cap := by simp [bvs_length]; omega
  have H1 := (H.drew.allocPt (.cells (bvs l ++ List.replicate (cap - l.length) (Value.int .u8 0)).toArray e)).freeze cap
  have hsh : (w.drew.alloc (.cells (bvs l ++ List.replicate (cap - l.length) (Value.int .u8 0)).toArray e)).shape? w.heap.size = some (e, cap) := by
    have := heap_alloc_new w.drew (.cells (bvs l ++ List.replicate (cap - l.length) (Value.int .u8 0)).toArray e)
    have h0 : w.drew.heap.size = w.heap.size := rfl
    rw [h0] at this
    simp only [World.shape?, this, hsz]
  unfold Oper.wp execOp
  have hr : (convert t t' (str l)).run P w = .ok (.slice (some ⟨w.heap.size, 0, none⟩) l.length cap) ((w.drew.alloc (.cells (bvs l ++ List.replicate (cap - l.length) (Value.int .u8 0)).toArray e)).freeze ⟨w.heap.size, cap, none⟩ 1) := by
    simp only [convert, str, Sem.run_bind, run_underlying hs.u, run_underlying ht.u, Result.andThen_ok, run_underlying he.u, Conv.stringToBytes, choose, Sem.run, Question.forced, Bool.false_eq_true, if_false, str_size, hcap, newRow, newObj, Sem.run_pure, e1, markStringish, shape]
    have hsh' : ({ heap := (w.heap.push (.cells (bvs l ++ List.replicate (cap - l.length) (Value.int .u8 0)).toArray e)), tape := w.tape, drawn := w.drawn + 1, os := w.os, output := w.output } : World).shape? w.heap.size = some (e, cap) := hsh
    simp only [hsh', freeze, Sem.run, Result.andThen_ok]
    rfl
  simp only [hx N a hf, Sem.run_bind, hr, Result.andThen_ok, Sem.run_pure]
  exact hk ⟨(w.heap.size, cap), hg⟩ _ H1
theorem made_one (z : Value) (n : Nat) : (madeCells #[z] n).toList = List.replicate n z := by
  apply List.ext_getElem
  · simp [madeCells]
  · intro i h1 h2
    simp [madeCells, Nat.mod_one]
theorem ow_makeSlice {x y : Operand} {t e bytes : Nat} {z z' : Value} {n : Nat} {k k' : IntKind} [ht : TSlice P t e 1 bytes z] [he : TOne P e z'] (hx : Ev E x (.int k n)) (hy : Ev E y (.int k' n)) (hb : bytes * n ≤ 281474976710656) (h63 : n ≤ 9223372036854775807) :
    OW P N c E L (Oper.mk d (.makeSlice t x y) ty pos aft g) (fun b => .slice (some ⟨b, 0, none⟩) n n) fun b => Bl b e (List.replicate n z') :: L := fun Q K a w hf H hk => by
  have hi := ht.i
  have hi' := he.i
  cases hq : P.info? e with
  | none => simp [hq] at hi
  | some ie =>
    simp only [hq, Option.map_some, Option.some.injEq, Prod.mk.injEq] at hi hi'
    have hz : z = z' := Option.some.inj (hi.1.symm.trans hi'.1)
    subst hz
    have hr := run_make (P := P) w t e ie z ht.u hq hi.1 k k' n n (by omega) (by omega) (by rw [hi.2.2]; omega) (by omega)
    unfold Oper.wp execOp
    simp only [hx N a hf, hy N a hf, Sem.run_bind, hr, Result.andThen_ok, Sem.run_pure, Int.toNat_natCast]
    have e1 : madeCells z.cells (n * ie.size) = (List.replicate n z).toArray := by
      rw [he.one, hi.2.1, Nat.mul_one]; apply Array.ext'; rw [made_one]
    rw [e1]
    exact hk _ _ (H.allocPt _)
theorem replicate_bvs (n : Nat) : List.replicate n (Value.int .u8 0) = bvs (zeros n) := by simp [bvs, zeros, bv]
/-- A block as a slice of one's own. -/
theorem own_of_bl {b e size n : Nat} {cs : List Value} (hl : cs.length = n * size) (hn : n ≤ maxLen) : ∀ h, Bl b e cs h → OwnP e size (.slice (some ⟨b, 0, none⟩) n n) n cs h := fun h hb =>
  ⟨hl, .inr ⟨b, n, cs.toArray, rfl, hb, Nat.le_refl _, hn, by simpa using hl, by simp [← hl]⟩⟩
end
/-! ### clear of a slice -/
theorem ow_clear {P : Program} {N : Nat} {c : Con} {E : Env} {L F : List HP} {d : Option Nat} {ty : TypeId} {pos : String} {aft : Array Edge} {g : Option (Nat × Bool)} {x : Operand} {t e size bytes b o n cap T : Nat} {z : Value} {A : Option Addr} {cur : List Value}
    [ht : TSlice P t e size bytes z] (hx : Ev E x (.slice A n cap)) (hA : 0 < n → A = some ⟨b, o, none⟩) (h1 : ∀ u ∈ z.cells.toList, u.oneCell' = true) (hp : Pick L (Bl b T cur) F) (hfit : o + n * size ≤ cur.length) :
    OW P N c E L (Oper.mk d (.call { callee := .builtin .clear, args := #[x], argTypes := #[t] }) ty pos aft g) (fun _ : { zs : List Value // zs.length = n * size } => .tuple #[]) fun zs => Bl b T (splice cur o zs.1) :: F := fun Q K a w hf H hk => by
  have hi := ht.i
  have H1 := hp.st H
  cases hq : P.info? e with
  | none => simp [hq] at hi
  | some ie =>
    simp only [hq, Option.map_some, Option.some.injEq, Prod.mk.injEq] at hi
    unfold Oper.wp execOp
    by_cases hn : n = 0
    · subst hn
      have hk' := hk ⟨[], by simp⟩ w (by
        have e0 : splice cur o [] = cur := by simp [splice]
        show St c (Bl b T (splice cur o []) :: F) w
        rw [e0]; exact H1)
      have hr : ∀ A, (Builtin.clear_ #[t] ty #[.slice A 0 cap]).run P w = .ok (.tuple #[]) w := fun A => by cases A <;> simp [Builtin.clear_, run_underlying ht.u]
      simp only [resolve, invoke, builtin, Sem.run_bind, Sem.run_pure, Result.andThen_ok, List.map_toArray, List.map_cons, List.map_nil, hx N a hf, hr]
      exact hk'
    · have hA := hA (by omega)
      subst hA
      have hz1 : ∀ u ∈ (Builtin.zeroCells z.cells n).toList, u.oneCell' = true := by
        intro u hu
        simp only [Builtin.zeroCells, Array.toList_map, List.mem_map] at hu
        obtain ⟨i, hi', rfl⟩ := hu
        have hs : 0 < z.cells.size := by
          rcases Nat.eq_zero_or_pos z.cells.size with h0 | h0
          · rw [h0] at hi'; simp at hi'
          · exact h0
        have hlt : i % z.cells.size < z.cells.size := Nat.mod_lt _ hs
        rw [getElem!_pos z.cells _ hlt]
        exact h1 _ (by simp)
      have hzl : (Builtin.zeroCells z.cells n).toList.length = n * size := by simp [size_zeroCells, ht.zs]
      have hst := run_storeCells_at P b o T (Builtin.zeroCells z.cells n).toList 0 cur.toArray w H1.pt (by rw [Nat.add_zero, hzl]; simpa using hfit) hz1
      have hr : (Builtin.clear_ #[t] ty #[.slice (some ⟨b, o, none⟩) n cap]).run P w = .ok (.tuple #[]) (w.setRow b (splice cur o (Builtin.zeroCells z.cells n).toList).toArray) := by
        obtain ⟨m, rfl⟩ : ∃ m, n = m + 1 := ⟨n - 1, by omega⟩
        simp only [Nat.add_zero] at hst
        simp [Builtin.clear_, run_underlying ht.u, zeroValue, typeInfo, hq, hi.1, hst, splice]
      simp only [resolve, invoke, builtin, Sem.run_bind, Sem.run_pure, Result.andThen_ok, List.map_toArray, List.map_cons, List.map_nil, hx N a hf, hr]
      exact hk ⟨_, hzl⟩ _ (H1.setRowPt _)

theorem vcells_int (k : IntKind) (x : Int) : vcells (.int k x) = [.int k x] := rfl
theorem vcells_str (l : List UInt8) : vcells (str l) = [str l] := rfl
theorem vcells_bool (b : Bool) : vcells (.bool b) = [.bool b] := rfl
theorem vcells_slice (A : Option Addr) (n m : Nat) : vcells (.slice A n m) = [.slice A n m] := rfl
theorem vcells_ptr (A : Option Addr) : vcells (.pointer A) = [.pointer A] := rfl
section
variable {E : Env}
theorem Lay.one {ps : List (Nat × Nat)} {z out : List Value} {i o : Nat} {x : Operand} {v : Value} {r : List (Nat × Operand)} (h : Ev E x v) (hp : ps[i]? = some (o, 1)) (hv : vcells v = [v]) (hz : o < z.length) (k : Lay E ps (z.set o v) r out) : Lay E ps z ((i, x) :: r) out := by
  refine .cons h hp (by rw [hv]; rfl) (by omega) ?_
  have e : splice z o (vcells v) = z.set o v := by
    rw [hv, splice, List.set_eq_take_append_cons_drop, if_pos hz]
    simp
  rw [e]; exact k
end

/-! ### What fills itself: the tactics stand here once -/
section
variable {P : Program} {N : Nat} {c : Con} {E : Env} {L : List HP} {Q : Exit → Act → World → Prop} {ops : Array Oper} {H : World → Prop}
theorem ev_auto {x : Operand} {v : Value} (h : Ev E x v := by (first | exact ev_tmp rfl | exact ev_const | exact ev_func)) : Ev E x v := h
theorem evs_auto {xs : Array Operand} {vs : List Value} (h : Evs E xs vs := by ((repeat (first | exact evs_nil | ((apply evs_cons); focus (first | exact ev_tmp rfl | exact ev_const | exact ev_func)))); (first | done | fail))) : Evs E xs vs := h
theorem parts_auto {k : Nat} {ps : List (Nat × Operand)} {vs : List Value} (h : Parts E k ps vs := by ((repeat (first | exact Parts.nil | ((apply Parts.cons); focus (first | exact ev_tmp rfl | exact ev_const | exact ev_func)))); (first | done | fail))) : Parts E k ps vs := h
theorem lay_auto {ps : List (Nat × Nat)} {z out : List Value} {r : List (Nat × Operand)} (h : Lay E ps z r out := by ((repeat (first | exact Lay.nil | ((apply Lay.one); (first | exact ev_tmp rfl | exact ev_const | exact ev_func); (with_unfolding_all exact rfl); (first | exact vcells_int _ _ | exact vcells_str _ | exact vcells_bool _ | exact vcells_slice _ _ _ | exact vcells_ptr _); (with_unfolding_all exact Nat.le_of_ble_eq_true rfl)) | ((apply Lay.cons); (first | exact ev_tmp rfl | exact ev_const | exact ev_func); (with_unfolding_all exact rfl); (with_unfolding_all exact rfl); (with_unfolding_all exact Nat.le_of_ble_eq_true rfl)))); (first | done | fail))) : Lay E ps z r out := h
theorem sub_auto {E' : Env} (h : Sub E' E := by ((repeat (first | exact sub_nil | refine sub_cons rfl ?_)); (first | done | fail))) : Sub E' E := h
theorem pick_auto {A : HP} {F : List HP} (h : Pick L A F := by ((repeat (first | with_reducible exact Pick.hd | with_reducible apply Pick.tl)); (first | done | fail))) : Pick L A F := h
theorem pickd_auto {A : HP} {F : List HP} (h : Pick L A F := by ((repeat (first | with_reducible exact Pick.hd | exact Pick.hd | with_reducible apply Pick.tl)); (first | done | fail))) : Pick L A F := h
theorem sel_auto {L' : List HP} (h : Sel L L' := by ((repeat (first | with_reducible exact sel_all | exact Sel.nil | ((with_reducible apply Sel.cons); focus (exact pick_auto)) | with_reducible apply Sel.own0 | ((with_reducible apply Sel.cons); focus (exact pickd_auto)) | with_reducible apply Sel.tl)); (first | done | fail))) : Sel L L' := h
theorem has_auto {b : Nat} {o : Obj} (h : Has H b o := by ((repeat (first | with_reducible exact has_hd | with_reducible refine has_tl ?_)); (first | done | fail))) : Has H b o := h
theorem upd_auto {L' : List HP} {b : Nat} {T : TypeId} {cs cs' : List Value} (h : Upd L b T cs cs' L' := by ((repeat (first | with_reducible exact Upd.hd | with_reducible apply Upd.tl)); (first | done | fail))) : Upd L b T cs cs' L' := h
class IsAct (o : Op) : Prop where
  t : True
instance {b : Call} : IsAct (.call b) := ⟨trivial⟩
instance {t : TypeId} : IsAct (.alloc t) := ⟨trivial⟩
instance {t : TypeId} {x : Operand} : IsAct (.box t x) := ⟨trivial⟩
instance {t : TypeId} {x y : Operand} : IsAct (.store t x y) := ⟨trivial⟩
instance {t n : Nat} {ps : Array (Nat × Operand)} : IsAct (.buildSlice t n ps) := ⟨trivial⟩
instance {t : TypeId} {x y : Operand} : IsAct (.makeSlice t x y) := ⟨trivial⟩
instance {t t' : TypeId} {x : Operand} : IsAct (.convert t t' x) := ⟨trivial⟩
theorem is_owkc {K : Value → List HP → Prop} {d : Option Nat} {ty : TypeId} {pos : String} {aft : Array Edge} {g : Option (Nat × Bool)} {op : Op} [IsAct op] (h : OWK P N c E L (Oper.mk d op ty pos aft g) K) : OWK P N c E L (Oper.mk d op ty pos aft g) K := h
theorem gy_move {v : Value} {d : Option Nat} {ty : TypeId} {pos : String} {aft : Array Edge} {g : Option (Nat × Bool)} {x : Operand} (k : Y P H E (Oper.mk d (.move x) ty pos aft g) v) : Y P H E (Oper.mk d (.move x) ty pos aft g) v := k
theorem gy_assign {v : Value} {d : Option Nat} {ty : TypeId} {pos : String} {aft : Array Edge} {g : Option (Nat × Bool)} {x : Operand} (k : Y P H E (Oper.mk d (.assign x) ty pos aft g) v) : Y P H E (Oper.mk d (.assign x) ty pos aft g) v := k
theorem gy_nilCheck {v : Value} {d : Option Nat} {ty : TypeId} {pos : String} {aft : Array Edge} {g : Option (Nat × Bool)} {x : Operand} (k : Y P H E (Oper.mk d (.nilCheck x) ty pos aft g) v) : Y P H E (Oper.mk d (.nilCheck x) ty pos aft g) v := k
theorem gy_field {v : Value} {d : Option Nat} {ty : TypeId} {pos : String} {aft : Array Edge} {g : Option (Nat × Bool)} {s f : Nat} {x : Operand} (k : Y P H E (Oper.mk d (.fieldAddr s x f) ty pos aft g) v) : Y P H E (Oper.mk d (.fieldAddr s x f) ty pos aft g) v := k
theorem gy_load {v : Value} {d : Option Nat} {ty : TypeId} {pos : String} {aft : Array Edge} {g : Option (Nat × Bool)} {t : TypeId} {x : Operand} (k : Y P H E (Oper.mk d (.load t x) ty pos aft g) v) : Y P H E (Oper.mk d (.load t x) ty pos aft g) v := k
theorem gy_bin {v : Value} {d : Option Nat} {ty : TypeId} {pos : String} {aft : Array Edge} {g : Option (Nat × Bool)} {o : BinOp} {t t' : TypeId} {x y : Operand} (k : Y P H E (Oper.mk d (.binOp o t x y t') ty pos aft g) v) : Y P H E (Oper.mk d (.binOp o t x y t') ty pos aft g) v := k
theorem gy_pick {v : Value} {d : Option Nat} {ty : TypeId} {pos : String} {aft : Array Edge} {g : Option (Nat × Bool)} {x y z : Operand} (k : Y P H E (Oper.mk d (.pick x y z) ty pos aft g) v) : Y P H E (Oper.mk d (.pick x y z) ty pos aft g) v := k
theorem gy_extract {v : Value} {d : Option Nat} {ty : TypeId} {pos : String} {aft : Array Edge} {g : Option (Nat × Bool)} {x : Operand} {i : Nat} (k : Y P H E (Oper.mk d (.extract x i) ty pos aft g) v) : Y P H E (Oper.mk d (.extract x i) ty pos aft g) v := k
theorem gy_un {v : Value} {d : Option Nat} {ty : TypeId} {pos : String} {aft : Array Edge} {g : Option (Nat × Bool)} {o : UnOp} {t : TypeId} {x : Operand} (k : Y P H E (Oper.mk d (.unOp o t x) ty pos aft g) v) : Y P H E (Oper.mk d (.unOp o t x) ty pos aft g) v := k
theorem gy_call {v : Value} {d : Option Nat} {ty : TypeId} {pos : String} {aft : Array Edge} {g : Option (Nat × Bool)} {b : Call} (k : Y P H E (Oper.mk d (.call b) ty pos aft g) v) : Y P H E (Oper.mk d (.call b) ty pos aft g) v := k
theorem gy_index {v : Value} {d : Option Nat} {ty : TypeId} {pos : String} {aft : Array Edge} {g : Option (Nat × Bool)} {t : TypeId} {x i : Operand} (k : Y P H E (Oper.mk d (.indexAddr t x i) ty pos aft g) v) : Y P H E (Oper.mk d (.indexAddr t x i) ty pos aft g) v := k
theorem gy_slice {v : Value} {d : Option Nat} {ty : TypeId} {pos : String} {aft : Array Edge} {g : Option (Nat × Bool)} {t : TypeId} {x : Operand} {l h' m : Option Operand} (k : Y P H E (Oper.mk d (.slice t x l h' m) ty pos aft g) v) : Y P H E (Oper.mk d (.slice t x l h' m) ty pos aft g) v := k
theorem gy_conv {v : Value} {d : Option Nat} {ty : TypeId} {pos : String} {aft : Array Edge} {g : Option (Nat × Bool)} {t t' : TypeId} {x : Operand} (k : Y P H E (Oper.mk d (.convert t t' x) ty pos aft g) v) : Y P H E (Oper.mk d (.convert t t' x) ty pos aft g) v := k
theorem gy_func {v : Value} {d : Option Nat} {ty : TypeId} {pos : String} {aft : Array Edge} {g : Option (Nat × Bool)} {fn : Fn} {a b : Array Operand} (k : Y P H E (Oper.mk d (.makeFunc fn a b) ty pos aft g) v) : Y P H E (Oper.mk d (.makeFunc fn a b) ty pos aft g) v := k
theorem gy_build {v : Value} {d : Option Nat} {ty : TypeId} {pos : String} {aft : Array Edge} {g : Option (Nat × Bool)} {t : TypeId} {ps : Array (Nat × Operand)} (k : Y P H E (Oper.mk d (.build t ps) ty pos aft g) v) : Y P H E (Oper.mk d (.build t ps) ty pos aft g) v := k
theorem ga_alloc {β : Type} {r : β → Value} {L' : β → List HP} {d : Option Nat} {ty : TypeId} {pos : String} {aft : Array Edge} {g : Option (Nat × Bool)} {t : TypeId} (k : OW P N c E L (Oper.mk d (.alloc t) ty pos aft g) r L') : OW P N c E L (Oper.mk d (.alloc t) ty pos aft g) r L' := k
theorem ga_box {β : Type} {r : β → Value} {L' : β → List HP} {d : Option Nat} {ty : TypeId} {pos : String} {aft : Array Edge} {g : Option (Nat × Bool)} {t : TypeId} {x : Operand} (k : OW P N c E L (Oper.mk d (.box t x) ty pos aft g) r L') : OW P N c E L (Oper.mk d (.box t x) ty pos aft g) r L' := k
theorem ga_store {β : Type} {r : β → Value} {L' : β → List HP} {d : Option Nat} {ty : TypeId} {pos : String} {aft : Array Edge} {g : Option (Nat × Bool)} {t : TypeId} {x y : Operand} (k : OW P N c E L (Oper.mk d (.store t x y) ty pos aft g) r L') : OW P N c E L (Oper.mk d (.store t x y) ty pos aft g) r L' := k
theorem ga_buildSlice {β : Type} {r : β → Value} {L' : β → List HP} {d : Option Nat} {ty : TypeId} {pos : String} {aft : Array Edge} {g : Option (Nat × Bool)} {t n : Nat} {ps : Array (Nat × Operand)} (k : OW P N c E L (Oper.mk d (.buildSlice t n ps) ty pos aft g) r L') : OW P N c E L (Oper.mk d (.buildSlice t n ps) ty pos aft g) r L' := k
theorem ga_makeSlice {β : Type} {r : β → Value} {L' : β → List HP} {d : Option Nat} {ty : TypeId} {pos : String} {aft : Array Edge} {g : Option (Nat × Bool)} {t : TypeId} {x y : Operand} (k : OW P N c E L (Oper.mk d (.makeSlice t x y) ty pos aft g) r L') : OW P N c E L (Oper.mk d (.makeSlice t x y) ty pos aft g) r L' := k
theorem ga_conv {β : Type} {r : β → Value} {L' : β → List HP} {d : Option Nat} {ty : TypeId} {pos : String} {aft : Array Edge} {g : Option (Nat × Bool)} {t t' : TypeId} {x : Operand} (k : OW P N c E L (Oper.mk d (.convert t t' x) ty pos aft g) r L') : OW P N c E L (Oper.mk d (.convert t t' x) ty pos aft g) r L' := k
class IsAct0 (o : Op) : Prop where
  t : True
instance {t : TypeId} {x y : Operand} : IsAct0 (.store t x y) := ⟨trivial⟩
instance {t t' : TypeId} {x : Operand} : IsAct0 (.convert t t' x) := ⟨trivial⟩
theorem is_owk0 {K : Value → List HP → Prop} {d : Option Nat} {ty : TypeId} {pos : String} {aft : Array Edge} {g : Option (Nat × Bool)} {op : Op} [IsAct0 op] (h : OWK P N c E L (Oper.mk d op ty pos aft g) K) : OWK P N c E L (Oper.mk d op ty pos aft g) K := h
theorem owk0_auto {o : Oper} {r : Value} {L' : List HP} {K : Value → List HP → Prop} (h : OW P N c E L o (fun _ : Unit => r) (fun _ => L') := by (first | (with_reducible apply ga_conv; first | exact ow_mark (ev_tmp rfl) pick_auto) | (with_reducible apply ga_store; first | exact ow_store (ev_tmp rfl) (ev_tmp rfl) rfl upd_auto (by simp) | exact ow_store (ev_tmp rfl) ev_const rfl upd_auto (by simp)))) (k : K r L') : OWK P N c E L o K := owk0 h k
class IsLook (o : Op) : Prop where
  t : True
instance {x : Operand} : IsLook (.move x) := ⟨trivial⟩
instance {x : Operand} : IsLook (.assign x) := ⟨trivial⟩
instance {x y z : Operand} : IsLook (.pick x y z) := ⟨trivial⟩
instance {t : TypeId} {x : Operand} : IsLook (.load t x) := ⟨trivial⟩
instance {x : Operand} : IsLook (.nilCheck x) := ⟨trivial⟩
instance {o : BinOp} {t t' : TypeId} {x y : Operand} : IsLook (.binOp o t x y t') := ⟨trivial⟩
instance {o : UnOp} {t : TypeId} {x : Operand} : IsLook (.unOp o t x) := ⟨trivial⟩
instance {t t' : TypeId} {x : Operand} : IsLook (.convert t t' x) := ⟨trivial⟩
instance {t : TypeId} {x : Operand} : IsLook (.sliceToArrayPointer t x) := ⟨trivial⟩
instance {t : TypeId} {x : Operand} : IsLook (.makeInterface t x) := ⟨trivial⟩
instance {fn : Fn} {a b : Array Operand} : IsLook (.makeFunc fn a b) := ⟨trivial⟩
instance {t : TypeId} {x : Operand} {l h' m : Option Operand} : IsLook (.slice t x l h' m) := ⟨trivial⟩
instance {t f : Nat} {x : Operand} : IsLook (.fieldAddr t x f) := ⟨trivial⟩
instance {t f : Nat} {x : Operand} : IsLook (.field t x f) := ⟨trivial⟩
instance {t : TypeId} {x i : Operand} : IsLook (.indexAddr t x i) := ⟨trivial⟩
instance {t : TypeId} {x i : Operand} : IsLook (.index t x i) := ⟨trivial⟩
instance {t : TypeId} {x i : Operand} {b : Bool} : IsLook (.lookup t x i b) := ⟨trivial⟩
instance {x : Operand} {t t' : TypeId} {b : Bool} : IsLook (.typeAssert x t t' b) := ⟨trivial⟩
instance {x : Operand} {i : Nat} : IsLook (.extract x i) := ⟨trivial⟩
instance {t : TypeId} {ps : Array (Nat × Operand)} : IsLook (.build t ps) := ⟨trivial⟩
instance {b : Builtin} {xs : Array Operand} {ts : Array TypeId} : IsLook (.call { callee := .builtin b, args := xs, argTypes := ts }) := ⟨trivial⟩
theorem owk_look {K : Value → List HP → Prop} {d : Option Nat} {ty : TypeId} {pos : String} {aft : Array Edge} {g : Option (Nat × Bool)} {op : Op} [IsLook op] (h : YK P (St c L) E (Oper.mk d op ty pos aft g) fun v => K v L) : OWK P N c E L (Oper.mk d op ty pos aft g) K := owk_yk h
theorem yk_auto {o : Oper} {v : Value} {K : Value → Prop} (h : Y P H E o v := by (first | (with_reducible apply gy_move; first | exact y_move (ev_tmp rfl) | exact y_move ev_const) | (with_reducible apply gy_assign; first | exact y_assign (ev_tmp rfl) | exact y_assign ev_const) | (with_reducible apply gy_nilCheck; first | exact y_nilCheck (ev_tmp rfl)) | (with_reducible apply gy_field; first | exact y_field (ev_tmp rfl)) | (with_reducible apply gy_load; first | exact y_load (ev_tmp rfl) (hasCell_bl has_auto rfl) | exact y_load (ev_tmp rfl) (by assumption) | exact y_loadN (ev_tmp rfl) (hasCells_all has_auto) rfl | exact y_loadN (ev_tmp rfl) (hasCells_all has_auto) (by assumption)) | (with_reducible apply gy_bin; first | exact y_lss (ev_tmp rfl) (ev_tmp rfl) | exact y_lss (ev_tmp rfl) ev_const | exact y_lss ev_const (ev_tmp rfl) | exact y_leq (ev_tmp rfl) (ev_tmp rfl) | exact y_leq (ev_tmp rfl) ev_const | exact y_leq ev_const (ev_tmp rfl) | exact y_gtr (ev_tmp rfl) (ev_tmp rfl) | exact y_gtr (ev_tmp rfl) ev_const | exact y_gtr ev_const (ev_tmp rfl) | exact y_geq (ev_tmp rfl) (ev_tmp rfl) | exact y_geq (ev_tmp rfl) ev_const | exact y_geq ev_const (ev_tmp rfl) | exact y_eql (ev_tmp rfl) (ev_tmp rfl) | exact y_eql (ev_tmp rfl) ev_const | exact y_eql ev_const (ev_tmp rfl) | exact y_neq (ev_tmp rfl) (ev_tmp rfl) | exact y_neq (ev_tmp rfl) ev_const | exact y_neq ev_const (ev_tmp rfl) | exact y_add64 (ev_tmp rfl) (ev_tmp rfl) (by omega) | exact y_add64 (ev_tmp rfl) ev_const (by omega) | exact y_add64 ev_const (ev_tmp rfl) (by omega) | exact y_sub64 (ev_tmp rfl) (ev_tmp rfl) (by omega) | exact y_sub64 (ev_tmp rfl) ev_const (by omega) | exact y_sub64 ev_const (ev_tmp rfl) (by omega) | exact y_mul64 (ev_tmp rfl) (ev_tmp rfl) (by omega) | exact y_mul64 (ev_tmp rfl) ev_const (by omega) | exact y_mul64 ev_const (ev_tmp rfl) (by omega) | exact y_quo64 (ev_tmp rfl) (ev_tmp rfl) (by omega) | exact y_quo64 (ev_tmp rfl) ev_const (by omega) | exact y_quo64 ev_const (ev_tmp rfl) (by omega) | exact y_rem (ev_tmp rfl) (ev_tmp rfl) (by omega) | exact y_rem (ev_tmp rfl) ev_const (by omega) | exact y_rem ev_const (ev_tmp rfl) (by omega) | exact y_eql_some (ev_tmp rfl) ev_const | exact y_neq_some (ev_tmp rfl) ev_const | exact y_eql_none (ev_tmp rfl) ev_const | exact y_neq_none (ev_tmp rfl) ev_const | exact y_eql_d (ev_tmp rfl) (ev_tmp rfl) | exact y_neq_d (ev_tmp rfl) (ev_tmp rfl) | exact y_eql_b (ev_tmp rfl) (ev_tmp rfl) | exact y_eql_b (ev_tmp rfl) ev_const | exact y_eql_b ev_const (ev_tmp rfl) | exact y_neq_b (ev_tmp rfl) (ev_tmp rfl) | exact y_neq_b (ev_tmp rfl) ev_const | exact y_neq_b ev_const (ev_tmp rfl) | exact y_eql_s (ev_tmp rfl) (ev_tmp rfl) | exact y_eql_s (ev_tmp rfl) ev_const | exact y_eql_s ev_const (ev_tmp rfl) | exact y_neq_s (ev_tmp rfl) (ev_tmp rfl) | exact y_neq_s (ev_tmp rfl) ev_const | exact y_neq_s ev_const (ev_tmp rfl) | exact y_add_s (ev_tmp rfl) (ev_tmp rfl) (by omega) | exact y_add_s (ev_tmp rfl) ev_const (by omega) | exact y_add_s ev_const (ev_tmp rfl) (by omega) | exact y_shr (ev_tmp rfl) (ev_tmp rfl) (by omega) (by simp [IntKind.bits]) | exact y_shr (ev_tmp rfl) ev_const (by omega) (by simp [IntKind.bits]) | exact y_shr ev_const (ev_tmp rfl) (by omega) (by simp [IntKind.bits]) | exact y_add (ev_tmp rfl) (ev_tmp rfl) | exact y_add (ev_tmp rfl) ev_const | exact y_add ev_const (ev_tmp rfl) | exact y_sub (ev_tmp rfl) (ev_tmp rfl) | exact y_sub (ev_tmp rfl) ev_const | exact y_sub ev_const (ev_tmp rfl) | exact y_mul (ev_tmp rfl) (ev_tmp rfl) | exact y_mul (ev_tmp rfl) ev_const | exact y_mul ev_const (ev_tmp rfl) | exact y_bits (.inl rfl) (ev_tmp rfl) (ev_tmp rfl) | exact y_bits (.inl rfl) (ev_tmp rfl) ev_const | exact y_bits (.inr (.inl rfl)) (ev_tmp rfl) (ev_tmp rfl) | exact y_bits (.inr (.inl rfl)) (ev_tmp rfl) ev_const | exact y_bits (.inr (.inr (.inl rfl))) (ev_tmp rfl) (ev_tmp rfl) | exact y_bits (.inr (.inr (.inl rfl))) (ev_tmp rfl) ev_const | exact y_bits (.inr (.inr (.inr rfl))) (ev_tmp rfl) (ev_tmp rfl) | exact y_bits (.inr (.inr (.inr rfl))) (ev_tmp rfl) ev_const) | (with_reducible apply gy_pick; first | exact y_pick_t (ev_tmp rfl) (ev_tmp rfl) | exact y_pick_t (ev_tmp rfl) ev_const | exact y_pick_f (ev_tmp rfl) (ev_tmp rfl) | exact y_pick_f (ev_tmp rfl) ev_const) | (with_reducible apply gy_extract; first | exact y_ext20 (ev_tmp rfl) | exact y_ext21 (ev_tmp rfl) | exact y_ext30 (ev_tmp rfl) | exact y_ext31 (ev_tmp rfl) | exact y_ext32 (ev_tmp rfl) | exact y_ext40 (ev_tmp rfl) | exact y_ext41 (ev_tmp rfl) | exact y_ext42 (ev_tmp rfl) | exact y_ext43 (ev_tmp rfl) | exact y_extract (ev_tmp rfl) rfl) | (with_reducible apply gy_un; first | exact y_not_t (ev_tmp rfl) | exact y_not_f (ev_tmp rfl) | exact y_not (ev_tmp rfl) | exact y_not_b (ev_tmp rfl) rfl) | (with_reducible apply gy_index; first | exact y_indexN (ev_tmp rfl) (ev_tmp rfl) (by omega) | exact y_indexN (ev_tmp rfl) ev_const (by omega) | exact y_index (ev_tmp rfl) (ev_tmp rfl) (by omega) | exact y_index (ev_tmp rfl) ev_const (by omega) | exact y_indexAN (ev_tmp rfl) (ev_tmp rfl) (by omega) | exact y_indexAN (ev_tmp rfl) ev_const (by omega) | exact y_indexA (ev_tmp rfl) (ev_tmp rfl) (by omega) | exact y_indexA (ev_tmp rfl) ev_const (by omega) | exact y_indexArr (ev_tmp rfl) (ev_tmp rfl) (by omega) | exact y_indexArr (ev_tmp rfl) ev_const (by omega)) | (with_reducible apply gy_slice; first | exact y_sliceArr (ev_tmp rfl) | exact y_sliceLo (ev_tmp rfl) (ev_tmp rfl) (by omega) | exact y_sliceHi (ev_tmp rfl) (ev_tmp rfl) (by omega) | exact y_sliceStr (ev_tmp rfl) (ev_tmp rfl) (ev_tmp rfl) (by omega) | exact y_sliceStrLo (ev_tmp rfl) (ev_tmp rfl) (by omega) | exact y_sliceStrHi (ev_tmp rfl) (ev_tmp rfl) (by omega)) | (with_reducible apply gy_call; first | exact y_lenSlice (ev_tmp rfl) | exact y_lenStr (ev_tmp rfl) | exact y_min (ev_tmp rfl) (ev_tmp rfl) | exact y_min (ev_tmp rfl) ev_const | exact y_min ev_const (ev_tmp rfl) | exact y_max (ev_tmp rfl) (ev_tmp rfl) | exact y_max (ev_tmp rfl) ev_const | exact y_max ev_const (ev_tmp rfl)) | (with_reducible apply gy_build; first | exact y_build lay_auto) | (with_reducible apply gy_conv; first | exact y_conv_int (ev_tmp rfl)) | (with_reducible apply gy_func; first | exact y_makeFunc evs_auto))) (k : K v) : YK P H E o K := ⟨v, h, k⟩
theorem owk_auto {o : Oper} {β : Type} {r : β → Value} {L' : β → List HP} {K : Value → List HP → Prop} (h : OW P N c E L o r L' := by (first | (with_reducible apply ga_alloc; first | exact ow_alloc1 | exact ow_allocN) | (with_reducible apply ga_box; first | exact ow_box1 (ev_tmp rfl) rfl | exact ow_boxAgg (ev_tmp rfl) | exact ow_box (ev_tmp rfl) rfl) | (with_reducible apply ga_buildSlice; first | exact ow_buildEmpty | exact ow_buildSlice parts_auto rfl (by first | (simp [Value.cells, str]; done) | fail) (by decide) (by decide)) | (with_reducible apply ga_makeSlice; first | exact ow_makeSlice (ev_tmp rfl) (ev_tmp rfl) (by omega) (by omega) | exact ow_makeSlice ev_const ev_const (by omega) (by omega)) | (with_reducible apply ga_conv; first | exact ow_toBytes (ev_tmp rfl) (by omega)))) (k : ∀ x, K (r x) (L' x)) : OWK P N c E L o K := ⟨β, r, L', h, k⟩
section
variable {G : Prop}
theorem im_wl {l : List Oper} (h : G → WL P N c ops Q l E L) : G → WL P N c ops Q l E L := h
theorem im_owk {K : Value → List HP → Prop} {o : Oper} (h : G → OWK P N c E L o K) : G → OWK P N c E L o K := h
theorem im_w {x : Code} (h : G → W P N c Q x E L) : G → W P N c Q x E L := h
theorem im_x {e : Exit} (h : G → X N c Q e E L) : G → X N c Q e E L := h
theorem im_cv {x y : Code} {v : Value} (h : G → CV P N c Q x y E L v) : G → CV P N c Q x y E L v := h
theorem im_wp {R : List HP} {er : Nat → Bool} {p : Plan} (h : G → WP P N c ops Q R er p E L) : G → WP P N c ops Q R er p E L := h
theorem im_wpT {R : List HP} {er : Nat → Bool} {i : Nat} {r : Plan} (h : G → WP P N c ops Q R er ((i, true) :: r) E L) : G → WP P N c ops Q R er ((i, true) :: r) E L := h
theorem im_wpF {R : List HP} {er : Nat → Bool} {i : Nat} {r : Plan} (h : G → WP P N c ops Q R er ((i, false) :: r) E L) : G → WP P N c ops Q R er ((i, false) :: r) E L := h
theorem im_kept {R : List HP} {er : Nat → Bool} {i : Nat} {r : Plan} (h : G → Kept P N c ops Q R er i r E L) : G → Kept P N c ops Q R er i r E L := h
end
end
theorem go1 {G G' : Prop} (h : G' → G := by (first | (with_reducible apply im_wl; first | exact fun h => wl_step rfl h | exact fun h => wl_nil h | exact fun h => wl_step0 h | exact fun h => wl_in rfl rfl h | exact fun h => wl_out rfl rfl rfl rfl h | exact fun h => wl_outU rfl rfl rfl h | exact fun h => wl_part_t rfl rfl (by first | exact rfl | exact ne_self | decide | omega | assumption) h | exact fun h => wl_part_f rfl rfl (by first | exact rfl | exact ne_self | decide | omega | assumption) h) | (with_reducible apply im_owk; first | exact fun h => owk_look h) | (with_reducible apply im_w; first | exact fun h => w_seq h | exact fun h => w_region h | exact fun h => w_cv rfl h | exact fun h => w_skip h | exact fun h => w_ret h | exact fun h => w_exit h | exact fun h => w_block h) | (with_reducible apply im_x; first | exact fun h => x_then h | exact fun h => x_block h | exact fun h => x_noPanic h | exact fun h => x_thenR h | exact fun h => x_blockR h | exact fun h => x_thenE h | exact fun h => x_blockE h | exact fun h => x_blockE' rfl h) | (with_reducible apply im_cv; first | exact fun h => cv_true h | exact fun h => cv_false h | exact fun h => cv_dec_t (by first | exact rfl | exact ne_self | decide | omega | assumption) h | exact fun h => cv_dec_f (by first | exact rfl | exact ne_self | decide | omega | assumption) h | exact fun h => cv_bool_t (by assumption) h | exact fun h => cv_bool_f (by assumption) h) | (with_reducible apply im_wpT; first | exact fun h => wq_step rfl rfl h | exact fun h => wq_stepG rfl rfl rfl rfl h | exact fun h => wq_out rfl rfl rfl rfl rfl h | exact fun h => wq_part_t rfl rfl rfl (by first | exact rfl | exact ne_self | decide | omega | assumption) h | exact fun h => wq_part_f rfl rfl rfl (by first | exact rfl | exact ne_self | decide | omega | assumption) h) | (with_reducible apply im_wpF; first | exact fun h => wq_act rfl rfl h | exact fun h => wq_act0 rfl h | exact fun h => wq_actG rfl rfl rfl rfl h | exact fun h => wq_outa rfl rfl rfl rfl rfl (fun _ => sel_auto) h | exact fun h => wq_part_t rfl rfl rfl (by first | exact rfl | exact ne_self | decide | omega | assumption) h | exact fun h => wq_part_f rfl rfl rfl (by first | exact rfl | exact ne_self | decide | omega | assumption) h) | (with_reducible apply im_wp; first | exact fun h => wq_nil h) | (with_reducible apply im_kept; first | exact fun h => kept_late (by decide +kernel) h | exact fun h => kept_same sel_auto h))) (k : G') : G := h k
theorem go2 {G A B : Prop} (h : A → B → G := by (first | exact fun h k => wl_part rfl rfl h k | exact fun h k => wl_partB rfl rfl h k | exact fun h k => cv_dec h k | exact fun h k => cv_bool h k | exact fun h k => wq_part rfl rfl rfl h k | exact fun h k => wq_partB rfl rfl rfl h k)) (ka : A) (kb : B) : G := h ka kb
end Go.Proofs.Ytakeilefbcpabaa

/- Slices that came in, of elements of any make: from their reading as data to what their cells hold. -/
namespace Go.Proofs.Ytakeilefbcpabaa
open Go.ChangeShapes Go.WideShapes Go.ChangeAt Go.RowKit Go.Deep

/-- Cells that lie at an address. -/
def CellsAt (w : World) (ad : Addr) (cs : List Value) : Prop := ∀ i u, cs[i]? = some u → w.cell? (ad.add i) = some u
theorem CellsAt.keep {w w' : World} {ad : Addr} {cs : List Value} (h : CellsAt w ad cs) (hk : ∀ b, b < w.heap.size → w'.heap[b]? = w.heap[b]?) : CellsAt w' ad cs := fun i u hu => by
  have e := h i u hu
  rw [World.cell?_of_block (w := w) (hk _ (World.block_lt_of_cell? w _ e))]
  exact e

/-- The slice (A, len) holds xs; R: what an element's cells say. -/
def ElemsOf {α : Type} (R : World → α → List Value → Prop) (size : Nat) (w : World) (A : Option Addr) (len : Nat) (xs : List α) : Prop :=
  xs.length = len ∧ len ≤ 9223372036854775807 ∧ ∀ (j : Nat) (x : α), xs[j]? = some x → ∃ a cs, A = some a ∧ R w x cs ∧ cs.length = size ∧ CellsAt w (a.add (j * size)) cs

section
variable {H : Type} {enc : TypeId × Value → H} {W : World} {α : Type}

theorem cells_at {P : Program} {ad : Addr} {n : Nat} {cs : List Value} (h : W.cells? 0 ad n = some cs) (_ : P = P) : cs.length = n ∧ CellsAt W ad cs := by
  unfold World.cells? at h
  rw [if_pos (Nat.zero_le _)] at h
  have hl : cs.length = n := by simpa using mapM_some_length h
  refine ⟨hl, fun i u hu => ?_⟩
  have hi : i < n := by rw [← hl]; exact (List.getElem?_eq_some_iff.1 hu).1
  have e := mapM_some_get h i i (by simp [hi])
  rw [hu] at e
  exact e

theorem open_elems {P : Program} {t e : TypeId} {size : Nat} {R : World → α → List Value → Prop} (ht : P.underlying t = some (.slice e)) (hs : P.cellsOf e = size)
    (hR : ∀ (n : Nat) (cs : List Value) (x : DataW H × List MemPlace), cs.length = size → DataW.trod enc P W 0 (fun _ => true) true n e cs = some x → ∃ y : α, R W y cs)
    {fuel : Nat} {cs0 : List Value} {x : DataW H × List MemPlace} (h : DataW.trod enc P W 0 (fun _ => true) true fuel t cs0 = some x) :
    ∃ a len cap, cs0 = [.slice a len cap] ∧ (a = none → len = 0 ∧ cap = 0) ∧ len ≤ cap ∧ cap ≤ 9223372036854775807 ∧ ∃ ys, ElemsOf R size W a len ys := by
  rcases open_slice ht h with ⟨rfl, _⟩ | ⟨a, len, cap, m, n, D, Pl, rfl, _, hl, hm, hmm, _, he⟩
  · exact ⟨none, 0, 0, rfl, fun _ => ⟨rfl, rfl⟩, Nat.le_refl _, by omega, [], rfl, by omega, fun j x h => by simp at h⟩
  · have hm' : m = cap := by simpa using hmm
    have hcap : cap ≤ 9223372036854775807 := by simpa [maxLen] using hm
    have hex : ∀ i : Nat, i < len → ∃ y cs, R W y cs ∧ cs.length = size ∧ CellsAt W (a.add (i * size)) cs := by
      intro i hi
      obtain ⟨cs', h1, h2⟩ := he i (by omega)
      rw [hs] at h1
      obtain ⟨h3, h4⟩ := cells_at (P := P) h1 rfl
      obtain ⟨y, hy⟩ := hR n cs' _ h3 h2
      exact ⟨y, cs', hy, h3, h4⟩
    refine ⟨some a, len, cap, rfl, (fun h => by cases h), hl, hcap, ?_⟩
    have build : ∀ k, k ≤ len → ∃ ys : List α, ys.length = k ∧ ∀ (j : Nat) (x : α), ys[j]? = some x → ∃ cs, R W x cs ∧ cs.length = size ∧ CellsAt W (a.add (j * size)) cs := by
      intro k
      induction k with
      | zero => intro _; exact ⟨[], rfl, fun j x h => by simp at h⟩
      | succ k ih =>
        intro hk
        obtain ⟨ys, h1, h2⟩ := ih (by omega)
        obtain ⟨y, cs, h3, h4, h5⟩ := hex k (by omega)
        refine ⟨ys ++ [y], by simp [h1], fun j x hx => ?_⟩
        rw [List.getElem?_append] at hx
        split at hx
        · exact h2 j x hx
        · rename_i hj
          have : j = k := by
            have := (List.getElem?_eq_some_iff.1 hx).1
            simp at this; omega
          subst this
          rw [h1, Nat.sub_self] at hx
          simp at hx
          subst hx
          exact ⟨cs, h3, h4, h5⟩
    obtain ⟨ys, h1, h2⟩ := build len (Nat.le_refl _)
    exact ⟨ys, h1, by omega, fun j x hx => by obtain ⟨cs, h⟩ := h2 j x hx; exact ⟨a, cs, rfl, h⟩⟩

/-! ### Elements -/
theorem elem_int {P : Program} {t : TypeId} (ht : P.underlying t = some (.int .i64)) {n : Nat} {cs : List Value} {x : DataW H × List MemPlace} (h : DataW.trod enc P W 0 (fun _ => true) true n t cs = some x) :
    ∃ z : Int, cs = [.int .i64 z] ∧ -9223372036854775808 ≤ z ∧ z ≤ 9223372036854775807 := by
  obtain ⟨z, h1, _, h2⟩ := DataW.trod_int ht h
  refine ⟨z, h1, ?_⟩
  simp [Lit.wf, IntKind.min, IntKind.max, IntKind.signed, IntKind.bits] at h2; omega
theorem elem_u64 {P : Program} {t : TypeId} (ht : P.underlying t = some (.int .u64)) {n : Nat} {cs : List Value} {x : DataW H × List MemPlace} (h : DataW.trod enc P W 0 (fun _ => true) true n t cs = some x) :
    ∃ z : Int, cs = [.int .u64 z] ∧ 0 ≤ z ∧ z < 18446744073709551616 := by
  obtain ⟨z, h1, _, h2⟩ := DataW.trod_int ht h
  refine ⟨z, h1, ?_⟩
  simp [Lit.wf, IntKind.min, IntKind.max, IntKind.signed, IntKind.bits] at h2; omega
theorem elem_byte {P : Program} {t : TypeId} (ht : P.underlying t = some (.int .u8)) {n : Nat} {cs : List Value} {x : DataW H × List MemPlace} (h : DataW.trod enc P W 0 (fun _ => true) true n t cs = some x) :
    ∃ b : UInt8, cs = [bv b] := by
  obtain ⟨z, h1, _, h2⟩ := DataW.trod_int ht h
  simp [Lit.wf, IntKind.min, IntKind.max, IntKind.signed, IntKind.bits] at h2
  refine ⟨UInt8.ofNat z.toNat, ?_⟩
  rw [h1, bv, UInt8.toNat_ofNat']
  congr 2
  omega
/-- An array of bytes. -/
theorem elem_bytes {P : Program} {t e : TypeId} {k : Nat} (ht : P.underlying t = some (.array k e)) (he : P.underlying e = some (.int .u8)) (hc : P.cellsOf e = 1) (hk : P.cellsOf t = k)
    {n : Nat} {cs : List Value} {x : DataW H × List MemPlace} (h : DataW.trod enc P W 0 (fun _ => true) true n t cs = some x) : ∃ r : List UInt8, cs = bvs r ∧ r.length = k := by
  obtain ⟨xs, m, _, _, hl, hxl, hf⟩ := DataW.trod_array ht h
  rw [hk] at hl
  have hex : ∀ i, i < k → ∃ b : UInt8, cs[i]? = some (bv b) := by
    intro i hi
    have e := hf i hi
    rw [hc, Nat.mul_one, List.getElem?_eq_getElem (by omega)] at e
    obtain ⟨b, hb⟩ := elem_byte he e
    refine ⟨b, ?_⟩
    have e2 := congrArg (fun l : List Value => l[0]?) hb
    simpa [List.getElem?_take, List.getElem?_drop] using e2
  have build : ∀ (l : List Value), (∀ i, i < l.length → ∃ b : UInt8, l[i]? = some (bv b)) → ∃ r : List UInt8, l = bvs r := by
    intro l
    induction l with
    | nil => intro _; exact ⟨[], rfl⟩
    | cons v l ih =>
      intro hb
      obtain ⟨b, h0⟩ := hb 0 (by simp)
      obtain ⟨r, hr⟩ := ih fun i hi => by simpa using hb (i + 1) (by simp; omega)
      refine ⟨b :: r, ?_⟩
      simp at h0
      rw [h0, hr]; rfl
  obtain ⟨r, rfl⟩ := build cs fun i hi => hex i (by omega)
  exact ⟨r, rfl, by simpa [bvs] using hl⟩
end
end Go.Proofs.Ytakeilefbcpabaa

/- What reads as bytes; strings of it. No program in sight. -/
namespace Go.Proofs.Ytakeilefbcpabaa
open Go.RowKit

/-- The slice v reads as n bytes. -/
def HasR (H : World → Prop) (v : Value) (n : Nat) (cs : List Value) : Prop := ∀ w, H w → Reads w v n 1 cs
section
variable {c : Con} {L : List HP} {A : HP} {H : World → Prop}
theorem hasR_tl {v : Value} {n : Nat} {cs : List Value} (h : HasR (St c L) v n cs) : HasR (St c (A :: L)) v n cs := fun w k => h w k.tail
theorem hasR_old {w0 : World} {v : Value} {n : Nat} {cs : List Value} (h : Reads w0 v n 1 cs) : HasR (St c (Old w0 :: L)) v n cs := fun w k => by
  refine ⟨h.1, h.2.imp (fun e => e) ?_⟩
  rintro ⟨a, cap, h1, h2, h3, h4⟩
  exact ⟨a, cap, h1, h2, h3, fun j u hu => by
    have e := h4 j u hu
    rw [World.cell?_of_block (w := w0) (k.old _ (World.block_lt_of_cell? w0 _ e))]; exact e⟩
theorem hasR_own {e n : Nat} {v : Value} {xs : List Value} : HasR (St c (OwnP e 1 v n xs :: L)) v n xs := fun w k => by
  obtain ⟨h, ⟨hx, ho⟩, l⟩ := k.get
  refine ⟨hx, ?_⟩
  rcases ho with ⟨h1, h2⟩ | ⟨g, cap, cur, h1, h2, h3, h4, h5, h6⟩
  · exact .inl ⟨h1, h2⟩
  · refine .inr ⟨_, cap, h1, h3, by simpa [maxLen] using h4, fun j u hu => ?_⟩
    rw [add_mid, Nat.zero_add, l.cell h2]
    rw [← h6, List.getElem?_take] at hu
    split at hu
    · simpa using hu
    · cases hu
theorem hasR_bytes {b cap e : Nat} {l : List UInt8} (h : l.length ≤ cap ∧ cap ≤ 9223372036854775807) : HasR (St c (BytesP b cap e l :: L)) (.slice (some ⟨b, 0, none⟩) l.length cap) l.length (bvs l) := bytesP_reads h.1 h.2
theorem hasR_bl {b T n cap : Nat} {fr : Nat × Nat} {cs ds : List Value} (hd : cs.take n = ds) (hn : n ≤ cs.length) (h1 : n ≤ cap) (h2 : cap ≤ 9223372036854775807) : HasR (St c (Pt b (.cells cs.toArray T fr) :: L)) (.slice (some ⟨b, 0, none⟩) n cap) n ds := fun w k => by
  subst hd
  refine ⟨by simp [hn], .inr ⟨_, cap, rfl, h1, h2, fun j u hu => ?_⟩⟩
  rw [add_mid, Nat.zero_add, cell_of_row w b j _ _ _ k.pt]
  rw [List.getElem?_take] at hu
  split at hu
  · simpa using hu
  · cases hu
theorem hasR_blAll {b T n cap : Nat} {fr : Nat × Nat} {cs : List Value} (hn : cs.length = n) (h1 : n ≤ cap) (h2 : cap ≤ 9223372036854775807) : HasR (St c (Pt b (.cells cs.toArray T fr) :: L)) (.slice (some ⟨b, 0, none⟩) n cap) n cs := hasR_bl (List.take_of_length_le (by omega)) (by omega) h1 h2
theorem HasR.bytes {v : Value} {n : Nat} {l : List UInt8} (h : HasR H v n (bvs l)) : ∀ w, H w → Reads w v l.length 1 (bvs l) := fun w k => by
  have h1 := h w k
  have h2 : l.length = n := by have := h1.1; rw [bvs_length] at this; omega
  rw [h2]; exact h1
section
variable {P : Program} {E : Env} {d : Option Nat} {ty : TypeId} {pos : String} {aft : Array Edge} {g : Option (Nat × Bool)}
theorem y_str {x : Operand} {t t' e s by' n : Nat} {z v : Value} {l : List UInt8} [ht : TSlice P t e s by' z] [he : TInt P e .u8] [hs : TStr P t'] (hx : Ev E x v) (hr : HasR H v n (bvs l)) :
    Y P H E (Oper.mk d (.convert t t' x) ty pos aft g) (str l) := y_toStr hx hr.bytes
theorem ow_makeSliceI {N : Nat} {x y : Operand} {t e bytes : Nat} {z z' : Value} {m : Int} {k k' : IntKind} [ht : TSlice P t e 1 bytes z] [he : TOne P e z'] (hx : Ev E x (.int k m)) (hy : Ev E y (.int k' m)) {n : Nat} (hm : m = n) (hb : bytes * n ≤ 281474976710656) (h63 : n ≤ 9223372036854775807) :
    OW P N c E L (Oper.mk d (.makeSlice t x y) ty pos aft g) (fun b => .slice (some ⟨b, 0, none⟩) n n) fun b => Bl b e (List.replicate n z') :: L := by
  subst hm; exact ow_makeSlice hx hy hb h63
theorem ow_appendR {N : Nat} {F : List HP} {s x : Operand} {t tx e bytes e' s' b' n m k cap : Nat} {z z' v : Value} {A : Option Addr} {xs news ys : List Value} [ht : TSlice P t e 1 bytes z] [htx : TSlice P tx e' s' b' z'] (hs : Ev E s (.slice A n cap)) (hx : Ev E x v)
    (hr : HasR (St c L) v m news) (h1 : ∀ u ∈ news, u.oneCell' = true) (hk : n + m = k) (he : xs ++ news = ys) (hb : k ≤ 9223372036854775807 ∧ k * bytes ≤ 140737488355328) (hp : Pick L (OwnP e 1 (.slice A n cap) n xs) F) :
    OW P N c E L (Oper.mk d (.call { callee := .builtin .append, args := #[s, x], argTypes := #[t, tx] }) ty pos aft g) (fun q : Option Addr × Nat => .slice q.1 k q.2) fun q => OwnP e 1 (.slice q.1 k q.2) k ys :: F :=
  ow_append hs hx (fun w H => src_reads htx.u (hr w H) h1) hk he hb hp
end
end
theorem rds_auto {H : World → Prop} {v : Value} {n : Nat} {cs : List Value} (h : HasR H v n cs := by ((repeat (first | exact hasR_own | exact hasR_bytes (by first | assumption | omega) | exact hasR_old (by assumption) | exact hasR_blAll (by assumption) (by omega) (by omega) | refine hasR_tl ?_)); (first | done | fail))) : HasR H v n cs := h
/-! ### A slice of bytes that came in -/
section
variable {H : Type} {enc : TypeId × Value → H} {W : World}
def IsByte (_ : World) (b : UInt8) (cs : List Value) : Prop := cs = [bv b]
theorem reads_of_elems {a : Option Addr} {len cap : Nat} {l : List UInt8} (h : ElemsOf IsByte 1 W a len l) (h0 : a = none → len = 0 ∧ cap = 0) (h1 : len ≤ cap) (h2 : cap ≤ 9223372036854775807) : l.length = len ∧ Reads W (.slice a len cap) len 1 (bvs l) := by
  obtain ⟨hl, -, he⟩ := h
  refine ⟨hl, by rw [bvs_length, hl, Nat.mul_one], ?_⟩
  cases a with
  | none =>
    obtain ⟨rfl, rfl⟩ := h0 rfl
    exact .inl ⟨rfl, rfl⟩
  | some ad =>
    refine .inr ⟨ad, cap, rfl, h1, h2, fun j u hu => ?_⟩
    simp only [bvs, List.getElem?_map, Option.map_eq_some_iff] at hu
    obtain ⟨b, hb, rfl⟩ := hu
    obtain ⟨a', cs, ha, hcs, _, hc⟩ := he j b hb
    cases ha
    have := hc 0 (bv b) (by rw [hcs]; rfl)
    rw [Nat.mul_one] at this
    simpa [Addr.add] using this
end
end Go.Proofs.Ytakeilefbcpabaa

/- A slice of bytes among the arguments, and inside a struct's cells. -/
namespace Go.Proofs.Ytakeilefbcpabaa
open Go.RowKit
section
variable {H : Type} {enc : TypeId × Value → H} {W : World}
theorem elem_slice_bytes {P : Program} {t e : TypeId} (ht : P.underlying t = some (.slice e)) (he : P.underlying e = some (.int .u8)) (hs : P.cellsOf e = 1) {n : Nat} {cs : List Value} {x : DataW H × List MemPlace}
    (h : DataW.trod enc P W 0 (fun _ => true) true n t cs = some x) : ∃ a len cap, ∃ l : List UInt8, cs = [.slice a len cap] ∧ l.length = len ∧ Reads W (.slice a len cap) len 1 (bvs l) := by
  obtain ⟨a, len, cap, rfl, h0, h1, h2, ys, hy⟩ := open_elems (R := IsByte) ht hs (fun n cs x _ hh => elem_byte he hh) h
  exact ⟨a, len, cap, ys, rfl, reads_of_elems hy h0 h1 h2⟩
theorem open_bytes {P : Program} {t e : TypeId} (ht : P.underlying t = some (.slice e)) (he : P.underlying e = some (.int .u8)) (hs : P.cellsOf e = 1) {a : Option Addr} {len cap : Nat} {d : DataW H} {ps : List MemPlace}
    (h : DataW.Trod enc P W 0 (fun _ => true) true t (.slice a len cap) d ps) : ∃ l : List UInt8, l.length = len ∧ Reads W (.slice a len cap) len 1 (bvs l) := by
  obtain ⟨fuel, hf⟩ := h
  obtain ⟨a', len', cap', l, hcs, h1, h2⟩ := elem_slice_bytes ht he hs hf
  simp [Value.cells] at hcs
  obtain ⟨rfl, rfl, rfl⟩ := hcs
  exact ⟨l, h1, h2⟩
end
end Go.Proofs.Ytakeilefbcpabaa

/- Slices that came in: of integers, truth values, texts, rows of bytes. No program in sight. -/
namespace Go.Proofs.Ytakeilefbcpabaa
open Go.ChangeShapes Go.WideShapes Go.ChangeAt Go.RowKit Go.Deep
section
variable {H : Type} {enc : TypeId × Value → H} {W : World}
def IsInt (_ : World) (z : Int) (cs : List Value) : Prop := cs = [.int .i64 z] ∧ -9223372036854775808 ≤ z ∧ z ≤ 9223372036854775807
def IsTruth (_ : World) (b : Bool) (cs : List Value) : Prop := cs = [.bool b]
structure BRow where
  A : Option Addr
  len : Nat
  cap : Nat
  b : List UInt8
def IsBRow (w : World) (y : BRow) (cs : List Value) : Prop := cs = [.slice y.A y.len y.cap] ∧ y.b.length = y.len ∧ Reads w (.slice y.A y.len y.cap) y.len 1 (bvs y.b)
theorem elem_truth {P : Program} {t : TypeId} (ht : P.underlying t = some .bool) {n : Nat} {cs : List Value} {x : DataW H × List MemPlace} (h : DataW.trod enc P W 0 (fun _ => true) true n t cs = some x) : ∃ b : Bool, cs = [.bool b] := by
  obtain ⟨b, h1, _⟩ := DataW.trod_bool ht h
  exact ⟨b, h1⟩
theorem open_rowOf {α : Type} {P : Program} {t e : TypeId} {size : Nat} {R : World → α → List Value → Prop} (ht : P.underlying t = some (.slice e)) (hs : P.cellsOf e = size)
    (hR : ∀ (n : Nat) (cs : List Value) (x : DataW H × List MemPlace), cs.length = size → DataW.trod enc P W 0 (fun _ => true) true n e cs = some x → ∃ y : α, R W y cs)
    {a : Option Addr} {len cap : Nat} {d : DataW H} {ps : List MemPlace} (h : DataW.Trod enc P W 0 (fun _ => true) true t (.slice a len cap) d ps) : ∃ zs, ElemsOf R size W a len zs := by
  obtain ⟨fuel, hf⟩ := h
  obtain ⟨a', len', cap', hcs, _, _, _, ys, hy⟩ := open_elems ht hs hR hf
  simp [Value.cells] at hcs
  obtain ⟨rfl, rfl, rfl⟩ := hcs
  exact ⟨ys, hy⟩
theorem open_ints {P : Program} {t e : TypeId} (ht : P.underlying t = some (.slice e)) (he : P.underlying e = some (.int .i64)) (hs : P.cellsOf e = 1) {a : Option Addr} {len cap : Nat} {d : DataW H} {ps : List MemPlace}
    (h : DataW.Trod enc P W 0 (fun _ => true) true t (.slice a len cap) d ps) : ∃ zs, ElemsOf IsInt 1 W a len zs :=
  open_rowOf ht hs (fun _ _ _ _ hh => by obtain ⟨z, h1, h2⟩ := elem_int he hh; exact ⟨z, h1, h2⟩) h
theorem open_truths {P : Program} {t e : TypeId} (ht : P.underlying t = some (.slice e)) (he : P.underlying e = some .bool) (hs : P.cellsOf e = 1) {a : Option Addr} {len cap : Nat} {d : DataW H} {ps : List MemPlace}
    (h : DataW.Trod enc P W 0 (fun _ => true) true t (.slice a len cap) d ps) : ∃ zs, ElemsOf IsTruth 1 W a len zs :=
  open_rowOf ht hs (fun _ _ _ _ hh => elem_truth he hh) h
theorem open_brows {P : Program} {t e q : TypeId} (ht : P.underlying t = some (.slice e)) (he : P.underlying e = some (.slice q)) (hq : P.underlying q = some (.int .u8)) (hs : P.cellsOf e = 1) (hs' : P.cellsOf q = 1) {a : Option Addr} {len cap : Nat} {d : DataW H} {ps : List MemPlace}
    (h : DataW.Trod enc P W 0 (fun _ => true) true t (.slice a len cap) d ps) : ∃ zs, ElemsOf IsBRow 1 W a len zs :=
  open_rowOf ht hs (fun _ _ _ _ hh => by obtain ⟨a, len, cap, l, h1, h2, h3⟩ := elem_slice_bytes he hq hs' hh; exact ⟨⟨a, len, cap, l⟩, h1, h2, h3⟩) h
def IsText (_ : World) (s : List UInt8) (cs : List Value) : Prop := cs = [str s]
theorem elem_text {P : Program} {t : TypeId} (ht : P.underlying t = some .string) {n : Nat} {cs : List Value} {x : DataW H × List MemPlace} (h : DataW.trod enc P W 0 (fun _ => true) true n t cs = some x) : ∃ s : List UInt8, cs = [str s] := by
  obtain ⟨s, h1, _⟩ := DataW.trod_string ht h
  exact ⟨s.data.toList, by rw [h1]; simp [str]⟩
theorem open_texts {P : Program} {t e : TypeId} (ht : P.underlying t = some (.slice e)) (he : P.underlying e = some .string) (hs : P.cellsOf e = 1) {a : Option Addr} {len cap : Nat} {d : DataW H} {ps : List MemPlace}
    (h : DataW.Trod enc P W 0 (fun _ => true) true t (.slice a len cap) d ps) : ∃ zs, ElemsOf IsText 1 W a len zs := by
  obtain ⟨fuel, hf⟩ := h
  obtain ⟨a', len', cap', hcs, _, _, _, ys, hy⟩ := open_elems ht hs (R := IsText) (fun _ _ _ _ hh => by obtain ⟨s, h1⟩ := elem_text he hh; exact ⟨s, h1⟩) hf
  simp [Value.cells] at hcs
  obtain ⟨rfl, rfl, rfl⟩ := hcs
  exact ⟨ys, hy⟩
end
end Go.Proofs.Ytakeilefbcpabaa

/- Slices that came in, with the reach of what stands in their elements. No program in sight. -/
namespace Go.Proofs.Ytakeilefbcpabaa
open Go.ChangeShapes Go.WideShapes Go.ChangeAt Go.RowKit Go.Deep
section
variable {H : Type} {enc : TypeId × Value → H} {W : World} {α : Type}
def Sized (P : Program) (t : TypeId) (d : DataW H) : Prop := ∀ n ∈ d.weights P t, n ≤ 140737488351232
theorem sized_of {P : Program} {ts : List TypeId} {ds : List (DataW H)} (h : (DataW.weightsEach P ts ds).all (· ≤ reachBytes) = true) {j : Nat} {t : TypeId} {d : DataW H} (ht : ts[j]? = some t) (hd : ds[j]? = some d) : Sized P t d := fun n hn =>
  of_decide_eq_true (List.all_eq_true.1 h n (DataW.weights_mem_each ht hd n hn))
theorem weightsAll_of {P : Program} {e : TypeId} : ∀ {l : List (DataW H)} {d : DataW H}, d ∈ l → ∀ n ∈ d.weights P e, n ∈ DataW.weightsAll P e l
  | d' :: r, d, hd, n, hn => by
    simp only [DataW.weightsAll, List.mem_append]
    rcases List.mem_cons.1 hd with rfl | h
    · exact Or.inl hn
    · exact Or.inr (weightsAll_of h n hn)
theorem sized_elem {P : Program} {t e : TypeId} {l r : List (DataW H)} {d : DataW H} (ht : P.underlying t = some (.slice e)) (h : Sized P t (.slice l r)) (hd : d ∈ l) : Sized P e d := fun n hn =>
  h n (by simp only [DataW.weights, ht, List.mem_cons, List.mem_append]; exact .inr (.inl (weightsAll_of hd n hn)))
theorem sized_part {P : Program} {t u : TypeId} {fs : Array Field} {l : List (DataW H)} {j : Nat} {d : DataW H} (ht : P.underlying t = some (.struct fs)) (h : Sized P t (.agg l)) (hu : (fs.toList.map (·.type))[j]? = some u) (hd : l[j]? = some d) : Sized P u d := fun n hn =>
  h n (by simp only [DataW.weights, ht]; exact DataW.weights_mem_each hu hd n hn)
theorem sized_text {P : Program} {t : TypeId} {l : List UInt8} (h : Sized (H := H) P t (.lit (.string l))) : l.length ≤ 140737488351232 := h _ (by simp [DataW.weights])
theorem elems_build {R : World → α → List Value → Prop} {size len : Nat} {a : Addr} (hlen : len ≤ 9223372036854775807) (hex : ∀ i : Nat, i < len → ∃ y cs, R W y cs ∧ cs.length = size ∧ CellsAt W (a.add (i * size)) cs) : ∃ ys, ElemsOf R size W (some a) len ys := by
  have build : ∀ k, k ≤ len → ∃ ys : List α, ys.length = k ∧ ∀ (j : Nat) (x : α), ys[j]? = some x → ∃ cs, R W x cs ∧ cs.length = size ∧ CellsAt W (a.add (j * size)) cs := by
    intro k
    induction k with
    | zero => intro _; exact ⟨[], rfl, fun j x h => by simp at h⟩
    | succ k ih =>
      intro hk
      obtain ⟨ys, h1, h2⟩ := ih (by omega)
      obtain ⟨y, cs, h3, h4, h5⟩ := hex k (by omega)
      refine ⟨ys ++ [y], by simp [h1], fun j x hx => ?_⟩
      rw [List.getElem?_append] at hx
      split at hx
      · exact h2 j x hx
      · rename_i hj
        have : j = k := by
          have := (List.getElem?_eq_some_iff.1 hx).1
          simp at this; omega
        subst this
        rw [h1, Nat.sub_self] at hx
        simp at hx
        subst hx
        exact ⟨cs, h3, h4, h5⟩
  obtain ⟨ys, h1, h2⟩ := build len (Nat.le_refl _)
  exact ⟨ys, h1, hlen, fun j x hx => by obtain ⟨cs, h⟩ := h2 j x hx; exact ⟨a, cs, rfl, h⟩⟩
theorem open_sized {P : Program} {t e : TypeId} {size : Nat} {R : World → α → List Value → Prop} (ht : P.underlying t = some (.slice e)) (hs : P.cellsOf e = size)
    (hR : ∀ (n : Nat) (cs : List Value) (x : DataW H × List MemPlace), cs.length = size → Sized P e x.1 → DataW.trod enc P W 0 (fun _ => true) true n e cs = some x → ∃ y : α, R W y cs)
    {a : Option Addr} {len cap : Nat} {d : DataW H} {ps : List MemPlace} (h : DataW.Trod enc P W 0 (fun _ => true) true t (.slice a len cap) d ps) (hz : Sized P t d) : ∃ zs, ElemsOf R size W a len zs := by
  obtain ⟨fuel, hf⟩ := h
  rcases DataW.trod_slice ht hf with ⟨h1, _⟩ | ⟨a', len', cap', elems, rest, n, _, h1, h2, _, hl, hm, hlen, he, _⟩
  · simp [Value.cells] at h1
    obtain ⟨rfl, rfl, rfl⟩ := h1
    exact ⟨[], rfl, by omega, fun j x h => by simp at h⟩
  · simp [Value.cells] at h1
    obtain ⟨rfl, rfl, rfl⟩ := h1
    obtain ⟨rfl, -⟩ := Prod.mk.inj h2
    have hm' : cap ≤ 9223372036854775807 := hm
    refine elems_build (by omega) (fun i hi => ?_)
    have h3 := he i hi
    rw [List.getElem?_eq_getElem (by omega : i < elems.length)] at h3
    obtain ⟨cs, h4, h5⟩ := Option.bind_eq_some_iff.1 h3
    rw [hs] at h4
    obtain ⟨h6, h7⟩ := cells_at (P := P) h4 rfl
    obtain ⟨y, hy⟩ := hR n cs _ h6 (sized_elem ht hz (List.mem_map_of_mem (List.getElem_mem _))) h5
    exact ⟨y, cs, hy, h6, h7⟩
end
end Go.Proofs.Ytakeilefbcpabaa

/- What is known of the types, laid by program (wip/tools/types.py). -/
namespace Go.Proofs.Ytakeilefbcpabaa
open Go.RowKit
instance : TOne Try.prog 1 (.nilFunc) := ⟨by kernel_rfl, by kernel_rfl, rfl⟩
instance : TInt Try.prog 2 .i64 := ⟨by kernel_rfl⟩
instance : TOne Try.prog 2 (.int .i64 0) := ⟨by kernel_rfl, by kernel_rfl, rfl⟩
instance : TInt Try.prog 3 .i64 := ⟨by kernel_rfl⟩
instance : TOne Try.prog 3 (.int .i64 0) := ⟨by kernel_rfl, by kernel_rfl, rfl⟩
instance : TBool Try.prog 4 := ⟨by kernel_rfl⟩
instance : TOne Try.prog 4 (.bool false) := ⟨by kernel_rfl, by kernel_rfl, rfl⟩
instance : TInt Try.prog 5 .u8 := ⟨by kernel_rfl⟩
instance : TOne Try.prog 5 (.int .u8 0) := ⟨by kernel_rfl, by kernel_rfl, rfl⟩
instance : TInt Try.prog 6 .u8 := ⟨by kernel_rfl⟩
instance : TOne Try.prog 6 (.int .u8 0) := ⟨by kernel_rfl, by kernel_rfl, rfl⟩
instance : TField Try.prog 7 0 0 1 := ⟨_, _, Try.underlying7, rfl, rfl, by kernel_rfl, by decide⟩
instance : TField Try.prog 7 1 1 1 := ⟨_, _, Try.underlying7, rfl, rfl, by kernel_rfl, by decide⟩
instance : TField Try.prog 7 2 2 1 := ⟨_, _, Try.underlying7, rfl, rfl, by kernel_rfl, by decide⟩
instance : TField Try.prog 7 3 3 1 := ⟨_, _, Try.underlying7, rfl, rfl, by kernel_rfl, by decide⟩
instance : TRow Try.prog 7 4 := ⟨by kernel_rfl, by kernel_rfl⟩
instance : TZero Try.prog 7 ([.int .i64 0, .int .i64 0, .bool false, .int .u8 0]) := ⟨by kernel_rfl⟩
instance : TField Try.prog 8 0 0 1 := ⟨_, _, Try.underlying8, rfl, rfl, by kernel_rfl, by decide⟩
instance : TField Try.prog 8 1 1 1 := ⟨_, _, Try.underlying8, rfl, rfl, by kernel_rfl, by decide⟩
instance : TField Try.prog 8 2 2 1 := ⟨_, _, Try.underlying8, rfl, rfl, by kernel_rfl, by decide⟩
instance : TField Try.prog 8 3 3 1 := ⟨_, _, Try.underlying8, rfl, rfl, by kernel_rfl, by decide⟩
instance : TRow Try.prog 8 4 := ⟨by kernel_rfl, by kernel_rfl⟩
instance : TZero Try.prog 8 ([.int .i64 0, .int .i64 0, .bool false, .int .u8 0]) := ⟨by kernel_rfl⟩
instance : TStr Try.prog 9 := ⟨by kernel_rfl⟩
instance : TOne Try.prog 9 (str []) := ⟨by kernel_rfl, by kernel_rfl, rfl⟩
instance : TStr Try.prog 10 := ⟨by kernel_rfl⟩
instance : TOne Try.prog 10 (str []) := ⟨by kernel_rfl, by kernel_rfl, rfl⟩
instance : TStr Try.prog 11 := ⟨by kernel_rfl⟩
instance : TOne Try.prog 11 (str []) := ⟨by kernel_rfl, by kernel_rfl, rfl⟩
instance : TInt Try.prog 12 .u64 := ⟨by kernel_rfl⟩
instance : TOne Try.prog 12 (.int .u64 0) := ⟨by kernel_rfl, by kernel_rfl, rfl⟩
instance : TField Try.prog 13 0 0 1 := ⟨_, _, Try.underlying13, rfl, rfl, by kernel_rfl, by decide⟩
instance : TField Try.prog 13 1 1 1 := ⟨_, _, Try.underlying13, rfl, rfl, by kernel_rfl, by decide⟩
instance : TRow Try.prog 13 2 := ⟨by kernel_rfl, by kernel_rfl⟩
instance : TZero Try.prog 13 ([str [], .int .u64 0]) := ⟨by kernel_rfl⟩
instance : TField Try.prog 14 0 0 1 := ⟨_, _, Try.underlying14, rfl, rfl, by kernel_rfl, by decide⟩
instance : TField Try.prog 14 1 1 1 := ⟨_, _, Try.underlying14, rfl, rfl, by kernel_rfl, by decide⟩
instance : TRow Try.prog 14 2 := ⟨by kernel_rfl, by kernel_rfl⟩
instance : TZero Try.prog 14 ([str [], .int .u64 0]) := ⟨by kernel_rfl⟩
instance : TPtr Try.prog 15 139 := ⟨by kernel_rfl⟩
instance : TOne Try.prog 15 (.pointer none) := ⟨by kernel_rfl, by kernel_rfl, rfl⟩
instance : TPtr Try.prog 16 142 := ⟨by kernel_rfl⟩
instance : TOne Try.prog 16 (.pointer none) := ⟨by kernel_rfl, by kernel_rfl, rfl⟩
instance : TPtr Try.prog 17 151 := ⟨by kernel_rfl⟩
instance : TOne Try.prog 17 (.pointer none) := ⟨by kernel_rfl, by kernel_rfl, rfl⟩
instance : TField Try.prog 18 0 0 1 := ⟨_, _, Try.underlying18, rfl, rfl, by kernel_rfl, by decide⟩
instance : TRow Try.prog 18 1 := ⟨by kernel_rfl, by kernel_rfl⟩
instance : TZero Try.prog 18 ([.pointer none]) := ⟨by kernel_rfl⟩
instance : TField Try.prog 19 0 0 1 := ⟨_, _, Try.underlying19, rfl, rfl, by kernel_rfl, by decide⟩
instance : TRow Try.prog 19 1 := ⟨by kernel_rfl, by kernel_rfl⟩
instance : TZero Try.prog 19 ([.pointer none]) := ⟨by kernel_rfl⟩
instance : TOne Try.prog 20 (.nilIface) := ⟨by kernel_rfl, by kernel_rfl, rfl⟩
instance : TInt Try.prog 21 .i32 := ⟨by kernel_rfl⟩
instance : TOne Try.prog 21 (.int .i32 0) := ⟨by kernel_rfl, by kernel_rfl, rfl⟩
instance : TSlice Try.prog 22 3 1 8 (zeroOf Try.prog 3) := ⟨by kernel_rfl, by kernel_rfl, by kernel_rfl⟩
instance : TOne Try.prog 22 (.slice none 0 0) := ⟨by kernel_rfl, by kernel_rfl, rfl⟩
instance : TOne Try.prog 23 (.nilFunc) := ⟨by kernel_rfl, by kernel_rfl, rfl⟩
instance : TPtr Try.prog 24 34 := ⟨by kernel_rfl⟩
instance : TOne Try.prog 24 (.pointer none) := ⟨by kernel_rfl, by kernel_rfl, rfl⟩
instance : TOne Try.prog 25 (.nilFunc) := ⟨by kernel_rfl, by kernel_rfl, rfl⟩
instance : TInt Try.prog 26 .i64 := ⟨by kernel_rfl⟩
instance : TOne Try.prog 26 (.int .i64 0) := ⟨by kernel_rfl, by kernel_rfl, rfl⟩
instance : TOne Try.prog 27 (.nilFunc) := ⟨by kernel_rfl, by kernel_rfl, rfl⟩
instance : TArr Try.prog 28 32 5 1 := ⟨by kernel_rfl, by kernel_rfl⟩
instance : TRow Try.prog 28 32 := ⟨by kernel_rfl, by kernel_rfl⟩
instance : TZero Try.prog 28 (List.replicate 32 (.int .u8 0)) := ⟨by kernel_rfl⟩
instance : TOne Try.prog 29 (.nilFunc) := ⟨by kernel_rfl, by kernel_rfl, rfl⟩
instance : TField Try.prog 30 0 0 1 := ⟨_, _, Try.underlying30, rfl, rfl, by kernel_rfl, by decide⟩
instance : TField Try.prog 30 1 1 1 := ⟨_, _, Try.underlying30, rfl, rfl, by kernel_rfl, by decide⟩
instance : TField Try.prog 30 2 2 32 := ⟨_, _, Try.underlying30, rfl, rfl, by kernel_rfl, by decide⟩
instance : TRow Try.prog 30 34 := ⟨by kernel_rfl, by kernel_rfl⟩
instance : TZero Try.prog 30 ([.int .i64 0, .int .i64 0] ++ (List.replicate 32 (.int .u8 0))) := ⟨by kernel_rfl⟩
instance : TField Try.prog 31 0 0 1 := ⟨_, _, Try.underlying31, rfl, rfl, by kernel_rfl, by decide⟩
instance : TField Try.prog 31 1 1 1 := ⟨_, _, Try.underlying31, rfl, rfl, by kernel_rfl, by decide⟩
instance : TField Try.prog 31 2 2 32 := ⟨_, _, Try.underlying31, rfl, rfl, by kernel_rfl, by decide⟩
instance : TPlaces Try.prog 31 [(0, 1), (1, 1), (2, 32)] ([.int .i64 0, .int .i64 0] ++ (List.replicate 32 (.int .u8 0))) := ⟨⟨_, Try.underlying31, fun w => by simp [run_size (P := Try.prog) (t := 3) (n := 1) (by kernel_rfl), run_size (P := Try.prog) (t := 28) (n := 32) (by kernel_rfl)]⟩, by kernel_rfl⟩
instance : TRow Try.prog 31 34 := ⟨by kernel_rfl, by kernel_rfl⟩
instance : TZero Try.prog 31 ([.int .i64 0, .int .i64 0] ++ (List.replicate 32 (.int .u8 0))) := ⟨by kernel_rfl⟩
instance : TPtr Try.prog 32 107 := ⟨by kernel_rfl⟩
instance : TOne Try.prog 32 (.pointer none) := ⟨by kernel_rfl, by kernel_rfl, rfl⟩
instance : TField Try.prog 33 0 0 34 := ⟨_, _, Try.underlying33, rfl, rfl, by kernel_rfl, by decide⟩
instance : TField Try.prog 33 1 34 1 := ⟨_, _, Try.underlying33, rfl, rfl, by kernel_rfl, by decide⟩
instance : TField Try.prog 33 2 35 1 := ⟨_, _, Try.underlying33, rfl, rfl, by kernel_rfl, by decide⟩
instance : TRow Try.prog 33 36 := ⟨by kernel_rfl, by kernel_rfl⟩
instance : TZero Try.prog 33 ([.int .i64 0, .int .i64 0] ++ (List.replicate 32 (.int .u8 0) ++ ([.int .i64 0, .pointer none]))) := ⟨by kernel_rfl⟩
instance : TField Try.prog 34 0 0 34 := ⟨_, _, Try.underlying34, rfl, rfl, by kernel_rfl, by decide⟩
instance : TField Try.prog 34 1 34 1 := ⟨_, _, Try.underlying34, rfl, rfl, by kernel_rfl, by decide⟩
instance : TField Try.prog 34 2 35 1 := ⟨_, _, Try.underlying34, rfl, rfl, by kernel_rfl, by decide⟩
instance : TPlaces Try.prog 34 [(0, 34), (34, 1), (35, 1)] ([.int .i64 0, .int .i64 0] ++ (List.replicate 32 (.int .u8 0) ++ ([.int .i64 0, .pointer none]))) := ⟨⟨_, Try.underlying34, fun w => by simp [run_size (P := Try.prog) (t := 3) (n := 1) (by kernel_rfl), run_size (P := Try.prog) (t := 31) (n := 34) (by kernel_rfl), run_size (P := Try.prog) (t := 32) (n := 1) (by kernel_rfl)]⟩, by kernel_rfl⟩
instance : TRow Try.prog 34 36 := ⟨by kernel_rfl, by kernel_rfl⟩
instance : TZero Try.prog 34 ([.int .i64 0, .int .i64 0] ++ (List.replicate 32 (.int .u8 0) ++ ([.int .i64 0, .pointer none]))) := ⟨by kernel_rfl⟩
instance : TOne Try.prog 35 (.nilFunc) := ⟨by kernel_rfl, by kernel_rfl, rfl⟩
instance : TSlice Try.prog 36 40 35 56 (zeroOf Try.prog 40) := ⟨by kernel_rfl, by kernel_rfl, by kernel_rfl⟩
instance : TOne Try.prog 36 (.slice none 0 0) := ⟨by kernel_rfl, by kernel_rfl, rfl⟩
instance : TOne Try.prog 37 (.nilFunc) := ⟨by kernel_rfl, by kernel_rfl, rfl⟩
instance : TInt Try.prog 38 .u64 := ⟨by kernel_rfl⟩
instance : TOne Try.prog 38 (.int .u64 0) := ⟨by kernel_rfl, by kernel_rfl, rfl⟩
instance : TField Try.prog 39 0 0 1 := ⟨_, _, Try.underlying39, rfl, rfl, by kernel_rfl, by decide⟩
instance : TField Try.prog 39 1 1 1 := ⟨_, _, Try.underlying39, rfl, rfl, by kernel_rfl, by decide⟩
instance : TField Try.prog 39 2 2 32 := ⟨_, _, Try.underlying39, rfl, rfl, by kernel_rfl, by decide⟩
instance : TField Try.prog 39 3 34 1 := ⟨_, _, Try.underlying39, rfl, rfl, by kernel_rfl, by decide⟩
instance : TRow Try.prog 39 35 := ⟨by kernel_rfl, by kernel_rfl⟩
instance : TZero Try.prog 39 ([.int .i64 0, .int .i64 0] ++ (List.replicate 32 (.int .u8 0) ++ ([.int .u64 0]))) := ⟨by kernel_rfl⟩
instance : TField Try.prog 40 0 0 1 := ⟨_, _, Try.underlying40, rfl, rfl, by kernel_rfl, by decide⟩
instance : TField Try.prog 40 1 1 1 := ⟨_, _, Try.underlying40, rfl, rfl, by kernel_rfl, by decide⟩
instance : TField Try.prog 40 2 2 32 := ⟨_, _, Try.underlying40, rfl, rfl, by kernel_rfl, by decide⟩
instance : TField Try.prog 40 3 34 1 := ⟨_, _, Try.underlying40, rfl, rfl, by kernel_rfl, by decide⟩
instance : TPlaces Try.prog 40 [(0, 1), (1, 1), (2, 32), (34, 1)] ([.int .i64 0, .int .i64 0] ++ (List.replicate 32 (.int .u8 0) ++ ([.int .u64 0]))) := ⟨⟨_, Try.underlying40, fun w => by simp [run_size (P := Try.prog) (t := 3) (n := 1) (by kernel_rfl), run_size (P := Try.prog) (t := 28) (n := 32) (by kernel_rfl), run_size (P := Try.prog) (t := 38) (n := 1) (by kernel_rfl)]⟩, by kernel_rfl⟩
instance : TRow Try.prog 40 35 := ⟨by kernel_rfl, by kernel_rfl⟩
instance : TZero Try.prog 40 ([.int .i64 0, .int .i64 0] ++ (List.replicate 32 (.int .u8 0) ++ ([.int .u64 0]))) := ⟨by kernel_rfl⟩
instance : TOne Try.prog 41 (.nilFunc) := ⟨by kernel_rfl, by kernel_rfl, rfl⟩
instance : TOne Try.prog 42 (.nilFunc) := ⟨by kernel_rfl, by kernel_rfl, rfl⟩
instance : TOne Try.prog 44 (.nilFunc) := ⟨by kernel_rfl, by kernel_rfl, rfl⟩
instance : TOne Try.prog 45 (.nilFunc) := ⟨by kernel_rfl, by kernel_rfl, rfl⟩
instance : TSlice Try.prog 46 5 1 1 (zeroOf Try.prog 5) := ⟨by kernel_rfl, by kernel_rfl, by kernel_rfl⟩
instance : TOne Try.prog 46 (.slice none 0 0) := ⟨by kernel_rfl, by kernel_rfl, rfl⟩
instance : TOne Try.prog 48 (.nilFunc) := ⟨by kernel_rfl, by kernel_rfl, rfl⟩
instance : TOne Try.prog 49 (.nilFunc) := ⟨by kernel_rfl, by kernel_rfl, rfl⟩
instance : TOne Try.prog 50 (.nilFunc) := ⟨by kernel_rfl, by kernel_rfl, rfl⟩
instance : TSlice Try.prog 51 46 1 24 (zeroOf Try.prog 46) := ⟨by kernel_rfl, by kernel_rfl, by kernel_rfl⟩
instance : TOne Try.prog 51 (.slice none 0 0) := ⟨by kernel_rfl, by kernel_rfl, rfl⟩
instance : TSlice Try.prog 52 4 1 1 (zeroOf Try.prog 4) := ⟨by kernel_rfl, by kernel_rfl, by kernel_rfl⟩
instance : TOne Try.prog 52 (.slice none 0 0) := ⟨by kernel_rfl, by kernel_rfl, rfl⟩
instance : TSlice Try.prog 53 9 1 16 (zeroOf Try.prog 9) := ⟨by kernel_rfl, by kernel_rfl, by kernel_rfl⟩
instance : TOne Try.prog 53 (.slice none 0 0) := ⟨by kernel_rfl, by kernel_rfl, rfl⟩
instance : TArr Try.prog 54 6 53 1 := ⟨by kernel_rfl, by kernel_rfl⟩
instance : TRow Try.prog 54 6 := ⟨by kernel_rfl, by kernel_rfl⟩
instance : TZero Try.prog 54 ([.slice none 0 0, .slice none 0 0, .slice none 0 0, .slice none 0 0, .slice none 0 0, .slice none 0 0]) := ⟨by kernel_rfl⟩
instance : TOne Try.prog 55 (.nilFunc) := ⟨by kernel_rfl, by kernel_rfl, rfl⟩
instance : TOne Try.prog 56 (.nilFunc) := ⟨by kernel_rfl, by kernel_rfl, rfl⟩
instance : TOne Try.prog 57 (.nilFunc) := ⟨by kernel_rfl, by kernel_rfl, rfl⟩
instance : TOne Try.prog 58 (.nilFunc) := ⟨by kernel_rfl, by kernel_rfl, rfl⟩
instance : TSlice Try.prog 59 28 32 32 (zeroOf Try.prog 28) := ⟨by kernel_rfl, by kernel_rfl, by kernel_rfl⟩
instance : TOne Try.prog 59 (.slice none 0 0) := ⟨by kernel_rfl, by kernel_rfl, rfl⟩
instance : TOne Try.prog 60 (.nilFunc) := ⟨by kernel_rfl, by kernel_rfl, rfl⟩
instance : TPtr Try.prog 61 67 := ⟨by kernel_rfl⟩
instance : TOne Try.prog 61 (.pointer none) := ⟨by kernel_rfl, by kernel_rfl, rfl⟩
instance : TOne Try.prog 62 (.nilFunc) := ⟨by kernel_rfl, by kernel_rfl, rfl⟩
instance : TPtr Try.prog 63 70 := ⟨by kernel_rfl⟩
instance : TOne Try.prog 63 (.pointer none) := ⟨by kernel_rfl, by kernel_rfl, rfl⟩
instance : TOne Try.prog 64 (.nilFunc) := ⟨by kernel_rfl, by kernel_rfl, rfl⟩
instance : TSlice Try.prog 65 114 2 24 (zeroOf Try.prog 114) := ⟨by kernel_rfl, by kernel_rfl, by kernel_rfl⟩
instance : TOne Try.prog 65 (.slice none 0 0) := ⟨by kernel_rfl, by kernel_rfl, rfl⟩
instance : TField Try.prog 66 0 0 1 := ⟨_, _, Try.underlying66, rfl, rfl, by kernel_rfl, by decide⟩
instance : TField Try.prog 66 1 1 1 := ⟨_, _, Try.underlying66, rfl, rfl, by kernel_rfl, by decide⟩
instance : TField Try.prog 66 2 2 1 := ⟨_, _, Try.underlying66, rfl, rfl, by kernel_rfl, by decide⟩
instance : TField Try.prog 66 3 3 1 := ⟨_, _, Try.underlying66, rfl, rfl, by kernel_rfl, by decide⟩
instance : TField Try.prog 66 4 4 1 := ⟨_, _, Try.underlying66, rfl, rfl, by kernel_rfl, by decide⟩
instance : TField Try.prog 66 5 5 1 := ⟨_, _, Try.underlying66, rfl, rfl, by kernel_rfl, by decide⟩
instance : TField Try.prog 66 6 6 1 := ⟨_, _, Try.underlying66, rfl, rfl, by kernel_rfl, by decide⟩
instance : TPlaces Try.prog 66 [(0, 1), (1, 1), (2, 1), (3, 1), (4, 1), (5, 1), (6, 1)] ([.slice none 0 0, .slice none 0 0, .slice none 0 0, .bool false, .int .i64 0, .int .i64 0, .int .u64 0]) := ⟨⟨_, Try.underlying66, fun w => by simp [run_size (P := Try.prog) (t := 3) (n := 1) (by kernel_rfl), run_size (P := Try.prog) (t := 4) (n := 1) (by kernel_rfl), run_size (P := Try.prog) (t := 38) (n := 1) (by kernel_rfl), run_size (P := Try.prog) (t := 53) (n := 1) (by kernel_rfl), run_size (P := Try.prog) (t := 65) (n := 1) (by kernel_rfl)]⟩, by kernel_rfl⟩
instance : TRow Try.prog 66 7 := ⟨by kernel_rfl, by kernel_rfl⟩
instance : TZero Try.prog 66 ([.slice none 0 0, .slice none 0 0, .slice none 0 0, .bool false, .int .i64 0, .int .i64 0, .int .u64 0]) := ⟨by kernel_rfl⟩
instance : TField Try.prog 67 0 0 1 := ⟨_, _, Try.underlying67, rfl, rfl, by kernel_rfl, by decide⟩
instance : TField Try.prog 67 1 1 1 := ⟨_, _, Try.underlying67, rfl, rfl, by kernel_rfl, by decide⟩
instance : TField Try.prog 67 2 2 1 := ⟨_, _, Try.underlying67, rfl, rfl, by kernel_rfl, by decide⟩
instance : TField Try.prog 67 3 3 1 := ⟨_, _, Try.underlying67, rfl, rfl, by kernel_rfl, by decide⟩
instance : TField Try.prog 67 4 4 1 := ⟨_, _, Try.underlying67, rfl, rfl, by kernel_rfl, by decide⟩
instance : TField Try.prog 67 5 5 1 := ⟨_, _, Try.underlying67, rfl, rfl, by kernel_rfl, by decide⟩
instance : TField Try.prog 67 6 6 1 := ⟨_, _, Try.underlying67, rfl, rfl, by kernel_rfl, by decide⟩
instance : TPlaces Try.prog 67 [(0, 1), (1, 1), (2, 1), (3, 1), (4, 1), (5, 1), (6, 1)] ([.slice none 0 0, .slice none 0 0, .slice none 0 0, .bool false, .int .i64 0, .int .i64 0, .int .u64 0]) := ⟨⟨_, Try.underlying67, fun w => by simp [run_size (P := Try.prog) (t := 3) (n := 1) (by kernel_rfl), run_size (P := Try.prog) (t := 4) (n := 1) (by kernel_rfl), run_size (P := Try.prog) (t := 38) (n := 1) (by kernel_rfl), run_size (P := Try.prog) (t := 53) (n := 1) (by kernel_rfl), run_size (P := Try.prog) (t := 65) (n := 1) (by kernel_rfl)]⟩, by kernel_rfl⟩
instance : TRow Try.prog 67 7 := ⟨by kernel_rfl, by kernel_rfl⟩
instance : TZero Try.prog 67 ([.slice none 0 0, .slice none 0 0, .slice none 0 0, .bool false, .int .i64 0, .int .i64 0, .int .u64 0]) := ⟨by kernel_rfl⟩
instance : TOne Try.prog 68 (.nilFunc) := ⟨by kernel_rfl, by kernel_rfl, rfl⟩
instance : TField Try.prog 69 0 0 1 := ⟨_, _, Try.underlying69, rfl, rfl, by kernel_rfl, by decide⟩
instance : TField Try.prog 69 1 1 1 := ⟨_, _, Try.underlying69, rfl, rfl, by kernel_rfl, by decide⟩
instance : TField Try.prog 69 2 2 32 := ⟨_, _, Try.underlying69, rfl, rfl, by kernel_rfl, by decide⟩
instance : TField Try.prog 69 3 34 1 := ⟨_, _, Try.underlying69, rfl, rfl, by kernel_rfl, by decide⟩
instance : TField Try.prog 69 4 35 1 := ⟨_, _, Try.underlying69, rfl, rfl, by kernel_rfl, by decide⟩
instance : TPlaces Try.prog 69 [(0, 1), (1, 1), (2, 32), (34, 1), (35, 1)] ([.int .i64 0, .int .i64 0] ++ (List.replicate 32 (.int .u8 0) ++ ([.int .i64 0, .pointer none]))) := ⟨⟨_, Try.underlying69, fun w => by simp [run_size (P := Try.prog) (t := 3) (n := 1) (by kernel_rfl), run_size (P := Try.prog) (t := 28) (n := 32) (by kernel_rfl), run_size (P := Try.prog) (t := 61) (n := 1) (by kernel_rfl)]⟩, by kernel_rfl⟩
instance : TRow Try.prog 69 36 := ⟨by kernel_rfl, by kernel_rfl⟩
instance : TZero Try.prog 69 ([.int .i64 0, .int .i64 0] ++ (List.replicate 32 (.int .u8 0) ++ ([.int .i64 0, .pointer none]))) := ⟨by kernel_rfl⟩
instance : TField Try.prog 70 0 0 1 := ⟨_, _, Try.underlying70, rfl, rfl, by kernel_rfl, by decide⟩
instance : TField Try.prog 70 1 1 1 := ⟨_, _, Try.underlying70, rfl, rfl, by kernel_rfl, by decide⟩
instance : TField Try.prog 70 2 2 32 := ⟨_, _, Try.underlying70, rfl, rfl, by kernel_rfl, by decide⟩
instance : TField Try.prog 70 3 34 1 := ⟨_, _, Try.underlying70, rfl, rfl, by kernel_rfl, by decide⟩
instance : TField Try.prog 70 4 35 1 := ⟨_, _, Try.underlying70, rfl, rfl, by kernel_rfl, by decide⟩
instance : TPlaces Try.prog 70 [(0, 1), (1, 1), (2, 32), (34, 1), (35, 1)] ([.int .i64 0, .int .i64 0] ++ (List.replicate 32 (.int .u8 0) ++ ([.int .i64 0, .pointer none]))) := ⟨⟨_, Try.underlying70, fun w => by simp [run_size (P := Try.prog) (t := 3) (n := 1) (by kernel_rfl), run_size (P := Try.prog) (t := 28) (n := 32) (by kernel_rfl), run_size (P := Try.prog) (t := 61) (n := 1) (by kernel_rfl)]⟩, by kernel_rfl⟩
instance : TRow Try.prog 70 36 := ⟨by kernel_rfl, by kernel_rfl⟩
instance : TZero Try.prog 70 ([.int .i64 0, .int .i64 0] ++ (List.replicate 32 (.int .u8 0) ++ ([.int .i64 0, .pointer none]))) := ⟨by kernel_rfl⟩
instance : TOne Try.prog 71 (.nilFunc) := ⟨by kernel_rfl, by kernel_rfl, rfl⟩
instance : TSlice Try.prog 72 75 4 48 (zeroOf Try.prog 75) := ⟨by kernel_rfl, by kernel_rfl, by kernel_rfl⟩
instance : TOne Try.prog 72 (.slice none 0 0) := ⟨by kernel_rfl, by kernel_rfl, rfl⟩
instance : TOne Try.prog 73 (.nilFunc) := ⟨by kernel_rfl, by kernel_rfl, rfl⟩
instance : TField Try.prog 74 0 0 1 := ⟨_, _, Try.underlying74, rfl, rfl, by kernel_rfl, by decide⟩
instance : TField Try.prog 74 1 1 1 := ⟨_, _, Try.underlying74, rfl, rfl, by kernel_rfl, by decide⟩
instance : TField Try.prog 74 2 2 1 := ⟨_, _, Try.underlying74, rfl, rfl, by kernel_rfl, by decide⟩
instance : TField Try.prog 74 3 3 1 := ⟨_, _, Try.underlying74, rfl, rfl, by kernel_rfl, by decide⟩
instance : TRow Try.prog 74 4 := ⟨by kernel_rfl, by kernel_rfl⟩
instance : TZero Try.prog 74 ([.int .i64 0, .int .i64 0, .slice none 0 0, .int .u64 0]) := ⟨by kernel_rfl⟩
instance : TField Try.prog 75 0 0 1 := ⟨_, _, Try.underlying75, rfl, rfl, by kernel_rfl, by decide⟩
instance : TField Try.prog 75 1 1 1 := ⟨_, _, Try.underlying75, rfl, rfl, by kernel_rfl, by decide⟩
instance : TField Try.prog 75 2 2 1 := ⟨_, _, Try.underlying75, rfl, rfl, by kernel_rfl, by decide⟩
instance : TField Try.prog 75 3 3 1 := ⟨_, _, Try.underlying75, rfl, rfl, by kernel_rfl, by decide⟩
instance : TPlaces Try.prog 75 [(0, 1), (1, 1), (2, 1), (3, 1)] ([.int .i64 0, .int .i64 0, .slice none 0 0, .int .u64 0]) := ⟨⟨_, Try.underlying75, fun w => by simp [run_size (P := Try.prog) (t := 3) (n := 1) (by kernel_rfl), run_size (P := Try.prog) (t := 38) (n := 1) (by kernel_rfl), run_size (P := Try.prog) (t := 46) (n := 1) (by kernel_rfl)]⟩, by kernel_rfl⟩
instance : TRow Try.prog 75 4 := ⟨by kernel_rfl, by kernel_rfl⟩
instance : TZero Try.prog 75 ([.int .i64 0, .int .i64 0, .slice none 0 0, .int .u64 0]) := ⟨by kernel_rfl⟩
instance : TOne Try.prog 76 (.nilFunc) := ⟨by kernel_rfl, by kernel_rfl, rfl⟩
instance : TOne Try.prog 77 (.nilFunc) := ⟨by kernel_rfl, by kernel_rfl, rfl⟩
instance : TPtr Try.prog 78 119 := ⟨by kernel_rfl⟩
instance : TOne Try.prog 78 (.pointer none) := ⟨by kernel_rfl, by kernel_rfl, rfl⟩
instance : TOne Try.prog 79 (.nilFunc) := ⟨by kernel_rfl, by kernel_rfl, rfl⟩
instance : TOne Try.prog 80 (.nilFunc) := ⟨by kernel_rfl, by kernel_rfl, rfl⟩
instance : TOne Try.prog 81 (.nilFunc) := ⟨by kernel_rfl, by kernel_rfl, rfl⟩
instance : TOne Try.prog 82 (.nilFunc) := ⟨by kernel_rfl, by kernel_rfl, rfl⟩
instance : TOne Try.prog 83 (.nilFunc) := ⟨by kernel_rfl, by kernel_rfl, rfl⟩
instance : TOne Try.prog 84 (.nilFunc) := ⟨by kernel_rfl, by kernel_rfl, rfl⟩
instance : TOne Try.prog 85 (.nilFunc) := ⟨by kernel_rfl, by kernel_rfl, rfl⟩
instance : TOne Try.prog 86 (.nilFunc) := ⟨by kernel_rfl, by kernel_rfl, rfl⟩
instance : TOne Try.prog 87 (.nilFunc) := ⟨by kernel_rfl, by kernel_rfl, rfl⟩
instance : TSlice Try.prog 88 93 4 40 (zeroOf Try.prog 93) := ⟨by kernel_rfl, by kernel_rfl, by kernel_rfl⟩
instance : TOne Try.prog 88 (.slice none 0 0) := ⟨by kernel_rfl, by kernel_rfl, rfl⟩
instance : TOne Try.prog 89 (.nilFunc) := ⟨by kernel_rfl, by kernel_rfl, rfl⟩
instance : TPtr Try.prog 90 98 := ⟨by kernel_rfl⟩
instance : TOne Try.prog 90 (.pointer none) := ⟨by kernel_rfl, by kernel_rfl, rfl⟩
instance : TOne Try.prog 91 (.nilFunc) := ⟨by kernel_rfl, by kernel_rfl, rfl⟩
instance : TField Try.prog 92 0 0 1 := ⟨_, _, Try.underlying92, rfl, rfl, by kernel_rfl, by decide⟩
instance : TField Try.prog 92 1 1 1 := ⟨_, _, Try.underlying92, rfl, rfl, by kernel_rfl, by decide⟩
instance : TField Try.prog 92 2 2 1 := ⟨_, _, Try.underlying92, rfl, rfl, by kernel_rfl, by decide⟩
instance : TField Try.prog 92 3 3 1 := ⟨_, _, Try.underlying92, rfl, rfl, by kernel_rfl, by decide⟩
instance : TRow Try.prog 92 4 := ⟨by kernel_rfl, by kernel_rfl⟩
instance : TZero Try.prog 92 ([.int .i64 0, str [], .int .i64 0, .int .u64 0]) := ⟨by kernel_rfl⟩
instance : TField Try.prog 93 0 0 1 := ⟨_, _, Try.underlying93, rfl, rfl, by kernel_rfl, by decide⟩
instance : TField Try.prog 93 1 1 1 := ⟨_, _, Try.underlying93, rfl, rfl, by kernel_rfl, by decide⟩
instance : TField Try.prog 93 2 2 1 := ⟨_, _, Try.underlying93, rfl, rfl, by kernel_rfl, by decide⟩
instance : TField Try.prog 93 3 3 1 := ⟨_, _, Try.underlying93, rfl, rfl, by kernel_rfl, by decide⟩
instance : TPlaces Try.prog 93 [(0, 1), (1, 1), (2, 1), (3, 1)] ([.int .i64 0, str [], .int .i64 0, .int .u64 0]) := ⟨⟨_, Try.underlying93, fun w => by simp [run_size (P := Try.prog) (t := 3) (n := 1) (by kernel_rfl), run_size (P := Try.prog) (t := 9) (n := 1) (by kernel_rfl), run_size (P := Try.prog) (t := 38) (n := 1) (by kernel_rfl)]⟩, by kernel_rfl⟩
instance : TRow Try.prog 93 4 := ⟨by kernel_rfl, by kernel_rfl⟩
instance : TZero Try.prog 93 ([.int .i64 0, str [], .int .i64 0, .int .u64 0]) := ⟨by kernel_rfl⟩
instance : TOne Try.prog 94 (.nilFunc) := ⟨by kernel_rfl, by kernel_rfl, rfl⟩
instance : TOne Try.prog 96 (.nilFunc) := ⟨by kernel_rfl, by kernel_rfl, rfl⟩
instance : TField Try.prog 97 0 0 1 := ⟨_, _, Try.underlying97, rfl, rfl, by kernel_rfl, by decide⟩
instance : TField Try.prog 97 1 1 1 := ⟨_, _, Try.underlying97, rfl, rfl, by kernel_rfl, by decide⟩
instance : TField Try.prog 97 2 2 1 := ⟨_, _, Try.underlying97, rfl, rfl, by kernel_rfl, by decide⟩
instance : TPlaces Try.prog 97 [(0, 1), (1, 1), (2, 1)] ([.pointer none, .int .i64 0, .int .i64 0]) := ⟨⟨_, Try.underlying97, fun w => by simp [run_size (P := Try.prog) (t := 3) (n := 1) (by kernel_rfl), run_size (P := Try.prog) (t := 61) (n := 1) (by kernel_rfl)]⟩, by kernel_rfl⟩
instance : TRow Try.prog 97 3 := ⟨by kernel_rfl, by kernel_rfl⟩
instance : TZero Try.prog 97 ([.pointer none, .int .i64 0, .int .i64 0]) := ⟨by kernel_rfl⟩
instance : TField Try.prog 98 0 0 1 := ⟨_, _, Try.underlying98, rfl, rfl, by kernel_rfl, by decide⟩
instance : TField Try.prog 98 1 1 1 := ⟨_, _, Try.underlying98, rfl, rfl, by kernel_rfl, by decide⟩
instance : TField Try.prog 98 2 2 1 := ⟨_, _, Try.underlying98, rfl, rfl, by kernel_rfl, by decide⟩
instance : TPlaces Try.prog 98 [(0, 1), (1, 1), (2, 1)] ([.pointer none, .int .i64 0, .int .i64 0]) := ⟨⟨_, Try.underlying98, fun w => by simp [run_size (P := Try.prog) (t := 3) (n := 1) (by kernel_rfl), run_size (P := Try.prog) (t := 61) (n := 1) (by kernel_rfl)]⟩, by kernel_rfl⟩
instance : TRow Try.prog 98 3 := ⟨by kernel_rfl, by kernel_rfl⟩
instance : TZero Try.prog 98 ([.pointer none, .int .i64 0, .int .i64 0]) := ⟨by kernel_rfl⟩
instance : TOne Try.prog 99 (.nilFunc) := ⟨by kernel_rfl, by kernel_rfl, rfl⟩
instance : TOne Try.prog 100 (.nilFunc) := ⟨by kernel_rfl, by kernel_rfl, rfl⟩
instance : TOne Try.prog 102 (.nilFunc) := ⟨by kernel_rfl, by kernel_rfl, rfl⟩
instance : TInt Try.prog 103 .u64 := ⟨by kernel_rfl⟩
instance : TOne Try.prog 103 (.int .u64 0) := ⟨by kernel_rfl, by kernel_rfl, rfl⟩
instance : TSlice Try.prog 104 109 256 256 (zeroOf Try.prog 109) := ⟨by kernel_rfl, by kernel_rfl, by kernel_rfl⟩
instance : TOne Try.prog 104 (.slice none 0 0) := ⟨by kernel_rfl, by kernel_rfl, rfl⟩
instance : TSlice Try.prog 105 111 257 264 (zeroOf Try.prog 111) := ⟨by kernel_rfl, by kernel_rfl, by kernel_rfl⟩
instance : TOne Try.prog 105 (.slice none 0 0) := ⟨by kernel_rfl, by kernel_rfl, rfl⟩
instance : TField Try.prog 106 0 0 1 := ⟨_, _, Try.underlying106, rfl, rfl, by kernel_rfl, by decide⟩
instance : TField Try.prog 106 1 1 1 := ⟨_, _, Try.underlying106, rfl, rfl, by kernel_rfl, by decide⟩
instance : TField Try.prog 106 2 2 1 := ⟨_, _, Try.underlying106, rfl, rfl, by kernel_rfl, by decide⟩
instance : TField Try.prog 106 3 3 1 := ⟨_, _, Try.underlying106, rfl, rfl, by kernel_rfl, by decide⟩
instance : TField Try.prog 106 4 4 1 := ⟨_, _, Try.underlying106, rfl, rfl, by kernel_rfl, by decide⟩
instance : TField Try.prog 106 5 5 1 := ⟨_, _, Try.underlying106, rfl, rfl, by kernel_rfl, by decide⟩
instance : TField Try.prog 106 6 6 1 := ⟨_, _, Try.underlying106, rfl, rfl, by kernel_rfl, by decide⟩
instance : TRow Try.prog 106 7 := ⟨by kernel_rfl, by kernel_rfl⟩
instance : TZero Try.prog 106 ([.slice none 0 0, .slice none 0 0, .slice none 0 0, .bool false, .int .i64 0, .int .i64 0, .int .u64 0]) := ⟨by kernel_rfl⟩
instance : TField Try.prog 107 0 0 1 := ⟨_, _, Try.underlying107, rfl, rfl, by kernel_rfl, by decide⟩
instance : TField Try.prog 107 1 1 1 := ⟨_, _, Try.underlying107, rfl, rfl, by kernel_rfl, by decide⟩
instance : TField Try.prog 107 2 2 1 := ⟨_, _, Try.underlying107, rfl, rfl, by kernel_rfl, by decide⟩
instance : TField Try.prog 107 3 3 1 := ⟨_, _, Try.underlying107, rfl, rfl, by kernel_rfl, by decide⟩
instance : TField Try.prog 107 4 4 1 := ⟨_, _, Try.underlying107, rfl, rfl, by kernel_rfl, by decide⟩
instance : TField Try.prog 107 5 5 1 := ⟨_, _, Try.underlying107, rfl, rfl, by kernel_rfl, by decide⟩
instance : TField Try.prog 107 6 6 1 := ⟨_, _, Try.underlying107, rfl, rfl, by kernel_rfl, by decide⟩
instance : TPlaces Try.prog 107 [(0, 1), (1, 1), (2, 1), (3, 1), (4, 1), (5, 1), (6, 1)] ([.slice none 0 0, .slice none 0 0, .slice none 0 0, .bool false, .int .i64 0, .int .i64 0, .int .u64 0]) := ⟨⟨_, Try.underlying107, fun w => by simp [run_size (P := Try.prog) (t := 3) (n := 1) (by kernel_rfl), run_size (P := Try.prog) (t := 4) (n := 1) (by kernel_rfl), run_size (P := Try.prog) (t := 38) (n := 1) (by kernel_rfl), run_size (P := Try.prog) (t := 104) (n := 1) (by kernel_rfl), run_size (P := Try.prog) (t := 105) (n := 1) (by kernel_rfl)]⟩, by kernel_rfl⟩
instance : TRow Try.prog 107 7 := ⟨by kernel_rfl, by kernel_rfl⟩
instance : TZero Try.prog 107 ([.slice none 0 0, .slice none 0 0, .slice none 0 0, .bool false, .int .i64 0, .int .i64 0, .int .u64 0]) := ⟨by kernel_rfl⟩
instance : TArr Try.prog 108 256 5 1 := ⟨by kernel_rfl, by kernel_rfl⟩
instance : TRow Try.prog 108 256 := ⟨by kernel_rfl, by kernel_rfl⟩
instance : TZero Try.prog 108 (List.replicate 256 (.int .u8 0)) := ⟨by kernel_rfl⟩
instance : TArr Try.prog 109 256 5 1 := ⟨by kernel_rfl, by kernel_rfl⟩
instance : TRow Try.prog 109 256 := ⟨by kernel_rfl, by kernel_rfl⟩
instance : TZero Try.prog 109 (List.replicate 256 (.int .u8 0)) := ⟨by kernel_rfl⟩
instance : TField Try.prog 110 0 0 1 := ⟨_, _, Try.underlying110, rfl, rfl, by kernel_rfl, by decide⟩
instance : TField Try.prog 110 1 1 256 := ⟨_, _, Try.underlying110, rfl, rfl, by kernel_rfl, by decide⟩
instance : TRow Try.prog 110 257 := ⟨by kernel_rfl, by kernel_rfl⟩
instance : TZero Try.prog 110 ([.int .i64 0] ++ (List.replicate 256 (.int .u8 0))) := ⟨by kernel_rfl⟩
instance : TField Try.prog 111 0 0 1 := ⟨_, _, Try.underlying111, rfl, rfl, by kernel_rfl, by decide⟩
instance : TField Try.prog 111 1 1 256 := ⟨_, _, Try.underlying111, rfl, rfl, by kernel_rfl, by decide⟩
instance : TPlaces Try.prog 111 [(0, 1), (1, 256)] ([.int .i64 0] ++ (List.replicate 256 (.int .u8 0))) := ⟨⟨_, Try.underlying111, fun w => by simp [run_size (P := Try.prog) (t := 3) (n := 1) (by kernel_rfl), run_size (P := Try.prog) (t := 109) (n := 256) (by kernel_rfl)]⟩, by kernel_rfl⟩
instance : TRow Try.prog 111 257 := ⟨by kernel_rfl, by kernel_rfl⟩
instance : TZero Try.prog 111 ([.int .i64 0] ++ (List.replicate 256 (.int .u8 0))) := ⟨by kernel_rfl⟩
instance : TOne Try.prog 112 (.nilFunc) := ⟨by kernel_rfl, by kernel_rfl, rfl⟩
instance : TField Try.prog 113 0 0 1 := ⟨_, _, Try.underlying113, rfl, rfl, by kernel_rfl, by decide⟩
instance : TField Try.prog 113 1 1 1 := ⟨_, _, Try.underlying113, rfl, rfl, by kernel_rfl, by decide⟩
instance : TRow Try.prog 113 2 := ⟨by kernel_rfl, by kernel_rfl⟩
instance : TZero Try.prog 113 ([.int .i64 0, str []]) := ⟨by kernel_rfl⟩
instance : TField Try.prog 114 0 0 1 := ⟨_, _, Try.underlying114, rfl, rfl, by kernel_rfl, by decide⟩
instance : TField Try.prog 114 1 1 1 := ⟨_, _, Try.underlying114, rfl, rfl, by kernel_rfl, by decide⟩
instance : TPlaces Try.prog 114 [(0, 1), (1, 1)] ([.int .i64 0, str []]) := ⟨⟨_, Try.underlying114, fun w => by simp [run_size (P := Try.prog) (t := 3) (n := 1) (by kernel_rfl), run_size (P := Try.prog) (t := 9) (n := 1) (by kernel_rfl)]⟩, by kernel_rfl⟩
instance : TRow Try.prog 114 2 := ⟨by kernel_rfl, by kernel_rfl⟩
instance : TZero Try.prog 114 ([.int .i64 0, str []]) := ⟨by kernel_rfl⟩
instance : TOne Try.prog 115 (.nilFunc) := ⟨by kernel_rfl, by kernel_rfl, rfl⟩
instance : TOne Try.prog 116 (.nilFunc) := ⟨by kernel_rfl, by kernel_rfl, rfl⟩
instance : TOne Try.prog 117 (.nilFunc) := ⟨by kernel_rfl, by kernel_rfl, rfl⟩
instance : TField Try.prog 118 0 0 1 := ⟨_, _, Try.underlying118, rfl, rfl, by kernel_rfl, by decide⟩
instance : TField Try.prog 118 1 1 1 := ⟨_, _, Try.underlying118, rfl, rfl, by kernel_rfl, by decide⟩
instance : TField Try.prog 118 2 2 1 := ⟨_, _, Try.underlying118, rfl, rfl, by kernel_rfl, by decide⟩
instance : TField Try.prog 118 3 3 1 := ⟨_, _, Try.underlying118, rfl, rfl, by kernel_rfl, by decide⟩
instance : TRow Try.prog 118 4 := ⟨by kernel_rfl, by kernel_rfl⟩
instance : TZero Try.prog 118 ([.pointer none, .int .i64 0, .int .i64 0, .int .i64 0]) := ⟨by kernel_rfl⟩
instance : TField Try.prog 119 0 0 1 := ⟨_, _, Try.underlying119, rfl, rfl, by kernel_rfl, by decide⟩
instance : TField Try.prog 119 1 1 1 := ⟨_, _, Try.underlying119, rfl, rfl, by kernel_rfl, by decide⟩
instance : TField Try.prog 119 2 2 1 := ⟨_, _, Try.underlying119, rfl, rfl, by kernel_rfl, by decide⟩
instance : TField Try.prog 119 3 3 1 := ⟨_, _, Try.underlying119, rfl, rfl, by kernel_rfl, by decide⟩
instance : TPlaces Try.prog 119 [(0, 1), (1, 1), (2, 1), (3, 1)] ([.pointer none, .int .i64 0, .int .i64 0, .int .i64 0]) := ⟨⟨_, Try.underlying119, fun w => by simp [run_size (P := Try.prog) (t := 3) (n := 1) (by kernel_rfl), run_size (P := Try.prog) (t := 32) (n := 1) (by kernel_rfl)]⟩, by kernel_rfl⟩
instance : TRow Try.prog 119 4 := ⟨by kernel_rfl, by kernel_rfl⟩
instance : TZero Try.prog 119 ([.pointer none, .int .i64 0, .int .i64 0, .int .i64 0]) := ⟨by kernel_rfl⟩
instance : TOne Try.prog 120 (.nilFunc) := ⟨by kernel_rfl, by kernel_rfl, rfl⟩
instance : TOne Try.prog 121 (.nilFunc) := ⟨by kernel_rfl, by kernel_rfl, rfl⟩
instance : TOne Try.prog 122 (.nilFunc) := ⟨by kernel_rfl, by kernel_rfl, rfl⟩
instance : TOne Try.prog 123 (.nilFunc) := ⟨by kernel_rfl, by kernel_rfl, rfl⟩
instance : TOne Try.prog 124 (.nilFunc) := ⟨by kernel_rfl, by kernel_rfl, rfl⟩
instance : TPtr Try.prog 125 127 := ⟨by kernel_rfl⟩
instance : TOne Try.prog 125 (.pointer none) := ⟨by kernel_rfl, by kernel_rfl, rfl⟩
instance : TField Try.prog 126 0 0 1 := ⟨_, _, Try.underlying126, rfl, rfl, by kernel_rfl, by decide⟩
instance : TField Try.prog 126 1 1 1 := ⟨_, _, Try.underlying126, rfl, rfl, by kernel_rfl, by decide⟩
instance : TRow Try.prog 126 2 := ⟨by kernel_rfl, by kernel_rfl⟩
instance : TZero Try.prog 126 ([str [], .bool false]) := ⟨by kernel_rfl⟩
instance : TField Try.prog 127 0 0 1 := ⟨_, _, Try.underlying127, rfl, rfl, by kernel_rfl, by decide⟩
instance : TField Try.prog 127 1 1 1 := ⟨_, _, Try.underlying127, rfl, rfl, by kernel_rfl, by decide⟩
instance : TPlaces Try.prog 127 [(0, 1), (1, 1)] ([str [], .bool false]) := ⟨⟨_, Try.underlying127, fun w => by simp [run_size (P := Try.prog) (t := 4) (n := 1) (by kernel_rfl), run_size (P := Try.prog) (t := 9) (n := 1) (by kernel_rfl)]⟩, by kernel_rfl⟩
instance : TRow Try.prog 127 2 := ⟨by kernel_rfl, by kernel_rfl⟩
instance : TZero Try.prog 127 ([str [], .bool false]) := ⟨by kernel_rfl⟩
instance : TOne Try.prog 128 (.nilFunc) := ⟨by kernel_rfl, by kernel_rfl, rfl⟩
instance : TOne Try.prog 129 (.nilFunc) := ⟨by kernel_rfl, by kernel_rfl, rfl⟩
instance : TPtr Try.prog 130 135 := ⟨by kernel_rfl⟩
instance : TOne Try.prog 130 (.pointer none) := ⟨by kernel_rfl, by kernel_rfl, rfl⟩
instance : TOne Try.prog 131 (.nilFunc) := ⟨by kernel_rfl, by kernel_rfl, rfl⟩
instance : TOne Try.prog 133 (.nilFunc) := ⟨by kernel_rfl, by kernel_rfl, rfl⟩
instance : TField Try.prog 134 0 0 1 := ⟨_, _, Try.underlying134, rfl, rfl, by kernel_rfl, by decide⟩
instance : TField Try.prog 134 1 1 1 := ⟨_, _, Try.underlying134, rfl, rfl, by kernel_rfl, by decide⟩
instance : TRow Try.prog 134 2 := ⟨by kernel_rfl, by kernel_rfl⟩
instance : TZero Try.prog 134 ([.slice none 0 0, .bool false]) := ⟨by kernel_rfl⟩
instance : TField Try.prog 135 0 0 1 := ⟨_, _, Try.underlying135, rfl, rfl, by kernel_rfl, by decide⟩
instance : TField Try.prog 135 1 1 1 := ⟨_, _, Try.underlying135, rfl, rfl, by kernel_rfl, by decide⟩
instance : TPlaces Try.prog 135 [(0, 1), (1, 1)] ([.slice none 0 0, .bool false]) := ⟨⟨_, Try.underlying135, fun w => by simp [run_size (P := Try.prog) (t := 4) (n := 1) (by kernel_rfl), run_size (P := Try.prog) (t := 46) (n := 1) (by kernel_rfl)]⟩, by kernel_rfl⟩
instance : TRow Try.prog 135 2 := ⟨by kernel_rfl, by kernel_rfl⟩
instance : TZero Try.prog 135 ([.slice none 0 0, .bool false]) := ⟨by kernel_rfl⟩
instance : TOne Try.prog 137 (.nilFunc) := ⟨by kernel_rfl, by kernel_rfl, rfl⟩
instance : TField Try.prog 138 0 0 1 := ⟨_, _, Try.underlying138, rfl, rfl, by kernel_rfl, by decide⟩
instance : TField Try.prog 138 1 1 1 := ⟨_, _, Try.underlying138, rfl, rfl, by kernel_rfl, by decide⟩
instance : TField Try.prog 138 2 2 1 := ⟨_, _, Try.underlying138, rfl, rfl, by kernel_rfl, by decide⟩
instance : TField Try.prog 138 3 3 1 := ⟨_, _, Try.underlying138, rfl, rfl, by kernel_rfl, by decide⟩
instance : TRow Try.prog 138 4 := ⟨by kernel_rfl, by kernel_rfl⟩
instance : TZero Try.prog 138 ([.pointer none, .pointer none, .pointer none, str []]) := ⟨by kernel_rfl⟩
instance : TField Try.prog 139 0 0 1 := ⟨_, _, Try.underlying139, rfl, rfl, by kernel_rfl, by decide⟩
instance : TField Try.prog 139 1 1 1 := ⟨_, _, Try.underlying139, rfl, rfl, by kernel_rfl, by decide⟩
instance : TField Try.prog 139 2 2 1 := ⟨_, _, Try.underlying139, rfl, rfl, by kernel_rfl, by decide⟩
instance : TField Try.prog 139 3 3 1 := ⟨_, _, Try.underlying139, rfl, rfl, by kernel_rfl, by decide⟩
instance : TRow Try.prog 139 4 := ⟨by kernel_rfl, by kernel_rfl⟩
instance : TZero Try.prog 139 ([.pointer none, .pointer none, .pointer none, str []]) := ⟨by kernel_rfl⟩
instance : TArr Try.prog 140 0 16 1 := ⟨by kernel_rfl, by kernel_rfl⟩
instance : TRow Try.prog 140 0 := ⟨by kernel_rfl, by kernel_rfl⟩
instance : TZero Try.prog 140 ([]) := ⟨by kernel_rfl⟩
instance : TRow Try.prog 141 0 := ⟨by kernel_rfl, by kernel_rfl⟩
instance : TZero Try.prog 141 ([]) := ⟨by kernel_rfl⟩
instance : TRow Try.prog 142 0 := ⟨by kernel_rfl, by kernel_rfl⟩
instance : TZero Try.prog 142 ([]) := ⟨by kernel_rfl⟩
instance : TInt Try.prog 143 .u32 := ⟨by kernel_rfl⟩
instance : TOne Try.prog 143 (.int .u32 0) := ⟨by kernel_rfl, by kernel_rfl, rfl⟩
instance : TInt Try.prog 144 .u8 := ⟨by kernel_rfl⟩
instance : TOne Try.prog 144 (.int .u8 0) := ⟨by kernel_rfl, by kernel_rfl, rfl⟩
instance : TInt Try.prog 145 .u8 := ⟨by kernel_rfl⟩
instance : TOne Try.prog 145 (.int .u8 0) := ⟨by kernel_rfl, by kernel_rfl, rfl⟩
instance : TOne Try.prog 146 (.nilFunc) := ⟨by kernel_rfl, by kernel_rfl, rfl⟩
instance : TPtr Try.prog 147 5 := ⟨by kernel_rfl⟩
instance : TOne Try.prog 147 (.pointer none) := ⟨by kernel_rfl, by kernel_rfl, rfl⟩
instance : TInt Try.prog 148 .i32 := ⟨by kernel_rfl⟩
instance : TOne Try.prog 148 (.int .i32 0) := ⟨by kernel_rfl, by kernel_rfl, rfl⟩
instance : TInt Try.prog 149 .i32 := ⟨by kernel_rfl⟩
instance : TOne Try.prog 149 (.int .i32 0) := ⟨by kernel_rfl, by kernel_rfl, rfl⟩
instance : TField Try.prog 150 0 0 1 := ⟨_, _, Try.underlying150, rfl, rfl, by kernel_rfl, by decide⟩
instance : TField Try.prog 150 1 1 1 := ⟨_, _, Try.underlying150, rfl, rfl, by kernel_rfl, by decide⟩
instance : TField Try.prog 150 2 2 1 := ⟨_, _, Try.underlying150, rfl, rfl, by kernel_rfl, by decide⟩
instance : TField Try.prog 150 3 3 1 := ⟨_, _, Try.underlying150, rfl, rfl, by kernel_rfl, by decide⟩
instance : TField Try.prog 150 4 4 1 := ⟨_, _, Try.underlying150, rfl, rfl, by kernel_rfl, by decide⟩
instance : TField Try.prog 150 5 5 1 := ⟨_, _, Try.underlying150, rfl, rfl, by kernel_rfl, by decide⟩
instance : TField Try.prog 150 6 6 1 := ⟨_, _, Try.underlying150, rfl, rfl, by kernel_rfl, by decide⟩
instance : TField Try.prog 150 7 7 1 := ⟨_, _, Try.underlying150, rfl, rfl, by kernel_rfl, by decide⟩
instance : TField Try.prog 150 8 8 1 := ⟨_, _, Try.underlying150, rfl, rfl, by kernel_rfl, by decide⟩
instance : TField Try.prog 150 9 9 1 := ⟨_, _, Try.underlying150, rfl, rfl, by kernel_rfl, by decide⟩
instance : TField Try.prog 150 10 10 1 := ⟨_, _, Try.underlying150, rfl, rfl, by kernel_rfl, by decide⟩
instance : TRow Try.prog 150 11 := ⟨by kernel_rfl, by kernel_rfl⟩
instance : TZero Try.prog 150 ([.int .u64 0, .int .u64 0, .int .u32 0, .int .u8 0, .int .u8 0, .int .u8 0, .int .u8 0, .nilFunc, .pointer none, .int .i32 0, .int .i32 0]) := ⟨by kernel_rfl⟩
instance : TField Try.prog 151 0 0 1 := ⟨_, _, Try.underlying151, rfl, rfl, by kernel_rfl, by decide⟩
instance : TField Try.prog 151 1 1 1 := ⟨_, _, Try.underlying151, rfl, rfl, by kernel_rfl, by decide⟩
instance : TField Try.prog 151 2 2 1 := ⟨_, _, Try.underlying151, rfl, rfl, by kernel_rfl, by decide⟩
instance : TField Try.prog 151 3 3 1 := ⟨_, _, Try.underlying151, rfl, rfl, by kernel_rfl, by decide⟩
instance : TField Try.prog 151 4 4 1 := ⟨_, _, Try.underlying151, rfl, rfl, by kernel_rfl, by decide⟩
instance : TField Try.prog 151 5 5 1 := ⟨_, _, Try.underlying151, rfl, rfl, by kernel_rfl, by decide⟩
instance : TField Try.prog 151 6 6 1 := ⟨_, _, Try.underlying151, rfl, rfl, by kernel_rfl, by decide⟩
instance : TField Try.prog 151 7 7 1 := ⟨_, _, Try.underlying151, rfl, rfl, by kernel_rfl, by decide⟩
instance : TField Try.prog 151 8 8 1 := ⟨_, _, Try.underlying151, rfl, rfl, by kernel_rfl, by decide⟩
instance : TField Try.prog 151 9 9 1 := ⟨_, _, Try.underlying151, rfl, rfl, by kernel_rfl, by decide⟩
instance : TField Try.prog 151 10 10 1 := ⟨_, _, Try.underlying151, rfl, rfl, by kernel_rfl, by decide⟩
instance : TRow Try.prog 151 11 := ⟨by kernel_rfl, by kernel_rfl⟩
instance : TZero Try.prog 151 ([.int .u64 0, .int .u64 0, .int .u32 0, .int .u8 0, .int .u8 0, .int .u8 0, .int .u8 0, .nilFunc, .pointer none, .int .i32 0, .int .i32 0]) := ⟨by kernel_rfl⟩
instance : TOne Try.prog 152 (.pointer none) := ⟨by kernel_rfl, by kernel_rfl, rfl⟩
end Go.Proofs.Ytakeilefbcpabaa

/- The disk as plain data (what a call makes of it), and how it lies in memory. -/
namespace Go.Proofs.Ytakeilefbcpabaa
open Go.RowKit

/-! ### Plain data -/
abbrev Sec := List UInt8
def zeroSec : Sec := zeros 256
theorem zeroSec_length : zeroSec.length = 256 := zeros_length 256
def pad (s : List UInt8) : Sec := s ++ zeros (256 - s.length)
def secs (l : List Sec) : List Value := bvs l.flatten
def wcells (l : List (Nat × Sec)) : List Value := l.flatMap fun x => .int .i64 (x.1 : Int) :: bvs x.2

structure DiskM where
  now : List Sec
  safe : List Sec
  waits : List (Nat × Sec)
  down : Bool
  acts : Int
  fuse : Int
  keep : Int

structure DiskM.WF (D : DiskM) : Prop where
  most : D.now.length ≤ 4096
  same : D.safe.length = D.now.length
  now : ∀ s ∈ D.now, s.length = 256
  safe : ∀ s ∈ D.safe, s.length = 256
  waits : ∀ x ∈ D.waits, x.1 < D.now.length ∧ x.2.length = 256
  fuse0 : 0 ≤ D.fuse
  fuse1 : D.fuse ≤ 9223372036854775807
  keep0 : 0 ≤ D.keep
  keep1 : D.keep < 18446744073709551616

/-- The bit i mod 64 is set. -/
def bitAt (k : Int) (i : Nat) : Bool := decide (k / 2 ^ (i % 64) % 2 = 1)
def keptFrom (k : Int) : Nat → List (Nat × Sec) → List Sec → List Sec
  | _, [], s => s
  | i, x :: r, s => keptFrom k (i + 1) r (if bitAt k i then s.set x.1 x.2 else s)
namespace DiskM
def new (n : Nat) : DiskM := ⟨List.replicate n zeroSec, List.replicate n zeroSec, [], false, 0, 0, 0⟩
def kept (D : DiskM) (k : Int) : List Sec := keptFrom k 0 D.waits D.safe
def off (D : DiskM) (k : Int) : DiskM := if D.down then D else { D with now := D.kept k, safe := D.kept k, waits := [], down := true, fuse := 0 }
def on (D : DiskM) : DiskM := { D with down := false }
def arm (D : DiskM) (n k : Int) : DiskM := { D with fuse := max n 0, keep := k }
/-- What the power does in an act: it goes? what is kept then? -/
def goes (D : DiskM) : Bool := !D.down && decide (D.fuse = 1)
def keeps (D : DiskM) : Int := if D.goes then D.keep else 0
def act (D : DiskM) : DiskM := if D.down then D else { D with acts := wrap64 (D.acts + 1), fuse := if D.fuse = 0 then 0 else D.fuse - 1 }
def ready (D : DiskM) (i : Int) : Int := if D.down then 8 else if i < 0 ∨ (D.now.length : Int) ≤ i then 1 else 0
def put (D : DiskM) (i : Nat) (s : Sec) : DiskM := { D with now := D.now.set i s, waits := D.waits ++ [(i, s)] }
def writeE (D : DiskM) (i : Int) (n : Nat) : Int := if D.ready i ≠ 0 then D.ready i else if 256 < n then 3 else if D.goes then 8 else 0
def write (D : DiskM) (i : Int) (b : List UInt8) : DiskM :=
  if D.ready i ≠ 0 then D else if 256 < b.length then D else
  if D.goes then (D.act.put i.toNat (pad b)).off D.keep else D.act.put i.toNat (pad b)
def syncE (D : DiskM) : Int := if D.down then 8 else if D.goes then 8 else 0
def sync (D : DiskM) : DiskM := if D.down then D else if D.goes then D.act.off D.keep else { D.act with safe := D.act.now, waits := [] }
def forgeE (D : DiskM) (i : Int) (n : Nat) : Int := if i < 0 ∨ (D.now.length : Int) ≤ i then 1 else if 256 < n then 3 else 0
def forge (D : DiskM) (i : Int) (b : List UInt8) : DiskM :=
  if D.forgeE i b.length ≠ 0 then D else
  { D with now := D.now.set i.toNat (pad b), safe := D.safe.set i.toNat (pad b), waits := D.waits.filter fun x => x.1 != i.toNat }
def image (D : DiskM) : List UInt8 := D.now.flatten
end DiskM

/-! ### How it lies in memory -/
def diskCells (n s : Nat) (wv : Value) (D : DiskM) : Array Value :=
  #[.slice (some ⟨n, 0, none⟩) D.now.length D.now.length, .slice (some ⟨s, 0, none⟩) D.now.length D.now.length, wv, .bool D.down, .int .i64 D.acts, .int .i64 D.fuse, .int .u64 D.keep]
/-- The disk whose struct is block p; n, s: its sectors' blocks; wv: its waiting writes. -/
def DiskParts (p n s : Nat) (wv : Value) (D : DiskM) : List HP :=
  [Pt p (.cells (diskCells n s wv D) 107 (0, 0)), Pt n (.cells (secs D.now).toArray 109 (0, 0)), Pt s (.cells (secs D.safe).toArray 109 (0, 0)),
    OwnP 111 257 wv D.waits.length (wcells D.waits)]
def DiskAt (p : Nat) (D : DiskM) : HP := Pure D.WF (Ex fun n => Ex fun s => Ex fun wv => Join (DiskParts p n s wv D))

theorem St.openDisk {c : Con} {F : List HP} {w : World} {p : Nat} {D : DiskM} (H : St c (DiskAt p D :: F) w) :
    D.WF ∧ ∃ n s wv, St c (DiskParts p n s wv D ++ F) w := by
  obtain ⟨h0, H⟩ := St.pure H
  obtain ⟨n, H⟩ := St.ex H
  obtain ⟨s, H⟩ := St.ex H
  obtain ⟨wv, H⟩ := St.ex H
  exact ⟨h0, n, s, wv, St.join.1 H⟩
theorem St.shutDisk {c : Con} {F : List HP} {w : World} {p n s : Nat} {wv : Value} {D : DiskM} (h : D.WF) (H : St c (DiskParts p n s wv D ++ F) w) : St c (DiskAt p D :: F) w :=
  St.toPure h (St.toEx n (St.toEx s (St.toEx wv (St.join.2 H))))

theorem St.openDisk4 {c : Con} {F : List HP} {w : World} {p : Nat} {D : DiskM} (H : St c (DiskAt p D :: F) w) :
    D.WF ∧ ∃ n s wv, St c (Pt p (.cells (diskCells n s wv D) 107 (0, 0)) :: Pt n (.cells (secs D.now).toArray 109 (0, 0)) :: Pt s (.cells (secs D.safe).toArray 109 (0, 0)) ::
      OwnP 111 257 wv D.waits.length (wcells D.waits) :: F) w := H.openDisk

theorem St.openOwn {c : Con} {F : List HP} {w : World} {e : TypeId} {size n : Nat} {v : Value} {xs : List Value} (H : St c (OwnP e size v n xs :: F) w) :
    (v = .slice none 0 0 ∧ n = 0 ∧ xs = [] ∧ St c F w) ∨ ∃ g cap cur, v = .slice (some ⟨g, 0, none⟩) n cap ∧ n ≤ cap ∧ cap ≤ 9223372036854775807 ∧ cur.length = cap * size ∧ cur.take (n * size) = xs ∧ xs.length = n * size ∧ St c (Pt g (.cells (cur : List Value).toArray e (0, 0)) :: F) w := by
  obtain ⟨h, ⟨hx, ho⟩, l, r⟩ := H.stars
  rcases ho with ⟨h1, h2⟩ | ⟨g, cap, cur, h1, h2, h3, h4, h5, h6⟩
  · subst h2
    exact .inl ⟨h1, rfl, List.eq_nil_of_length_eq_zero (by simpa using hx), H.tail⟩
  · refine .inr ⟨g, cap, cur.toList, h1, h3, by simpa [maxLen] using h4, by simpa using h5, h6, hx, H.con, h, ?_, l, r⟩
    simpa [Pt] using h2
theorem own_shut {e : TypeId} {size n g cap : Nat} {cur xs : List Value} (h3 : n ≤ cap) (h4 : cap ≤ 9223372036854775807) (h5 : cur.length = cap * size) (h6 : cur.take (n * size) = xs) : ∀ h, Pt g (.cells cur.toArray e (0, 0)) h → OwnP e size (.slice (some ⟨g, 0, none⟩) n cap) n xs h := fun h hb => by
  have hle : n * size ≤ cur.length := by rw [h5]; exact Nat.mul_le_mul_right _ h3
  refine ⟨by rw [← h6, List.length_take]; omega, .inr ⟨g, cap, cur.toArray, rfl, hb, h3, by simpa [maxLen] using h4, by simpa using h5, by simpa using h6⟩⟩

/-! ### Plain laws -/
theorem drop_past {α : Type} (a b : List α) (n : Nat) : (a ++ b).drop (a.length + n) = b.drop n := by
  rw [← List.drop_drop, List.drop_left]
theorem take_past {α : Type} (a b : List α) (n : Nat) : (a ++ b).take (a.length + n) = a ++ b.take n := by
  rw [List.take_append, List.take_of_length_le (by omega), show a.length + n - a.length = n by omega]
theorem pad_length (b : List UInt8) (h : b.length ≤ 256) : (pad b).length = 256 := by rw [pad, List.length_append, zeros_length]; omega
theorem keptFrom_length (k : Int) : ∀ (l : List (Nat × Sec)) (i : Nat) (s : List Sec), (keptFrom k i l s).length = s.length
  | [], _, _ => rfl
  | x :: r, i, s => by rw [keptFrom, keptFrom_length k r]; split <;> simp
theorem keptFrom_all (k : Int) : ∀ (l : List (Nat × Sec)) (i : Nat) (s : List Sec), (∀ x ∈ l, x.2.length = 256) → (∀ x ∈ s, x.length = 256) → ∀ x ∈ keptFrom k i l s, x.length = 256
  | [], _, _, _, h => h
  | x :: r, i, s, hl, hs => by
    rw [keptFrom]
    refine keptFrom_all k r (i + 1) _ (fun y hy => hl y (List.mem_cons_of_mem _ hy)) fun y hy => ?_
    split at hy
    · rcases List.mem_or_eq_of_mem_set hy with h | h
      · exact hs y h
      · rw [h]; exact hl x List.mem_cons_self
    · exact hs y hy
theorem DiskM.WF.new (n : Nat) (h : n ≤ 4096) : (DiskM.new n).WF where
  most := by show (List.replicate n zeroSec).length ≤ 4096; rw [List.length_replicate]; exact h
  same := rfl
  now := by intro s hs; rw [(List.mem_replicate.1 hs).2]; exact zeroSec_length
  safe := by intro s hs; rw [(List.mem_replicate.1 hs).2]; exact zeroSec_length
  waits := by intro x hx; cases hx
  fuse0 := Int.le_refl _
  fuse1 := by show (0 : Int) ≤ _; omega
  keep0 := Int.le_refl _
  keep1 := by show (0 : Int) < _; omega
theorem DiskM.WF.off {D : DiskM} (h : D.WF) (k : Int) : (D.off k).WF := by
  unfold DiskM.off
  split
  · exact h
  · have hk : ∀ x ∈ D.kept k, x.length = 256 := keptFrom_all k _ _ _ (fun x hx => (h.waits x hx).2) h.safe
    have hl : (D.kept k).length = D.now.length := by rw [DiskM.kept, keptFrom_length, h.same]
    exact ⟨by rw [hl]; exact h.most, rfl, hk, hk, by intro x hx; simp at hx, by simp, by simp, h.keep0, h.keep1⟩
theorem DiskM.WF.act {D : DiskM} (h : D.WF) : D.act.WF := by
  unfold DiskM.act
  split
  · exact h
  · have := h.fuse0; have := h.fuse1
    refine ⟨h.most, h.same, h.now, h.safe, h.waits, ?_, ?_, h.keep0, h.keep1⟩ <;> (show _ ≤ _; dsimp only; split <;> omega)
theorem DiskM.WF.put {D : DiskM} (h : D.WF) (i : Nat) (s : Sec) (hi : i < D.now.length) (hs : s.length = 256) : (D.put i s).WF := by
  refine ⟨by simpa [DiskM.put] using h.most, by simpa [DiskM.put] using h.same, ?_, h.safe, ?_, h.fuse0, h.fuse1, h.keep0, h.keep1⟩
  · intro x hx
    rcases List.mem_or_eq_of_mem_set hx with h' | h'
    · exact h.now x h'
    · rw [h']; exact hs
  · intro x hx
    simp only [DiskM.put, List.mem_append, List.mem_singleton, List.length_set] at hx ⊢
    rcases hx with hx | rfl
    · exact h.waits x hx
    · exact ⟨hi, hs⟩
theorem DiskM.WF.on {D : DiskM} (h : D.WF) : D.on.WF := ⟨h.most, h.same, h.now, h.safe, h.waits, h.fuse0, h.fuse1, h.keep0, h.keep1⟩
theorem DiskM.WF.arm {D : DiskM} (h : D.WF) {n k : Int} (h1 : n ≤ 9223372036854775807) (h2 : 0 ≤ k) (h3 : k < 18446744073709551616) : (D.arm n k).WF := by
  refine ⟨h.most, h.same, h.now, h.safe, h.waits, ?_, ?_, h2, h3⟩ <;> simp only [DiskM.arm] <;> omega
theorem secs_length {l : List Sec} (h : ∀ s ∈ l, s.length = 256) : (secs l).length = l.length * 256 := by
  induction l with
  | nil => rfl
  | cons a l ih =>
    have h1 := h a List.mem_cons_self
    have h2 := ih fun s hs => h s (List.mem_cons_of_mem _ hs)
    simp only [secs, bvs, List.length_map, List.flatten_cons, List.length_append, List.length_cons] at h2 ⊢
    rw [h2, h1]; omega
/-- A waiting write's cells. -/
def wcell (x : Nat × Sec) : List Value := .int .i64 (x.1 : Int) :: bvs x.2
theorem wcells_cons (x : Nat × Sec) (l : List (Nat × Sec)) : wcells (x :: l) = wcell x ++ wcells l := rfl
theorem wcells_append (l m : List (Nat × Sec)) : wcells (l ++ m) = wcells l ++ wcells m := by simp [wcells]
theorem wcell_length {x : Nat × Sec} (h : x.2.length = 256) : (wcell x).length = 257 := by simp [wcell, bvs, h]
theorem wcells_length : ∀ {l : List (Nat × Sec)}, (∀ x ∈ l, x.2.length = 256) → (wcells l).length = l.length * 257
  | [], _ => rfl
  | x :: l, h => by
    rw [wcells_cons, List.length_append, wcell_length (h x List.mem_cons_self), wcells_length fun y hy => h y (List.mem_cons_of_mem _ hy), List.length_cons]; omega
/-- The j-th element's cells out of a row of elements. -/
theorem wcells_at : ∀ {l : List (Nat × Sec)} (_ : ∀ x ∈ l, x.2.length = 256) (j : Nat) (hj : j < l.length), ((wcells l).drop (j * 257)).take 257 = wcell l[j]
  | x :: l, h, 0, _ => by
    rw [Nat.zero_mul, List.drop_zero, wcells_cons]
    exact List.take_left' (wcell_length (h x List.mem_cons_self))
  | x :: l, h, j + 1, hj => by
    rw [wcells_cons, show (j + 1) * 257 = (wcell x).length + j * 257 by rw [wcell_length (h x List.mem_cons_self)]; omega, drop_past]
    exact wcells_at (fun y hy => h y (List.mem_cons_of_mem _ hy)) j (by simpa using hj)
theorem keptFrom_snoc (k : Int) : ∀ (l : List (Nat × Sec)) (i : Nat) (x : Nat × Sec) (s : List Sec), keptFrom k i (l ++ [x]) s = if bitAt k (i + l.length) then (keptFrom k i l s).set x.1 x.2 else keptFrom k i l s
  | [], i, x, s => by simp [keptFrom]
  | y :: l, i, x, s => by
    rw [List.cons_append, keptFrom, keptFrom_snoc k l, keptFrom, List.length_cons]
    rw [show i + 1 + l.length = i + (l.length + 1) by omega]
/-- A sector out of the sectors' row. -/
theorem secs_at : ∀ {l : List Sec} (_ : ∀ s ∈ l, s.length = 256) (j : Nat) (hj : j < l.length), ((secs l).drop (j * 256)).take 256 = bvs l[j]
  | x :: l, h, 0, _ => by
    rw [Nat.zero_mul, List.drop_zero]
    simp only [secs, bvs, List.flatten_cons, List.map_append, List.getElem_cons_zero]
    exact List.take_left' (by rw [List.length_map]; exact h x List.mem_cons_self)
  | x :: l, h, j + 1, hj => by
    have hx := h x List.mem_cons_self
    have e : secs (x :: l) = bvs x ++ secs l := by simp [secs, bvs]
    rw [e, show (j + 1) * 256 = (bvs x).length + j * 256 by rw [bvs, List.length_map, hx]; omega, drop_past]
    exact secs_at (fun y hy => h y (List.mem_cons_of_mem _ hy)) j (by simpa using hj)
/-- A sector laid over the sectors' row. -/
theorem secs_set : ∀ {l : List Sec} (_ : ∀ s ∈ l, s.length = 256) (j : Nat) (_ : j < l.length) {s : Sec} (_ : s.length = 256), secs (l.set j s) = splice (secs l) (j * 256) (bvs s)
  | x :: l, h, 0, _, s, hs => by
    have e : ∀ y, secs (y :: l) = bvs y ++ secs l := by intro y; simp [secs, bvs]
    have hx : (bvs x).length = 256 := by rw [bvs, List.length_map]; exact h x List.mem_cons_self
    have hs' : (bvs s).length = 256 := by rw [bvs, List.length_map]; exact hs
    rw [List.set_cons_zero, e, e, splice, Nat.zero_mul, List.take_zero, List.nil_append, Nat.zero_add, hs', ← hx, List.drop_left]
  | x :: l, h, j + 1, hj, s, hs => by
    have e : ∀ (y : Sec) (l : List Sec), secs (y :: l) = bvs y ++ secs l := by intro y l; simp [secs, bvs]
    have hx : (bvs x).length = 256 := by rw [bvs, List.length_map]; exact h x List.mem_cons_self
    rw [List.set_cons_succ, e, e, secs_set (fun y hy => h y (List.mem_cons_of_mem _ hy)) j (by simpa using hj) hs]
    simp only [splice]
    rw [show (j + 1) * 256 = (bvs x).length + j * 256 by omega, take_past, Nat.add_assoc, drop_past]
    simp only [List.append_assoc]
theorem DiskM.ready_zero {D : DiskM} {i : Int} (h : D.ready i = 0) : D.down = false ∧ 0 ≤ i ∧ i < D.now.length := by
  unfold DiskM.ready at h
  split at h
  · omega
  · rename_i hd
    split at h
    · omega
    · refine ⟨by simpa using hd, by omega, by omega⟩
theorem bit_test (k : Int) (j : Nat) (h0 : 0 ≤ k) (h1 : k < 18446744073709551616) : (bits BinOp.and IntKind.u64 (k / 2 ^ (j % 64)) 1 == 1) = bitAt k j := by
  have hp : (0 : Int) < 2 ^ (j % 64) := Int.pow_pos (by omega)
  have h2 : 0 ≤ k / 2 ^ (j % 64) := Int.ediv_nonneg h0 (by omega)
  have h3 : k / 2 ^ (j % 64) ≤ k := Int.ediv_le_self _ h0
  rw [and_one_u64 _ h2 (by omega)]
  rfl
end Go.Proofs.Ytakeilefbcpabaa

/- The disk's small functions: what each call does. -/
namespace Go.Proofs.Ytakeilefbcpabaa
open Go.RowKit

section
variable {c : Con} {F : List HP} {w : World} {p : Nat} {D : DiskM}

/-- Acts. -/
theorem disk_acts (H : St c (DiskAt p D :: F) w) :
    Calls Try.prog 39 #[.pointer (some ⟨p, 0, none⟩)] w fun e w' => e = .returned (.int .i64 D.acts) ∧ w = w' := by
  obtain ⟨_, n, s, wv, H⟩ := H.openDisk
  have h0 := H.pt
  have hc : ∀ j, w.cell? ⟨p, j, none⟩ = (diskCells n s wv D)[j]? := fun j => cell_of_row w p j _ _ _ h0
  unfold diskCells at hc
  clear h0
  go_enter Try.func39, Try.ntmps39
  go_wp2
  go_ret
  exact ⟨rfl, rfl⟩
/-- Down. -/
theorem disk_down (H : St c (DiskAt p D :: F) w) :
    Calls Try.prog 40 #[.pointer (some ⟨p, 0, none⟩)] w fun e w' => e = .returned (.bool D.down) ∧ w = w' := by
  obtain ⟨_, n, s, wv, H⟩ := H.openDisk
  have h0 := H.pt
  have hc : ∀ j, w.cell? ⟨p, j, none⟩ = (diskCells n s wv D)[j]? := fun j => cell_of_row w p j _ _ _ h0
  unfold diskCells at hc
  clear h0
  go_enter Try.func40, Try.ntmps40
  go_wp2
  go_ret
  exact ⟨rfl, rfl⟩
theorem disk_down_nil (w : World) :
    Calls Try.prog 40 #[.pointer none] w fun e w' => e = .returned (.bool false) ∧ w = w' := by
  go_enter Try.func40, Try.ntmps40
  go_wp2
  go_ret
  exact ⟨rfl, rfl⟩
/-- Size. -/
theorem disk_size (H : St c (DiskAt p D :: F) w) :
    Calls Try.prog 28 #[.pointer (some ⟨p, 0, none⟩)] w fun e w' => e = .returned (.int .i64 D.now.length) ∧ w = w' := by
  obtain ⟨_, n, s, wv, H⟩ := H.openDisk
  have h0 := H.pt
  have hc : ∀ j, w.cell? ⟨p, j, none⟩ = (diskCells n s wv D)[j]? := fun j => cell_of_row w p j _ _ _ h0
  unfold diskCells at hc
  clear h0
  go_enter Try.func28, Try.ntmps28
  go_wp2
  go_ret
  exact ⟨rfl, rfl⟩
/-- ready. -/
theorem disk_ready (H : St c (DiskAt p D :: F) w) (i : Int) (hi0 : -9223372036854775808 ≤ i) (hi1 : i ≤ 9223372036854775807) :
    Calls Try.prog 58 #[.pointer (some ⟨p, 0, none⟩), .int .i64 i] w fun e w' => e = .returned (.int .i64 (D.ready i)) ∧ w = w' := by
  obtain ⟨hw, n, s, wv, H⟩ := H.openDisk
  have h0 := H.pt
  have hc : ∀ j, w.cell? ⟨p, j, none⟩ = (diskCells n s wv D)[j]? := fun j => cell_of_row w p j _ _ _ h0
  have hm := hw.most
  unfold diskCells at hc
  clear h0 hw
  obtain ⟨now, safe, waits, down, acts, fuse, keep⟩ := D
  dsimp only at hc hm
  have hr : (DiskM.mk now safe waits down acts fuse keep).ready i = if down then 8 else if i < 0 ∨ (now.length : Int) ≤ i then 1 else 0 := rfl
  cases down
  · by_cases h1 : i < 0
    · have hr' : (DiskM.mk now safe waits false acts fuse keep).ready i = 1 := by rw [hr]; simp [h1]
      rw [hr']; clear hr hr'
      go_enter Try.func58, Try.ntmps58
      go_wp2
      go_ret
      exact ⟨rfl, rfl⟩
    · have h1' : 0 ≤ i := by omega
      have hd : decide (i < 0) = false := by simpa using h1
      by_cases h2 : (now.length : Int) ≤ i
      · have hr' : (DiskM.mk now safe waits false acts fuse keep).ready i = 1 := by rw [hr]; simp [h2]
        rw [hr']; clear hr hr'
        go_enter Try.func58, Try.ntmps58
        go_wp2
        go_ret
        exact ⟨rfl, rfl⟩
      · have hr' : (DiskM.mk now safe waits false acts fuse keep).ready i = 0 := by rw [hr]; simp [h1, h2]
        rw [hr']; clear hr hr'
        have h2' : i < (now.length : Int) := by omega
        have hd2 : decide ((now.length : Int) ≤ i) = false := by simpa using h2'
        go_enter Try.func58, Try.ntmps58
        go_wp2
        go_ret
        exact ⟨rfl, rfl⟩
  · rw [hr]; clear hr
    go_enter Try.func58, Try.ntmps58
    go_wp2
    go_ret
    exact ⟨rfl, rfl⟩
end
end Go.Proofs.Ytakeilefbcpabaa

/- The disk's acts, its switch and its fuse: what each call does. -/
namespace Go.Proofs.Ytakeilefbcpabaa
open Go.RowKit

section
variable {c : Con} {F : List HP} {w : World} {p : Nat} {D : DiskM}

/-- Behind stores into the struct alone. -/
theorem St.diskCells {n s : Nat} {wv : Value} {D' : DiskM} {w' : World} (H : St c (Pt p (.cells (diskCells n s wv D') 107 (0, 0)) :: Pt n (.cells (secs D.now).toArray 109 (0, 0)) ::
      Pt s (.cells (secs D.safe).toArray 109 (0, 0)) :: OwnP 111 257 wv D.waits.length (wcells D.waits) :: F) w')
    (h : D'.WF) (h1 : D'.now = D.now) (h2 : D'.safe = D.safe) (h3 : D'.waits = D.waits) : St c (DiskAt p D' :: F) w' := by
  refine St.shutDisk (n := n) (s := s) (wv := wv) h ?_
  show St c (_ :: _ :: _ :: _ :: F) w'
  rw [h1, h2, h3]
  exact H

/-- On. -/
theorem disk_on (H : St c (DiskAt p D :: F) w) :
    Calls Try.prog 24 #[.pointer (some ⟨p, 0, none⟩)] w fun e w' => e = .returned (.tuple #[]) ∧ St c (DiskAt p D.on :: F) w' := by
  obtain ⟨hw, n, s, wv, H⟩ := H.openDisk
  have h0 := H.pt
  have hc : ∀ j, w.cell? ⟨p, j, none⟩ = (Go.Proofs.Ytakeilefbcpabaa.diskCells n s wv D)[j]? := fun j => cell_of_row w p j _ _ _ h0
  have hf : ∀ j, w.frozen? ⟨p, j, none⟩ = false := fun j => frozen_of_row w p j _ _ h0
  unfold Go.Proofs.Ytakeilefbcpabaa.diskCells at hc
  clear h0
  have HF : ∀ b w', St c (DiskParts p n s wv D ++ F) w → w' = w.setCell ⟨p, 3, none⟩ (.bool b) → b = false → St c (DiskAt p D.on :: F) w' := by
    rintro b w' H rfl rfl
    exact St.diskCells (D := D) (D' := D.on) (H.setPt 3 (.bool false)) hw.on rfl rfl rfl
  go_enter Try.func24, Try.ntmps24
  go_wp2
  go_end0
  exact ⟨rfl, HF _ _ H rfl rfl⟩
/-- Arm. -/
theorem disk_arm (H : St c (DiskAt p D :: F) w) (i k : Int) (h1 : -9223372036854775808 ≤ i) (h2 : i ≤ 9223372036854775807) (h3 : 0 ≤ k) (h4 : k < 18446744073709551616) :
    Calls Try.prog 23 #[.pointer (some ⟨p, 0, none⟩), .int .i64 i, .int .u64 k] w fun e w' => e = .returned (.tuple #[]) ∧ St c (DiskAt p (D.arm i k) :: F) w' := by
  obtain ⟨hw, n, s, wv, H⟩ := H.openDisk
  have h0 := H.pt
  have hc : ∀ j, w.cell? ⟨p, j, none⟩ = (Go.Proofs.Ytakeilefbcpabaa.diskCells n s wv D)[j]? := fun j => cell_of_row w p j _ _ _ h0
  have hf : ∀ j, w.frozen? ⟨p, j, none⟩ = false := fun j => frozen_of_row w p j _ _ h0
  unfold Go.Proofs.Ytakeilefbcpabaa.diskCells at hc
  clear h0
  have HF : ∀ m w', St c (DiskParts p n s wv D ++ F) w → w' = (w.setCell ⟨p, 5, none⟩ (.int .i64 m)).setCell ⟨p, 6, none⟩ (.int .u64 k) → m = max i 0 → St c (DiskAt p (D.arm i k) :: F) w' := by
    rintro m w' H rfl rfl
    exact St.diskCells (D := D) (D' := D.arm i k) ((H.setPt 5 (.int .i64 (max i 0))).setPt 6 (.int .u64 k)) (hw.arm h2 h3 h4) rfl rfl rfl
  go_enter Try.func23, Try.ntmps23
  go_wp2
  · go_end0
    exact ⟨rfl, HF _ _ H rfl (by omega)⟩
  · go_end0
    exact ⟨rfl, HF _ _ H rfl (by omega)⟩
/-- Act. -/
theorem disk_act (H : St c (DiskAt p D :: F) w) :
    Calls Try.prog 57 #[.pointer (some ⟨p, 0, none⟩)] w fun e w' => e = .returned (.tuple #[.bool D.goes, .int .u64 D.keeps]) ∧ St c (DiskAt p D.act :: F) w' := by
  obtain ⟨hw, n, s, wv, H⟩ := H.openDisk
  have h0 := H.pt
  have hc : ∀ j, w.cell? ⟨p, j, none⟩ = (Go.Proofs.Ytakeilefbcpabaa.diskCells n s wv D)[j]? := fun j => cell_of_row w p j _ _ _ h0
  have hf : ∀ j, w.frozen? ⟨p, j, none⟩ = false := fun j => frozen_of_row w p j _ _ h0
  unfold Go.Proofs.Ytakeilefbcpabaa.diskCells at hc
  clear h0
  have f0 := hw.fuse0
  have f1 := hw.fuse1
  obtain ⟨now, safe, waits, down, acts, fuse, keep⟩ := D
  dsimp only at hc f0 f1
  cases down
  · by_cases e0 : fuse = 0
    · subst e0
      have HF : ∀ w' : World, St c (DiskParts p n s wv ⟨now, safe, waits, false, acts, 0, keep⟩ ++ F) w → w' = w.setCell ⟨p, 4, none⟩ (.int .i64 (wrap64 (acts + 1))) → St c (DiskAt p (DiskM.act ⟨now, safe, waits, false, acts, 0, keep⟩) :: F) w' := by
        rintro w' H rfl
        exact St.diskCells (D := ⟨now, safe, waits, false, acts, 0, keep⟩) (H.setPt 4 (.int .i64 (wrap64 (acts + 1)))) hw.act rfl rfl rfl
      go_enter Try.func57, Try.ntmps57
      go_wp2
      go_ret2
      exact ⟨rfl, HF _ H rfl⟩
    · have hd : (fuse == 0) = false := by simpa using e0
      have e0' : 1 ≤ fuse := by omega
      by_cases e1 : fuse = 1
      · subst e1
        clear e0
        have HF : ∀ (w' : World) (nq : Nat), St c (DiskParts p n s wv ⟨now, safe, waits, false, acts, 1, keep⟩ ++ F) w → w' = ((w.setCell ⟨p, 4, none⟩ (.int .i64 (wrap64 (acts + 1)))).setCell ⟨p, 5, none⟩ (.int .i64 0)).drewN nq → St c (DiskAt p (DiskM.act ⟨now, safe, waits, false, acts, 1, keep⟩) :: F) w' := by
          rintro w' nq H rfl
          exact St.diskCells (D := ⟨now, safe, waits, false, acts, 1, keep⟩) (((H.setPt 4 (.int .i64 (wrap64 (acts + 1)))).setPt 5 (.int .i64 0)).drewN nq) hw.act rfl rfl rfl
        go_enter Try.func57, Try.ntmps57
        go_wp2
        go_quiet (fail)
        go_wp2
        go_ret2
        exact ⟨rfl, HF _ _ H rfl⟩
      · have hg : DiskM.goes ⟨now, safe, waits, false, acts, fuse, keep⟩ = false := by simp [DiskM.goes, e1]
        have hk : DiskM.keeps ⟨now, safe, waits, false, acts, fuse, keep⟩ = 0 := by simp [DiskM.keeps, hg]
        rw [hg, hk]; clear hg hk
        have e1' : 1 < fuse := by omega
        clear e1
        have ha : DiskM.act ⟨now, safe, waits, false, acts, fuse, keep⟩ = ⟨now, safe, waits, false, wrap64 (acts + 1), fuse - 1, keep⟩ := by simp [DiskM.act, e0]
        have hwa := hw.act
        rw [ha] at hwa ⊢; clear ha e0
        have HF : ∀ w' : World, St c (DiskParts p n s wv ⟨now, safe, waits, false, acts, fuse, keep⟩ ++ F) w → w' = (w.setCell ⟨p, 4, none⟩ (.int .i64 (wrap64 (acts + 1)))).setCell ⟨p, 5, none⟩ (.int .i64 (fuse - 1)) → St c (DiskAt p ⟨now, safe, waits, false, wrap64 (acts + 1), fuse - 1, keep⟩ :: F) w' := by
          rintro w' H rfl
          exact St.diskCells (D := ⟨now, safe, waits, false, acts, fuse, keep⟩) ((H.setPt 4 (.int .i64 (wrap64 (acts + 1)))).setPt 5 (.int .i64 (fuse - 1))) hwa rfl rfl rfl
        go_enter Try.func57, Try.ntmps57
        go_wp2
        go_ret2
        exact ⟨rfl, HF _ H rfl⟩
  · have HF : ∀ w' : World, St c (DiskParts p n s wv ⟨now, safe, waits, true, acts, fuse, keep⟩ ++ F) w → w' = w → St c (DiskAt p (DiskM.act ⟨now, safe, waits, true, acts, fuse, keep⟩) :: F) w' := by
      rintro w' H rfl
      exact St.shutDisk hw H
    go_enter Try.func57, Try.ntmps57
    go_wp2
    go_ret2
    exact ⟨rfl, HF _ H rfl⟩
theorem disk_act_nil (w : World) :
    Calls Try.prog 57 #[.pointer none] w fun e w' => e = .returned (.tuple #[.bool false, .int .u64 0]) ∧ w = w' := by
  go_enter Try.func57, Try.ntmps57
  go_wp2
  go_ret2
  exact ⟨rfl, rfl⟩
end
end Go.Proofs.Ytakeilefbcpabaa

/- The power goes: what Off does. -/
namespace Go.Proofs.Ytakeilefbcpabaa
open Go.RowKit

def zeroWrite : Array Value := #[.int .i64 0] ++ Array.replicate 256 (.int .u8 0)
theorem zeroWrite_info : (Try.prog.info? 111).map (fun i => (i.zero, i.size)) = some (some (.agg zeroWrite), 257) := by kernel_rfl
theorem sector_info : (Try.prog.info? 109).map (·.size) = some 256 := by kernel_rfl

section
variable {c : Con} {F : List HP} {w : World} {p : Nat} {D : DiskM}

set_option maxRecDepth 100000 in
set_option maxHeartbeats 1000000 in
theorem disk_off (H : St c (DiskAt p D :: F) w) (k : Int) (hk0 : 0 ≤ k) (hk1 : k < 18446744073709551616) :
    Calls Try.prog 22 #[.pointer (some ⟨p, 0, none⟩), .int .u64 k] w fun e w' => e = .returned (.tuple #[]) ∧ St c (DiskAt p (D.off k) :: F) w' := by
  obtain ⟨hw, n, s, wv, H⟩ := H.openDisk
  have h0 := H.pt
  have hc : ∀ j, w.cell? ⟨p, j, none⟩ = (Go.Proofs.Ytakeilefbcpabaa.diskCells n s wv D)[j]? := fun j => cell_of_row w p j _ _ _ h0
  have hf : ∀ j, w.frozen? ⟨p, j, none⟩ = false := fun j => frozen_of_row w p j _ _ h0
  unfold Go.Proofs.Ytakeilefbcpabaa.diskCells at hc
  clear h0
  obtain ⟨now, safe, waits, down, acts, fuse, keep⟩ := D
  dsimp only at hc
  cases down
  · obtain ⟨A, n', cap, hv, hA⟩ : ∃ A n' cap, wv = .slice A n' cap ∧ n' = waits.length := by
      obtain ⟨h, ⟨hx, ho⟩, _⟩ := H.pull3.get
      rcases ho with ⟨rfl, e⟩ | ⟨g, cap, cur, rfl, _⟩
      · exact ⟨_, _, _, rfl, e.symm⟩
      · exact ⟨_, _, _, rfl, rfl⟩
    subst hv hA
    go_enter Try.func22, Try.ntmps22
    go_wp2
    go_loopw [19] (fun i wr => ∃ j : Nat, j ≤ waits.length ∧ i = .int .i64 j ∧
        St c (DiskParts p n s (.slice A waits.length cap) ⟨now, keptFrom k 0 (waits.take j) safe, waits, false, acts, fuse, keep⟩ ++ F) wr)
      (fun i _ => waits.length - (intOf i).toNat)
    case atStart => exact ⟨0, Nat.zero_le _, rfl, H⟩
    case round =>
      obtain ⟨j, hj, rfl, H1⟩ := hrel
      clear hc hf
      by_cases hlt : j < waits.length
      · obtain ⟨g, cur, hA, hg, hcs, htake, _, hcap, hmax⟩ := owned_some H1.pull3 (by dsimp only; omega)
        have hmax : waits.length ≤ 9223372036854775807 := Nat.le_trans hcap hmax
        obtain rfl : A = some ⟨g, 0, none⟩ := hA
        have hx := hw.waits waits[j] (List.getElem_mem hlt)
        have hall : ∀ x ∈ waits, x.2.length = 256 := fun x hx => (hw.waits x hx).2
        have hcl : j * 257 + 257 ≤ cur.size := by
          have e := congrArg List.length htake
          rw [List.length_take, wcells_length hall, Array.length_toList] at e
          omega
        have hrow : cur.extract (j * 257) (j * 257 + 257) = (wcell waits[j]).toArray := by
          rw [← wcells_at hall j hlt, ← htake]
          apply Array.ext'
          rw [Array.toList_extract, List.extract_eq_take_drop, List.drop_take, List.take_take]
          congr 1
          simp only
          omega
        have hcz : (wcell waits[j]).toArray.size = 257 := by rw [List.size_toArray, wcell_length hx.2]
        have hzz : zeroWrite.size = 257 := by kernel_rfl
        have hone : (wcell waits[j]).toArray.all (·.oneCell') = true := all_oneCell_toArray (by
            intro v hv
            rcases List.mem_cons.1 hv with rfl | hv
            · rfl
            · exact bvs_oneCell _ v hv)
        have hmh : wr.heap.size < 9223372036854775807 ∨ True := .inr trivial
        generalize hcell : (wcell waits[j]).toArray = cell at *
        have Hcell := Lib.hid hcell
        have Htake := Lib.hid htake
        have Hcap := Lib.hid hcap
        have Hcs := Lib.hid hcs
        clear hcell htake hall hcap hcs
        have iw : (Try.prog.info? 111).map (·.size) = some 257 := by kernel_rfl
        have Hg := Lib.hid hg
        have Hrow := Lib.hid hrow
        have Hcz := Lib.hid hcz
        have Hzz := Lib.hid hzz
        have Hiw := Lib.hid iw
        have Hone := Lib.hid hone
        have hbit := bit_test k j hk0 hk1
        have hx2 := hx.2
        have hx1 : waits[j].1 < now.length := hx.1
        have Hx2 := Lib.hid hx2
        have hsnoc : keptFrom k 0 (waits.take (j + 1)) safe = if bitAt k j then (keptFrom k 0 (waits.take j) safe).set waits[j].1 waits[j].2 else keptFrom k 0 (waits.take j) safe := by
          rw [List.take_succ_eq_append_getElem hlt, keptFrom_snoc, List.length_take, Nat.zero_add, Nat.min_eq_left hj]
        have Hsnoc := Lib.hid hsnoc
        clear hg hrow hcz hzz iw hone hx hx2 hsnoc
        cases hb : bitAt k j
        · rw [hb] at hbit Hsnoc
          rw [if_neg (by simp)] at Hsnoc
          clear hb
          go_wp2_with (first
            | (refine go_load_row (P := Try.prog) (op := ⟨some 23, .load 111 (.tmp 22), _, _, _, _⟩) (by rfl) _ _ (by rfl) g (j * 257) 257 (by rfl) cur cell 111 (0, 0) _ (by exact Hg.out) hcl Hrow.out Try.underlying111 (by rfl) Hiw.out ?_)
            | (refine go_alloc_big (P := Try.prog) (op := ⟨some 5, .alloc 111, _, _, _, _⟩) (by rfl) _ (by rfl) zeroWrite_info ?_)
            | (refine go_store_new (P := Try.prog) (op := ⟨none, .store 111 (.tmp 5) (.tmp 23), _, _, _, _⟩) (by rfl) _ _ _ (by rfl) wr zeroWrite cell (by rfl) (by rfl) (by rfl) (by rw [Hcz.out]; exact Hiw.out) (Hzz.out.trans Hcz.out.symm) Hone.out ?_))
          go_roundw
          case rel => exact ⟨j + 1, by omega, by go_num, by rw [Hsnoc.out]; exact H1.alloc _⟩
          case measure => simp [intOf]; omega
        · rw [hb] at hbit Hsnoc
          rw [if_pos rfl] at Hsnoc
          clear hb
          go_wp2_with (first
            | (refine go_load_row (P := Try.prog) (op := ⟨some 23, .load 111 (.tmp 22), _, _, _, _⟩) (by rfl) _ _ (by rfl) g (j * 257) 257 (by rfl) cur cell 111 (0, 0) _ (by exact Hg.out) hcl Hrow.out Try.underlying111 (by rfl) Hiw.out ?_)
            | (refine go_alloc_big (P := Try.prog) (op := ⟨some 5, .alloc 111, _, _, _, _⟩) (by rfl) _ (by rfl) zeroWrite_info ?_)
            | (refine go_store_new (P := Try.prog) (op := ⟨none, .store 111 (.tmp 5) (.tmp 23), _, _, _, _⟩) (by rfl) _ _ _ (by rfl) wr zeroWrite cell (by rfl) (by rfl) (by rfl) (by rw [Hcz.out]; exact Hiw.out) (Hzz.out.trans Hcz.out.symm) Hone.out ?_))
          refine wp_gen (H1.allocPt (.cells cell 111)) ?_
          intro W HW
          generalize wr.heap.size = v at HW ⊢
          have hv := HW.pt
          have hp := HW.tail.pt
          have hs := HW.tail.tail.tail.pt
          have hc0 : W.cell? ⟨v, 0, none⟩ = some (.int .i64 (waits[j].1 : Int)) := by rw [cell_of_row W v 0 _ _ _ hv, ← Hcell.out]; rfl
          have hc1 : W.cell? ⟨p, 1, none⟩ = some (.slice (some ⟨s, 0, none⟩) now.length now.length) := cell_of_row W p 1 _ _ _ hp
          have hext : cell.extract 1 (1 + 256) = (bvs waits[j].2).toArray := by
            rw [← Hcell.out]
            apply Array.ext'
            rw [Array.toList_extract, List.extract_eq_take_drop, List.toList_toArray, wcell, List.drop_one, List.tail_cons]
            exact List.take_of_length_le (by rw [bvs, List.length_map, Hx2.out]; omega)
          have Hext := Lib.hid hext
          have Hv := Lib.hid hv
          have Hs := Lib.hid hs
          clear hv hp hs hext
          have hu9 := Lib.hid (show (Try.prog.info? 109).map (·.size) = some 256 from by kernel_rfl)
          have hKl : (keptFrom k 0 (waits.take j) safe).length = now.length := (keptFrom_length _ _ _ _).trans hw.same
          have hKa : ∀ x ∈ keptFrom k 0 (waits.take j) safe, x.length = 256 := keptFrom_all k _ _ _ (fun x hx => (hw.waits x (List.mem_of_mem_take hx)).2) hw.safe
          have hbl := Lib.hid (show (secs (keptFrom k 0 (waits.take j) safe)).toArray.size = now.length * 256 from by rw [List.size_toArray, secs_length hKa, hKl])
          have hbl2 := Lib.hid (show (bvs waits[j].2).toArray.size = 256 from by rw [List.size_toArray, bvs, List.length_map, Hx2.out])
          refine region_tail 9 (by kernel_rfl) (by kernel_rfl) ?_
          simp only [List.take_succ_cons, List.take_zero, List.drop_succ_cons, List.drop_zero]
          iterate 7 still_step
          refine still_load_row (P := Try.prog) (op := ⟨some 37, .load 109 (.tmp 36), _, _, _, _⟩) (by rfl) _ _ (by rfl) v 1 256 (by rfl) cell (bvs waits[j].2).toArray 111 (0, 0) _ (by exact Hv.out) (by rw [Hcz.out]; omega) Hext.out Try.underlying109 (by rfl) hu9.out ?_
          still_step
          refine wpStill_nil ?_
          refine go_store_row (P := Try.prog) (op := ⟨none, .store 109 (.tmp 38) (.tmp 37), _, _, _, _⟩) (by rfl) _ _ _ (by rfl) s (waits[j].1 * 256) (bvs waits[j].2).toArray (secs (keptFrom k 0 (waits.take j) safe)).toArray (by rfl) (by rfl) 109 (by exact Hs.out) (by rw [hbl.out, hbl2.out]; omega) (by rw [hbl2.out]; exact hu9.out) (all_oneCell_toArray (bvs_oneCell _)) ?_
          refine wpList_nil ?_
          have H2 := (HW.drew.tail.pull2.setRowPt (splice (secs (keptFrom k 0 (waits.take j) safe)).toArray.toList (waits[j].1 * 256) (bvs waits[j].2).toArray.toList).toArray).push2
          have hset : (splice (secs (keptFrom k 0 (waits.take j) safe)).toArray.toList (waits[j].1 * 256) (bvs waits[j].2).toArray.toList).toArray = (secs (keptFrom k 0 (waits.take (j + 1)) safe)).toArray := by
            rw [Hsnoc.out, secs_set hKa _ (by rw [hKl]; exact hx1) Hx2.out]
          have Hset := Lib.hid hset
          clear hset hc0 hc1 hKa
          go_wp2
          go_roundw
          case rel => exact ⟨j + 1, by omega, by go_num, by rw [Hset.out] at H2 ⊢; exact H2⟩
          case measure => simp [intOf]; omega
      · obtain rfl : j = waits.length := by omega
        rw [List.take_length] at H1
        go_wp2
        have hp := H1.pt
        have hn := H1.tail.pt
        have hs := H1.tail.tail.pt
        have hc0 : wr.cell? ⟨p, 0, none⟩ = some (.slice (some ⟨n, 0, none⟩) now.length now.length) := cell_of_row wr p 0 _ _ _ hp
        have hc1 : wr.cell? ⟨p, 1, none⟩ = some (.slice (some ⟨s, 0, none⟩) now.length now.length) := cell_of_row wr p 1 _ _ _ hp
        have hKl : (keptFrom k 0 waits safe).length = now.length := (keptFrom_length _ _ _ _).trans hw.same
        have hKa : ∀ x ∈ keptFrom k 0 waits safe, x.length = 256 := keptFrom_all k _ _ _ (fun x hx => (hw.waits x hx).2) hw.safe
        have hKb : (secs (keptFrom k 0 waits safe)).length = now.length * 256 := by rw [secs_length hKa, hKl]
        have hKn : (secs now).length = now.length * 256 := secs_length hw.now
        have Hn := Lib.hid hn
        have Hs := Lib.hid hs
        have HKb := Lib.hid hKb
        have HKn := Lib.hid hKn
        clear hn hs hp hKa hKb hKn
        have hcp : splice (secs now).toArray.toList 0 (secs (keptFrom k 0 waits safe)) = secs (keptFrom k 0 waits safe) := by
          rw [splice, List.take_zero, List.nil_append, Nat.zero_add, HKb.out, List.toList_toArray, ← HKn.out, List.drop_length, List.append_nil]
        have Hcp := Lib.hid hcp
        clear hcp
        have hu9 := Lib.hid (show (Try.prog.info? 109).map (·.size) = some 256 from by kernel_rfl)
        refine region_tail 8 (by kernel_rfl) (by kernel_rfl) ?_
        simp only [List.take_succ_cons, List.take_zero, List.drop_succ_cons, List.drop_zero]
        iterate 8 still_step
        refine wpStill_nil ?_
        refine go_copy_rows (P := Try.prog) (op := ⟨some 48, .call { callee := .builtin .copy, args := #[.tmp 43, .tmp 47], argTypes := #[104, 104] }, _, _, _, _⟩) (by rfl) _ _ _ _ (by rfl)
          109 n 0 now.length now.length ⟨s, 0, none⟩ now.length now.length (by rfl) (by rfl) (secs now).toArray 109 256 now.length (secs (keptFrom k 0 waits safe))
          Try.underlying104 hu9.out (by exact Hn.out) (by simp) HKb.out (fun j v hv => ?_) (by rw [HKb.out, List.size_toArray, HKn.out]; omega) (bvs_oneCell _) ?_
        · rw [add_mid, Nat.zero_add]
          show wr.cell? ⟨s, j, none⟩ = some v
          rw [cell_of_row wr s j _ _ _ Hs.out]
          simpa using hv
        refine wpList_nil ?_
        have H2 := (H1.drew.swap.setRowPt (splice (secs now).toArray.toList 0 (secs (keptFrom k 0 waits safe))).toArray).swap
        rw [Hcp.out] at H2 ⊢
        refine ex_gen (R := Exit.then _ _) H2 ?_
        clear H2 Hs Hn Hcp HKn HKb hc0 hc1 hKl
        intro W HW
        have hp := HW.pt
        have hc : ∀ j, W.cell? ⟨p, j, none⟩ = (Go.Proofs.Ytakeilefbcpabaa.diskCells n s (.slice A waits.length cap) ⟨now, keptFrom k 0 waits safe, waits, false, acts, fuse, keep⟩)[j]? := fun j => cell_of_row W p j _ _ _ hp
        have hf : ∀ j, W.frozen? ⟨p, j, none⟩ = false := fun j => frozen_of_row W p j _ _ hp
        unfold Go.Proofs.Ytakeilefbcpabaa.diskCells at hc
        clear hp
        have HF : ∀ w' : World, w' = ((W.setCell ⟨p, 2, none⟩ (.slice none 0 0)).setCell ⟨p, 3, none⟩ (.bool true)).setCell ⟨p, 5, none⟩ (.int .i64 0) → St c (DiskAt p (DiskM.off ⟨now, safe, waits, false, acts, fuse, keep⟩ k) :: F) w' := by
          rintro w' rfl
          have h4 := ((((HW.setPt 2 (.slice none 0 0)).setPt 3 (.bool true)).setPt 5 (.int .i64 0)).pull3.tail.addNil 111 257).push3
          have e : DiskM.off ⟨now, safe, waits, false, acts, fuse, keep⟩ k = ⟨keptFrom k 0 waits safe, keptFrom k 0 waits safe, [], true, acts, 0, keep⟩ := rfl
          rw [e]
          refine St.shutDisk (n := n) (s := s) (wv := .slice none 0 0) (hw.off k) ?_
          have hl : (keptFrom k 0 waits safe).length = now.length := (keptFrom_length _ _ _ _).trans hw.same
          have e2 : Go.Proofs.Ytakeilefbcpabaa.diskCells n s (.slice none 0 0) ⟨keptFrom k 0 waits safe, keptFrom k 0 waits safe, [], true, acts, 0, keep⟩ =
              (((Go.Proofs.Ytakeilefbcpabaa.diskCells n s (.slice A waits.length cap) ⟨now, keptFrom k 0 waits safe, waits, false, acts, fuse, keep⟩).setIfInBounds 2 (.slice none 0 0)).setIfInBounds 3 (.bool true)).setIfInBounds 5 (.int .i64 0) := by
            simp only [Go.Proofs.Ytakeilefbcpabaa.diskCells, hl]; rfl
          show St c (Pt p _ :: _) _
          rw [e2]
          exact h4
        clear HW H1 H
        go_wp2
        go_returns
        exact ⟨rfl, HF _ rfl⟩
  · have HF : ∀ w' : World, St c (DiskParts p n s wv ⟨now, safe, waits, true, acts, fuse, keep⟩ ++ F) w → w' = w → St c (DiskAt p (DiskM.off ⟨now, safe, waits, true, acts, fuse, keep⟩ k) :: F) w' := by
      rintro w' H rfl
      exact St.shutDisk hw H
    go_enter Try.func22, Try.ntmps22
    go_wp2
    go_returns
    exact ⟨rfl, HF _ H rfl⟩
end
end Go.Proofs.Ytakeilefbcpabaa

/- A sector is written: what Write does. -/
namespace Go.Proofs.Ytakeilefbcpabaa
open Go.RowKit

def headWrite (i : Int) : Array Value := #[.int .i64 i] ++ Array.replicate 256 (.int .u8 0)
theorem headWrite_of (i : Int) : Try.zeroCells111.setIfInBounds 0 (.int .i64 i) = headWrite i := by kernel_rfl
theorem zeroCells_size : Try.zeroCells111.size = 257 := by kernel_rfl
theorem write_info : (Try.prog.info? 111).map (fun i => (i.zero, i.size, i.bytes)) = some (some (.agg zeroWrite), 257, 264) := by kernel_rfl
theorem u8_info : (Try.prog.info? 5).map (·.size) = some 1 := by kernel_rfl
theorem zeroWrite_cells : (Value.agg zeroWrite).cells.size = 257 := by kernel_rfl
theorem headWrite_size (i : Int) : (headWrite i).size = 257 := by kernel_rfl
theorem headWrite_all (i : Int) : (headWrite i).all (·.oneCell') = true := by kernel_rfl
theorem zeroWrite_size : zeroWrite.size = 257 := by kernel_rfl
theorem headWrite_list (i : Int) : (headWrite i).toList = .int .i64 i :: bvs zeroSec := by
  have e : bvs zeroSec = List.replicate 256 (.int .u8 0) := by
    rw [zeroSec, zeros, bvs, List.map_replicate]; rfl
  rw [e]; simp only [headWrite, Array.toList_append, Array.toList_replicate]; rfl
theorem headWrite_copy (i : Int) (b : List UInt8) (_hb : b.length ≤ 256) : splice (headWrite i).toList 1 (bvs b) = .int .i64 i :: bvs (pad b) := by
  rw [headWrite_list, splice, List.take_succ_cons, List.take_zero, Nat.add_comm 1, List.drop_succ_cons]
  rw [pad, bvs, bvs, bvs, List.map_append, List.length_map, List.singleton_append, List.cons_append]
  congr 1
  congr 1
  rw [← List.map_drop, zeroSec, zeros, zeros, List.drop_replicate]

section
variable {c : Con} {F : List HP} {w : World} {p : Nat} {D : DiskM}

set_option maxRecDepth 100000 in
set_option maxHeartbeats 1000000 in
theorem disk_write (H : St c (DiskAt p D :: F) w) (i : Int) (hi0 : -9223372036854775808 ≤ i) (hi1 : i ≤ 9223372036854775807) (v : Value) (b : List UInt8)
    (hb : ∀ W, St c F W → Reads W v b.length 1 (bvs b)) (hwl : D.waits.length ≤ 1073741824) :
    Calls Try.prog 30 #[.pointer (some ⟨p, 0, none⟩), .int .i64 i, v] w fun e w' => e = .returned (.int .i64 (D.writeE i b.length)) ∧ St c (DiskAt p (D.write i b) :: F) w' := by
  obtain ⟨A, cap, rfl, hcap, hmax⟩ := (hb w H.tail).form
  by_cases hr : D.ready i = 0
  case neg =>
    have e1 : D.writeE i b.length = D.ready i := by simp [DiskM.writeE, hr]
    have e2 : D.write i b = D := by simp [DiskM.write, hr]
    rw [e1, e2]
    have hd : (D.ready i != 0) = true := by simpa using hr
    clear e1 e2 hr
    go_enter Try.func30, Try.ntmps30
    go_wp2_with (go_at_call 58; refine (disk_ready H _ hi0 hi1).mono ?_; rintro e w' ⟨rfl, rfl⟩)
    go_returns
    exact ⟨rfl, H⟩
  case pos =>
    have hd : (D.ready i != 0) = false := by simpa using hr
    by_cases hl : 256 < b.length
    · have e1 : D.writeE i b.length = 3 := by simp [DiskM.writeE, hr, hl]
      have e2 : D.write i b = D := by simp [DiskM.write, hl]
      rw [e1, e2]
      clear e1 e2 hr
      go_enter Try.func30, Try.ntmps30
      go_wp2_with (go_at_call 58; refine (disk_ready H _ hi0 hi1).mono ?_; rintro e w' ⟨rfl, rfl⟩)
      go_returns
      exact ⟨rfl, H⟩
    · have hl' : b.length ≤ 256 := by omega
      obtain ⟨hdn, h0, hlt⟩ := DiskM.ready_zero hr
      obtain ⟨m, rfl⟩ := Int.eq_ofNat_of_zero_le h0
      have hm : m < D.now.length := by omega
      have e1 : D.writeE m b.length = if D.goes then 8 else 0 := by simp [DiskM.writeE, hr, hl]
      have e2 : D.write m b = if D.goes then (D.act.put m (pad b)).off D.keep else D.act.put m (pad b) := by simp [DiskM.write, hr, hl]
      rw [e1, e2]
      clear e1 e2 hl h0 hlt
      go_enter Try.func30, Try.ntmps30
      go_upto_region 7 with (first
        | (go_at_call 58; refine (disk_ready H _ hi0 hi1).mono ?_; rintro e w' ⟨rfl, rfl⟩)
        | (go_at_call 57; refine (disk_act H).mono ?_; rintro e w' ⟨rfl, H1⟩))
      have hbF := hb
      clear hb
      have Hr := Lib.hid hr
      have Hd := Lib.hid hd
      clear hr hd
      have iw := Lib.hid (show (Try.prog.info? 111).map (·.size) = some 257 from by kernel_rfl)
      have is := Lib.hid (show (Try.prog.info? 109).map (·.size) = some 256 from by kernel_rfl)
      have Hw1 := Lib.hid (headWrite_of m)
      go_upto_region 8 with (
        (refine go_store_new (P := Try.prog) (op := ⟨none, .store 111 (.tmp 10) (.tmp 26), _, _, _, _⟩) (by rfl) _ _ _ (by rfl) w' Try.zeroCells111 (Try.zeroCells111.setIfInBounds 0 (.int .i64 m)) (by rfl) (by rfl) (by rfl) (by rw [Hw1.out, headWrite_size]; exact iw.out) (by rw [Hw1.out]; exact zeroCells_size.trans (headWrite_size m).symm) (by rw [Hw1.out]; exact headWrite_all m) ?_))
      rw [Hw1.out]
      refine wp_gen (H1.allocPt (.cells (headWrite m) 111)) ?_
      generalize w'.heap.size = v
      intro W HW
      clear H1 H
      have Hcp := Lib.hid (headWrite_copy m b hl')
      have hrd := hbF W HW.tail.tail
      go_upto_region 9 with (
        (refine wpList_plain (o := ⟨some 30, .call { callee := .builtin .copy, args := #[.tmp 28, .tmp 29], argTypes := #[46, 46] }, _, _, _, _⟩) (by rfl) (fun K hK =>
          op_copy (P := Try.prog) HW _ _ _ _ (by rfl) 5 256 256 b.length (.slice A b.length cap) (bvs b) (by rfl) (by rfl) hrd Try.underlying46 u8_info hl' (by rw [headWrite_size]; omega) (bvs_oneCell b) (fun W2 H2 => hK _ _ ?_))))
      rw [Hcp.out] at H2
      clear HW hrd Hcp Hw1
      obtain ⟨hw1, n, s, wv, H3⟩ := H2.swap.openDisk
      have H3 : St c (DiskParts p n s wv D.act ++ (Pt v (.cells (.int .i64 (m : Int) :: bvs (pad b)).toArray 111 (0, 0)) :: F)) W2 := H3
      have hn' : D.act.now = D.now := by unfold DiskM.act; split <;> rfl
      have hwt' : D.act.waits = D.waits := by unfold DiskM.act; split <;> rfl
      clear H2
      have hp := H3.pt
      have hnb := H3.tail.pt
      have hvb := H3.tail.tail.tail.tail.pt
      have hc0 : W2.cell? ⟨p, 0, none⟩ = some (.slice (some ⟨n, 0, none⟩) D.now.length D.now.length) := by rw [cell_of_row W2 p 0 _ _ _ hp, ← hn']; rfl
      have hext : (Value.int .i64 (m : Int) :: bvs (pad b)).toArray.extract 1 (1 + 256) = (bvs (pad b)).toArray := by
        apply Array.ext'
        rw [Array.toList_extract, List.extract_eq_take_drop, List.toList_toArray, List.drop_one, List.tail_cons]
        exact List.take_of_length_le (by rw [bvs, List.length_map, pad_length b hl']; omega)
      have Hext := Lib.hid hext
      have Hv := Lib.hid hvb
      have Hn := Lib.hid hnb
      have hnl := secs_length hw1.now
      have hps : (bvs (pad b)).toArray.size = 256 := by rw [List.size_toArray, bvs, List.length_map, pad_length b hl']
      have Hps := Lib.hid hps
      have hns : (secs D.act.now).toArray.size = D.now.length * 256 := by rw [List.size_toArray, hnl, hn']
      have Hns := Lib.hid hns
      have hset : (splice (secs D.act.now).toArray.toList (m * 256) (bvs (pad b)).toArray.toList).toArray = (secs (D.act.now.set m (pad b))).toArray := by
        rw [secs_set hw1.now m (by rw [hn']; exact hm) (pad_length b hl')]
      have Hset := Lib.hid hset
      have hvz : (Value.int .i64 (m : Int) :: bvs (pad b)).toArray.size = 257 := by rw [List.size_toArray, List.length_cons, bvs, List.length_map, pad_length b hl']
      have Hvz := Lib.hid hvz
      have Hn' := Lib.hid hn'
      have Hwt' := Lib.hid hwt'
      clear hp hnb hvb hext hnl hps hns hset hvz hn' hwt'
      refine region_tail 8 (by kernel_rfl) (by kernel_rfl) ?_
      simp only [List.take_succ_cons, List.take_zero, List.drop_succ_cons, List.drop_zero]
      iterate 6 still_step
      refine still_load_row (P := Try.prog) (op := ⟨some 37, .load 109 (.tmp 36), _, _, _, _⟩) (by rfl) _ _ (by rfl) v 1 256 (by rfl) _ (bvs (pad b)).toArray 111 (0, 0) _ (by exact Hv.out) (by rw [Hvz.out]; omega) Hext.out Try.underlying109 (by rfl) is.out ?_
      still_step
      refine wpStill_nil ?_
      refine go_store_row (P := Try.prog) (op := ⟨none, .store 109 (.tmp 38) (.tmp 37), _, _, _, _⟩) (by rfl) _ _ _ (by rfl) n (m * 256) (bvs (pad b)).toArray (secs D.act.now).toArray (by rfl) (by rfl) 109 (by exact Hn.out) (by rw [Hns.out, Hps.out]; omega) (by rw [Hps.out]; exact is.out) (all_oneCell_toArray (bvs_oneCell _)) ?_
      refine wpList_nil ?_
      have H4 := (H3.drew.swap.setRowPt (splice (secs D.act.now).toArray.toList (m * 256) (bvs (pad b)).toArray.toList).toArray).swap
      rw [Hset.out] at H4 ⊢
      refine ex_gen (R := Exit.then _ _) H4 ?_
      clear H4 H3 hc0
      intro W3 H5
      go_upto_region 10 with (fail)
      have hp5 := H5.pt
      have hv5 := H5.tail.tail.tail.tail.pt
      obtain ⟨S, hS⟩ : ∃ S : World → Prop, S = fun W => W.heap[p]? = some (.cells (diskCells n s wv D.act) 107 (0, 0)) ∧ W.heap[v]? = some (.cells (.int .i64 (m : Int) :: bvs (pad b)).toArray 111 (0, 0)) := ⟨_, rfl⟩
      have hS1 : ∀ W, S W → W.cell? ⟨p, 2, none⟩ = some wv := by
        intro W h; rw [hS] at h; rw [cell_of_row W p 2 _ _ _ h.1]; rfl
      have hS2 : ∀ W, S W → W.heap[v]? = some (.cells (.int .i64 (m : Int) :: bvs (pad b)).toArray 111 (0, 0)) := by
        intro W h; rw [hS] at h; exact h.2
      have hS0 : S W3.drew := by rw [hS]; exact ⟨hp5, hv5⟩
      have hSa : ∀ W o, S W → S (W.alloc o) := by
        intro W o h; rw [hS] at h ⊢
        exact ⟨(Below.heap_alloc W o p (Array.getElem?_eq_some_iff.1 h.1).1).trans h.1, (Below.heap_alloc W o v (Array.getElem?_eq_some_iff.1 h.2).1).trans h.2⟩
      have HS2 := Lib.hid hS2
      have HSa := Lib.hid hSa
      have HSd := Lib.hid hS
      have hex : (Value.int .i64 (m : Int) :: bvs (pad b)).toArray.extract 0 (0 + 257) = (Value.int .i64 (m : Int) :: bvs (pad b)).toArray := by
        rw [Nat.zero_add, ← Hvz.out]; exact Array.extract_size
      have Hex := Lib.hid hex
      clear hp5 hv5 hS hS2 hSa hex
      refine region_take 6 8 S (by kernel_rfl) (by kernel_rfl) hS0 ?_
      simp only [List.take_succ_cons, List.take_zero, List.drop_succ_cons, List.drop_zero]
      refine heads_step (by rfl) (by intro W hW; have hcW := hS1 W hW; go_simp; try rfl) ?_
      refine heads_step (by rfl) (by intro W hW; have hcW := hS1 W hW; go_simp; try rfl) ?_
      refine heads_step (by rfl) (by intro W hW; have hcW := hS1 W hW; go_simp; try rfl) ?_
      refine heads_step (by rfl) (by intro W hW; have hcW := hS1 W hW; go_simp; try rfl) ?_
      refine heads_step (by rfl) (by intro W hW; have hcW := hS1 W hW; go_simp; try rfl) ?_
      refine heads_step (by rfl) (fun W hW => run_load_row (P := Try.prog) (op := ⟨some 44, .load 111 (.tmp 10), _, _, _, _⟩) _ _ (by rfl) v 0 257 (by rfl) _ _ _ (0, 0) _ (HS2.out W hW) (by rw [Hvz.out]; omega) Hex.out Try.underlying111 (by rfl) iw.out) ?_
      simp only [Act.put, List.setIfInBounds_toArray, List.set_cons_succ, List.set_cons_zero]
      refine heads_nil ?_
      refine listE_step (by rfl) fun K hK => op_slice_one (P := Try.prog) (op := ⟨some 45, .buildSlice 105 1 #[(0, .tmp 44)], _, _, _, _⟩) _ _ _ (by rfl) _ 257 (.agg zeroWrite) (by rfl) Try.underlying105 zeroWrite_info Hvz.out (by omega) (by omega) (hK _ _ (HSa.out _ _ hS0) ?_)
      simp only [Act.put, List.setIfInBounds_toArray, List.set_cons_succ, List.set_cons_zero]
      have hone : ∀ u ∈ (Value.int .i64 (m : Int) :: bvs (pad b)), u.oneCell' = true := by
        intro u hu
        rcases List.mem_cons.1 hu with rfl | hu
        · rfl
        · exact bvs_oneCell _ u hu
      have hnews : ∀ j u, (Value.int .i64 (m : Int) :: bvs (pad b))[j]? = some u → (W3.drew.alloc (.cells (.int .i64 (m : Int) :: bvs (pad b)).toArray 111)).cell? ((⟨W3.drew.heap.size, 0, none⟩ : Addr).add j) = some u := by
        intro j u hu
        rw [add_mid, Nat.zero_add, cell_of_row _ _ _ _ _ _ (heap_alloc_new _ _)]
        simpa using hu
      refine listE_step (by rfl) fun K hK => op_append (P := Try.prog) (op := ⟨some 46, .call { callee := .builtin .append, args := #[.tmp 43, .tmp 45], argTypes := #[105, 105] }, _, _, _, _⟩) (H5.drew.alloc _).pull3 _ _ _ (by rfl) Try.underlying105 write_info zeroWrite_cells (by omega)
        ⟨W3.drew.heap.size, 0, none⟩ 1 1 (Value.int .i64 (m : Int) :: bvs (pad b)) (by rfl) (by rfl) (by rw [← List.size_toArray, Hvz.out]) hnews hone (by rw [Hwt'.out]; omega) (by rw [Hwt'.out]; omega) (fun v' W4 H6 _ => hK _ _ (by rw [HSd.out]; exact ⟨H6.tail.pt, H6.tail.tail.tail.tail.pt⟩) ?_)
      simp only [Act.put, List.setIfInBounds_toArray, List.set_cons_succ, List.set_cons_zero]
      obtain ⟨A2, cap2, hv2⟩ := owned_form H6
      subst hv2
      have hc2 : W4.cell? ⟨p, 2, none⟩ = some wv := by rw [cell_of_row W4 p 2 _ _ _ H6.tail.pt]; rfl
      have hf2 : W4.frozen? ⟨p, 2, none⟩ = false := frozen_of_row W4 p 2 _ _ H6.tail.pt
      have H7 := (H6.swap.setPt 2 (.slice A2 (D.act.waits.length + 1) cap2)).swap
      change wpList _ _ _ _ _ W4
      clear hS0 hone hnews hS1
      go_wp2
      refine NoPanic.normal ?_
      have H8 : St c (DiskAt p (D.act.put m (pad b)) :: F) (W4.setCell ⟨p, 2, none⟩ (.slice A2 (D.act.waits.length + 1) cap2)) := by
        refine St.shutDisk (n := n) (s := s) (wv := .slice A2 (D.act.waits.length + 1) cap2) (hw1.put m _ (by rw [Hn'.out]; exact hm) (pad_length b hl')) ?_
        have h := H7.pull4.tail.push3
        have e1 : ((diskCells n s wv D.act).setIfInBounds 2 (.slice A2 (D.act.waits.length + 1) cap2)) = diskCells n s (.slice A2 (D.act.waits.length + 1) cap2) (D.act.put m (pad b)) := by
          simp only [diskCells, DiskM.put, List.length_set]; rfl
        have e2 : D.act.waits.length + 1 = (D.act.put m (pad b)).waits.length := by simp [DiskM.put]
        have e3 : wcells D.act.waits ++ (Value.int .i64 (m : Int) :: bvs (pad b)) = wcells (D.act.put m (pad b)).waits := by
          rw [DiskM.put, wcells_append]; simp [wcells]
        rw [e1, e3] at h
        show St c (_ :: _ :: _ :: OwnP _ _ _ (D.act.put m (pad b)).waits.length _ :: F) _
        rw [← e2]
        exact h
      refine ex_gen (R := Exit.then _ _) H8 ?_
      clear H8 H7 H6 H5 hc2 hf2
      intro W5 H9
      cases hg : D.goes
      · have hk : D.keeps = 0 := by simp [DiskM.keeps, hg]
        go_wp2
        all_goals go_returns
        all_goals exact ⟨rfl, H9⟩
      · have hk : D.keeps = D.keep := by simp [DiskM.keeps, hg]
        have k0 := hw1.keep0
        have k1 := hw1.keep1
        have ek : D.act.keep = D.keep := by unfold DiskM.act; split <;> rfl
        rw [ek] at k0 k1
        clear ek
        go_wp2_with (go_at_call 22; refine (disk_off H9 D.keep k0 k1).mono ?_; rintro e w' ⟨rfl, H10⟩)
        all_goals go_returns
        all_goals exact ⟨rfl, by assumption⟩
end
end Go.Proofs.Ytakeilefbcpabaa

/- A sector is read; all is made safe; all sectors at once. -/
namespace Go.Proofs.Ytakeilefbcpabaa
open Go.RowKit

theorem zeroSector_size : Try.zeroCells109.size = 256 := by kernel_rfl

section
variable {c : Con} {F : List HP} {w : World} {p : Nat} {D : DiskM}

theorem disk_read_bad (H : St c (DiskAt p D :: F) w) (i : Int) (hi0 : -9223372036854775808 ≤ i) (hi1 : i ≤ 9223372036854775807) (hr : D.ready i ≠ 0) :
    Calls Try.prog 27 #[.pointer (some ⟨p, 0, none⟩), .int .i64 i] w fun e w' => e = .returned (.tuple #[.slice none 0 0, .int .i64 (D.ready i)]) ∧ w = w' := by
  have hd : (D.ready i != 0) = true := by simpa using hr
  clear hr
  go_enter Try.func27, Try.ntmps27
  go_wp2_with (go_at_call 58; refine (disk_ready H i hi0 hi1).mono ?_; rintro e w' ⟨rfl, rfl⟩)
  go_returns
  exact ⟨rfl, rfl⟩

set_option maxRecDepth 100000 in
set_option maxHeartbeats 1000000 in
theorem disk_read (H : St c (DiskAt p D :: F) w) (i : Int) (hi1 : i ≤ 9223372036854775807) (hr : D.ready i = 0) :
    Calls Try.prog 27 #[.pointer (some ⟨p, 0, none⟩), .int .i64 i] w fun e w' => ∃ v, e = .returned (.tuple #[.slice (some ⟨v, 0, none⟩) 256 256, .int .i64 0]) ∧
      St c (Pt v (.cells (bvs (D.now.getD i.toNat [])).toArray 109 (0, 0)) :: DiskAt p D :: F) w' := by
  obtain ⟨hdn, h0, hlt⟩ := DiskM.ready_zero hr
  obtain ⟨m, rfl⟩ := Int.eq_ofNat_of_zero_le h0
  have hm : m < D.now.length := by omega
  obtain ⟨hw, n, s, wv, H1⟩ := H.openDisk
  have hp := H1.pt
  have hn := H1.tail.pt
  have hc0 : w.cell? ⟨p, 0, none⟩ = some (.slice (some ⟨n, 0, none⟩) D.now.length D.now.length) := by rw [cell_of_row w p 0 _ _ _ hp]; rfl
  have hsl : D.now[m].length = 256 := hw.now _ (List.getElem_mem hm)
  have hext : (secs D.now).toArray.extract (m * 256) (m * 256 + 256) = (bvs D.now[m]).toArray := by
    rw [← secs_at hw.now m hm]
    apply Array.ext'
    rw [Array.toList_extract, List.extract_eq_take_drop, List.toList_toArray]
    congr 1
    omega
  have hsz : (secs D.now).toArray.size = D.now.length * 256 := by rw [List.size_toArray, secs_length hw.now]
  have hbs : (bvs D.now[m]).toArray.size = 256 := by rw [List.size_toArray, bvs, List.length_map, hsl]
  have hg : D.now.getD (m : Int).toNat [] = D.now[m] := by rw [Int.toNat_natCast, List.getD_eq_getElem?_getD, List.getElem?_eq_getElem hm]; rfl
  rw [hg]
  have Hext := Lib.hid hext
  have Hsz := Lib.hid hsz
  have Hbs := Lib.hid hbs
  have Hn := Lib.hid hn
  have is := Lib.hid (show (Try.prog.info? 109).map (·.size) = some 256 from by kernel_rfl)
  have hd : (D.ready m != 0) = false := by simpa using hr
  clear hp hn hext hsz hbs hsl hg h0 hr hdn
  go_enter Try.func27, Try.ntmps27
  go_wp2_with (first
    | (go_at_call 58; refine (disk_ready H _ (by omega) hi1).mono ?_; rintro e w' ⟨rfl, rfl⟩)
    | (refine go_load_row (P := Try.prog) (op := ⟨some 20, .load 109 (.tmp 19), _, _, _, _⟩) (by rfl) _ _ (by rfl) n (m * 256) 256 (by rfl) _ _ 109 (0, 0) _ (by exact Hn.out) (by rw [Hsz.out]; omega) Hext.out Try.underlying109 (by rfl) is.out ?_)
    | (refine go_store_new (P := Try.prog) (op := ⟨none, .store 109 (.tmp 7) (.tmp 20), _, _, _, _⟩) (by rfl) _ _ _ (by rfl) w Try.zeroCells109 (bvs D.now[m]).toArray (by rfl) (by rfl) (by rfl) (by rw [Hbs.out]; exact is.out) (by rw [Hbs.out]; exact zeroSector_size) (all_oneCell_toArray (bvs_oneCell _)) ?_))
  go_returns
  exact ⟨_, rfl, H.allocPt _⟩

set_option maxRecDepth 100000 in
set_option maxHeartbeats 1000000 in
theorem disk_sync (H : St c (DiskAt p D :: F) w) :
    Calls Try.prog 32 #[.pointer (some ⟨p, 0, none⟩)] w fun e w' => e = .returned (.int .i64 D.syncE) ∧ St c (DiskAt p D.sync :: F) w' := by
  obtain ⟨hw, n, s, wv, H1⟩ := H.openDisk
  have hp := H1.pt
  have hc0 : w.cell? ⟨p, 3, none⟩ = some (.bool D.down) := by rw [cell_of_row w p 3 _ _ _ hp]; rfl
  clear hp H1 wv n s
  cases hd : D.down
  case true =>
    rw [hd] at hc0
    have e1 : D.syncE = 8 := by simp [DiskM.syncE, hd]
    have e2 : D.sync = D := by simp [DiskM.sync, hd]
    rw [e1, e2]
    clear e1 e2 hd
    go_enter Try.func32, Try.ntmps32
    go_wp2
    go_returns
    exact ⟨rfl, H⟩
  case false =>
    rw [hd] at hc0
    cases hg : D.goes
    case true =>
      have e1 : D.syncE = 8 := by simp [DiskM.syncE, hd, hg]
      have e2 : D.sync = D.act.off D.keep := by simp [DiskM.sync, hd, hg]
      have hk : D.keeps = D.keep := by simp [DiskM.keeps, hg]
      have k0 := hw.keep0
      have k1 := hw.keep1
      rw [e1, e2]
      clear e1 e2 hd
      go_enter Try.func32, Try.ntmps32
      go_wp2_with (first
        | (go_at_call 57; refine (disk_act H).mono ?_; rintro e w' ⟨rfl, H1⟩)
        | (go_at_call 22; refine (disk_off H1 D.keep k0 k1).mono ?_; rintro e w' ⟨rfl, H2⟩))
      go_returns
      exact ⟨rfl, by assumption⟩
    case false =>
      have e1 : D.syncE = 0 := by simp [DiskM.syncE, hd, hg]
      have e2 : D.sync = { D.act with safe := D.act.now, waits := [] } := by simp [DiskM.sync, hd, hg]
      have hk : D.keeps = 0 := by simp [DiskM.keeps, hg]
      rw [e1, e2]
      clear e1 e2 hd
      go_enter Try.func32, Try.ntmps32
      go_upto_region 9 with (
        (go_at_call 57; refine (disk_act H).mono ?_; rintro e w' ⟨rfl, H1⟩))
      obtain ⟨hw1, n, s, wv, H2⟩ := H1.openDisk
      clear H1 H hc0
      have hp := H2.pt
      have hn := H2.tail.pt
      have hs := H2.tail.tail.pt
      have hc0 : w'.cell? ⟨p, 0, none⟩ = some (.slice (some ⟨n, 0, none⟩) D.act.now.length D.act.now.length) := cell_of_row w' p 0 _ _ _ hp
      have hc1 : w'.cell? ⟨p, 1, none⟩ = some (.slice (some ⟨s, 0, none⟩) D.act.now.length D.act.now.length) := cell_of_row w' p 1 _ _ _ hp
      have hKb : (secs D.act.safe).length = D.act.now.length * 256 := by rw [secs_length hw1.safe, hw1.same]
      have hKn : (secs D.act.now).length = D.act.now.length * 256 := secs_length hw1.now
      have Hn := Lib.hid hn
      have Hs := Lib.hid hs
      have HKb := Lib.hid hKb
      have HKn := Lib.hid hKn
      have hcp : splice (secs D.act.safe).toArray.toList 0 (secs D.act.now) = secs D.act.now := splice_whole _ _ (by rw [List.toList_toArray, hKb, hKn])
      have Hcp := Lib.hid hcp
      have hu9 := Lib.hid (show (Try.prog.info? 109).map (·.size) = some 256 from by kernel_rfl)
      clear hn hs hp hKb hKn hcp
      refine region_tail 8 (by kernel_rfl) (by kernel_rfl) ?_
      simp only [List.take_succ_cons, List.take_zero, List.drop_succ_cons, List.drop_zero]
      iterate 8 still_step
      refine wpStill_nil ?_
      refine go_copy_rows (P := Try.prog) (op := ⟨some 30, .call { callee := .builtin .copy, args := #[.tmp 25, .tmp 29], argTypes := #[104, 104] }, _, _, _, _⟩) (by rfl) _ _ _ _ (by rfl)
        109 s 0 D.act.now.length D.act.now.length ⟨n, 0, none⟩ D.act.now.length D.act.now.length (by rfl) (by rfl) (secs D.act.safe).toArray 109 256 D.act.now.length (secs D.act.now)
        Try.underlying104 hu9.out (by exact Hs.out) (by simp) HKn.out (fun j v hv => ?_) (by rw [HKn.out, List.size_toArray, HKb.out]; omega) (bvs_oneCell _) ?_
      · rw [add_mid, Nat.zero_add]
        show w'.cell? ⟨n, j, none⟩ = some v
        rw [cell_of_row w' n j _ _ _ Hn.out]
        simpa using hv
      refine wpList_nil ?_
      have H3 := (H2.drew.pull2.setRowPt (splice (secs D.act.safe).toArray.toList 0 (secs D.act.now)).toArray).push2
      rw [Hcp.out] at H3 ⊢
      refine ex_gen (R := Exit.then _ _) H3 ?_
      clear H3 Hs Hn Hcp HKn HKb hc0 hc1
      intro W HW
      have hc : W.cell? ⟨p, 2, none⟩ = some wv := cell_of_row W p 2 _ _ _ HW.pt
      have hf : W.frozen? ⟨p, 2, none⟩ = false := frozen_of_row W p 2 _ _ HW.pt
      have H4 : St c (DiskAt p { D.act with safe := D.act.now, waits := [] } :: F) (W.setCell ⟨p, 2, none⟩ (.slice none 0 0)) := by
        have h4 := ((HW.setPt 2 (.slice none 0 0)).pull3.tail.addNil 111 257).push3
        exact St.shutDisk (n := n) (s := s) (wv := .slice none 0 0) ⟨hw1.most, rfl, hw1.now, hw1.now, (by intro x hx; cases hx), hw1.fuse0, hw1.fuse1, hw1.keep0, hw1.keep1⟩ h4
      have H4 := Lib.hid H4
      clear HW H2
      go_wp2
      go_returns
      exact ⟨rfl, H4.out⟩
end
end Go.Proofs.Ytakeilefbcpabaa

/- A new disk; all sectors at once. -/
namespace Go.Proofs.Ytakeilefbcpabaa
open Go.RowKit

def clip (n : Int) : Nat := (min (max n 0) 4096).toNat
theorem sector_zero : (Try.prog.info? 109).map (fun i => (i.zero, i.size, i.bytes)) = some (some (.agg (bvs zeroSec).toArray), 256, 256) := by kernel_rfl
theorem made_all (z : Array Value) (x : Value) (hz : 0 < z.size) (h : ∀ v ∈ z, v = x) (n : Nat) : madeCells z n = Array.replicate n x := by
  apply Array.ext_getElem?
  intro j
  unfold madeCells
  rw [Array.getElem?_map, Array.getElem?_range, Array.getElem?_replicate]
  split
  · rw [Option.map_some]
    congr 1
    have hm : j % z.size < z.size := Nat.mod_lt _ hz
    rw [getElem!_pos z _ hm]
    exact h _ (Array.getElem_mem hm)
  · rfl
theorem made_secs (k : Nat) : madeCells (bvs zeroSec).toArray (k * 256) = (secs (List.replicate k zeroSec)).toArray := by
  have h256 : (bvs zeroSec).toArray.size = 256 := by rw [List.size_toArray, bvs, List.length_map, zeroSec_length]
  have hlen : (secs (List.replicate k zeroSec)).length = k * 256 := by
    rw [secs_length (fun s hs => by rw [(List.mem_replicate.1 hs).2]; exact zeroSec_length), List.length_replicate]
  rw [made_all _ (.int .u8 0) (by rw [h256]; omega)]
  · apply Array.ext'
    rw [Array.toList_replicate, List.toList_toArray]
    refine (List.eq_replicate_iff.2 ⟨hlen, fun v hv => ?_⟩).symm
    obtain ⟨b, hb, rfl⟩ := List.mem_map.1 hv
    obtain ⟨s, hs, hbs⟩ := List.mem_flatten.1 hb
    rw [(List.mem_replicate.1 hs).2] at hbs
    rw [(List.mem_replicate.1 hbs).2]; rfl
  · intro v hv
    obtain ⟨b, hb, rfl⟩ := List.mem_map.1 (List.mem_toArray.1 hv)
    rw [(List.mem_replicate.1 hb).2]; rfl

section
variable {c : Con} {F : List HP} {w : World} {p : Nat} {D : DiskM}

set_option maxRecDepth 100000 in
set_option maxHeartbeats 1000000 in
theorem disk_new (H : St c F w) (n : Int) (h1 : -9223372036854775808 ≤ n) (h2 : n ≤ 9223372036854775807) :
    Calls Try.prog 21 #[.int .i64 n] w fun e w' => ∃ p, e = .returned (.pointer (some ⟨p, 0, none⟩)) ∧ St c (DiskAt p (DiskM.new (clip n)) :: F) w' := by
  have hmk : ∀ (W : World) (q : Nat), q ≤ 4096 → (Instr.makeSlice 104 (.int .i64 q) (.int .i64 q)).run Try.prog W = .ok (.slice (some ⟨W.heap.size, 0, none⟩) q q) (W.alloc (.cells (secs (List.replicate q zeroSec)).toArray 109)) := by
    intro W q hq
    cases hi : Try.prog.info? 109 with
    | none => have := sector_zero; rw [hi] at this; cases this
    | some i =>
      have e := sector_zero
      rw [hi] at e
      simp only [Option.map_some, Option.some.injEq, Prod.mk.injEq] at e
      have := run_make (P := Try.prog) W 104 109 i _ Try.underlying104 hi e.1 .i64 .i64 q q (by omega) (by omega) (by rw [e.2.2]; omega) (by omega)
      rw [this]
      simp only [Int.toNat_natCast, e.2.1, Value.cells, made_secs]
  obtain ⟨k, hk, hk'⟩ : ∃ k : Nat, k ≤ 4096 ∧ k = clip n := ⟨clip n, by unfold clip; omega, rfl⟩
  rw [← hk']
  have Hk' := Lib.hid hk'
  have Hmk := Lib.hid hmk
  clear hmk hk'
  go_enter Try.func21, Try.ntmps21
  go_upto_region 2 with (fail)
  have e : (if 4096 < (if n < 0 then 0 else n) then 4096 else if n < 0 then 0 else n) = (k : Int) := by
    have := Hk'.out; unfold clip at this; split <;> split <;> omega
  rw [e]
  clear e
  have hmk := fun W => Hmk.out W k hk
  go_region
  · have HF : St c (DiskAt (w.heap.size + 1 + 1) (DiskM.new k) :: F) (((w.alloc (.cells (secs (List.replicate k zeroSec)).toArray 109)).alloc (.cells (secs (List.replicate k zeroSec)).toArray 109)).alloc
        (.cells #[.slice (some ⟨w.heap.size, 0, none⟩) k k, .slice (some ⟨w.heap.size + 1, 0, none⟩) k k, .slice none 0 0, .bool false, .int .i64 0, .int .i64 0, .int .u64 0] 107)).drew := by
      refine St.shutDisk (n := w.heap.size) (s := w.heap.size + 1) (wv := .slice none 0 0) (DiskM.WF.new k hk) ?_
      have h := ((((H.allocPt (.cells (secs (List.replicate k zeroSec)).toArray 109)).allocPt (.cells (secs (List.replicate k zeroSec)).toArray 109)).swap.allocPt
        (.cells #[.slice (some ⟨w.heap.size, 0, none⟩) k k, .slice (some ⟨w.heap.size + 1, 0, none⟩) k k, .slice none 0 0, .bool false, .int .i64 0, .int .i64 0, .int .u64 0] 107)).addNil 111 257).push3.drew
      simp only [World.size_alloc] at h
      simp only [DiskParts, diskCells, DiskM.new, List.length_replicate]
      exact h
    go_wp2
    all_goals go_returns
    all_goals exact ⟨_, rfl, HF⟩
  · have HF : St c (DiskAt (w.heap.size + 1 + 1) (DiskM.new k) :: F) (((w.alloc (.cells (secs (List.replicate k zeroSec)).toArray 109)).alloc (.cells (secs (List.replicate k zeroSec)).toArray 109)).alloc
        (.cells #[.slice (some ⟨w.heap.size + 1, 0, none⟩) k k, .slice (some ⟨w.heap.size, 0, none⟩) k k, .slice none 0 0, .bool false, .int .i64 0, .int .i64 0, .int .u64 0] 107)).drew := by
      refine St.shutDisk (n := w.heap.size + 1) (s := w.heap.size) (wv := .slice none 0 0) (DiskM.WF.new k hk) ?_
      have h := ((((H.allocPt (.cells (secs (List.replicate k zeroSec)).toArray 109)).allocPt (.cells (secs (List.replicate k zeroSec)).toArray 109)).allocPt
        (.cells #[.slice (some ⟨w.heap.size + 1, 0, none⟩) k k, .slice (some ⟨w.heap.size, 0, none⟩) k k, .slice none 0 0, .bool false, .int .i64 0, .int .i64 0, .int .u64 0] 107)).addNil 111 257).push3.drew
      simp only [World.size_alloc] at h
      simp only [DiskParts, diskCells, DiskM.new, List.length_replicate]
      exact h
    go_wp2
    all_goals go_returns
    all_goals exact ⟨_, rfl, HF⟩
end
end Go.Proofs.Ytakeilefbcpabaa

/- All sectors of a disk at once: what Image does. -/
namespace Go.Proofs.Ytakeilefbcpabaa
open Go.RowKit
attribute [local irreducible] Y OW YK OWK W WL WP X CV Ev Evs HasCell HasCells Has Met Again Kept

/-- A sector out of the sectors' row. -/
theorem has_sec {H : World → Prop} {b T : Nat} {fr : Nat × Nat} {l : List Sec} (h : Has H b (.cells (secs l).toArray T fr)) (hl : ∀ s ∈ l, s.length = 256) {j : Nat} (hj : j < l.length) {o : Nat} (ho : o = j * 256) : HasCells H ⟨b, o, none⟩ (bvs l[j]) := by
  subst ho
  refine hasCells_bl h ?_
  rw [bvs_length, hl _ (List.getElem_mem hj), List.toList_toArray]
  exact secs_at hl j hj
theorem take_flatten (l : List Sec) {j : Nat} (hj : j < l.length) : bvs (l.take j).flatten ++ bvs l[j] = bvs (l.take (j + 1)).flatten := by
  rw [← bvs_append, List.take_succ_eq_append_getElem hj, List.flatten_append]
  simp

theorem shut_disk {c : Con} {F L : List HP} {w : World} {p n s : Nat} {wv : Value} {D : DiskM} (h : D.WF) (H : St c L w)
    (hs : Sel L (Pt p (.cells (diskCells n s wv D) 107 (0, 0)) :: Pt n (.cells (secs D.now).toArray 109 (0, 0)) :: Pt s (.cells (secs D.safe).toArray 109 (0, 0)) ::
      OwnP 111 257 wv D.waits.length (wcells D.waits) :: F)) : St c (DiskAt p D :: F) w := St.shutDisk h (hs.st H)
section
variable {c : Con} {F : List HP} {w : World} {p : Nat} {D : DiskM}
set_option maxRecDepth 100000 in
theorem disk_image (H : St c (DiskAt p D :: F) w) :
    Calls Try.prog 29 #[.pointer (some ⟨p, 0, none⟩)] w fun e w' => ∃ q : Option Addr × Nat, e = .returned (.slice q.1 (256 * D.now.length) q.2) ∧
      St c (OwnP 5 1 (.slice q.1 (256 * D.now.length) q.2) (256 * D.now.length) (bvs D.image) :: DiskAt p D :: F) w' := by
  obtain ⟨hw, n, s, wv, H⟩ := H.openDisk4
  refine calls_w (vs := [.pointer (some ⟨p, 0, none⟩)]) Try.func29 rfl rfl rfl ?_ w H
  (repeat' (first
      | (with_reducible refine is_yk ?_; refine yk_auto (k := ?_))
      | (with_reducible refine is_owk0 ?_; refine owk0_auto (k := ?_))
      | (with_reducible refine is_owkc ?_; refine owk_auto (k := fun _ => ?_))
      | refine go1 (k := ?_)
      | (refine go2 (ka := ?_) (kb := ?_) <;> intro _)
      | fail))
  refine w_loop (α := Nat × Option Addr × Nat) (fun x => x.1 ≤ D.now.length) (fun x => [(0, .pointer (some ⟨p, 0, none⟩)), (3, .slice x.2.1 (256 * x.1) x.2.2), (4, .int .i64 (x.1 : Int))])
    (fun x => OwnP 5 1 (.slice x.2.1 (256 * x.1) x.2.2) (256 * x.1) (bvs (D.now.take x.1).flatten) :: _) (fun x => D.now.length - x.1) (0, none, 0) (Nat.zero_le _) sub_auto (.own0 sel_all) (fun x hx => ?_)
  obtain ⟨j, A, cap⟩ := x
  have hm := hw.most
  dsimp only at hx ⊢
  (repeat' (first
      | ((with_reducible refine at_builtinO (b := .append) ?_); with_reducible refine owk (ow_append (ev_tmp rfl) (ev_tmp rfl) (src_has Try.underlying46 (has_sec has_auto hw.now (j := j) (by omega) (by omega)) (by rw [bvs_length, hw.now _ (List.getElem_mem _)]) (by omega) (by omega) (bvs_oneCell _)) (k := 256 * (j + 1)) (by omega) (take_flatten _ _) ⟨by omega, by omega⟩ pick_auto) (fun q => ?_))
      | (with_reducible refine is_yk ?_; refine yk_auto (k := ?_))
      | (with_reducible refine is_owk0 ?_; refine owk0_auto (k := ?_))
      | (with_reducible refine is_owkc ?_; refine owk_auto (k := fun _ => ?_))
      | refine go1 (k := ?_)
      | (refine go2 (ka := ?_) (kb := ?_) <;> intro _)
      | fail))
  · exact x_again (j + 1, q) (show j + 1 ≤ _ by omega) (show D.now.length - (j + 1) < D.now.length - j by omega) sub_auto sel_auto
  · obtain rfl : j = D.now.length := by omega
    refine x_ret1 rfl rfl (fun w H => ⟨(A, cap), rfl, ?_⟩)
    rw [List.take_length] at H
    exact (shut_disk hw H sel_auto).swap
end
end Go.Proofs.Ytakeilefbcpabaa

/- The laws on the disk: what they ask first. -/
namespace Go.Proofs.Ytakeilefbcpabaa
open Go.RowKit
attribute [local irreducible] Y OW YK OWK W WL WP X CV Ev Evs HasCell HasCells Has Met Again Kept

section
variable {c : Con} {F : List HP} {w : World} {p : Nat} {D D' : DiskM}
theorem disk_write_is (i : Int) (hi0 : -9223372036854775808 ≤ i) (hi1 : i ≤ 9223372036854775807) (v : Value) (b : List UInt8) {E : Int} (hE : D.writeE i b.length = E) (hD : D.write i b = D')
    (hb : ∀ W, St c F W → Reads W v b.length 1 (bvs b)) (hwl : D.waits.length ≤ 1073741824) (H : St c (DiskAt p D :: F) w) :
    Calls Try.prog 30 #[.pointer (some ⟨p, 0, none⟩), .int .i64 i, v] w fun e w' => e = .returned (.int .i64 E) ∧ St c (DiskAt p D' :: F) w' := by
  subst hE hD
  exact disk_write H i hi0 hi1 v b hb hwl
theorem disk_read_is (i : Int) (hi1 : i ≤ 9223372036854775807) (hr : D.ready i = 0) {s : Sec} (hs : D.now.getD i.toNat [] = s) (H : St c (DiskAt p D :: F) w) :
    Calls Try.prog 27 #[.pointer (some ⟨p, 0, none⟩), .int .i64 i] w fun e w' => ∃ v, e = .returned (.tuple #[.slice (some ⟨v, 0, none⟩) 256 256, .int .i64 0]) ∧
      St c (Bl v 109 (bvs s) :: DiskAt p D :: F) w' := by
  subst hs
  exact disk_read H i hi1 hr
theorem disk_new_is (n : Int) (h1 : -9223372036854775808 ≤ n) (h2 : n ≤ 9223372036854775807) {k : Nat} (hk : k = clip n) (H : St c F w) :
    Calls Try.prog 21 #[.int .i64 n] w fun e w' => ∃ p, e = .returned (.pointer (some ⟨p, 0, none⟩)) ∧ St c (DiskAt p (DiskM.new k) :: F) w' := by
  subst hk; exact disk_new H n h1 h2
theorem disk_size_is {n : Nat} (hn : D.now.length = n) (H : St c (DiskAt p D :: F) w) :
    Calls Try.prog 28 #[.pointer (some ⟨p, 0, none⟩)] w fun e w' => e = .returned (.int .i64 n) ∧ w = w' := by
  subst hn; exact disk_size H
theorem disk_image_is {n : Nat} (hn : 256 * D.now.length = n) (H : St c (DiskAt p D :: F) w) :
    Calls Try.prog 29 #[.pointer (some ⟨p, 0, none⟩)] w fun e w' => ∃ q : Option Addr × Nat, e = .returned (.slice q.1 n q.2) ∧ St c (OwnP 5 1 (.slice q.1 n q.2) n (bvs D.image) :: DiskAt p D :: F) w' := by
  subst hn; exact disk_image H
theorem disk_read_bad_is (i : Int) (hi0 : -9223372036854775808 ≤ i) (hi1 : i ≤ 9223372036854775807) {E : Int} (hE : D.ready i = E) (h0 : E ≠ 0) (H : St c (DiskAt p D :: F) w) :
    Calls Try.prog 27 #[.pointer (some ⟨p, 0, none⟩), .int .i64 i] w fun e w' => e = .returned (.tuple #[.slice none 0 0, .int .i64 E]) ∧ w = w' := by
  subst hE; exact disk_read_bad H i hi0 hi1 h0
theorem disk_off_is (k : Int) (hk0 : 0 ≤ k) (hk1 : k < 18446744073709551616) (hD : D.off k = D') (H : St c (DiskAt p D :: F) w) :
    Calls Try.prog 22 #[.pointer (some ⟨p, 0, none⟩), .int .u64 k] w fun e w' => e = .returned (.tuple #[]) ∧ St c (DiskAt p D' :: F) w' := by
  subst hD
  exact disk_off H k hk0 hk1

def aD0 : DiskM := DiskM.new 3
def aD1 : DiskM := aD0.write 0 [120]
def aD2 : DiskM := aD1.write 1 [121]
def aD3 : DiskM := aD2.off 2
set_option maxRecDepth 100000 in
theorem alive11 (H : St c F w) : Calls Try.prog 26 #[] w fun e w' => e = .returned (.bool true) ∧ St c F w' := by
  refine calls_w (vs := []) Try.func26 rfl rfl rfl ?_ w H
  (repeat' (first
      | ((with_reducible refine at_fn 21 ?_); with_reducible refine owk_c0x (f := 21) evs_auto (by kernel_rfl) (fun w H => disk_new H 3 (by omega) (by omega)) (fun p => ?_))
      | ((with_reducible refine at_fn 30 ?_); with_reducible refine owk_c1 (f := 30) evs_auto (by kernel_rfl) pick_auto (fun w H => disk_write_is (D := DiskM.new (clip 3)) 0 (by omega) (by omega) _ [120] (E := 0) (D' := aD1) (by kernel_rfl) (by kernel_rfl) (reads_has (hasCells_bl has_auto rfl) rfl (by decide) (by decide)) (by decide) H) ?_)
      | ((with_reducible refine at_fn 30 ?_); with_reducible refine owk_c1 (f := 30) evs_auto (by kernel_rfl) pick_auto (fun w H => disk_write_is (D := aD1) 1 (by omega) (by omega) _ [121] (E := 0) (D' := aD2) (by kernel_rfl) (by kernel_rfl) (reads_has (hasCells_bl has_auto rfl) rfl (by decide) (by decide)) (by decide) H) ?_)
      | ((with_reducible refine at_fn 22 ?_); with_reducible refine owk_c1 (f := 22) evs_auto (by kernel_rfl) pick_auto (fun w H => disk_off_is (D := aD2) 2 (by omega) (by omega) (D' := aD3) rfl H) ?_)
      | ((with_reducible refine at_fn 24 ?_); with_reducible refine owk_c1 (f := 24) evs_auto (by kernel_rfl) pick_auto (fun w H => disk_on H) ?_)
      | ((with_reducible refine at_fn 27 ?_); with_reducible refine owk_c1x (f := 27) evs_auto (by kernel_rfl) pick_auto (fun w H => disk_read_is (D := aD3.on) 0 (by omega) (by kernel_rfl) (s := zeroSec) (by kernel_rfl) H) (fun p => ?_))
      | ((with_reducible refine at_fn 27 ?_); with_reducible refine owk_c1x (f := 27) evs_auto (by kernel_rfl) pick_auto (fun w H => disk_read_is (D := aD3.on) 1 (by omega) (by kernel_rfl) (s := 121 :: zeros 255) (by kernel_rfl) H) (fun p => ?_))
      | (with_reducible refine is_yk ?_; refine yk_auto (k := ?_))
      | (with_reducible refine is_owk0 ?_; refine owk0_auto (k := ?_))
      | (with_reducible refine is_owkc ?_; refine owk_auto (k := fun _ => ?_))
      | refine go1 (k := ?_)
      | (refine go2 (ka := ?_) (kb := ?_) <;> intro _)
      | fail))
  refine x_ret1 rfl rfl (fun w H => ⟨rfl, Sel.st sel_auto H⟩)
end
end Go.Proofs.Ytakeilefbcpabaa

/- The register as plain data, and how it lies in memory; a disk or none. -/
namespace Go.Proofs.Ytakeilefbcpabaa
open Go.RowKit

structure MeterM where
  count : Int
  epoch : Int
  root : List UInt8
  most : Int
structure MeterM.WF (M : MeterM) : Prop where
  root : M.root.length = 32
  count0 : 0 ≤ M.count
  count1 : M.count ≤ M.most
  most : M.most ≤ 1099511627776
  epoch0 : 0 ≤ M.epoch
  epoch1 : M.epoch ≤ 9223372036854775807

/-- A disk, or none. -/
abbrev DiskO := Option DiskM
namespace DiskO
def down : DiskO → Bool | none => false | some D => D.down
def goes : DiskO → Bool | none => false | some D => D.goes
def keeps : DiskO → Int | none => 0 | some D => D.keeps
def act : DiskO → DiskO | none => none | some D => some D.act
def off (k : Int) : DiskO → DiskO | none => none | some D => some (D.off k)
end DiskO
def DiskV (dv : Value) : DiskO → HP
  | none => fun _ => dv = .pointer none
  | some D => fun h => ∃ p, dv = .pointer (some ⟨p, 0, none⟩) ∧ DiskAt p D h

namespace MeterM
def nextE (M : MeterM) (D : DiskO) (ep : Int) : Int :=
  if D.down then 8 else if ep < M.epoch then 1 else if M.most - M.count = 0 then 10 else if D.goes then 8 else 0
/-- It goes on. -/
def steps (M : MeterM) (D : DiskO) (ep : Int) : Bool := !D.down && !decide (ep < M.epoch) && !decide (M.most - M.count = 0)
def next (M : MeterM) (D : DiskO) (ep : Int) (r : List UInt8) : MeterM :=
  if M.steps D ep && (!D.goes || decide (9223372036854775808 ≤ D.keeps)) then { M with count := M.count + 1, epoch := ep, root := r } else M
def nextD (M : MeterM) (D : DiskO) (ep : Int) : DiskO :=
  if M.steps D ep then (if D.goes then D.act.off D.keeps else D.act) else D
end MeterM

theorem MeterM.WF.next {M : MeterM} (h : M.WF) (D : DiskO) (ep : Int) (r : List UInt8) (hr : r.length = 32) (h1 : ep ≤ 9223372036854775807) : (M.next D ep r).WF := by
  unfold MeterM.next
  split
  · rename_i hs
    have e : ¬ ep < M.epoch ∧ ¬ M.most - M.count = 0 := by
      simp only [MeterM.steps, Bool.and_eq_true, Bool.not_eq_true', decide_eq_false_iff_not] at hs
      exact ⟨hs.1.1.2, hs.1.2⟩
    have := h.count0; have := h.count1; have := h.most; have := h.epoch0
    exact ⟨hr, by show 0 ≤ M.count + 1; omega, by show M.count + 1 ≤ M.most; omega, h.most, by show 0 ≤ ep; omega, h1⟩
  · exact h

def meterCells (dv : Value) (M : MeterM) : Array Value := (.int .i64 M.count :: .int .i64 M.epoch :: (bvs M.root ++ [.int .i64 M.most, dv])).toArray
def MeterAt (m : Nat) (dv : Value) (M : MeterM) : HP := Pure M.WF (Pt m (.cells (meterCells dv M) 34 (0, 0)))

theorem meterCells_most (dv : Value) {M : MeterM} (h : M.root.length = 32) : (meterCells dv M)[34]? = some (.int .i64 M.most) := by
  have e : (bvs M.root).length = 32 := by rw [bvs, List.length_map, h]
  simp only [meterCells, List.getElem?_toArray, List.getElem?_cons_succ]
  rw [List.getElem?_append_right (by omega), e]; rfl
theorem meterCells_disk (dv : Value) {M : MeterM} (h : M.root.length = 32) : (meterCells dv M)[35]? = some dv := by
  have e : (bvs M.root).length = 32 := by rw [bvs, List.length_map, h]
  simp only [meterCells, List.getElem?_toArray, List.getElem?_cons_succ]
  rw [List.getElem?_append_right (by omega), e]; rfl
theorem meterCells_size (dv : Value) {M : MeterM} (h : M.root.length = 32) : (meterCells dv M).size = 36 := by
  simp [meterCells, bvs, h]
/-- What a load, a store of the value is. -/
def valueCells (c e : Int) (r : List UInt8) : Array Value := (.int .i64 c :: .int .i64 e :: bvs r).toArray
theorem meterCells_value (dv : Value) {M : MeterM} (h : M.root.length = 32) : (meterCells dv M).extract 0 (0 + 34) = valueCells M.count M.epoch M.root := by
  have e : (bvs M.root).length = 32 := by rw [bvs, List.length_map, h]
  apply Array.ext'
  rw [Array.toList_extract, List.extract_eq_take_drop, List.drop_zero, meterCells, List.toList_toArray, valueCells, List.toList_toArray]
  show List.take 34 _ = _
  rw [List.take_succ_cons, List.take_succ_cons, List.take_left' e]
theorem meterCells_store (dv : Value) {M : MeterM} (h : M.root.length = 32) (c e : Int) {r : List UInt8} (hr : r.length = 32) :
    (splice (meterCells dv M).toList 0 (valueCells c e r).toList).toArray = meterCells dv { M with count := c, epoch := e, root := r } := by
  have e1 : (bvs M.root).length = 32 := by rw [bvs, List.length_map, h]
  have e2 : (bvs r).length = 32 := by rw [bvs, List.length_map, hr]
  congr 1
  rw [splice, List.take_zero, List.nil_append, Nat.zero_add, valueCells, List.toList_toArray, List.length_cons, List.length_cons, e2, meterCells, List.toList_toArray]
  rw [List.drop_succ_cons, List.drop_succ_cons, ← e1, List.drop_left]
  rfl
theorem valueCells_size (c e : Int) {r : List UInt8} (hr : r.length = 32) : (valueCells c e r).size = 34 := by simp [valueCells, bvs, hr]
theorem valueCells_all (c e : Int) (r : List UInt8) : (valueCells c e r).all (·.oneCell') = true := all_oneCell_toArray (by
  intro v hv
  rcases List.mem_cons.1 hv with rfl | hv
  · rfl
  · rcases List.mem_cons.1 hv with rfl | hv
    · rfl
    · exact bvs_oneCell _ v hv)
def zeroRoot : List UInt8 := zeros 32
theorem zeroRoot_length : zeroRoot.length = 32 := zeros_length 32
theorem build_value (a b : Int) (r : List UInt8) (hr : r.length = 32) (w : World) :
    (Instr.build 31 #[(0, .int .i64 a), (1, .int .i64 b), (2, .agg (bvs r).toArray)]).run Try.prog w = .ok (.agg (valueCells a b r)) w := by
  have hs : (bvs r).length = 32 := by rw [bvs, List.length_map, hr]
  have e : valueCells a b r = (#[Value.int IntKind.i64 a, Value.int IntKind.i64 b] : Array Value) ++ (bvs r).toArray := by simp [valueCells]
  rw [e]
  generalize hb : (bvs r).toArray = cells
  have hc : cells.size = 32 := by rw [← hb, List.size_toArray, hs]
  clear e hb
  simp [Instr.build, go_sem, hc]
  rw [fold_arr 2 32 cells _ hc (by rw [hc]; simp)]
  have hl : cells.toList.length = 32 := by simpa using hc
  simp [splice, hl]
end Go.Proofs.Ytakeilefbcpabaa
