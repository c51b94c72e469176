/- Part 2 of what the statement rests on: each piece below begins with its own remark. -/
import Derived.Test.YtakeilefbcpabaaPart1
import Derived.Laws.MakeOwn
import Derived.ProofKit
import Derived.OpenShut
import Derived.SizedLaws
import Derived.ChangeOld
import Derived.Lib.SmallJoins
import Derived.Deep.Slices
import Derived.Test.YtakeilefbcpabaaProg
import Derived.RangeFuncLeaves
import Derived.RangeFuncSeq
import Derived.RangeFuncRecord
import Derived.OrdersIn
import Derived.TacticsIn
/- The operations that make memory: slices put together, structs put together, conversions. No program in sight. -/
namespace Go.Proofs.Ytakeilefbcpabaa
open Go.RowKit

def vcells (v : Value) : List Value := v.cells.toList
/-- The parts of a slice that is put together, in order. -/
inductive Parts (E : Env) : Nat → List (Nat × Operand) → List Value → Prop where
  | nil {k : Nat} : Parts E k [] []
  | cons {k : Nat} {x : Operand} {v : Value} {ps : List (Nat × Operand)} {vs : List Value} (h : Ev E x v) (r : Parts E (k + 1) ps vs) : Parts E k ((k, x) :: ps) (v :: vs)
theorem Parts.eval {E : Env} {N k : Nat} {ps : List (Nat × Operand)} {vs : List Value} {a : Act} (hf : Fr N E a) (h : Parts E k ps vs) : ps.map (fun p => (p.1, a.eval p.2)) = (vs.zipIdx k).map fun p => (p.2, p.1) := by
  induction h with
  | nil => rfl
  | cons h _ ih => simp [h N a hf, ih]
theorem Parts.length {E : Env} {k : Nat} {ps : List (Nat × Operand)} {vs : List Value} (h : Parts E k ps vs) : vs.length = ps.length := by
  induction h with
  | nil => rfl
  | cons _ _ ih => simp [ih]
theorem fill_parts (size : Nat) : ∀ (vs : List Value) (k : Nat) (acc tail : List Value), (∀ v ∈ vs, v.cells.size = size) → acc.length = k * size → tail.length = vs.length * size →
    Instr.fill (fun i => some (i * size, size)) (acc ++ tail).toArray ((vs.zipIdx k).map fun p => (p.2, p.1)) = some (acc ++ vs.flatMap vcells).toArray
  | [], k, acc, tail, _, _, ht => by
    have : tail = [] := List.eq_nil_of_length_eq_zero (by simpa using ht)
    subst this
    simp [Instr.fill]
  | v :: vs, k, acc, tail, hv, ha, ht => by
    have h1 := hv v List.mem_cons_self
    have e := fold_set (k * size) v.cells.toList 0 (acc ++ tail).toArray (by simp [ha, ht, h1, Nat.add_mul])
    rw [← Array.toList_zipIdx, Nat.add_zero, Array.foldl_toList] at e
    have hn : ¬ (decide (v.cells.size ≠ size) || decide (k * size + v.cells.size > (acc ++ tail).toArray.size)) = true := by
      simp [h1, ha, ht, Nat.add_mul]
    simp only [List.zipIdx_cons, List.map_cons, Instr.fill]
    rw [if_neg hn]
    have e2 : (splice (acc ++ tail).toArray.toList (k * size) v.cells.toList).toArray = ((acc ++ vcells v) ++ tail.drop size).toArray := by
      simp only [splice, vcells, ← ha, List.take_left]
      rw [List.drop_append, List.drop_of_length_le (by omega)]
      simp [h1]
    have := fill_parts size vs (k + 1) (acc ++ vcells v) (tail.drop size) (fun u hu => hv u (List.mem_cons_of_mem _ hu)) (by simp [vcells, ha, h1, Nat.add_mul]) (by simp [ht, Nat.add_mul])
    rw [e, e2, this]
    simp

section
variable {P : Program} {N : Nat} {c : Con} {E : Env} {L L' : List HP} {H : World → Prop} {d : Option Nat} {ty : TypeId} {pos : String} {aft : Array Edge} {g : Option (Nat × Bool)}
theorem ow_buildSlice {t e size bytes n : Nat} {z : Value} {ps : List (Nat × Operand)} {vs : List Value} [ht : TSlice P t e size bytes z] (hp : Parts E 0 ps vs) (hn : ps.length = n) (hc : ∀ v ∈ vs, v.cells.size = size)
    (h0 : 0 < n * size) (h1 : n * size ≤ 16777216) : OW P N c E L (Oper.mk d (.buildSlice t n ps.toArray) ty pos aft g) (fun b => .slice (some ⟨b, 0, none⟩) n n) fun b => Bl b e (vs.flatMap vcells) :: L := fun Q K a w hf H hk => by
  have hi := ht.i
  cases hq : P.info? e with
  | none => simp [hq] at hi
  | some ie =>
    simp only [hq, Option.map_some, Option.some.injEq, Prod.mk.injEq] at hi
    refine wp_buildSlice (P := P) t e n ps.toArray rfl (vs.flatMap vcells).toArray ie z ht.u hq hi.1 (by rw [hi.2.1]; omega) (by rw [hi.2.1]; omega) ?_ (hk _ _ (H.allocPt _))
    have e1 : (ps.toArray.map fun (i, x) => (i, a.eval x)).toList = (vs.zipIdx 0).map fun p => (p.2, p.1) := by
      rw [← hp.eval hf]; simp
    have h2 := fill_parts size vs 0 [] ((Array.range (n * ie.size)).map (z.cells[· % z.cells.size]!)).toList hc (by simp) (by simp [hi.2.1, ← hn, hp.length])
    rw [e1, hi.2.1]
    rw [hi.2.1] at h2
    rw [List.nil_append, Array.toArray_toList, List.nil_append] at h2
    exact h2

/-- A slice of none, that isn't nil. -/
theorem ow_buildEmpty {t e size bytes : Nat} {z : Value} [ht : TSlice P t e size bytes z] : OW P N c E L (Oper.mk d (.buildSlice t 0 #[]) ty pos aft g) (fun b => .slice (some ⟨b, 0, none⟩) 0 0) fun b => OwnP e size (.slice (some ⟨b, 0, none⟩) 0 0) 0 [] :: L := fun Q K a w hf H hk => by
  have hi := ht.i
  have _ := hf
  cases hq : P.info? e with
  | none => simp [hq] at hi
  | some ie =>
    unfold Oper.wp execOp
    have hr : (Instr.buildSlice t 0 #[]).run P w = .ok (.slice (some ⟨w.heap.size, 0, none⟩) 0 0) (w.alloc (.cells #[] e)) := by
      have e0 : ∀ f : Nat → Value, Array.map f (Array.range 0) = #[] := fun f => by apply Array.ext'; simp
      simp [Instr.buildSlice, run_underlying ht.u, sizeOf, typeInfo, program, Sem.run, hq, Instr.fill, newRow, newObj, e0]
    simp only [List.map_toArray, List.map_nil, Sem.run_bind, hr, Result.andThen_ok, Sem.run_pure]
    exact hk _ _ ((H.allocPt (.cells #[] e)).imp fun h hb => ⟨by simp, .inr ⟨w.heap.size, 0, #[], rfl, hb, Nat.le_refl _, Nat.zero_le _, by simp, by simp⟩⟩)
/-- Structs put together. -/
inductive Lay (E : Env) (ps : List (Nat × Nat)) : List Value → List (Nat × Operand) → List Value → Prop where
  | nil {z : List Value} : Lay E ps z [] z
  | cons {z out : List Value} {i o s : Nat} {x : Operand} {v : Value} {r : List (Nat × Operand)} (h : Ev E x v) (hp : ps[i]? = some (o, s)) (hs : (vcells v).length = s) (hz : o + s ≤ z.length) (k : Lay E ps (splice z o (vcells v)) r out) :
      Lay E ps z ((i, x) :: r) out
theorem Lay.fill {E : Env} {N : Nat} {ps : List (Nat × Nat)} {z out : List Value} {r : List (Nat × Operand)} {a : Act} (hf : Fr N E a) (h : Lay E ps z r out) : Instr.fill (ps.toArray[·]?) z.toArray (r.map fun p => (p.1, a.eval p.2)) = some out.toArray := by
  induction h with
  | nil => simp [Instr.fill]
  | @cons z out i o s x v r h hp hs hz _ ih =>
    have hs' : v.cells.size = s := by simpa [vcells] using hs
    have e := fold_set o v.cells.toList 0 z.toArray (by simp [hs']; omega)
    rw [← Array.toList_zipIdx, Nat.add_zero, Array.foldl_toList] at e
    have hn' : ¬ (decide (v.cells.size ≠ s) || decide (o + v.cells.size > z.toArray.size)) = true := by simp [hs']; omega
    have hp' : ps.toArray[i]? = some (o, s) := by simpa using hp
    simp only [List.map_cons, h N a hf, Instr.fill, hp']
    rw [if_neg hn', e]
    exact ih
theorem y_build {t : Nat} {ps : List (Nat × Nat)} {z out : List Value} {parts : List (Nat × Operand)} [ht : TPlaces P t ps z] (hl : Lay E ps z parts out) : Y P H E (Oper.mk d (.build t parts.toArray) ty pos aft g) (.agg out.toArray) := fun N a w hf _ => by
  obtain ⟨fs, h1, h2⟩ := ht.u
  have hi := ht.i
  cases hq : P.info? t with
  | none => simp [hq] at hi
  | some i =>
    have hz : i.zero = some (.agg z.toArray) := by simpa [hq] using hi
    have h3 := hl.fill hf
    have e1 : (parts.toArray.map fun (i, x) => (i, a.eval x)).toList = parts.map fun p => (p.1, a.eval p.2) := by simp
    unfold execOp
    simp only [Instr.build, Sem.run_bind, zeroValue, typeInfo, program, Sem.run, hq, hz, Sem.run_pure, Result.andThen_ok, run_underlying h1, h2, Value.cells, e1]
    have h3' : Instr.fill (fun x => ps.toArray[x]?) z.toArray (parts.map fun p => (p.1, a.eval p.2)) = some out.toArray := h3
    have h4 : (fun x : Nat => ps.toArray[x]?) = fun x : Nat => ps[x]? := by funext x; simp
    rw [h4] at h3'
    simp [h3']

/-- A slice of bytes, turned into itself. -/
theorem freeze_heap (w : World) (b n : Nat) (cs : Array Value) (T : TypeId) (hb : w.heap[b]? = some (.cells cs T (0, 0))) :
    (w.freeze ⟨b, n, none⟩ 1).heap[b]? = some (.cells cs T (n, n + 1)) ∧ ∀ k, k ≠ b → (w.freeze ⟨b, n, none⟩ 1).heap[k]? = w.heap[k]? := by
  refine ⟨by simp [World.freeze, Array.getElem?_modify, hb], fun k hk => ?_⟩
  simp [World.freeze, Array.getElem?_modify, Ne.symm hk]
theorem St.freeze {F : List HP} {w : World} {b : Nat} {cs : Array Value} {T : TypeId} (H : St c (Pt b (.cells cs T (0, 0)) :: F) w) (n : Nat) : St c (Pt b (.cells cs T (n, n + 1)) :: F) (w.freeze ⟨b, n, none⟩ 1) := by
  obtain ⟨h, a, l, u⟩ := H.upd
  have hb := l b _ a
  obtain ⟨h1, h2⟩ := freeze_heap w b n cs T hb
  have hc : conOf (w.freeze ⟨b, n, none⟩ 1) = conOf w := by unfold World.freeze; rfl
  refine u _ _ hc (fun k hk hn => h2 k ?_) ?_
  · rintro rfl; rw [a] at hn; cases hn
  · simp only [Pt]
    rw [if_pos (.inl (by rw [a]; rfl))]
    exact h1
theorem ow_mark {F : List HP} {x : Operand} {t e size bytes b o n cap T : Nat} {z : Value} {cs : Array Value} [ht : TSlice P t e size bytes z] [he : TInt P e .u8] (hx : Ev E x (.slice (some ⟨b, o, none⟩) n cap)) (hp : Pick L (Pt b (.cells cs T (0, 0))) F) :
    OW P N c E L (Oper.mk d (.convert t t x) ty pos aft g) (fun _ : Unit => .slice (some ⟨b, o, none⟩) n cap) fun _ => Pt b (.cells cs T (cs.size, cs.size + 1)) :: F := fun Q K a w hf H hk => by
  have H1 := hp.st H
  have hb := H1.pt
  have hs : w.shape? b = some (T, cs.size) := by simp [World.shape?, hb]
  unfold Oper.wp execOp
  simp [hx N a hf, convert, run_underlying ht.u, run_underlying he.u, markStringish, shape, Sem.run, hs, freeze]
  exact hk () _ (H1.freeze cs.size)
/-- The bytes of a string, as memory of its own. -/
def BytesP (b cap : Nat) (e : TypeId) (l : List UInt8) : HP := Pt b (.cells (bvs l ++ List.replicate (cap - l.length) (Value.int .u8 0)).toArray e (cap, cap + 1))
theorem bytesP_reads {F : List HP} {b cap e : Nat} {l : List UInt8} (h1 : l.length ≤ cap) (h2 : cap ≤ 9223372036854775807) : ∀ w, St c (BytesP b cap e l :: F) w → Reads w (.slice (some ⟨b, 0, none⟩) l.length cap) l.length 1 (bvs l) := fun w H => by
  have hb : w.heap[b]? = _ := St.pt (c := c) (L := F) H
  refine ⟨by simp [bvs_length], .inr ⟨_, cap, rfl, h1, h2, fun j u hu => ?_⟩⟩
  rw [add_mid, Nat.zero_add, cell_of_row w b j _ _ _ hb]
  have hj := (List.getElem?_eq_some_iff.1 hu).1
  simp [List.getElem?_append_left hj, hu]
theorem ow_toBytes {x : Operand} {t t' e size bytes : Nat} {z : Value} {l : List UInt8} [hs : TStr P t] [ht : TSlice P t' e size bytes z] [he : TInt P e .u8] (hx : Ev E x (str l)) (hl : l.length ≤ 9223372036854775807) :
    OW P N c E L (Oper.mk d (.convert t t' x) ty pos aft g) (fun q : { q : Nat × Nat // l.length ≤ q.2 ∧ q.2 ≤ 9223372036854775807 } => .slice (some ⟨q.1.1, 0, none⟩) l.length q.1.2) fun q => BytesP q.1.1 q.1.2 e l :: L := fun Q K a w hf H hk => by
  have hge : ∀ t : Nat, l.length ≤ (Question.appendCap l.length 0 e).cut t ∧ (Question.appendCap l.length 0 e).cut t ≤ 9223372036854775807 := fun t => by
    have := Nat.mod_lt t (show 0 < 2 ^ 63 - l.length by omega)
    simp only [Question.cut]; omega
  have hg := hge (w.tape w.drawn (.appendCap l.length 0 e))
  generalize hcap : (Question.appendCap l.length 0 e).cut (w.tape w.drawn (.appendCap l.length 0 e)) = cap at hg
  have e1 : (l.toArray.map fun b => Value.int .u8 (b.toNat : Int)) ++ Array.replicate (cap - l.length) (Value.int .u8 0) = (bvs l ++ List.replicate (cap - l.length) (Value.int .u8 0)).toArray := by
    apply Array.ext'; simp [bvs, bv]
  have hsz : (bvs l ++ List.replicate (cap - l.length) (Value.int .u8 0)).toArray.size = cap := by simp [bvs_length]; omega
  have H1 := (H.drew.allocPt (.cells (bvs l ++ List.replicate (cap - l.length) (Value.int .u8 0)).toArray e)).freeze cap
  have hsh : (w.drew.alloc (.cells (bvs l ++ List.replicate (cap - l.length) (Value.int .u8 0)).toArray e)).shape? w.heap.size = some (e, cap) := by
    have := heap_alloc_new w.drew (.cells (bvs l ++ List.replicate (cap - l.length) (Value.int .u8 0)).toArray e)
    have h0 : w.drew.heap.size = w.heap.size := rfl
    rw [h0] at this
    simp only [World.shape?, this, hsz]
  unfold Oper.wp execOp
  have hr : (convert t t' (str l)).run P w = .ok (.slice (some ⟨w.heap.size, 0, none⟩) l.length cap) ((w.drew.alloc (.cells (bvs l ++ List.replicate (cap - l.length) (Value.int .u8 0)).toArray e)).freeze ⟨w.heap.size, cap, none⟩ 1) := by
    simp only [convert, str, Sem.run_bind, run_underlying hs.u, run_underlying ht.u, Result.andThen_ok, run_underlying he.u, Conv.stringToBytes, choose, Sem.run, Question.forced, Bool.false_eq_true, if_false, str_size, hcap, newRow, newObj, Sem.run_pure, e1, markStringish, shape]
    have hsh' : ({ heap := (w.heap.push (.cells (bvs l ++ List.replicate (cap - l.length) (Value.int .u8 0)).toArray e)), tape := w.tape, drawn := w.drawn + 1, os := w.os, output := w.output } : World).shape? w.heap.size = some (e, cap) := hsh
    simp only [hsh', freeze, Sem.run, Result.andThen_ok]
    rfl
  simp only [hx N a hf, Sem.run_bind, hr, Result.andThen_ok, Sem.run_pure]
  exact hk ⟨(w.heap.size, cap), hg⟩ _ H1
theorem made_one (z : Value) (n : Nat) : (madeCells #[z] n).toList = List.replicate n z := by
  apply List.ext_getElem
  · simp [madeCells]
  · intro i h1 h2
    simp [madeCells, Nat.mod_one]
theorem ow_makeSlice {x y : Operand} {t e bytes : Nat} {z z' : Value} {n : Nat} {k k' : IntKind} [ht : TSlice P t e 1 bytes z] [he : TOne P e z'] (hx : Ev E x (.int k n)) (hy : Ev E y (.int k' n)) (hb : bytes * n ≤ 281474976710656) (h63 : n ≤ 9223372036854775807) :
    OW P N c E L (Oper.mk d (.makeSlice t x y) ty pos aft g) (fun b => .slice (some ⟨b, 0, none⟩) n n) fun b => Bl b e (List.replicate n z') :: L := fun Q K a w hf H hk => by
  have hi := ht.i
  have hi' := he.i
  cases hq : P.info? e with
  | none => simp [hq] at hi
  | some ie =>
    simp only [hq, Option.map_some, Option.some.injEq, Prod.mk.injEq] at hi hi'
    have hz : z = z' := Option.some.inj (hi.1.symm.trans hi'.1)
    subst hz
    have hr := run_make (P := P) w t e ie z ht.u hq hi.1 k k' n n (by omega) (by omega) (by rw [hi.2.2]; omega) (by omega)
    unfold Oper.wp execOp
    simp only [hx N a hf, hy N a hf, Sem.run_bind, hr, Result.andThen_ok, Sem.run_pure, Int.toNat_natCast]
    have e1 : madeCells z.cells (n * ie.size) = (List.replicate n z).toArray := by
      rw [he.one, hi.2.1, Nat.mul_one]; apply Array.ext'; rw [made_one]
    rw [e1]
    exact hk _ _ (H.allocPt _)
theorem replicate_bvs (n : Nat) : List.replicate n (Value.int .u8 0) = bvs (zeros n) := by simp [bvs, zeros, bv]
/-- A block as a slice of one's own. -/
theorem own_of_bl {b e size n : Nat} {cs : List Value} (hl : cs.length = n * size) (hn : n ≤ maxLen) : ∀ h, Bl b e cs h → OwnP e size (.slice (some ⟨b, 0, none⟩) n n) n cs h := fun h hb =>
  ⟨hl, .inr ⟨b, n, cs.toArray, rfl, hb, Nat.le_refl _, hn, by simpa using hl, by simp [← hl]⟩⟩
end
/-! ### clear of a slice -/
theorem ow_clear {P : Program} {N : Nat} {c : Con} {E : Env} {L F : List HP} {d : Option Nat} {ty : TypeId} {pos : String} {aft : Array Edge} {g : Option (Nat × Bool)} {x : Operand} {t e size bytes b o n cap T : Nat} {z : Value} {A : Option Addr} {cur : List Value}
    [ht : TSlice P t e size bytes z] (hx : Ev E x (.slice A n cap)) (hA : 0 < n → A = some ⟨b, o, none⟩) (h1 : ∀ u ∈ z.cells.toList, u.oneCell' = true) (hp : Pick L (Bl b T cur) F) (hfit : o + n * size ≤ cur.length) :
    OW P N c E L (Oper.mk d (.call { callee := .builtin .clear, args := #[x], argTypes := #[t] }) ty pos aft g) (fun _ : { zs : List Value // zs.length = n * size } => .tuple #[]) fun zs => Bl b T (splice cur o zs.1) :: F := fun Q K a w hf H hk => by
  have hi := ht.i
  have H1 := hp.st H
  cases hq : P.info? e with
  | none => simp [hq] at hi
  | some ie =>
    simp only [hq, Option.map_some, Option.some.injEq, Prod.mk.injEq] at hi
    unfold Oper.wp execOp
    by_cases hn : n = 0
    · subst hn
      have hk' := hk ⟨[], by simp⟩ w (by
        have e0 : splice cur o [] = cur := by simp [splice]
        show St c (Bl b T (splice cur o []) :: F) w
        rw [e0]; exact H1)
      have hr : ∀ A, (Builtin.clear_ #[t] ty #[.slice A 0 cap]).run P w = .ok (.tuple #[]) w := fun A => by cases A <;> simp [Builtin.clear_, run_underlying ht.u]
      simp only [resolve, invoke, builtin, Sem.run_bind, Sem.run_pure, Result.andThen_ok, List.map_toArray, List.map_cons, List.map_nil, hx N a hf, hr]
      exact hk'
    · have hA := hA (by omega)
      subst hA
      have hz1 : ∀ u ∈ (Builtin.zeroCells z.cells n).toList, u.oneCell' = true := by
        intro u hu
        simp only [Builtin.zeroCells, Array.toList_map, List.mem_map] at hu
        obtain ⟨i, hi', rfl⟩ := hu
        have hs : 0 < z.cells.size := by
          rcases Nat.eq_zero_or_pos z.cells.size with h0 | h0
          · rw [h0] at hi'; simp at hi'
          · exact h0
        have hlt : i % z.cells.size < z.cells.size := Nat.mod_lt _ hs
        rw [getElem!_pos z.cells _ hlt]
        exact h1 _ (by simp)
      have hzl : (Builtin.zeroCells z.cells n).toList.length = n * size := by simp [size_zeroCells, ht.zs]
      have hst := run_storeCells_at P b o T (Builtin.zeroCells z.cells n).toList 0 cur.toArray w H1.pt (by rw [Nat.add_zero, hzl]; simpa using hfit) hz1
      have hr : (Builtin.clear_ #[t] ty #[.slice (some ⟨b, o, none⟩) n cap]).run P w = .ok (.tuple #[]) (w.setRow b (splice cur o (Builtin.zeroCells z.cells n).toList).toArray) := by
        obtain ⟨m, rfl⟩ : ∃ m, n = m + 1 := ⟨n - 1, by omega⟩
        simp only [Nat.add_zero] at hst
        simp [Builtin.clear_, run_underlying ht.u, zeroValue, typeInfo, hq, hi.1, hst, splice]
      simp only [resolve, invoke, builtin, Sem.run_bind, Sem.run_pure, Result.andThen_ok, List.map_toArray, List.map_cons, List.map_nil, hx N a hf, hr]
      exact hk ⟨_, hzl⟩ _ (H1.setRowPt _)

theorem vcells_int (k : IntKind) (x : Int) : vcells (.int k x) = [.int k x] := rfl
theorem vcells_str (l : List UInt8) : vcells (str l) = [str l] := rfl
theorem vcells_bool (b : Bool) : vcells (.bool b) = [.bool b] := rfl
theorem vcells_slice (A : Option Addr) (n m : Nat) : vcells (.slice A n m) = [.slice A n m] := rfl
theorem vcells_ptr (A : Option Addr) : vcells (.pointer A) = [.pointer A] := rfl
section
variable {E : Env}
theorem Lay.one {ps : List (Nat × Nat)} {z out : List Value} {i o : Nat} {x : Operand} {v : Value} {r : List (Nat × Operand)} (h : Ev E x v) (hp : ps[i]? = some (o, 1)) (hv : vcells v = [v]) (hz : o < z.length) (k : Lay E ps (z.set o v) r out) : Lay E ps z ((i, x) :: r) out := by
  refine .cons h hp (by rw [hv]; rfl) (by omega) ?_
  have e : splice z o (vcells v) = z.set o v := by
    rw [hv, splice, List.set_eq_take_append_cons_drop, if_pos hz]
    simp
  rw [e]; exact k
end

/-! ### What fills itself: the tactics stand here once -/
section
variable {P : Program} {N : Nat} {c : Con} {E : Env} {L : List HP} {Q : Exit → Act → World → Prop} {ops : Array Oper} {H : World → Prop}
theorem ev_auto {x : Operand} {v : Value} (h : Ev E x v := by (first | exact ev_tmp rfl | exact ev_const | exact ev_func)) : Ev E x v := h
theorem evs_auto {xs : Array Operand} {vs : List Value} (h : Evs E xs vs := by ((repeat (first | exact evs_nil | ((apply evs_cons); focus (first | exact ev_tmp rfl | exact ev_const | exact ev_func)))); (first | done | fail))) : Evs E xs vs := h
theorem parts_auto {k : Nat} {ps : List (Nat × Operand)} {vs : List Value} (h : Parts E k ps vs := by ((repeat (first | exact Parts.nil | ((apply Parts.cons); focus (first | exact ev_tmp rfl | exact ev_const | exact ev_func)))); (first | done | fail))) : Parts E k ps vs := h
theorem lay_auto {ps : List (Nat × Nat)} {z out : List Value} {r : List (Nat × Operand)} (h : Lay E ps z r out := by ((repeat (first | exact Lay.nil | ((apply Lay.one); (first | exact ev_tmp rfl | exact ev_const | exact ev_func); (with_unfolding_all exact rfl); (first | exact vcells_int _ _ | exact vcells_str _ | exact vcells_bool _ | exact vcells_slice _ _ _ | exact vcells_ptr _); (with_unfolding_all exact Nat.le_of_ble_eq_true rfl)) | ((apply Lay.cons); (first | exact ev_tmp rfl | exact ev_const | exact ev_func); (with_unfolding_all exact rfl); (with_unfolding_all exact rfl); (with_unfolding_all exact Nat.le_of_ble_eq_true rfl)))); (first | done | fail))) : Lay E ps z r out := h
theorem sub_auto {E' : Env} (h : Sub E' E := by ((repeat (first | exact sub_nil | refine sub_cons rfl ?_)); (first | done | fail))) : Sub E' E := h
theorem pick_auto {A : HP} {F : List HP} (h : Pick L A F := by ((repeat (first | with_reducible exact Pick.hd | with_reducible apply Pick.tl)); (first | done | fail))) : Pick L A F := h
theorem pickd_auto {A : HP} {F : List HP} (h : Pick L A F := by ((repeat (first | with_reducible exact Pick.hd | exact Pick.hd | with_reducible apply Pick.tl)); (first | done | fail))) : Pick L A F := h
theorem sel_auto {L' : List HP} (h : Sel L L' := by ((repeat (first | with_reducible exact sel_all | exact Sel.nil | ((with_reducible apply Sel.cons); focus (exact pick_auto)) | with_reducible apply Sel.own0 | ((with_reducible apply Sel.cons); focus (exact pickd_auto)) | with_reducible apply Sel.tl)); (first | done | fail))) : Sel L L' := h
theorem has_auto {b : Nat} {o : Obj} (h : Has H b o := by ((repeat (first | with_reducible exact has_hd | with_reducible refine has_tl ?_)); (first | done | fail))) : Has H b o := h
theorem upd_auto {L' : List HP} {b : Nat} {T : TypeId} {cs cs' : List Value} (h : Upd L b T cs cs' L' := by ((repeat (first | with_reducible exact Upd.hd | with_reducible apply Upd.tl)); (first | done | fail))) : Upd L b T cs cs' L' := h
class IsAct (o : Op) : Prop where
  t : True
instance {b : Call} : IsAct (.call b) := ⟨trivial⟩
instance {t : TypeId} : IsAct (.alloc t) := ⟨trivial⟩
instance {t : TypeId} {x : Operand} : IsAct (.box t x) := ⟨trivial⟩
instance {t : TypeId} {x y : Operand} : IsAct (.store t x y) := ⟨trivial⟩
instance {t n : Nat} {ps : Array (Nat × Operand)} : IsAct (.buildSlice t n ps) := ⟨trivial⟩
instance {t : TypeId} {x y : Operand} : IsAct (.makeSlice t x y) := ⟨trivial⟩
instance {t t' : TypeId} {x : Operand} : IsAct (.convert t t' x) := ⟨trivial⟩
theorem is_owkc {K : Value → List HP → Prop} {d : Option Nat} {ty : TypeId} {pos : String} {aft : Array Edge} {g : Option (Nat × Bool)} {op : Op} [IsAct op] (h : OWK P N c E L (Oper.mk d op ty pos aft g) K) : OWK P N c E L (Oper.mk d op ty pos aft g) K := h
theorem gy_move {v : Value} {d : Option Nat} {ty : TypeId} {pos : String} {aft : Array Edge} {g : Option (Nat × Bool)} {x : Operand} (k : Y P H E (Oper.mk d (.move x) ty pos aft g) v) : Y P H E (Oper.mk d (.move x) ty pos aft g) v := k
theorem gy_assign {v : Value} {d : Option Nat} {ty : TypeId} {pos : String} {aft : Array Edge} {g : Option (Nat × Bool)} {x : Operand} (k : Y P H E (Oper.mk d (.assign x) ty pos aft g) v) : Y P H E (Oper.mk d (.assign x) ty pos aft g) v := k
theorem gy_nilCheck {v : Value} {d : Option Nat} {ty : TypeId} {pos : String} {aft : Array Edge} {g : Option (Nat × Bool)} {x : Operand} (k : Y P H E (Oper.mk d (.nilCheck x) ty pos aft g) v) : Y P H E (Oper.mk d (.nilCheck x) ty pos aft g) v := k
theorem gy_field {v : Value} {d : Option Nat} {ty : TypeId} {pos : String} {aft : Array Edge} {g : Option (Nat × Bool)} {s f : Nat} {x : Operand} (k : Y P H E (Oper.mk d (.fieldAddr s x f) ty pos aft g) v) : Y P H E (Oper.mk d (.fieldAddr s x f) ty pos aft g) v := k
theorem gy_load {v : Value} {d : Option Nat} {ty : TypeId} {pos : String} {aft : Array Edge} {g : Option (Nat × Bool)} {t : TypeId} {x : Operand} (k : Y P H E (Oper.mk d (.load t x) ty pos aft g) v) : Y P H E (Oper.mk d (.load t x) ty pos aft g) v := k
theorem gy_bin {v : Value} {d : Option Nat} {ty : TypeId} {pos : String} {aft : Array Edge} {g : Option (Nat × Bool)} {o : BinOp} {t t' : TypeId} {x y : Operand} (k : Y P H E (Oper.mk d (.binOp o t x y t') ty pos aft g) v) : Y P H E (Oper.mk d (.binOp o t x y t') ty pos aft g) v := k
theorem gy_pick {v : Value} {d : Option Nat} {ty : TypeId} {pos : String} {aft : Array Edge} {g : Option (Nat × Bool)} {x y z : Operand} (k : Y P H E (Oper.mk d (.pick x y z) ty pos aft g) v) : Y P H E (Oper.mk d (.pick x y z) ty pos aft g) v := k
theorem gy_extract {v : Value} {d : Option Nat} {ty : TypeId} {pos : String} {aft : Array Edge} {g : Option (Nat × Bool)} {x : Operand} {i : Nat} (k : Y P H E (Oper.mk d (.extract x i) ty pos aft g) v) : Y P H E (Oper.mk d (.extract x i) ty pos aft g) v := k
theorem gy_un {v : Value} {d : Option Nat} {ty : TypeId} {pos : String} {aft : Array Edge} {g : Option (Nat × Bool)} {o : UnOp} {t : TypeId} {x : Operand} (k : Y P H E (Oper.mk d (.unOp o t x) ty pos aft g) v) : Y P H E (Oper.mk d (.unOp o t x) ty pos aft g) v := k
theorem gy_call {v : Value} {d : Option Nat} {ty : TypeId} {pos : String} {aft : Array Edge} {g : Option (Nat × Bool)} {b : Call} (k : Y P H E (Oper.mk d (.call b) ty pos aft g) v) : Y P H E (Oper.mk d (.call b) ty pos aft g) v := k
theorem gy_index {v : Value} {d : Option Nat} {ty : TypeId} {pos : String} {aft : Array Edge} {g : Option (Nat × Bool)} {t : TypeId} {x i : Operand} (k : Y P H E (Oper.mk d (.indexAddr t x i) ty pos aft g) v) : Y P H E (Oper.mk d (.indexAddr t x i) ty pos aft g) v := k
theorem gy_slice {v : Value} {d : Option Nat} {ty : TypeId} {pos : String} {aft : Array Edge} {g : Option (Nat × Bool)} {t : TypeId} {x : Operand} {l h' m : Option Operand} (k : Y P H E (Oper.mk d (.slice t x l h' m) ty pos aft g) v) : Y P H E (Oper.mk d (.slice t x l h' m) ty pos aft g) v := k
theorem gy_conv {v : Value} {d : Option Nat} {ty : TypeId} {pos : String} {aft : Array Edge} {g : Option (Nat × Bool)} {t t' : TypeId} {x : Operand} (k : Y P H E (Oper.mk d (.convert t t' x) ty pos aft g) v) : Y P H E (Oper.mk d (.convert t t' x) ty pos aft g) v := k
theorem gy_func {v : Value} {d : Option Nat} {ty : TypeId} {pos : String} {aft : Array Edge} {g : Option (Nat × Bool)} {fn : Fn} {a b : Array Operand} (k : Y P H E (Oper.mk d (.makeFunc fn a b) ty pos aft g) v) : Y P H E (Oper.mk d (.makeFunc fn a b) ty pos aft g) v := k
theorem gy_build {v : Value} {d : Option Nat} {ty : TypeId} {pos : String} {aft : Array Edge} {g : Option (Nat × Bool)} {t : TypeId} {ps : Array (Nat × Operand)} (k : Y P H E (Oper.mk d (.build t ps) ty pos aft g) v) : Y P H E (Oper.mk d (.build t ps) ty pos aft g) v := k
theorem ga_alloc {β : Type} {r : β → Value} {L' : β → List HP} {d : Option Nat} {ty : TypeId} {pos : String} {aft : Array Edge} {g : Option (Nat × Bool)} {t : TypeId} (k : OW P N c E L (Oper.mk d (.alloc t) ty pos aft g) r L') : OW P N c E L (Oper.mk d (.alloc t) ty pos aft g) r L' := k
theorem ga_box {β : Type} {r : β → Value} {L' : β → List HP} {d : Option Nat} {ty : TypeId} {pos : String} {aft : Array Edge} {g : Option (Nat × Bool)} {t : TypeId} {x : Operand} (k : OW P N c E L (Oper.mk d (.box t x) ty pos aft g) r L') : OW P N c E L (Oper.mk d (.box t x) ty pos aft g) r L' := k
theorem ga_store {β : Type} {r : β → Value} {L' : β → List HP} {d : Option Nat} {ty : TypeId} {pos : String} {aft : Array Edge} {g : Option (Nat × Bool)} {t : TypeId} {x y : Operand} (k : OW P N c E L (Oper.mk d (.store t x y) ty pos aft g) r L') : OW P N c E L (Oper.mk d (.store t x y) ty pos aft g) r L' := k
theorem ga_buildSlice {β : Type} {r : β → Value} {L' : β → List HP} {d : Option Nat} {ty : TypeId} {pos : String} {aft : Array Edge} {g : Option (Nat × Bool)} {t n : Nat} {ps : Array (Nat × Operand)} (k : OW P N c E L (Oper.mk d (.buildSlice t n ps) ty pos aft g) r L') : OW P N c E L (Oper.mk d (.buildSlice t n ps) ty pos aft g) r L' := k
theorem ga_makeSlice {β : Type} {r : β → Value} {L' : β → List HP} {d : Option Nat} {ty : TypeId} {pos : String} {aft : Array Edge} {g : Option (Nat × Bool)} {t : TypeId} {x y : Operand} (k : OW P N c E L (Oper.mk d (.makeSlice t x y) ty pos aft g) r L') : OW P N c E L (Oper.mk d (.makeSlice t x y) ty pos aft g) r L' := k
theorem ga_conv {β : Type} {r : β → Value} {L' : β → List HP} {d : Option Nat} {ty : TypeId} {pos : String} {aft : Array Edge} {g : Option (Nat × Bool)} {t t' : TypeId} {x : Operand} (k : OW P N c E L (Oper.mk d (.convert t t' x) ty pos aft g) r L') : OW P N c E L (Oper.mk d (.convert t t' x) ty pos aft g) r L' := k
class IsAct0 (o : Op) : Prop where
  t : True
instance {t : TypeId} {x y : Operand} : IsAct0 (.store t x y) := ⟨trivial⟩
instance {t t' : TypeId} {x : Operand} : IsAct0 (.convert t t' x) := ⟨trivial⟩
theorem is_owk0 {K : Value → List HP → Prop} {d : Option Nat} {ty : TypeId} {pos : String} {aft : Array Edge} {g : Option (Nat × Bool)} {op : Op} [IsAct0 op] (h : OWK P N c E L (Oper.mk d op ty pos aft g) K) : OWK P N c E L (Oper.mk d op ty pos aft g) K := h
theorem owk0_auto {o : Oper} {r : Value} {L' : List HP} {K : Value → List HP → Prop} (h : OW P N c E L o (fun _ : Unit => r) (fun _ => L') := by (first | (with_reducible apply ga_conv; first | exact ow_mark (ev_tmp rfl) pick_auto) | (with_reducible apply ga_store; first | exact ow_store (ev_tmp rfl) (ev_tmp rfl) rfl upd_auto (by simp) | exact ow_store (ev_tmp rfl) ev_const rfl upd_auto (by simp)))) (k : K r L') : OWK P N c E L o K := owk0 h k
theorem yk_auto {o : Oper} {v : Value} {K : Value → Prop} (h : Y P H E o v := by (first | (with_reducible apply gy_move; first | exact y_move (ev_tmp rfl) | exact y_move ev_const) | (with_reducible apply gy_assign; first | exact y_assign (ev_tmp rfl) | exact y_assign ev_const) | (with_reducible apply gy_nilCheck; first | exact y_nilCheck (ev_tmp rfl)) | (with_reducible apply gy_field; first | exact y_field (ev_tmp rfl)) | (with_reducible apply gy_load; first | exact y_load (ev_tmp rfl) (hasCell_bl has_auto rfl) | exact y_load (ev_tmp rfl) (by assumption) | exact y_loadN (ev_tmp rfl) (hasCells_all has_auto) rfl | exact y_loadN (ev_tmp rfl) (hasCells_all has_auto) (by assumption)) | (with_reducible apply gy_bin; first | exact y_lss (ev_tmp rfl) (ev_tmp rfl) | exact y_lss (ev_tmp rfl) ev_const | exact y_lss ev_const (ev_tmp rfl) | exact y_leq (ev_tmp rfl) (ev_tmp rfl) | exact y_leq (ev_tmp rfl) ev_const | exact y_leq ev_const (ev_tmp rfl) | exact y_gtr (ev_tmp rfl) (ev_tmp rfl) | exact y_gtr (ev_tmp rfl) ev_const | exact y_gtr ev_const (ev_tmp rfl) | exact y_geq (ev_tmp rfl) (ev_tmp rfl) | exact y_geq (ev_tmp rfl) ev_const | exact y_geq ev_const (ev_tmp rfl) | exact y_eql (ev_tmp rfl) (ev_tmp rfl) | exact y_eql (ev_tmp rfl) ev_const | exact y_eql ev_const (ev_tmp rfl) | exact y_neq (ev_tmp rfl) (ev_tmp rfl) | exact y_neq (ev_tmp rfl) ev_const | exact y_neq ev_const (ev_tmp rfl) | exact y_add64 (ev_tmp rfl) (ev_tmp rfl) (by omega) | exact y_add64 (ev_tmp rfl) ev_const (by omega) | exact y_add64 ev_const (ev_tmp rfl) (by omega) | exact y_sub64 (ev_tmp rfl) (ev_tmp rfl) (by omega) | exact y_sub64 (ev_tmp rfl) ev_const (by omega) | exact y_sub64 ev_const (ev_tmp rfl) (by omega) | exact y_mul64 (ev_tmp rfl) (ev_tmp rfl) (by omega) | exact y_mul64 (ev_tmp rfl) ev_const (by omega) | exact y_mul64 ev_const (ev_tmp rfl) (by omega) | exact y_quo64 (ev_tmp rfl) (ev_tmp rfl) (by omega) | exact y_quo64 (ev_tmp rfl) ev_const (by omega) | exact y_quo64 ev_const (ev_tmp rfl) (by omega) | exact y_rem (ev_tmp rfl) (ev_tmp rfl) (by omega) | exact y_rem (ev_tmp rfl) ev_const (by omega) | exact y_rem ev_const (ev_tmp rfl) (by omega) | exact y_eql_some (ev_tmp rfl) ev_const | exact y_neq_some (ev_tmp rfl) ev_const | exact y_eql_none (ev_tmp rfl) ev_const | exact y_neq_none (ev_tmp rfl) ev_const | exact y_eql_d (ev_tmp rfl) (ev_tmp rfl) | exact y_neq_d (ev_tmp rfl) (ev_tmp rfl) | exact y_eql_b (ev_tmp rfl) (ev_tmp rfl) | exact y_eql_b (ev_tmp rfl) ev_const | exact y_eql_b ev_const (ev_tmp rfl) | exact y_neq_b (ev_tmp rfl) (ev_tmp rfl) | exact y_neq_b (ev_tmp rfl) ev_const | exact y_neq_b ev_const (ev_tmp rfl) | exact y_eql_s (ev_tmp rfl) (ev_tmp rfl) | exact y_eql_s (ev_tmp rfl) ev_const | exact y_eql_s ev_const (ev_tmp rfl) | exact y_neq_s (ev_tmp rfl) (ev_tmp rfl) | exact y_neq_s (ev_tmp rfl) ev_const | exact y_neq_s ev_const (ev_tmp rfl) | exact y_add_s (ev_tmp rfl) (ev_tmp rfl) (by omega) | exact y_add_s (ev_tmp rfl) ev_const (by omega) | exact y_add_s ev_const (ev_tmp rfl) (by omega) | exact y_shr (ev_tmp rfl) (ev_tmp rfl) (by omega) (by simp [IntKind.bits]) | exact y_shr (ev_tmp rfl) ev_const (by omega) (by simp [IntKind.bits]) | exact y_shr ev_const (ev_tmp rfl) (by omega) (by simp [IntKind.bits]) | exact y_add (ev_tmp rfl) (ev_tmp rfl) | exact y_add (ev_tmp rfl) ev_const | exact y_add ev_const (ev_tmp rfl) | exact y_sub (ev_tmp rfl) (ev_tmp rfl) | exact y_sub (ev_tmp rfl) ev_const | exact y_sub ev_const (ev_tmp rfl) | exact y_mul (ev_tmp rfl) (ev_tmp rfl) | exact y_mul (ev_tmp rfl) ev_const | exact y_mul ev_const (ev_tmp rfl) | exact y_bits (.inl rfl) (ev_tmp rfl) (ev_tmp rfl) | exact y_bits (.inl rfl) (ev_tmp rfl) ev_const | exact y_bits (.inr (.inl rfl)) (ev_tmp rfl) (ev_tmp rfl) | exact y_bits (.inr (.inl rfl)) (ev_tmp rfl) ev_const | exact y_bits (.inr (.inr (.inl rfl))) (ev_tmp rfl) (ev_tmp rfl) | exact y_bits (.inr (.inr (.inl rfl))) (ev_tmp rfl) ev_const | exact y_bits (.inr (.inr (.inr rfl))) (ev_tmp rfl) (ev_tmp rfl) | exact y_bits (.inr (.inr (.inr rfl))) (ev_tmp rfl) ev_const) | (with_reducible apply gy_pick; first | exact y_pick_t (ev_tmp rfl) (ev_tmp rfl) | exact y_pick_t (ev_tmp rfl) ev_const | exact y_pick_f (ev_tmp rfl) (ev_tmp rfl) | exact y_pick_f (ev_tmp rfl) ev_const) | (with_reducible apply gy_extract; first | exact y_ext20 (ev_tmp rfl) | exact y_ext21 (ev_tmp rfl) | exact y_ext30 (ev_tmp rfl) | exact y_ext31 (ev_tmp rfl) | exact y_ext32 (ev_tmp rfl) | exact y_ext40 (ev_tmp rfl) | exact y_ext41 (ev_tmp rfl) | exact y_ext42 (ev_tmp rfl) | exact y_ext43 (ev_tmp rfl) | exact y_extract (ev_tmp rfl) rfl) | (with_reducible apply gy_un; first | exact y_not_t (ev_tmp rfl) | exact y_not_f (ev_tmp rfl) | exact y_not (ev_tmp rfl) | exact y_not_b (ev_tmp rfl) rfl) | (with_reducible apply gy_index; first | exact y_indexN (ev_tmp rfl) (ev_tmp rfl) (by omega) | exact y_indexN (ev_tmp rfl) ev_const (by omega) | exact y_index (ev_tmp rfl) (ev_tmp rfl) (by omega) | exact y_index (ev_tmp rfl) ev_const (by omega) | exact y_indexAN (ev_tmp rfl) (ev_tmp rfl) (by omega) | exact y_indexAN (ev_tmp rfl) ev_const (by omega) | exact y_indexA (ev_tmp rfl) (ev_tmp rfl) (by omega) | exact y_indexA (ev_tmp rfl) ev_const (by omega) | exact y_indexArr (ev_tmp rfl) (ev_tmp rfl) (by omega) | exact y_indexArr (ev_tmp rfl) ev_const (by omega)) | (with_reducible apply gy_slice; first | exact y_sliceArr (ev_tmp rfl) | exact y_sliceLo (ev_tmp rfl) (ev_tmp rfl) (by omega) | exact y_sliceHi (ev_tmp rfl) (ev_tmp rfl) (by omega) | exact y_sliceStr (ev_tmp rfl) (ev_tmp rfl) (ev_tmp rfl) (by omega) | exact y_sliceStrLo (ev_tmp rfl) (ev_tmp rfl) (by omega) | exact y_sliceStrHi (ev_tmp rfl) (ev_tmp rfl) (by omega)) | (with_reducible apply gy_call; first | exact y_lenSlice (ev_tmp rfl) | exact y_lenStr (ev_tmp rfl) | exact y_min (ev_tmp rfl) (ev_tmp rfl) | exact y_min (ev_tmp rfl) ev_const | exact y_min ev_const (ev_tmp rfl) | exact y_max (ev_tmp rfl) (ev_tmp rfl) | exact y_max (ev_tmp rfl) ev_const | exact y_max ev_const (ev_tmp rfl)) | (with_reducible apply gy_build; first | exact y_build lay_auto) | (with_reducible apply gy_conv; first | exact y_conv_int (ev_tmp rfl)) | (with_reducible apply gy_func; first | exact y_makeFunc evs_auto))) (k : K v) : YK P H E o K := ⟨v, h, k⟩
theorem owk_auto {o : Oper} {β : Type} {r : β → Value} {L' : β → List HP} {K : Value → List HP → Prop} (h : OW P N c E L o r L' := by (first | (with_reducible apply ga_alloc; first | exact ow_alloc1 | exact ow_allocN) | (with_reducible apply ga_box; first | exact ow_box1 (ev_tmp rfl) rfl | exact ow_boxAgg (ev_tmp rfl) | exact ow_box (ev_tmp rfl) rfl) | (with_reducible apply ga_buildSlice; first | exact ow_buildEmpty | exact ow_buildSlice parts_auto rfl (by first | (simp [Value.cells, str]; done) | fail) (by decide) (by decide)) | (with_reducible apply ga_makeSlice; first | exact ow_makeSlice (ev_tmp rfl) (ev_tmp rfl) (by omega) (by omega) | exact ow_makeSlice ev_const ev_const (by omega) (by omega)) | (with_reducible apply ga_conv; first | exact ow_toBytes (ev_tmp rfl) (by omega)))) (k : ∀ x, K (r x) (L' x)) : OWK P N c E L o K := ⟨β, r, L', h, k⟩
section
variable {G : Prop}
theorem im_wl {l : List Oper} (h : G → WL P N c ops Q l E L) : G → WL P N c ops Q l E L := h
theorem im_owk {K : Value → List HP → Prop} {o : Oper} (h : G → OWK P N c E L o K) : G → OWK P N c E L o K := h
theorem im_w {x : Code} (h : G → W P N c Q x E L) : G → W P N c Q x E L := h
theorem im_x {e : Exit} (h : G → X N c Q e E L) : G → X N c Q e E L := h
theorem im_cv {x y : Code} {v : Value} (h : G → CV P N c Q x y E L v) : G → CV P N c Q x y E L v := h
theorem im_wp {R : List HP} {er : Nat → Bool} {p : Plan} (h : G → WP P N c ops Q R er p E L) : G → WP P N c ops Q R er p E L := h
theorem im_wpT {R : List HP} {er : Nat → Bool} {i : Nat} {r : Plan} (h : G → WP P N c ops Q R er ((i, true) :: r) E L) : G → WP P N c ops Q R er ((i, true) :: r) E L := h
theorem im_wpF {R : List HP} {er : Nat → Bool} {i : Nat} {r : Plan} (h : G → WP P N c ops Q R er ((i, false) :: r) E L) : G → WP P N c ops Q R er ((i, false) :: r) E L := h
theorem im_kept {R : List HP} {er : Nat → Bool} {i : Nat} {r : Plan} (h : G → Kept P N c ops Q R er i r E L) : G → Kept P N c ops Q R er i r E L := h
end
end
theorem go1 {G G' : Prop} (h : G' → G := by (first | (with_reducible apply im_wl; first | exact fun h => wl_step rfl h | exact fun h => wl_nil h | exact fun h => wl_step0 h | exact fun h => wl_in rfl rfl h | exact fun h => wl_out rfl rfl rfl rfl h | exact fun h => wl_outU rfl rfl rfl h | exact fun h => wl_part_t rfl rfl (by first | exact rfl | exact ne_self | decide | omega | assumption) h | exact fun h => wl_part_f rfl rfl (by first | exact rfl | exact ne_self | decide | omega | assumption) h) | (with_reducible apply im_owk; first | exact fun h => owk_yk h) | (with_reducible apply im_w; first | exact fun h => w_seq h | exact fun h => w_region h | exact fun h => w_cv rfl h | exact fun h => w_skip h | exact fun h => w_ret h | exact fun h => w_exit h | exact fun h => w_block h) | (with_reducible apply im_x; first | exact fun h => x_then h | exact fun h => x_block h | exact fun h => x_noPanic h | exact fun h => x_thenR h | exact fun h => x_blockR h | exact fun h => x_thenE h | exact fun h => x_blockE h | exact fun h => x_blockE' rfl h) | (with_reducible apply im_cv; first | exact fun h => cv_true h | exact fun h => cv_false h | exact fun h => cv_dec_t (by first | exact rfl | exact ne_self | decide | omega | assumption) h | exact fun h => cv_dec_f (by first | exact rfl | exact ne_self | decide | omega | assumption) h | exact fun h => cv_bool_t (by assumption) h | exact fun h => cv_bool_f (by assumption) h) | (with_reducible apply im_wpT; first | exact fun h => wq_step rfl rfl h | exact fun h => wq_stepG rfl rfl rfl rfl h | exact fun h => wq_out rfl rfl rfl rfl rfl h | exact fun h => wq_part_t rfl rfl rfl (by first | exact rfl | exact ne_self | decide | omega | assumption) h | exact fun h => wq_part_f rfl rfl rfl (by first | exact rfl | exact ne_self | decide | omega | assumption) h) | (with_reducible apply im_wpF; first | exact fun h => wq_act rfl rfl h | exact fun h => wq_act0 rfl h | exact fun h => wq_actG rfl rfl rfl rfl h | exact fun h => wq_outa rfl rfl rfl rfl rfl (fun _ => sel_auto) h | exact fun h => wq_part_t rfl rfl rfl (by first | exact rfl | exact ne_self | decide | omega | assumption) h | exact fun h => wq_part_f rfl rfl rfl (by first | exact rfl | exact ne_self | decide | omega | assumption) h) | (with_reducible apply im_wp; first | exact fun h => wq_nil h) | (with_reducible apply im_kept; first | exact fun h => kept_late (by decide +kernel) h | exact fun h => kept_same sel_auto h))) (k : G') : G := h k
theorem go2 {G A B : Prop} (h : A → B → G := by (first | exact fun h k => wl_part rfl rfl h k | exact fun h k => wl_partB rfl rfl h k | exact fun h k => cv_dec h k | exact fun h k => cv_bool h k | exact fun h k => wq_part rfl rfl rfl h k | exact fun h k => wq_partB rfl rfl rfl h k)) (ka : A) (kb : B) : G := h ka kb
end Go.Proofs.Ytakeilefbcpabaa

/- Slices that came in, of elements of any make: from their reading as data to what their cells hold. -/
namespace Go.Proofs.Ytakeilefbcpabaa
open Go.ChangeShapes Go.WideShapes Go.ChangeAt Go.RowKit Go.Deep

/-- Cells that lie at an address. -/
def CellsAt (w : World) (ad : Addr) (cs : List Value) : Prop := ∀ i u, cs[i]? = some u → w.cell? (ad.add i) = some u
theorem CellsAt.keep {w w' : World} {ad : Addr} {cs : List Value} (h : CellsAt w ad cs) (hk : ∀ b, b < w.heap.size → w'.heap[b]? = w.heap[b]?) : CellsAt w' ad cs := fun i u hu => by
  have e := h i u hu
  rw [World.cell?_of_block (w := w) (hk _ (World.block_lt_of_cell? w _ e))]
  exact e

/-- The slice (A, len) holds xs; R: what an element's cells say. -/
def ElemsOf {α : Type} (R : World → α → List Value → Prop) (size : Nat) (w : World) (A : Option Addr) (len : Nat) (xs : List α) : Prop :=
  xs.length = len ∧ len ≤ 9223372036854775807 ∧ ∀ (j : Nat) (x : α), xs[j]? = some x → ∃ a cs, A = some a ∧ R w x cs ∧ cs.length = size ∧ CellsAt w (a.add (j * size)) cs

section
variable {H : Type} {enc : TypeId × Value → H} {W : World} {α : Type}

theorem cells_at {P : Program} {ad : Addr} {n : Nat} {cs : List Value} (h : W.cells? 0 ad n = some cs) (_ : P = P) : cs.length = n ∧ CellsAt W ad cs := by
  unfold World.cells? at h
  rw [if_pos (Nat.zero_le _)] at h
  have hl : cs.length = n := by simpa using mapM_some_length h
  refine ⟨hl, fun i u hu => ?_⟩
  have hi : i < n := by rw [← hl]; exact (List.getElem?_eq_some_iff.1 hu).1
  have e := mapM_some_get h i i (by simp [hi])
  rw [hu] at e
  exact e

theorem open_elems {P : Program} {t e : TypeId} {size : Nat} {R : World → α → List Value → Prop} (ht : P.underlying t = some (.slice e)) (hs : P.cellsOf e = size)
    (hR : ∀ (n : Nat) (cs : List Value) (x : DataW H × List MemPlace), cs.length = size → DataW.trod enc P W 0 (fun _ => true) true n e cs = some x → ∃ y : α, R W y cs)
    {fuel : Nat} {cs0 : List Value} {x : DataW H × List MemPlace} (h : DataW.trod enc P W 0 (fun _ => true) true fuel t cs0 = some x) :
    ∃ a len cap, cs0 = [.slice a len cap] ∧ (a = none → len = 0 ∧ cap = 0) ∧ len ≤ cap ∧ cap ≤ 9223372036854775807 ∧ ∃ ys, ElemsOf R size W a len ys := by
  rcases open_slice ht h with ⟨rfl, _⟩ | ⟨a, len, cap, m, n, D, Pl, rfl, _, hl, hm, hmm, _, he⟩
  · exact ⟨none, 0, 0, rfl, fun _ => ⟨rfl, rfl⟩, Nat.le_refl _, by omega, [], rfl, by omega, fun j x h => by simp at h⟩
  · have hm' : m = cap := by simpa using hmm
    have hcap : cap ≤ 9223372036854775807 := by simpa [maxLen] using hm
    have hex : ∀ i : Nat, i < len → ∃ y cs, R W y cs ∧ cs.length = size ∧ CellsAt W (a.add (i * size)) cs := by
      intro i hi
      obtain ⟨cs', h1, h2⟩ := he i (by omega)
      rw [hs] at h1
      obtain ⟨h3, h4⟩ := cells_at (P := P) h1 rfl
      obtain ⟨y, hy⟩ := hR n cs' _ h3 h2
      exact ⟨y, cs', hy, h3, h4⟩
    refine ⟨some a, len, cap, rfl, (fun h => by cases h), hl, hcap, ?_⟩
    have build : ∀ k, k ≤ len → ∃ ys : List α, ys.length = k ∧ ∀ (j : Nat) (x : α), ys[j]? = some x → ∃ cs, R W x cs ∧ cs.length = size ∧ CellsAt W (a.add (j * size)) cs := by
      intro k
      induction k with
      | zero => intro _; exact ⟨[], rfl, fun j x h => by simp at h⟩
      | succ k ih =>
        intro hk
        obtain ⟨ys, h1, h2⟩ := ih (by omega)
        obtain ⟨y, cs, h3, h4, h5⟩ := hex k (by omega)
        refine ⟨ys ++ [y], by simp [h1], fun j x hx => ?_⟩
        rw [List.getElem?_append] at hx
        split at hx
        · exact h2 j x hx
        · rename_i hj
          have : j = k := by
            have := (List.getElem?_eq_some_iff.1 hx).1
            simp at this; omega
          subst this
          rw [h1, Nat.sub_self] at hx
          simp at hx
          subst hx
          exact ⟨cs, h3, h4, h5⟩
    obtain ⟨ys, h1, h2⟩ := build len (Nat.le_refl _)
    exact ⟨ys, h1, by omega, fun j x hx => by obtain ⟨cs, h⟩ := h2 j x hx; exact ⟨a, cs, rfl, h⟩⟩

/-! ### Elements -/
theorem elem_int {P : Program} {t : TypeId} (ht : P.underlying t = some (.int .i64)) {n : Nat} {cs : List Value} {x : DataW H × List MemPlace} (h : DataW.trod enc P W 0 (fun _ => true) true n t cs = some x) :
    ∃ z : Int, cs = [.int .i64 z] ∧ -9223372036854775808 ≤ z ∧ z ≤ 9223372036854775807 := by
  obtain ⟨z, h1, _, h2⟩ := DataW.trod_int ht h
  refine ⟨z, h1, ?_⟩
  simp [Lit.wf, IntKind.min, IntKind.max, IntKind.signed, IntKind.bits] at h2; omega
theorem elem_u64 {P : Program} {t : TypeId} (ht : P.underlying t = some (.int .u64)) {n : Nat} {cs : List Value} {x : DataW H × List MemPlace} (h : DataW.trod enc P W 0 (fun _ => true) true n t cs = some x) :
    ∃ z : Int, cs = [.int .u64 z] ∧ 0 ≤ z ∧ z < 18446744073709551616 := by
  obtain ⟨z, h1, _, h2⟩ := DataW.trod_int ht h
  refine ⟨z, h1, ?_⟩
  simp [Lit.wf, IntKind.min, IntKind.max, IntKind.signed, IntKind.bits] at h2; omega
theorem elem_byte {P : Program} {t : TypeId} (ht : P.underlying t = some (.int .u8)) {n : Nat} {cs : List Value} {x : DataW H × List MemPlace} (h : DataW.trod enc P W 0 (fun _ => true) true n t cs = some x) :
    ∃ b : UInt8, cs = [bv b] := by
  obtain ⟨z, h1, _, h2⟩ := DataW.trod_int ht h
  simp [Lit.wf, IntKind.min, IntKind.max, IntKind.signed, IntKind.bits] at h2
  refine ⟨UInt8.ofNat z.toNat, ?_⟩
  rw [h1, bv, UInt8.toNat_ofNat']
  congr 2
  omega
/-- An array of bytes. -/
theorem elem_bytes {P : Program} {t e : TypeId} {k : Nat} (ht : P.underlying t = some (.array k e)) (he : P.underlying e = some (.int .u8)) (hc : P.cellsOf e = 1) (hk : P.cellsOf t = k)
    {n : Nat} {cs : List Value} {x : DataW H × List MemPlace} (h : DataW.trod enc P W 0 (fun _ => true) true n t cs = some x) : ∃ r : List UInt8, cs = bvs r ∧ r.length = k := by
  obtain ⟨xs, m, _, _, hl, hxl, hf⟩ := DataW.trod_array ht h
  rw [hk] at hl
  have hex : ∀ i, i < k → ∃ b : UInt8, cs[i]? = some (bv b) := by
    intro i hi
    have e := hf i hi
    rw [hc, Nat.mul_one, List.getElem?_eq_getElem (by omega)] at e
    obtain ⟨b, hb⟩ := elem_byte he e
    refine ⟨b, ?_⟩
    have e2 := congrArg (fun l : List Value => l[0]?) hb
    simpa [List.getElem?_take, List.getElem?_drop] using e2
  have build : ∀ (l : List Value), (∀ i, i < l.length → ∃ b : UInt8, l[i]? = some (bv b)) → ∃ r : List UInt8, l = bvs r := by
    intro l
    induction l with
    | nil => intro _; exact ⟨[], rfl⟩
    | cons v l ih =>
      intro hb
      obtain ⟨b, h0⟩ := hb 0 (by simp)
      obtain ⟨r, hr⟩ := ih fun i hi => by simpa using hb (i + 1) (by simp; omega)
      refine ⟨b :: r, ?_⟩
      simp at h0
      rw [h0, hr]; rfl
  obtain ⟨r, rfl⟩ := build cs fun i hi => hex i (by omega)
  exact ⟨r, rfl, by simpa [bvs] using hl⟩
end
end Go.Proofs.Ytakeilefbcpabaa

/- What reads as bytes; strings of it. No program in sight. -/
namespace Go.Proofs.Ytakeilefbcpabaa
open Go.RowKit

/-- The slice v reads as n bytes. -/
def HasR (H : World → Prop) (v : Value) (n : Nat) (cs : List Value) : Prop := ∀ w, H w → Reads w v n 1 cs
section
variable {c : Con} {L : List HP} {A : HP} {H : World → Prop}
theorem hasR_tl {v : Value} {n : Nat} {cs : List Value} (h : HasR (St c L) v n cs) : HasR (St c (A :: L)) v n cs := fun w k => h w k.tail
theorem hasR_old {w0 : World} {v : Value} {n : Nat} {cs : List Value} (h : Reads w0 v n 1 cs) : HasR (St c (Old w0 :: L)) v n cs := fun w k => by
  refine ⟨h.1, h.2.imp (fun e => e) ?_⟩
  rintro ⟨a, cap, h1, h2, h3, h4⟩
  exact ⟨a, cap, h1, h2, h3, fun j u hu => by
    have e := h4 j u hu
    rw [World.cell?_of_block (w := w0) (k.old _ (World.block_lt_of_cell? w0 _ e))]; exact e⟩
theorem hasR_own {e n : Nat} {v : Value} {xs : List Value} : HasR (St c (OwnP e 1 v n xs :: L)) v n xs := fun w k => by
  obtain ⟨h, ⟨hx, ho⟩, l⟩ := k.get
  refine ⟨hx, ?_⟩
  rcases ho with ⟨h1, h2⟩ | ⟨g, cap, cur, h1, h2, h3, h4, h5, h6⟩
  · exact .inl ⟨h1, h2⟩
  · refine .inr ⟨_, cap, h1, h3, by simpa [maxLen] using h4, fun j u hu => ?_⟩
    rw [add_mid, Nat.zero_add, l.cell h2]
    rw [← h6, List.getElem?_take] at hu
    split at hu
    · simpa using hu
    · cases hu
theorem hasR_bytes {b cap e : Nat} {l : List UInt8} (h : l.length ≤ cap ∧ cap ≤ 9223372036854775807) : HasR (St c (BytesP b cap e l :: L)) (.slice (some ⟨b, 0, none⟩) l.length cap) l.length (bvs l) := bytesP_reads h.1 h.2
theorem hasR_bl {b T n cap : Nat} {fr : Nat × Nat} {cs ds : List Value} (hd : cs.take n = ds) (hn : n ≤ cs.length) (h1 : n ≤ cap) (h2 : cap ≤ 9223372036854775807) : HasR (St c (Pt b (.cells cs.toArray T fr) :: L)) (.slice (some ⟨b, 0, none⟩) n cap) n ds := fun w k => by
  subst hd
  refine ⟨by simp [hn], .inr ⟨_, cap, rfl, h1, h2, fun j u hu => ?_⟩⟩
  rw [add_mid, Nat.zero_add, cell_of_row w b j _ _ _ k.pt]
  rw [List.getElem?_take] at hu
  split at hu
  · simpa using hu
  · cases hu
theorem hasR_blAll {b T n cap : Nat} {fr : Nat × Nat} {cs : List Value} (hn : cs.length = n) (h1 : n ≤ cap) (h2 : cap ≤ 9223372036854775807) : HasR (St c (Pt b (.cells cs.toArray T fr) :: L)) (.slice (some ⟨b, 0, none⟩) n cap) n cs := hasR_bl (List.take_of_length_le (by omega)) (by omega) h1 h2
theorem HasR.bytes {v : Value} {n : Nat} {l : List UInt8} (h : HasR H v n (bvs l)) : ∀ w, H w → Reads w v l.length 1 (bvs l) := fun w k => by
  have h1 := h w k
  have h2 : l.length = n := by have := h1.1; rw [bvs_length] at this; omega
  rw [h2]; exact h1
section
variable {P : Program} {E : Env} {d : Option Nat} {ty : TypeId} {pos : String} {aft : Array Edge} {g : Option (Nat × Bool)}
theorem y_str {x : Operand} {t t' e s by' n : Nat} {z v : Value} {l : List UInt8} [ht : TSlice P t e s by' z] [he : TInt P e .u8] [hs : TStr P t'] (hx : Ev E x v) (hr : HasR H v n (bvs l)) :
    Y P H E (Oper.mk d (.convert t t' x) ty pos aft g) (str l) := y_toStr hx hr.bytes
theorem ow_makeSliceI {N : Nat} {x y : Operand} {t e bytes : Nat} {z z' : Value} {m : Int} {k k' : IntKind} [ht : TSlice P t e 1 bytes z] [he : TOne P e z'] (hx : Ev E x (.int k m)) (hy : Ev E y (.int k' m)) {n : Nat} (hm : m = n) (hb : bytes * n ≤ 281474976710656) (h63 : n ≤ 9223372036854775807) :
    OW P N c E L (Oper.mk d (.makeSlice t x y) ty pos aft g) (fun b => .slice (some ⟨b, 0, none⟩) n n) fun b => Bl b e (List.replicate n z') :: L := by
  subst hm; exact ow_makeSlice hx hy hb h63
theorem ow_appendR {N : Nat} {F : List HP} {s x : Operand} {t tx e bytes e' s' b' n m k cap : Nat} {z z' v : Value} {A : Option Addr} {xs news ys : List Value} [ht : TSlice P t e 1 bytes z] [htx : TSlice P tx e' s' b' z'] (hs : Ev E s (.slice A n cap)) (hx : Ev E x v)
    (hr : HasR (St c L) v m news) (h1 : ∀ u ∈ news, u.oneCell' = true) (hk : n + m = k) (he : xs ++ news = ys) (hb : k ≤ 9223372036854775807 ∧ k * bytes ≤ 140737488355328) (hp : Pick L (OwnP e 1 (.slice A n cap) n xs) F) :
    OW P N c E L (Oper.mk d (.call { callee := .builtin .append, args := #[s, x], argTypes := #[t, tx] }) ty pos aft g) (fun q : Option Addr × Nat => .slice q.1 k q.2) fun q => OwnP e 1 (.slice q.1 k q.2) k ys :: F :=
  ow_append hs hx (fun w H => src_reads htx.u (hr w H) h1) hk he hb hp
end
end
theorem rds_auto {H : World → Prop} {v : Value} {n : Nat} {cs : List Value} (h : HasR H v n cs := by ((repeat (first | exact hasR_own | exact hasR_bytes (by first | assumption | omega) | exact hasR_old (by assumption) | exact hasR_blAll (by assumption) (by omega) (by omega) | refine hasR_tl ?_)); (first | done | fail))) : HasR H v n cs := h
/-! ### A slice of bytes that came in -/
section
variable {H : Type} {enc : TypeId × Value → H} {W : World}
def IsByte (_ : World) (b : UInt8) (cs : List Value) : Prop := cs = [bv b]
theorem reads_of_elems {a : Option Addr} {len cap : Nat} {l : List UInt8} (h : ElemsOf IsByte 1 W a len l) (h0 : a = none → len = 0 ∧ cap = 0) (h1 : len ≤ cap) (h2 : cap ≤ 9223372036854775807) : l.length = len ∧ Reads W (.slice a len cap) len 1 (bvs l) := by
  obtain ⟨hl, -, he⟩ := h
  refine ⟨hl, by rw [bvs_length, hl, Nat.mul_one], ?_⟩
  cases a with
  | none =>
    obtain ⟨rfl, rfl⟩ := h0 rfl
    exact .inl ⟨rfl, rfl⟩
  | some ad =>
    refine .inr ⟨ad, cap, rfl, h1, h2, fun j u hu => ?_⟩
    simp only [bvs, List.getElem?_map, Option.map_eq_some_iff] at hu
    obtain ⟨b, hb, rfl⟩ := hu
    obtain ⟨a', cs, ha, hcs, _, hc⟩ := he j b hb
    cases ha
    have := hc 0 (bv b) (by rw [hcs]; rfl)
    rw [Nat.mul_one] at this
    simpa [Addr.add] using this
end
end Go.Proofs.Ytakeilefbcpabaa

/- Slices of one's own, opened and shut; rows cut. No program in sight. -/
namespace Go.Proofs.Ytakeilefbcpabaa
open Go.RowKit
theorem St.ownOpen {c : Con} {F : List HP} {w : World} {e : TypeId} {size n : Nat} {v : Value} {xs : List Value} (H : St c (OwnP e size v n xs :: F) w) :
    (v = .slice none 0 0 ∧ n = 0 ∧ xs = [] ∧ St c F w) ∨ ∃ g cap cur, v = .slice (some ⟨g, 0, none⟩) n cap ∧ n ≤ cap ∧ cap ≤ 9223372036854775807 ∧ cur.length = cap * size ∧ cur.take (n * size) = xs ∧ xs.length = n * size ∧ St c (Pt g (.cells (cur : List Value).toArray e (0, 0)) :: F) w := by
  obtain ⟨h, ⟨hx, ho⟩, l, r⟩ := H.stars
  rcases ho with ⟨h1, h2⟩ | ⟨g, cap, cur, h1, h2, h3, h4, h5, h6⟩
  · subst h2
    exact .inl ⟨h1, rfl, List.eq_nil_of_length_eq_zero (by simpa using hx), H.tail⟩
  · refine .inr ⟨g, cap, cur.toList, h1, h3, by simpa [maxLen] using h4, by simpa using h5, h6, hx, H.con, h, ?_, l, r⟩
    simpa [Pt] using h2
theorem shutOwn {e : TypeId} {size n g cap : Nat} {cur xs : List Value} (h3 : n ≤ cap) (h4 : cap ≤ 9223372036854775807) (h5 : cur.length = cap * size) (h6 : cur.take (n * size) = xs) : ∀ h, Pt g (.cells cur.toArray e (0, 0)) h → OwnP e size (.slice (some ⟨g, 0, none⟩) n cap) n xs h := fun h hb => by
  have hle : n * size ≤ cur.length := by rw [h5]; exact Nat.mul_le_mul_right _ h3
  refine ⟨by rw [← h6, List.length_take]; omega, .inr ⟨g, cap, cur.toArray, rfl, hb, h3, by simpa [maxLen] using h4, by simpa using h5, by simpa using h6⟩⟩
theorem dropPast {α : Type} (a b : List α) (n : Nat) : (a ++ b).drop (a.length + n) = b.drop n := by
  rw [← List.drop_drop, List.drop_left]
theorem takePast {α : Type} (a b : List α) (n : Nat) : (a ++ b).take (a.length + n) = a ++ b.take n := by
  rw [List.take_append, List.take_of_length_le (by omega), show a.length + n - a.length = n by omega]
end Go.Proofs.Ytakeilefbcpabaa

/- Slices with three bounds; shifts to the left; bytes as a number. No program in sight. -/
namespace Go.Proofs.Ytakeilefbcpabaa
open Go.RowKit
section
variable {P : Program} {N : Nat} {c : Con} {E : Env} {H : World → Prop} {L F : List HP} {d : Option Nat} {ty : TypeId} {pos : String} {aft : Array Edge} {g : Option (Nat × Bool)}
theorem y_slice3 {x lo hi mx : Operand} {t e s by' : Nat} {z : Value} {A : Option Addr} {n cap : Nat} {k1 k2 k3 : IntKind} {l h m : Nat} [ht : TSlice P t e s by' z] (hx : Ev E x (.slice A n cap)) (hl : Ev E lo (.int k1 l)) (hh : Ev E hi (.int k2 h)) (hm : Ev E mx (.int k3 m)) (hb : l ≤ h ∧ h ≤ m ∧ m ≤ cap) :
    Y P H E (Oper.mk d (.slice t x (some lo) (some hi) (some mx)) ty pos aft g) (.slice (if m = l then A else A.map (·.add (l * s))) (h - l) (m - l)) := fun N a w hf _ => by
  unfold execOp
  have hz := ht.i
  cases hq : P.info? e with
  | none => simp [hq] at hz
  | some ie =>
    have hs : ie.size = s := by simp [hq] at hz; exact hz.2.1
    simp [hx N a hf, hl N a hf, hh N a hf, hm N a hf, Instr.sliceAt, Instr.slice, run_underlying ht.u, Instr.sliceBounds, Instr.sliceBound, asIntOf, sizeOf, typeInfo, hq, hs, hb.1, hb.2.1, hb.2.2]
theorem y_sliceLoHi {x lo hi : Operand} {t e s by' : Nat} {z : Value} {A : Option Addr} {n cap : Nat} {k1 k2 : IntKind} {l h : Nat} [ht : TSlice P t e s by' z] (hx : Ev E x (.slice A n cap)) (hl : Ev E lo (.int k1 l)) (hh : Ev E hi (.int k2 h)) (hb : l ≤ h ∧ h ≤ cap) :
    Y P H E (Oper.mk d (.slice t x (some lo) (some hi) none) ty pos aft g) (.slice (if cap = l then A else A.map (·.add (l * s))) (h - l) (cap - l)) := fun N a w hf _ => by
  unfold execOp
  have hz := ht.i
  cases hq : P.info? e with
  | none => simp [hq] at hz
  | some ie =>
    have hs : ie.size = s := by simp [hq] at hz; exact hz.2.1
    simp [hx N a hf, hl N a hf, hh N a hf, Instr.sliceAt, Instr.slice, run_underlying ht.u, Instr.sliceBounds, Instr.sliceBound, asIntOf, sizeOf, typeInfo, hq, hs, hb.1, hb.2]
theorem y_slice3h {x hi mx : Operand} {t e s by' : Nat} {z : Value} {A : Option Addr} {n cap : Nat} {k2 k3 : IntKind} {h m : Nat} [ht : TSlice P t e s by' z] (hx : Ev E x (.slice A n cap)) (hh : Ev E hi (.int k2 h)) (hm : Ev E mx (.int k3 m)) (hb : h ≤ m ∧ m ≤ cap) :
    Y P H E (Oper.mk d (.slice t x none (some hi) (some mx)) ty pos aft g) (.slice A h m) := fun N a w hf _ => by
  unfold execOp
  have hz := ht.i
  cases hq : P.info? e with
  | none => simp [hq] at hz
  | some ie =>
    have hs : ie.size = s := by simp [hq] at hz; exact hz.2.1
    simp [hx N a hf, hh N a hf, hm N a hf, Instr.sliceAt, Instr.slice, run_underlying ht.u, Instr.sliceBounds, Instr.sliceBound, asIntOf, sizeOf, typeInfo, hq, hs, hb.1, hb.2]
    intro _
    cases A <;> simp [Addr.add]
theorem y_indexStr {x i : Operand} {t : Nat} {l : List UInt8} {k : IntKind} {m : Int} {j : Nat} {b : UInt8} [ht : TStr P t] (hx : Ev E x (str l)) (hi : Ev E i (.int k m)) (hm : m = j) (hb : l[j]? = some b) :
    Y P H E (Oper.mk d (.index t x i) ty pos aft g) (.int .u8 (b.toNat : Int)) := fun N a w hf _ => by
  subst hm
  have hj : j < l.length := (List.getElem?_eq_some_iff.1 hb).1
  have e : (ByteArray.mk l.toArray)[j]? = some b := by
    have h0 : j < (ByteArray.mk l.toArray).size := hj
    rw [getElem?_pos (ByteArray.mk l.toArray) j h0]
    rw [List.getElem?_eq_getElem hj] at hb
    exact hb
  unfold execOp
  simp [hx N a hf, hi N a hf, str, Instr.index, run_underlying ht.u, asIntOf, e]
theorem y_shl {k k' : IntKind} {x y : Operand} {t t' : TypeId} {m n : Int} (hx : Ev E x (.int k m)) (hy : Ev E y (.int k' n)) (h : 0 ≤ n) (hn : n.toNat ≤ k.bits) :
    Y P H E (Oper.mk d (.binOp .shl t x y t') ty pos aft g) (.int k (k.wrap (m * 2 ^ n.toNat))) := fun N a w hf _ => by
  have h0 : ¬ n < 0 := by omega
  unfold execOp; simp [hx N a hf, hy N a hf, eqGuard, binOp, Op.shift, h0, Nat.min_eq_left hn]
theorem y_build0z {t : Nat} {ps : List (Nat × Nat)} {z : List Value} [ht : TPlaces P t ps z] : Y P H E (Oper.mk d (.build t #[]) ty pos aft g) (.agg z.toArray) := y_build .nil
end
theorem hasR_cell {H : World → Prop} {ad : Addr} {n cap j o : Nat} {cs : List Value} {u : Value} (h : HasR H (.slice (some ad) n cap) n cs) (hu : cs[j]? = some u) (ho : o = j * 1) : HasCell H (ad.add o) u := fun w hw => by
  subst ho
  rw [Nat.mul_one]
  rcases (h w hw).2 with ⟨e, _⟩ | ⟨a, cap', e, _, _, h3⟩
  · cases e
  · cases e; exact h3 j u hu
theorem bvs_get {l : List UInt8} {j : Nat} (hj : j < l.length) : (bvs l)[j]? = some (.int .u8 (l[j].toNat : Int)) := by
  simp [bvs, bv, hj]
theorem hasR_blZ {c : Con} {L : List HP} {b T : Nat} (n : Nat) (h2 : n ≤ 9223372036854775807 := by omega) : HasR (St c (Bl b T (List.replicate n (.int .u8 0)) :: L)) (.slice (some ⟨b, 0, none⟩) n n) n (bvs (zeros n)) := by
  rw [replicate_bvs]; exact hasR_blAll (by simp [bvs_length, zeros_length]) (Nat.le_refl _) h2
theorem hasR_bytesN {c : Con} {L : List HP} {b cap e n : Nat} {l : List UInt8} (hn : l.length = n) (h : n ≤ cap ∧ cap ≤ 9223372036854775807) : HasR (St c (BytesP b cap e l :: L)) (.slice (some ⟨b, 0, none⟩) n cap) n (bvs l) := by
  subst hn; exact hasR_bytes h
theorem add_add (a : Addr) (l j : Nat) : (a.add l).add j = a.add (l + j) := by
  unfold Addr.add
  by_cases h1 : l = 0 <;> by_cases h2 : j = 0 <;> simp [h1, h2, Nat.add_assoc]
/-- A part of what reads. -/
theorem hasR_sub {H : World → Prop} {A : Option Addr} {n cap l h k s : Nat} {cs ds : List Value} (hr : HasR H (.slice A n cap) n cs) (hlh : l < h ∧ h ≤ n ∧ n ≤ 9223372036854775807) (hs : s = 1) (hk : k = h - l) (hd : (cs.take h).drop l = ds) :
    HasR H (.slice (A.map (·.add (l * s))) k k) k ds := fun w hw => by
  subst hs hk hd
  obtain ⟨hlen, h0⟩ := hr w hw
  rw [Nat.mul_one] at hlen
  refine ⟨by simp [hlen, Nat.min_eq_left hlh.2.1], ?_⟩
  rcases h0 with ⟨_, h2⟩ | ⟨a, cap', e, h1, h2, h3⟩
  · omega
  · obtain ⟨rfl, -, -⟩ := Value.slice.inj e
    refine .inr ⟨_, _, rfl, Nat.le_refl _, by omega, fun j u hu => ?_⟩
    rw [List.getElem?_drop, List.getElem?_take] at hu
    split at hu
    · have := h3 _ u hu
      rw [Nat.mul_one, add_add]
      exact this
    · cases hu
theorem ow_sel {P : Program} {N : Nat} {c : Con} {E : Env} {L L1 : List HP} {o : Oper} {β : Type} {r : β → Value} {L' : β → List HP} (s : Sel L L1) (h : OW P N c E L1 o r L') : OW P N c E L o r L' := fun Q K a w hf H hk => h Q K a w hf (s.st H) hk
/-- A slice of one's own that isn't empty, opened: its block, its capacity, its cells. -/
structure OB (k size : Nat) (ys : List Value) where
  g : Nat
  cap : Nat
  cur : List Value
  h1 : k ≤ cap
  h2 : cap ≤ 9223372036854775807
  h3 : cur.length = cap * size
  h4 : cur.take (k * size) = ys
theorem ow_opened {P : Program} {N : Nat} {c : Con} {E : Env} {L F : List HP} {o : Oper} {k size : Nat} {e : TypeId} {ys : List Value} (hk : 0 < k) (h : OW P N c E L o (fun q : Option Addr × Nat => .slice q.1 k q.2) fun q => OwnP e size (.slice q.1 k q.2) k ys :: F) :
    OW P N c E L o (fun x : OB k size ys => .slice (some ⟨x.g, 0, none⟩) k x.cap) fun x => Bl x.g e x.cur :: F := fun Q K a w hf H hh => h Q K a w hf H fun q w1 H1 => by
  rcases H1.ownOpen with ⟨_, h0, _⟩ | ⟨g, cap, cur, e1, h1, h2, h3, h4, h5, H2⟩
  · omega
  · show K (a.put o.dst (.slice q.1 k q.2)) w1
    rw [e1]
    exact hh ⟨g, cap, cur, h1, h2, h3, h4⟩ w1 H2
theorem OB.le {k size : Nat} {ys : List Value} (x : OB k size ys) {n : Nat} (h : n ≤ k) : n ≤ n ∧ n ≤ x.cap := ⟨Nat.le_refl _, Nat.le_trans h x.h1⟩
theorem OB.shut {k size : Nat} {ys : List Value} {e : TypeId} (x : OB k size ys) : ∀ h, Bl x.g e x.cur h → OwnP e size (.slice (some ⟨x.g, 0, none⟩) k x.cap) k ys h := shutOwn x.h1 x.h2 x.h3 x.h4
theorem OB.take1 {k : Nat} {ys : List Value} (x : OB k 1 ys) : x.cur.take k = ys := by have := x.h4; rwa [Nat.mul_one] at this
theorem OB.hasR {k : Nat} {ys : List Value} {e : TypeId} {c : Con} {L : List HP} (x : OB k 1 ys) : HasR (St c (Bl x.g e x.cur :: L)) (.slice (some ⟨x.g, 0, none⟩) k x.cap) k ys := hasR_bl x.take1 (by have h1 := x.h1; have h2 := x.h3; omega) x.h1 x.h2
/-- What lay there ahead. -/
theorem old_auto {H : World → Prop} {ad : Addr} {v : Value} (h : HasCell H ad v := by ((repeat (first | exact hasCell_old (by assumption) | apply hasCell_tl)); (first | done | fail))) : HasCell H ad v := h
/-- The walk stops here. -/
def Stop (p : Prop) : Prop := p
section
variable {P : Program} {N : Nat} {c : Con} {Q : Exit → Act → World → Prop} {E : Env} {L : List HP}
theorem w_meetS {id : Nat} {ops : Array Oper} {b : Bool} {x y : Code} {α : Type} (F : α → Prop) (Ev : α → Env) (Ls : α → List HP) (h : Stop (W P N c (Exit.then (Met N c F Ev Ls) Q) ((Code.region id ops b).seq x) E L)) (k : ∀ s, F s → W P N c Q y (Ev s) (Ls s)) : W P N c Q (((Code.region id ops b).seq x).seq y) E L := w_meet F Ev Ls h k
theorem w_stopR {id : Nat} {ops : Array Oper} {b : Bool} {x : Code} (h : Stop (W P N c Q ((Code.region id ops b).seq x) E L)) : W P N c Q ((Code.region id ops b).seq x) E L := h
end
/-- append onto nil. -/
theorem ow_appendR0 {P : Program} {N : Nat} {c : Con} {E : Env} {L : List HP} {d : Option Nat} {ty : TypeId} {pos : String} {aft : Array Edge} {g : Option (Nat × Bool)} {s x : Operand} {t tx e bytes e' s' b' m : Nat} {z z' v : Value} {news : List Value} [ht : TSlice P t e 1 bytes z] [htx : TSlice P tx e' s' b' z'] (hs : Ev E s (.slice none 0 0)) (hx : Ev E x v)
    (hr : HasR (St c L) v m news) (h1 : ∀ u ∈ news, u.oneCell' = true) (hb : m ≤ 9223372036854775807 ∧ m * bytes ≤ 140737488355328) :
    OW P N c E L (Oper.mk d (.call { callee := .builtin .append, args := #[s, x], argTypes := #[t, tx] }) ty pos aft g) (fun q : Option Addr × Nat => .slice q.1 m q.2) fun q => OwnP e 1 (.slice q.1 m q.2) m news :: L :=
  ow_sel (.own0 sel_all) (ow_appendR (k := m) (ys := news) hs hx (hasR_tl hr) h1 (Nat.zero_add m) (List.nil_append _) hb .hd)
/-- Bytes as a number, the lowest first. -/
def leN : List UInt8 → Nat
  | [] => 0
  | b :: r => b.toNat + 256 * leN r
theorem leN_lt : ∀ l : List UInt8, leN l < 256 ^ l.length
  | [] => by simp [leN]
  | b :: r => by
    have h1 := leN_lt r
    have h2 := b.toNat_lt
    rw [leN, List.length_cons, Nat.pow_succ]
    omega
theorem leN_snoc : ∀ (l : List UInt8) (b : UInt8), leN (l ++ [b]) = leN l + b.toNat * 256 ^ l.length
  | [], b => by simp [leN]
  | c :: r, b => by
    rw [List.cons_append, leN, leN, leN_snoc r b, List.length_cons, Nat.pow_succ, Nat.mul_add, ← Nat.mul_assoc, Nat.mul_comm 256 b.toNat, Nat.mul_comm (256 ^ r.length) 256, Nat.mul_assoc b.toNat, Nat.add_assoc]
/-- Two numbers without a common bit. -/
theorem bits_or_u64 {x y i : Nat} (hx : x < 2 ^ i) (hy : y * 2 ^ i + x < 2 ^ 64) : bits .or .u64 (x : Int) ((y * 2 ^ i : Nat) : Int) = ((x + y * 2 ^ i : Nat) : Int) := by
  have h2 : y * 2 ^ i < 2 ^ 64 := by omega
  have h1 : x < 2 ^ 64 := by omega
  have e := Nat.shiftLeft_add_eq_or_of_lt hx y
  rw [Nat.shiftLeft_eq] at e
  have e1 : (BitVec.ofInt 64 (x : Int)) = BitVec.ofNat 64 x := by simp
  have e2 : (BitVec.ofInt 64 ((y * 2 ^ i : Nat) : Int)) = BitVec.ofNat 64 (y * 2 ^ i) := by rw [BitVec.ofInt_natCast]
  show IntKind.u64.wrap (((BitVec.ofInt 64 (x : Int)) ||| (BitVec.ofInt 64 ((y * 2 ^ i : Nat) : Int))).toNat : Int) = _
  rw [e1, e2, BitVec.toNat_or, BitVec.toNat_ofNat, BitVec.toNat_ofNat, Nat.mod_eq_of_lt h1, Nat.mod_eq_of_lt h2, Nat.or_comm, ← e]
  have e3 : ∀ z : Int, IntKind.u64.wrap z = z % 18446744073709551616 := fun _ => rfl
  rw [e3]
  have : (2 : Nat) ^ 64 = 18446744073709551616 := rfl
  omega
/-- The number of eight bytes. -/
def leInt (l : List UInt8) : Int := wrap64 (leN l : Int)
end Go.Proofs.Ytakeilefbcpabaa

/- What is known of the types, laid by program (wip/tools/types.py). -/
namespace Go.Proofs.Ytakeilefbcpabaa
open Go.RowKit
instance : TOne Try.prog 1 (.nilFunc) := ⟨by kernel_rfl, by kernel_rfl, rfl⟩
instance : TInt Try.prog 2 .i64 := ⟨by kernel_rfl⟩
instance : TOne Try.prog 2 (.int .i64 0) := ⟨by kernel_rfl, by kernel_rfl, rfl⟩
instance : TInt Try.prog 3 .i64 := ⟨by kernel_rfl⟩
instance : TOne Try.prog 3 (.int .i64 0) := ⟨by kernel_rfl, by kernel_rfl, rfl⟩
instance : TBool Try.prog 4 := ⟨by kernel_rfl⟩
instance : TOne Try.prog 4 (.bool false) := ⟨by kernel_rfl, by kernel_rfl, rfl⟩
instance : TInt Try.prog 5 .u8 := ⟨by kernel_rfl⟩
instance : TOne Try.prog 5 (.int .u8 0) := ⟨by kernel_rfl, by kernel_rfl, rfl⟩
instance : TInt Try.prog 6 .u8 := ⟨by kernel_rfl⟩
instance : TOne Try.prog 6 (.int .u8 0) := ⟨by kernel_rfl, by kernel_rfl, rfl⟩
instance : TField Try.prog 7 0 0 1 := ⟨_, _, Try.underlying7, rfl, rfl, by kernel_rfl, by decide⟩
instance : TField Try.prog 7 1 1 1 := ⟨_, _, Try.underlying7, rfl, rfl, by kernel_rfl, by decide⟩
instance : TField Try.prog 7 2 2 1 := ⟨_, _, Try.underlying7, rfl, rfl, by kernel_rfl, by decide⟩
instance : TField Try.prog 7 3 3 1 := ⟨_, _, Try.underlying7, rfl, rfl, by kernel_rfl, by decide⟩
instance : TRow Try.prog 7 4 := ⟨by kernel_rfl, by kernel_rfl⟩
instance : TZero Try.prog 7 ([.int .i64 0, .int .i64 0, .bool false, .int .u8 0]) := ⟨by kernel_rfl⟩
instance : TField Try.prog 8 0 0 1 := ⟨_, _, Try.underlying8, rfl, rfl, by kernel_rfl, by decide⟩
instance : TField Try.prog 8 1 1 1 := ⟨_, _, Try.underlying8, rfl, rfl, by kernel_rfl, by decide⟩
instance : TField Try.prog 8 2 2 1 := ⟨_, _, Try.underlying8, rfl, rfl, by kernel_rfl, by decide⟩
instance : TField Try.prog 8 3 3 1 := ⟨_, _, Try.underlying8, rfl, rfl, by kernel_rfl, by decide⟩
instance : TRow Try.prog 8 4 := ⟨by kernel_rfl, by kernel_rfl⟩
instance : TZero Try.prog 8 ([.int .i64 0, .int .i64 0, .bool false, .int .u8 0]) := ⟨by kernel_rfl⟩
instance : TStr Try.prog 9 := ⟨by kernel_rfl⟩
instance : TOne Try.prog 9 (str []) := ⟨by kernel_rfl, by kernel_rfl, rfl⟩
instance : TStr Try.prog 10 := ⟨by kernel_rfl⟩
instance : TOne Try.prog 10 (str []) := ⟨by kernel_rfl, by kernel_rfl, rfl⟩
instance : TStr Try.prog 11 := ⟨by kernel_rfl⟩
instance : TOne Try.prog 11 (str []) := ⟨by kernel_rfl, by kernel_rfl, rfl⟩
instance : TInt Try.prog 12 .u64 := ⟨by kernel_rfl⟩
instance : TOne Try.prog 12 (.int .u64 0) := ⟨by kernel_rfl, by kernel_rfl, rfl⟩
instance : TField Try.prog 13 0 0 1 := ⟨_, _, Try.underlying13, rfl, rfl, by kernel_rfl, by decide⟩
instance : TField Try.prog 13 1 1 1 := ⟨_, _, Try.underlying13, rfl, rfl, by kernel_rfl, by decide⟩
instance : TRow Try.prog 13 2 := ⟨by kernel_rfl, by kernel_rfl⟩
instance : TZero Try.prog 13 ([str [], .int .u64 0]) := ⟨by kernel_rfl⟩
instance : TField Try.prog 14 0 0 1 := ⟨_, _, Try.underlying14, rfl, rfl, by kernel_rfl, by decide⟩
instance : TField Try.prog 14 1 1 1 := ⟨_, _, Try.underlying14, rfl, rfl, by kernel_rfl, by decide⟩
instance : TRow Try.prog 14 2 := ⟨by kernel_rfl, by kernel_rfl⟩
instance : TZero Try.prog 14 ([str [], .int .u64 0]) := ⟨by kernel_rfl⟩
instance : TPtr Try.prog 15 139 := ⟨by kernel_rfl⟩
instance : TOne Try.prog 15 (.pointer none) := ⟨by kernel_rfl, by kernel_rfl, rfl⟩
instance : TPtr Try.prog 16 142 := ⟨by kernel_rfl⟩
instance : TOne Try.prog 16 (.pointer none) := ⟨by kernel_rfl, by kernel_rfl, rfl⟩
instance : TPtr Try.prog 17 151 := ⟨by kernel_rfl⟩
instance : TOne Try.prog 17 (.pointer none) := ⟨by kernel_rfl, by kernel_rfl, rfl⟩
instance : TField Try.prog 18 0 0 1 := ⟨_, _, Try.underlying18, rfl, rfl, by kernel_rfl, by decide⟩
instance : TRow Try.prog 18 1 := ⟨by kernel_rfl, by kernel_rfl⟩
instance : TZero Try.prog 18 ([.pointer none]) := ⟨by kernel_rfl⟩
instance : TField Try.prog 19 0 0 1 := ⟨_, _, Try.underlying19, rfl, rfl, by kernel_rfl, by decide⟩
instance : TRow Try.prog 19 1 := ⟨by kernel_rfl, by kernel_rfl⟩
instance : TZero Try.prog 19 ([.pointer none]) := ⟨by kernel_rfl⟩
instance : TOne Try.prog 20 (.nilIface) := ⟨by kernel_rfl, by kernel_rfl, rfl⟩
instance : TInt Try.prog 21 .i32 := ⟨by kernel_rfl⟩
instance : TOne Try.prog 21 (.int .i32 0) := ⟨by kernel_rfl, by kernel_rfl, rfl⟩
instance : TSlice Try.prog 22 3 1 8 (zeroOf Try.prog 3) := ⟨by kernel_rfl, by kernel_rfl, by kernel_rfl⟩
instance : TOne Try.prog 22 (.slice none 0 0) := ⟨by kernel_rfl, by kernel_rfl, rfl⟩
instance : TOne Try.prog 23 (.nilFunc) := ⟨by kernel_rfl, by kernel_rfl, rfl⟩
instance : TPtr Try.prog 24 34 := ⟨by kernel_rfl⟩
instance : TOne Try.prog 24 (.pointer none) := ⟨by kernel_rfl, by kernel_rfl, rfl⟩
instance : TOne Try.prog 25 (.nilFunc) := ⟨by kernel_rfl, by kernel_rfl, rfl⟩
instance : TInt Try.prog 26 .i64 := ⟨by kernel_rfl⟩
instance : TOne Try.prog 26 (.int .i64 0) := ⟨by kernel_rfl, by kernel_rfl, rfl⟩
instance : TOne Try.prog 27 (.nilFunc) := ⟨by kernel_rfl, by kernel_rfl, rfl⟩
instance : TArr Try.prog 28 32 5 1 := ⟨by kernel_rfl, by kernel_rfl⟩
instance : TRow Try.prog 28 32 := ⟨by kernel_rfl, by kernel_rfl⟩
instance : TZero Try.prog 28 (List.replicate 32 (.int .u8 0)) := ⟨by kernel_rfl⟩
instance : TOne Try.prog 29 (.nilFunc) := ⟨by kernel_rfl, by kernel_rfl, rfl⟩
instance : TField Try.prog 30 0 0 1 := ⟨_, _, Try.underlying30, rfl, rfl, by kernel_rfl, by decide⟩
instance : TField Try.prog 30 1 1 1 := ⟨_, _, Try.underlying30, rfl, rfl, by kernel_rfl, by decide⟩
instance : TField Try.prog 30 2 2 32 := ⟨_, _, Try.underlying30, rfl, rfl, by kernel_rfl, by decide⟩
instance : TRow Try.prog 30 34 := ⟨by kernel_rfl, by kernel_rfl⟩
instance : TZero Try.prog 30 ([.int .i64 0, .int .i64 0] ++ (List.replicate 32 (.int .u8 0))) := ⟨by kernel_rfl⟩
instance : TField Try.prog 31 0 0 1 := ⟨_, _, Try.underlying31, rfl, rfl, by kernel_rfl, by decide⟩
instance : TField Try.prog 31 1 1 1 := ⟨_, _, Try.underlying31, rfl, rfl, by kernel_rfl, by decide⟩
instance : TField Try.prog 31 2 2 32 := ⟨_, _, Try.underlying31, rfl, rfl, by kernel_rfl, by decide⟩
instance : TPlaces Try.prog 31 [(0, 1), (1, 1), (2, 32)] ([.int .i64 0, .int .i64 0] ++ (List.replicate 32 (.int .u8 0))) := ⟨⟨_, Try.underlying31, fun w => by simp [run_size (P := Try.prog) (t := 3) (n := 1) (by kernel_rfl), run_size (P := Try.prog) (t := 28) (n := 32) (by kernel_rfl)]⟩, by kernel_rfl⟩
instance : TRow Try.prog 31 34 := ⟨by kernel_rfl, by kernel_rfl⟩
instance : TZero Try.prog 31 ([.int .i64 0, .int .i64 0] ++ (List.replicate 32 (.int .u8 0))) := ⟨by kernel_rfl⟩
instance : TPtr Try.prog 32 107 := ⟨by kernel_rfl⟩
instance : TOne Try.prog 32 (.pointer none) := ⟨by kernel_rfl, by kernel_rfl, rfl⟩
instance : TField Try.prog 33 0 0 34 := ⟨_, _, Try.underlying33, rfl, rfl, by kernel_rfl, by decide⟩
instance : TField Try.prog 33 1 34 1 := ⟨_, _, Try.underlying33, rfl, rfl, by kernel_rfl, by decide⟩
instance : TField Try.prog 33 2 35 1 := ⟨_, _, Try.underlying33, rfl, rfl, by kernel_rfl, by decide⟩
instance : TRow Try.prog 33 36 := ⟨by kernel_rfl, by kernel_rfl⟩
instance : TZero Try.prog 33 ([.int .i64 0, .int .i64 0] ++ (List.replicate 32 (.int .u8 0) ++ ([.int .i64 0, .pointer none]))) := ⟨by kernel_rfl⟩
instance : TField Try.prog 34 0 0 34 := ⟨_, _, Try.underlying34, rfl, rfl, by kernel_rfl, by decide⟩
instance : TField Try.prog 34 1 34 1 := ⟨_, _, Try.underlying34, rfl, rfl, by kernel_rfl, by decide⟩
instance : TField Try.prog 34 2 35 1 := ⟨_, _, Try.underlying34, rfl, rfl, by kernel_rfl, by decide⟩
instance : TPlaces Try.prog 34 [(0, 34), (34, 1), (35, 1)] ([.int .i64 0, .int .i64 0] ++ (List.replicate 32 (.int .u8 0) ++ ([.int .i64 0, .pointer none]))) := ⟨⟨_, Try.underlying34, fun w => by simp [run_size (P := Try.prog) (t := 3) (n := 1) (by kernel_rfl), run_size (P := Try.prog) (t := 31) (n := 34) (by kernel_rfl), run_size (P := Try.prog) (t := 32) (n := 1) (by kernel_rfl)]⟩, by kernel_rfl⟩
instance : TRow Try.prog 34 36 := ⟨by kernel_rfl, by kernel_rfl⟩
instance : TZero Try.prog 34 ([.int .i64 0, .int .i64 0] ++ (List.replicate 32 (.int .u8 0) ++ ([.int .i64 0, .pointer none]))) := ⟨by kernel_rfl⟩
instance : TOne Try.prog 35 (.nilFunc) := ⟨by kernel_rfl, by kernel_rfl, rfl⟩
instance : TSlice Try.prog 36 40 35 56 (zeroOf Try.prog 40) := ⟨by kernel_rfl, by kernel_rfl, by kernel_rfl⟩
instance : TOne Try.prog 36 (.slice none 0 0) := ⟨by kernel_rfl, by kernel_rfl, rfl⟩
instance : TOne Try.prog 37 (.nilFunc) := ⟨by kernel_rfl, by kernel_rfl, rfl⟩
instance : TInt Try.prog 38 .u64 := ⟨by kernel_rfl⟩
instance : TOne Try.prog 38 (.int .u64 0) := ⟨by kernel_rfl, by kernel_rfl, rfl⟩
instance : TField Try.prog 39 0 0 1 := ⟨_, _, Try.underlying39, rfl, rfl, by kernel_rfl, by decide⟩
instance : TField Try.prog 39 1 1 1 := ⟨_, _, Try.underlying39, rfl, rfl, by kernel_rfl, by decide⟩
instance : TField Try.prog 39 2 2 32 := ⟨_, _, Try.underlying39, rfl, rfl, by kernel_rfl, by decide⟩
instance : TField Try.prog 39 3 34 1 := ⟨_, _, Try.underlying39, rfl, rfl, by kernel_rfl, by decide⟩
instance : TRow Try.prog 39 35 := ⟨by kernel_rfl, by kernel_rfl⟩
instance : TZero Try.prog 39 ([.int .i64 0, .int .i64 0] ++ (List.replicate 32 (.int .u8 0) ++ ([.int .u64 0]))) := ⟨by kernel_rfl⟩
instance : TField Try.prog 40 0 0 1 := ⟨_, _, Try.underlying40, rfl, rfl, by kernel_rfl, by decide⟩
instance : TField Try.prog 40 1 1 1 := ⟨_, _, Try.underlying40, rfl, rfl, by kernel_rfl, by decide⟩
instance : TField Try.prog 40 2 2 32 := ⟨_, _, Try.underlying40, rfl, rfl, by kernel_rfl, by decide⟩
instance : TField Try.prog 40 3 34 1 := ⟨_, _, Try.underlying40, rfl, rfl, by kernel_rfl, by decide⟩
instance : TPlaces Try.prog 40 [(0, 1), (1, 1), (2, 32), (34, 1)] ([.int .i64 0, .int .i64 0] ++ (List.replicate 32 (.int .u8 0) ++ ([.int .u64 0]))) := ⟨⟨_, Try.underlying40, fun w => by simp [run_size (P := Try.prog) (t := 3) (n := 1) (by kernel_rfl), run_size (P := Try.prog) (t := 28) (n := 32) (by kernel_rfl), run_size (P := Try.prog) (t := 38) (n := 1) (by kernel_rfl)]⟩, by kernel_rfl⟩
instance : TRow Try.prog 40 35 := ⟨by kernel_rfl, by kernel_rfl⟩
instance : TZero Try.prog 40 ([.int .i64 0, .int .i64 0] ++ (List.replicate 32 (.int .u8 0) ++ ([.int .u64 0]))) := ⟨by kernel_rfl⟩
instance : TOne Try.prog 41 (.nilFunc) := ⟨by kernel_rfl, by kernel_rfl, rfl⟩
instance : TOne Try.prog 42 (.nilFunc) := ⟨by kernel_rfl, by kernel_rfl, rfl⟩
instance : TOne Try.prog 44 (.nilFunc) := ⟨by kernel_rfl, by kernel_rfl, rfl⟩
instance : TOne Try.prog 45 (.nilFunc) := ⟨by kernel_rfl, by kernel_rfl, rfl⟩
instance : TSlice Try.prog 46 5 1 1 (zeroOf Try.prog 5) := ⟨by kernel_rfl, by kernel_rfl, by kernel_rfl⟩
instance : TOne Try.prog 46 (.slice none 0 0) := ⟨by kernel_rfl, by kernel_rfl, rfl⟩
instance : TOne Try.prog 48 (.nilFunc) := ⟨by kernel_rfl, by kernel_rfl, rfl⟩
instance : TOne Try.prog 49 (.nilFunc) := ⟨by kernel_rfl, by kernel_rfl, rfl⟩
instance : TOne Try.prog 50 (.nilFunc) := ⟨by kernel_rfl, by kernel_rfl, rfl⟩
instance : TSlice Try.prog 51 46 1 24 (zeroOf Try.prog 46) := ⟨by kernel_rfl, by kernel_rfl, by kernel_rfl⟩
instance : TOne Try.prog 51 (.slice none 0 0) := ⟨by kernel_rfl, by kernel_rfl, rfl⟩
instance : TSlice Try.prog 52 4 1 1 (zeroOf Try.prog 4) := ⟨by kernel_rfl, by kernel_rfl, by kernel_rfl⟩
instance : TOne Try.prog 52 (.slice none 0 0) := ⟨by kernel_rfl, by kernel_rfl, rfl⟩
instance : TSlice Try.prog 53 9 1 16 (zeroOf Try.prog 9) := ⟨by kernel_rfl, by kernel_rfl, by kernel_rfl⟩
instance : TOne Try.prog 53 (.slice none 0 0) := ⟨by kernel_rfl, by kernel_rfl, rfl⟩
instance : TArr Try.prog 54 6 53 1 := ⟨by kernel_rfl, by kernel_rfl⟩
instance : TRow Try.prog 54 6 := ⟨by kernel_rfl, by kernel_rfl⟩
instance : TZero Try.prog 54 ([.slice none 0 0, .slice none 0 0, .slice none 0 0, .slice none 0 0, .slice none 0 0, .slice none 0 0]) := ⟨by kernel_rfl⟩
instance : TOne Try.prog 55 (.nilFunc) := ⟨by kernel_rfl, by kernel_rfl, rfl⟩
instance : TOne Try.prog 56 (.nilFunc) := ⟨by kernel_rfl, by kernel_rfl, rfl⟩
instance : TOne Try.prog 57 (.nilFunc) := ⟨by kernel_rfl, by kernel_rfl, rfl⟩
instance : TOne Try.prog 58 (.nilFunc) := ⟨by kernel_rfl, by kernel_rfl, rfl⟩
instance : TSlice Try.prog 59 28 32 32 (zeroOf Try.prog 28) := ⟨by kernel_rfl, by kernel_rfl, by kernel_rfl⟩
instance : TOne Try.prog 59 (.slice none 0 0) := ⟨by kernel_rfl, by kernel_rfl, rfl⟩
instance : TOne Try.prog 60 (.nilFunc) := ⟨by kernel_rfl, by kernel_rfl, rfl⟩
instance : TPtr Try.prog 61 67 := ⟨by kernel_rfl⟩
instance : TOne Try.prog 61 (.pointer none) := ⟨by kernel_rfl, by kernel_rfl, rfl⟩
instance : TOne Try.prog 62 (.nilFunc) := ⟨by kernel_rfl, by kernel_rfl, rfl⟩
instance : TPtr Try.prog 63 70 := ⟨by kernel_rfl⟩
instance : TOne Try.prog 63 (.pointer none) := ⟨by kernel_rfl, by kernel_rfl, rfl⟩
instance : TOne Try.prog 64 (.nilFunc) := ⟨by kernel_rfl, by kernel_rfl, rfl⟩
instance : TSlice Try.prog 65 114 2 24 (zeroOf Try.prog 114) := ⟨by kernel_rfl, by kernel_rfl, by kernel_rfl⟩
instance : TOne Try.prog 65 (.slice none 0 0) := ⟨by kernel_rfl, by kernel_rfl, rfl⟩
instance : TField Try.prog 66 0 0 1 := ⟨_, _, Try.underlying66, rfl, rfl, by kernel_rfl, by decide⟩
instance : TField Try.prog 66 1 1 1 := ⟨_, _, Try.underlying66, rfl, rfl, by kernel_rfl, by decide⟩
instance : TField Try.prog 66 2 2 1 := ⟨_, _, Try.underlying66, rfl, rfl, by kernel_rfl, by decide⟩
instance : TField Try.prog 66 3 3 1 := ⟨_, _, Try.underlying66, rfl, rfl, by kernel_rfl, by decide⟩
instance : TField Try.prog 66 4 4 1 := ⟨_, _, Try.underlying66, rfl, rfl, by kernel_rfl, by decide⟩
instance : TField Try.prog 66 5 5 1 := ⟨_, _, Try.underlying66, rfl, rfl, by kernel_rfl, by decide⟩
instance : TField Try.prog 66 6 6 1 := ⟨_, _, Try.underlying66, rfl, rfl, by kernel_rfl, by decide⟩
instance : TPlaces Try.prog 66 [(0, 1), (1, 1), (2, 1), (3, 1), (4, 1), (5, 1), (6, 1)] ([.slice none 0 0, .slice none 0 0, .slice none 0 0, .bool false, .int .i64 0, .int .i64 0, .int .u64 0]) := ⟨⟨_, Try.underlying66, fun w => by simp [run_size (P := Try.prog) (t := 3) (n := 1) (by kernel_rfl), run_size (P := Try.prog) (t := 4) (n := 1) (by kernel_rfl), run_size (P := Try.prog) (t := 38) (n := 1) (by kernel_rfl), run_size (P := Try.prog) (t := 53) (n := 1) (by kernel_rfl), run_size (P := Try.prog) (t := 65) (n := 1) (by kernel_rfl)]⟩, by kernel_rfl⟩
instance : TRow Try.prog 66 7 := ⟨by kernel_rfl, by kernel_rfl⟩
instance : TZero Try.prog 66 ([.slice none 0 0, .slice none 0 0, .slice none 0 0, .bool false, .int .i64 0, .int .i64 0, .int .u64 0]) := ⟨by kernel_rfl⟩
instance : TField Try.prog 67 0 0 1 := ⟨_, _, Try.underlying67, rfl, rfl, by kernel_rfl, by decide⟩
instance : TField Try.prog 67 1 1 1 := ⟨_, _, Try.underlying67, rfl, rfl, by kernel_rfl, by decide⟩
instance : TField Try.prog 67 2 2 1 := ⟨_, _, Try.underlying67, rfl, rfl, by kernel_rfl, by decide⟩
instance : TField Try.prog 67 3 3 1 := ⟨_, _, Try.underlying67, rfl, rfl, by kernel_rfl, by decide⟩
instance : TField Try.prog 67 4 4 1 := ⟨_, _, Try.underlying67, rfl, rfl, by kernel_rfl, by decide⟩
instance : TField Try.prog 67 5 5 1 := ⟨_, _, Try.underlying67, rfl, rfl, by kernel_rfl, by decide⟩
instance : TField Try.prog 67 6 6 1 := ⟨_, _, Try.underlying67, rfl, rfl, by kernel_rfl, by decide⟩
instance : TPlaces Try.prog 67 [(0, 1), (1, 1), (2, 1), (3, 1), (4, 1), (5, 1), (6, 1)] ([.slice none 0 0, .slice none 0 0, .slice none 0 0, .bool false, .int .i64 0, .int .i64 0, .int .u64 0]) := ⟨⟨_, Try.underlying67, fun w => by simp [run_size (P := Try.prog) (t := 3) (n := 1) (by kernel_rfl), run_size (P := Try.prog) (t := 4) (n := 1) (by kernel_rfl), run_size (P := Try.prog) (t := 38) (n := 1) (by kernel_rfl), run_size (P := Try.prog) (t := 53) (n := 1) (by kernel_rfl), run_size (P := Try.prog) (t := 65) (n := 1) (by kernel_rfl)]⟩, by kernel_rfl⟩
instance : TRow Try.prog 67 7 := ⟨by kernel_rfl, by kernel_rfl⟩
instance : TZero Try.prog 67 ([.slice none 0 0, .slice none 0 0, .slice none 0 0, .bool false, .int .i64 0, .int .i64 0, .int .u64 0]) := ⟨by kernel_rfl⟩
instance : TOne Try.prog 68 (.nilFunc) := ⟨by kernel_rfl, by kernel_rfl, rfl⟩
instance : TField Try.prog 69 0 0 1 := ⟨_, _, Try.underlying69, rfl, rfl, by kernel_rfl, by decide⟩
instance : TField Try.prog 69 1 1 1 := ⟨_, _, Try.underlying69, rfl, rfl, by kernel_rfl, by decide⟩
instance : TField Try.prog 69 2 2 32 := ⟨_, _, Try.underlying69, rfl, rfl, by kernel_rfl, by decide⟩
instance : TField Try.prog 69 3 34 1 := ⟨_, _, Try.underlying69, rfl, rfl, by kernel_rfl, by decide⟩
instance : TField Try.prog 69 4 35 1 := ⟨_, _, Try.underlying69, rfl, rfl, by kernel_rfl, by decide⟩
instance : TPlaces Try.prog 69 [(0, 1), (1, 1), (2, 32), (34, 1), (35, 1)] ([.int .i64 0, .int .i64 0] ++ (List.replicate 32 (.int .u8 0) ++ ([.int .i64 0, .pointer none]))) := ⟨⟨_, Try.underlying69, fun w => by simp [run_size (P := Try.prog) (t := 3) (n := 1) (by kernel_rfl), run_size (P := Try.prog) (t := 28) (n := 32) (by kernel_rfl), run_size (P := Try.prog) (t := 61) (n := 1) (by kernel_rfl)]⟩, by kernel_rfl⟩
instance : TRow Try.prog 69 36 := ⟨by kernel_rfl, by kernel_rfl⟩
instance : TZero Try.prog 69 ([.int .i64 0, .int .i64 0] ++ (List.replicate 32 (.int .u8 0) ++ ([.int .i64 0, .pointer none]))) := ⟨by kernel_rfl⟩
instance : TField Try.prog 70 0 0 1 := ⟨_, _, Try.underlying70, rfl, rfl, by kernel_rfl, by decide⟩
instance : TField Try.prog 70 1 1 1 := ⟨_, _, Try.underlying70, rfl, rfl, by kernel_rfl, by decide⟩
instance : TField Try.prog 70 2 2 32 := ⟨_, _, Try.underlying70, rfl, rfl, by kernel_rfl, by decide⟩
instance : TField Try.prog 70 3 34 1 := ⟨_, _, Try.underlying70, rfl, rfl, by kernel_rfl, by decide⟩
instance : TField Try.prog 70 4 35 1 := ⟨_, _, Try.underlying70, rfl, rfl, by kernel_rfl, by decide⟩
instance : TPlaces Try.prog 70 [(0, 1), (1, 1), (2, 32), (34, 1), (35, 1)] ([.int .i64 0, .int .i64 0] ++ (List.replicate 32 (.int .u8 0) ++ ([.int .i64 0, .pointer none]))) := ⟨⟨_, Try.underlying70, fun w => by simp [run_size (P := Try.prog) (t := 3) (n := 1) (by kernel_rfl), run_size (P := Try.prog) (t := 28) (n := 32) (by kernel_rfl), run_size (P := Try.prog) (t := 61) (n := 1) (by kernel_rfl)]⟩, by kernel_rfl⟩
instance : TRow Try.prog 70 36 := ⟨by kernel_rfl, by kernel_rfl⟩
instance : TZero Try.prog 70 ([.int .i64 0, .int .i64 0] ++ (List.replicate 32 (.int .u8 0) ++ ([.int .i64 0, .pointer none]))) := ⟨by kernel_rfl⟩
instance : TOne Try.prog 71 (.nilFunc) := ⟨by kernel_rfl, by kernel_rfl, rfl⟩
instance : TSlice Try.prog 72 75 4 48 (zeroOf Try.prog 75) := ⟨by kernel_rfl, by kernel_rfl, by kernel_rfl⟩
instance : TOne Try.prog 72 (.slice none 0 0) := ⟨by kernel_rfl, by kernel_rfl, rfl⟩
instance : TOne Try.prog 73 (.nilFunc) := ⟨by kernel_rfl, by kernel_rfl, rfl⟩
instance : TField Try.prog 74 0 0 1 := ⟨_, _, Try.underlying74, rfl, rfl, by kernel_rfl, by decide⟩
instance : TField Try.prog 74 1 1 1 := ⟨_, _, Try.underlying74, rfl, rfl, by kernel_rfl, by decide⟩
instance : TField Try.prog 74 2 2 1 := ⟨_, _, Try.underlying74, rfl, rfl, by kernel_rfl, by decide⟩
instance : TField Try.prog 74 3 3 1 := ⟨_, _, Try.underlying74, rfl, rfl, by kernel_rfl, by decide⟩
instance : TRow Try.prog 74 4 := ⟨by kernel_rfl, by kernel_rfl⟩
instance : TZero Try.prog 74 ([.int .i64 0, .int .i64 0, .slice none 0 0, .int .u64 0]) := ⟨by kernel_rfl⟩
instance : TField Try.prog 75 0 0 1 := ⟨_, _, Try.underlying75, rfl, rfl, by kernel_rfl, by decide⟩
instance : TField Try.prog 75 1 1 1 := ⟨_, _, Try.underlying75, rfl, rfl, by kernel_rfl, by decide⟩
instance : TField Try.prog 75 2 2 1 := ⟨_, _, Try.underlying75, rfl, rfl, by kernel_rfl, by decide⟩
instance : TField Try.prog 75 3 3 1 := ⟨_, _, Try.underlying75, rfl, rfl, by kernel_rfl, by decide⟩
instance : TPlaces Try.prog 75 [(0, 1), (1, 1), (2, 1), (3, 1)] ([.int .i64 0, .int .i64 0, .slice none 0 0, .int .u64 0]) := ⟨⟨_, Try.underlying75, fun w => by simp [run_size (P := Try.prog) (t := 3) (n := 1) (by kernel_rfl), run_size (P := Try.prog) (t := 38) (n := 1) (by kernel_rfl), run_size (P := Try.prog) (t := 46) (n := 1) (by kernel_rfl)]⟩, by kernel_rfl⟩
instance : TRow Try.prog 75 4 := ⟨by kernel_rfl, by kernel_rfl⟩
instance : TZero Try.prog 75 ([.int .i64 0, .int .i64 0, .slice none 0 0, .int .u64 0]) := ⟨by kernel_rfl⟩
instance : TOne Try.prog 76 (.nilFunc) := ⟨by kernel_rfl, by kernel_rfl, rfl⟩
instance : TOne Try.prog 77 (.nilFunc) := ⟨by kernel_rfl, by kernel_rfl, rfl⟩
instance : TPtr Try.prog 78 119 := ⟨by kernel_rfl⟩
instance : TOne Try.prog 78 (.pointer none) := ⟨by kernel_rfl, by kernel_rfl, rfl⟩
instance : TOne Try.prog 79 (.nilFunc) := ⟨by kernel_rfl, by kernel_rfl, rfl⟩
instance : TOne Try.prog 80 (.nilFunc) := ⟨by kernel_rfl, by kernel_rfl, rfl⟩
instance : TOne Try.prog 81 (.nilFunc) := ⟨by kernel_rfl, by kernel_rfl, rfl⟩
instance : TOne Try.prog 82 (.nilFunc) := ⟨by kernel_rfl, by kernel_rfl, rfl⟩
instance : TOne Try.prog 83 (.nilFunc) := ⟨by kernel_rfl, by kernel_rfl, rfl⟩
instance : TOne Try.prog 84 (.nilFunc) := ⟨by kernel_rfl, by kernel_rfl, rfl⟩
instance : TOne Try.prog 85 (.nilFunc) := ⟨by kernel_rfl, by kernel_rfl, rfl⟩
instance : TOne Try.prog 86 (.nilFunc) := ⟨by kernel_rfl, by kernel_rfl, rfl⟩
instance : TOne Try.prog 87 (.nilFunc) := ⟨by kernel_rfl, by kernel_rfl, rfl⟩
instance : TSlice Try.prog 88 93 4 40 (zeroOf Try.prog 93) := ⟨by kernel_rfl, by kernel_rfl, by kernel_rfl⟩
instance : TOne Try.prog 88 (.slice none 0 0) := ⟨by kernel_rfl, by kernel_rfl, rfl⟩
instance : TOne Try.prog 89 (.nilFunc) := ⟨by kernel_rfl, by kernel_rfl, rfl⟩
instance : TPtr Try.prog 90 98 := ⟨by kernel_rfl⟩
instance : TOne Try.prog 90 (.pointer none) := ⟨by kernel_rfl, by kernel_rfl, rfl⟩
instance : TOne Try.prog 91 (.nilFunc) := ⟨by kernel_rfl, by kernel_rfl, rfl⟩
instance : TField Try.prog 92 0 0 1 := ⟨_, _, Try.underlying92, rfl, rfl, by kernel_rfl, by decide⟩
instance : TField Try.prog 92 1 1 1 := ⟨_, _, Try.underlying92, rfl, rfl, by kernel_rfl, by decide⟩
instance : TField Try.prog 92 2 2 1 := ⟨_, _, Try.underlying92, rfl, rfl, by kernel_rfl, by decide⟩
instance : TField Try.prog 92 3 3 1 := ⟨_, _, Try.underlying92, rfl, rfl, by kernel_rfl, by decide⟩
instance : TRow Try.prog 92 4 := ⟨by kernel_rfl, by kernel_rfl⟩
instance : TZero Try.prog 92 ([.int .i64 0, str [], .int .i64 0, .int .u64 0]) := ⟨by kernel_rfl⟩
instance : TField Try.prog 93 0 0 1 := ⟨_, _, Try.underlying93, rfl, rfl, by kernel_rfl, by decide⟩
instance : TField Try.prog 93 1 1 1 := ⟨_, _, Try.underlying93, rfl, rfl, by kernel_rfl, by decide⟩
instance : TField Try.prog 93 2 2 1 := ⟨_, _, Try.underlying93, rfl, rfl, by kernel_rfl, by decide⟩
instance : TField Try.prog 93 3 3 1 := ⟨_, _, Try.underlying93, rfl, rfl, by kernel_rfl, by decide⟩
instance : TPlaces Try.prog 93 [(0, 1), (1, 1), (2, 1), (3, 1)] ([.int .i64 0, str [], .int .i64 0, .int .u64 0]) := ⟨⟨_, Try.underlying93, fun w => by simp [run_size (P := Try.prog) (t := 3) (n := 1) (by kernel_rfl), run_size (P := Try.prog) (t := 9) (n := 1) (by kernel_rfl), run_size (P := Try.prog) (t := 38) (n := 1) (by kernel_rfl)]⟩, by kernel_rfl⟩
instance : TRow Try.prog 93 4 := ⟨by kernel_rfl, by kernel_rfl⟩
instance : TZero Try.prog 93 ([.int .i64 0, str [], .int .i64 0, .int .u64 0]) := ⟨by kernel_rfl⟩
instance : TOne Try.prog 94 (.nilFunc) := ⟨by kernel_rfl, by kernel_rfl, rfl⟩
instance : TOne Try.prog 96 (.nilFunc) := ⟨by kernel_rfl, by kernel_rfl, rfl⟩
instance : TField Try.prog 97 0 0 1 := ⟨_, _, Try.underlying97, rfl, rfl, by kernel_rfl, by decide⟩
instance : TField Try.prog 97 1 1 1 := ⟨_, _, Try.underlying97, rfl, rfl, by kernel_rfl, by decide⟩
instance : TField Try.prog 97 2 2 1 := ⟨_, _, Try.underlying97, rfl, rfl, by kernel_rfl, by decide⟩
instance : TPlaces Try.prog 97 [(0, 1), (1, 1), (2, 1)] ([.pointer none, .int .i64 0, .int .i64 0]) := ⟨⟨_, Try.underlying97, fun w => by simp [run_size (P := Try.prog) (t := 3) (n := 1) (by kernel_rfl), run_size (P := Try.prog) (t := 61) (n := 1) (by kernel_rfl)]⟩, by kernel_rfl⟩
instance : TRow Try.prog 97 3 := ⟨by kernel_rfl, by kernel_rfl⟩
instance : TZero Try.prog 97 ([.pointer none, .int .i64 0, .int .i64 0]) := ⟨by kernel_rfl⟩
instance : TField Try.prog 98 0 0 1 := ⟨_, _, Try.underlying98, rfl, rfl, by kernel_rfl, by decide⟩
instance : TField Try.prog 98 1 1 1 := ⟨_, _, Try.underlying98, rfl, rfl, by kernel_rfl, by decide⟩
instance : TField Try.prog 98 2 2 1 := ⟨_, _, Try.underlying98, rfl, rfl, by kernel_rfl, by decide⟩
instance : TPlaces Try.prog 98 [(0, 1), (1, 1), (2, 1)] ([.pointer none, .int .i64 0, .int .i64 0]) := ⟨⟨_, Try.underlying98, fun w => by simp [run_size (P := Try.prog) (t := 3) (n := 1) (by kernel_rfl), run_size (P := Try.prog) (t := 61) (n := 1) (by kernel_rfl)]⟩, by kernel_rfl⟩
instance : TRow Try.prog 98 3 := ⟨by kernel_rfl, by kernel_rfl⟩
instance : TZero Try.prog 98 ([.pointer none, .int .i64 0, .int .i64 0]) := ⟨by kernel_rfl⟩
instance : TOne Try.prog 99 (.nilFunc) := ⟨by kernel_rfl, by kernel_rfl, rfl⟩
instance : TOne Try.prog 100 (.nilFunc) := ⟨by kernel_rfl, by kernel_rfl, rfl⟩
instance : TOne Try.prog 102 (.nilFunc) := ⟨by kernel_rfl, by kernel_rfl, rfl⟩
instance : TInt Try.prog 103 .u64 := ⟨by kernel_rfl⟩
instance : TOne Try.prog 103 (.int .u64 0) := ⟨by kernel_rfl, by kernel_rfl, rfl⟩
instance : TSlice Try.prog 104 109 256 256 (zeroOf Try.prog 109) := ⟨by kernel_rfl, by kernel_rfl, by kernel_rfl⟩
instance : TOne Try.prog 104 (.slice none 0 0) := ⟨by kernel_rfl, by kernel_rfl, rfl⟩
instance : TSlice Try.prog 105 111 257 264 (zeroOf Try.prog 111) := ⟨by kernel_rfl, by kernel_rfl, by kernel_rfl⟩
instance : TOne Try.prog 105 (.slice none 0 0) := ⟨by kernel_rfl, by kernel_rfl, rfl⟩
instance : TField Try.prog 106 0 0 1 := ⟨_, _, Try.underlying106, rfl, rfl, by kernel_rfl, by decide⟩
instance : TField Try.prog 106 1 1 1 := ⟨_, _, Try.underlying106, rfl, rfl, by kernel_rfl, by decide⟩
instance : TField Try.prog 106 2 2 1 := ⟨_, _, Try.underlying106, rfl, rfl, by kernel_rfl, by decide⟩
instance : TField Try.prog 106 3 3 1 := ⟨_, _, Try.underlying106, rfl, rfl, by kernel_rfl, by decide⟩
instance : TField Try.prog 106 4 4 1 := ⟨_, _, Try.underlying106, rfl, rfl, by kernel_rfl, by decide⟩
instance : TField Try.prog 106 5 5 1 := ⟨_, _, Try.underlying106, rfl, rfl, by kernel_rfl, by decide⟩
instance : TField Try.prog 106 6 6 1 := ⟨_, _, Try.underlying106, rfl, rfl, by kernel_rfl, by decide⟩
instance : TRow Try.prog 106 7 := ⟨by kernel_rfl, by kernel_rfl⟩
instance : TZero Try.prog 106 ([.slice none 0 0, .slice none 0 0, .slice none 0 0, .bool false, .int .i64 0, .int .i64 0, .int .u64 0]) := ⟨by kernel_rfl⟩
instance : TField Try.prog 107 0 0 1 := ⟨_, _, Try.underlying107, rfl, rfl, by kernel_rfl, by decide⟩
instance : TField Try.prog 107 1 1 1 := ⟨_, _, Try.underlying107, rfl, rfl, by kernel_rfl, by decide⟩
instance : TField Try.prog 107 2 2 1 := ⟨_, _, Try.underlying107, rfl, rfl, by kernel_rfl, by decide⟩
instance : TField Try.prog 107 3 3 1 := ⟨_, _, Try.underlying107, rfl, rfl, by kernel_rfl, by decide⟩
instance : TField Try.prog 107 4 4 1 := ⟨_, _, Try.underlying107, rfl, rfl, by kernel_rfl, by decide⟩
instance : TField Try.prog 107 5 5 1 := ⟨_, _, Try.underlying107, rfl, rfl, by kernel_rfl, by decide⟩
instance : TField Try.prog 107 6 6 1 := ⟨_, _, Try.underlying107, rfl, rfl, by kernel_rfl, by decide⟩
instance : TPlaces Try.prog 107 [(0, 1), (1, 1), (2, 1), (3, 1), (4, 1), (5, 1), (6, 1)] ([.slice none 0 0, .slice none 0 0, .slice none 0 0, .bool false, .int .i64 0, .int .i64 0, .int .u64 0]) := ⟨⟨_, Try.underlying107, fun w => by simp [run_size (P := Try.prog) (t := 3) (n := 1) (by kernel_rfl), run_size (P := Try.prog) (t := 4) (n := 1) (by kernel_rfl), run_size (P := Try.prog) (t := 38) (n := 1) (by kernel_rfl), run_size (P := Try.prog) (t := 104) (n := 1) (by kernel_rfl), run_size (P := Try.prog) (t := 105) (n := 1) (by kernel_rfl)]⟩, by kernel_rfl⟩
instance : TRow Try.prog 107 7 := ⟨by kernel_rfl, by kernel_rfl⟩
instance : TZero Try.prog 107 ([.slice none 0 0, .slice none 0 0, .slice none 0 0, .bool false, .int .i64 0, .int .i64 0, .int .u64 0]) := ⟨by kernel_rfl⟩
instance : TArr Try.prog 108 256 5 1 := ⟨by kernel_rfl, by kernel_rfl⟩
instance : TRow Try.prog 108 256 := ⟨by kernel_rfl, by kernel_rfl⟩
instance : TZero Try.prog 108 (List.replicate 256 (.int .u8 0)) := ⟨by kernel_rfl⟩
instance : TArr Try.prog 109 256 5 1 := ⟨by kernel_rfl, by kernel_rfl⟩
instance : TRow Try.prog 109 256 := ⟨by kernel_rfl, by kernel_rfl⟩
instance : TZero Try.prog 109 (List.replicate 256 (.int .u8 0)) := ⟨by kernel_rfl⟩
instance : TField Try.prog 110 0 0 1 := ⟨_, _, Try.underlying110, rfl, rfl, by kernel_rfl, by decide⟩
instance : TField Try.prog 110 1 1 256 := ⟨_, _, Try.underlying110, rfl, rfl, by kernel_rfl, by decide⟩
instance : TRow Try.prog 110 257 := ⟨by kernel_rfl, by kernel_rfl⟩
instance : TZero Try.prog 110 ([.int .i64 0] ++ (List.replicate 256 (.int .u8 0))) := ⟨by kernel_rfl⟩
instance : TField Try.prog 111 0 0 1 := ⟨_, _, Try.underlying111, rfl, rfl, by kernel_rfl, by decide⟩
instance : TField Try.prog 111 1 1 256 := ⟨_, _, Try.underlying111, rfl, rfl, by kernel_rfl, by decide⟩
instance : TPlaces Try.prog 111 [(0, 1), (1, 256)] ([.int .i64 0] ++ (List.replicate 256 (.int .u8 0))) := ⟨⟨_, Try.underlying111, fun w => by simp [run_size (P := Try.prog) (t := 3) (n := 1) (by kernel_rfl), run_size (P := Try.prog) (t := 109) (n := 256) (by kernel_rfl)]⟩, by kernel_rfl⟩
instance : TRow Try.prog 111 257 := ⟨by kernel_rfl, by kernel_rfl⟩
instance : TZero Try.prog 111 ([.int .i64 0] ++ (List.replicate 256 (.int .u8 0))) := ⟨by kernel_rfl⟩
instance : TOne Try.prog 112 (.nilFunc) := ⟨by kernel_rfl, by kernel_rfl, rfl⟩
instance : TField Try.prog 113 0 0 1 := ⟨_, _, Try.underlying113, rfl, rfl, by kernel_rfl, by decide⟩
instance : TField Try.prog 113 1 1 1 := ⟨_, _, Try.underlying113, rfl, rfl, by kernel_rfl, by decide⟩
instance : TRow Try.prog 113 2 := ⟨by kernel_rfl, by kernel_rfl⟩
instance : TZero Try.prog 113 ([.int .i64 0, str []]) := ⟨by kernel_rfl⟩
instance : TField Try.prog 114 0 0 1 := ⟨_, _, Try.underlying114, rfl, rfl, by kernel_rfl, by decide⟩
instance : TField Try.prog 114 1 1 1 := ⟨_, _, Try.underlying114, rfl, rfl, by kernel_rfl, by decide⟩
instance : TPlaces Try.prog 114 [(0, 1), (1, 1)] ([.int .i64 0, str []]) := ⟨⟨_, Try.underlying114, fun w => by simp [run_size (P := Try.prog) (t := 3) (n := 1) (by kernel_rfl), run_size (P := Try.prog) (t := 9) (n := 1) (by kernel_rfl)]⟩, by kernel_rfl⟩
instance : TRow Try.prog 114 2 := ⟨by kernel_rfl, by kernel_rfl⟩
instance : TZero Try.prog 114 ([.int .i64 0, str []]) := ⟨by kernel_rfl⟩
instance : TOne Try.prog 115 (.nilFunc) := ⟨by kernel_rfl, by kernel_rfl, rfl⟩
instance : TOne Try.prog 116 (.nilFunc) := ⟨by kernel_rfl, by kernel_rfl, rfl⟩
instance : TOne Try.prog 117 (.nilFunc) := ⟨by kernel_rfl, by kernel_rfl, rfl⟩
instance : TField Try.prog 118 0 0 1 := ⟨_, _, Try.underlying118, rfl, rfl, by kernel_rfl, by decide⟩
instance : TField Try.prog 118 1 1 1 := ⟨_, _, Try.underlying118, rfl, rfl, by kernel_rfl, by decide⟩
instance : TField Try.prog 118 2 2 1 := ⟨_, _, Try.underlying118, rfl, rfl, by kernel_rfl, by decide⟩
instance : TField Try.prog 118 3 3 1 := ⟨_, _, Try.underlying118, rfl, rfl, by kernel_rfl, by decide⟩
instance : TRow Try.prog 118 4 := ⟨by kernel_rfl, by kernel_rfl⟩
instance : TZero Try.prog 118 ([.pointer none, .int .i64 0, .int .i64 0, .int .i64 0]) := ⟨by kernel_rfl⟩
instance : TField Try.prog 119 0 0 1 := ⟨_, _, Try.underlying119, rfl, rfl, by kernel_rfl, by decide⟩
instance : TField Try.prog 119 1 1 1 := ⟨_, _, Try.underlying119, rfl, rfl, by kernel_rfl, by decide⟩
instance : TField Try.prog 119 2 2 1 := ⟨_, _, Try.underlying119, rfl, rfl, by kernel_rfl, by decide⟩
instance : TField Try.prog 119 3 3 1 := ⟨_, _, Try.underlying119, rfl, rfl, by kernel_rfl, by decide⟩
instance : TPlaces Try.prog 119 [(0, 1), (1, 1), (2, 1), (3, 1)] ([.pointer none, .int .i64 0, .int .i64 0, .int .i64 0]) := ⟨⟨_, Try.underlying119, fun w => by simp [run_size (P := Try.prog) (t := 3) (n := 1) (by kernel_rfl), run_size (P := Try.prog) (t := 32) (n := 1) (by kernel_rfl)]⟩, by kernel_rfl⟩
instance : TRow Try.prog 119 4 := ⟨by kernel_rfl, by kernel_rfl⟩
instance : TZero Try.prog 119 ([.pointer none, .int .i64 0, .int .i64 0, .int .i64 0]) := ⟨by kernel_rfl⟩
instance : TOne Try.prog 120 (.nilFunc) := ⟨by kernel_rfl, by kernel_rfl, rfl⟩
instance : TOne Try.prog 121 (.nilFunc) := ⟨by kernel_rfl, by kernel_rfl, rfl⟩
instance : TOne Try.prog 122 (.nilFunc) := ⟨by kernel_rfl, by kernel_rfl, rfl⟩
instance : TOne Try.prog 123 (.nilFunc) := ⟨by kernel_rfl, by kernel_rfl, rfl⟩
instance : TOne Try.prog 124 (.nilFunc) := ⟨by kernel_rfl, by kernel_rfl, rfl⟩
instance : TPtr Try.prog 125 127 := ⟨by kernel_rfl⟩
instance : TOne Try.prog 125 (.pointer none) := ⟨by kernel_rfl, by kernel_rfl, rfl⟩
instance : TField Try.prog 126 0 0 1 := ⟨_, _, Try.underlying126, rfl, rfl, by kernel_rfl, by decide⟩
instance : TField Try.prog 126 1 1 1 := ⟨_, _, Try.underlying126, rfl, rfl, by kernel_rfl, by decide⟩
instance : TRow Try.prog 126 2 := ⟨by kernel_rfl, by kernel_rfl⟩
instance : TZero Try.prog 126 ([str [], .bool false]) := ⟨by kernel_rfl⟩
instance : TField Try.prog 127 0 0 1 := ⟨_, _, Try.underlying127, rfl, rfl, by kernel_rfl, by decide⟩
instance : TField Try.prog 127 1 1 1 := ⟨_, _, Try.underlying127, rfl, rfl, by kernel_rfl, by decide⟩
instance : TPlaces Try.prog 127 [(0, 1), (1, 1)] ([str [], .bool false]) := ⟨⟨_, Try.underlying127, fun w => by simp [run_size (P := Try.prog) (t := 4) (n := 1) (by kernel_rfl), run_size (P := Try.prog) (t := 9) (n := 1) (by kernel_rfl)]⟩, by kernel_rfl⟩
instance : TRow Try.prog 127 2 := ⟨by kernel_rfl, by kernel_rfl⟩
instance : TZero Try.prog 127 ([str [], .bool false]) := ⟨by kernel_rfl⟩
instance : TOne Try.prog 128 (.nilFunc) := ⟨by kernel_rfl, by kernel_rfl, rfl⟩
instance : TOne Try.prog 129 (.nilFunc) := ⟨by kernel_rfl, by kernel_rfl, rfl⟩
instance : TPtr Try.prog 130 135 := ⟨by kernel_rfl⟩
instance : TOne Try.prog 130 (.pointer none) := ⟨by kernel_rfl, by kernel_rfl, rfl⟩
instance : TOne Try.prog 131 (.nilFunc) := ⟨by kernel_rfl, by kernel_rfl, rfl⟩
instance : TOne Try.prog 133 (.nilFunc) := ⟨by kernel_rfl, by kernel_rfl, rfl⟩
instance : TField Try.prog 134 0 0 1 := ⟨_, _, Try.underlying134, rfl, rfl, by kernel_rfl, by decide⟩
instance : TField Try.prog 134 1 1 1 := ⟨_, _, Try.underlying134, rfl, rfl, by kernel_rfl, by decide⟩
instance : TRow Try.prog 134 2 := ⟨by kernel_rfl, by kernel_rfl⟩
instance : TZero Try.prog 134 ([.slice none 0 0, .bool false]) := ⟨by kernel_rfl⟩
instance : TField Try.prog 135 0 0 1 := ⟨_, _, Try.underlying135, rfl, rfl, by kernel_rfl, by decide⟩
instance : TField Try.prog 135 1 1 1 := ⟨_, _, Try.underlying135, rfl, rfl, by kernel_rfl, by decide⟩
instance : TPlaces Try.prog 135 [(0, 1), (1, 1)] ([.slice none 0 0, .bool false]) := ⟨⟨_, Try.underlying135, fun w => by simp [run_size (P := Try.prog) (t := 4) (n := 1) (by kernel_rfl), run_size (P := Try.prog) (t := 46) (n := 1) (by kernel_rfl)]⟩, by kernel_rfl⟩
instance : TRow Try.prog 135 2 := ⟨by kernel_rfl, by kernel_rfl⟩
instance : TZero Try.prog 135 ([.slice none 0 0, .bool false]) := ⟨by kernel_rfl⟩
instance : TOne Try.prog 137 (.nilFunc) := ⟨by kernel_rfl, by kernel_rfl, rfl⟩
instance : TField Try.prog 138 0 0 1 := ⟨_, _, Try.underlying138, rfl, rfl, by kernel_rfl, by decide⟩
instance : TField Try.prog 138 1 1 1 := ⟨_, _, Try.underlying138, rfl, rfl, by kernel_rfl, by decide⟩
instance : TField Try.prog 138 2 2 1 := ⟨_, _, Try.underlying138, rfl, rfl, by kernel_rfl, by decide⟩
instance : TField Try.prog 138 3 3 1 := ⟨_, _, Try.underlying138, rfl, rfl, by kernel_rfl, by decide⟩
instance : TRow Try.prog 138 4 := ⟨by kernel_rfl, by kernel_rfl⟩
instance : TZero Try.prog 138 ([.pointer none, .pointer none, .pointer none, str []]) := ⟨by kernel_rfl⟩
instance : TField Try.prog 139 0 0 1 := ⟨_, _, Try.underlying139, rfl, rfl, by kernel_rfl, by decide⟩
instance : TField Try.prog 139 1 1 1 := ⟨_, _, Try.underlying139, rfl, rfl, by kernel_rfl, by decide⟩
instance : TField Try.prog 139 2 2 1 := ⟨_, _, Try.underlying139, rfl, rfl, by kernel_rfl, by decide⟩
instance : TField Try.prog 139 3 3 1 := ⟨_, _, Try.underlying139, rfl, rfl, by kernel_rfl, by decide⟩
instance : TRow Try.prog 139 4 := ⟨by kernel_rfl, by kernel_rfl⟩
instance : TZero Try.prog 139 ([.pointer none, .pointer none, .pointer none, str []]) := ⟨by kernel_rfl⟩
instance : TArr Try.prog 140 0 16 1 := ⟨by kernel_rfl, by kernel_rfl⟩
instance : TRow Try.prog 140 0 := ⟨by kernel_rfl, by kernel_rfl⟩
instance : TZero Try.prog 140 ([]) := ⟨by kernel_rfl⟩
instance : TRow Try.prog 141 0 := ⟨by kernel_rfl, by kernel_rfl⟩
instance : TZero Try.prog 141 ([]) := ⟨by kernel_rfl⟩
instance : TRow Try.prog 142 0 := ⟨by kernel_rfl, by kernel_rfl⟩
instance : TZero Try.prog 142 ([]) := ⟨by kernel_rfl⟩
instance : TInt Try.prog 143 .u32 := ⟨by kernel_rfl⟩
instance : TOne Try.prog 143 (.int .u32 0) := ⟨by kernel_rfl, by kernel_rfl, rfl⟩
instance : TInt Try.prog 144 .u8 := ⟨by kernel_rfl⟩
instance : TOne Try.prog 144 (.int .u8 0) := ⟨by kernel_rfl, by kernel_rfl, rfl⟩
instance : TInt Try.prog 145 .u8 := ⟨by kernel_rfl⟩
instance : TOne Try.prog 145 (.int .u8 0) := ⟨by kernel_rfl, by kernel_rfl, rfl⟩
instance : TOne Try.prog 146 (.nilFunc) := ⟨by kernel_rfl, by kernel_rfl, rfl⟩
instance : TPtr Try.prog 147 5 := ⟨by kernel_rfl⟩
instance : TOne Try.prog 147 (.pointer none) := ⟨by kernel_rfl, by kernel_rfl, rfl⟩
instance : TInt Try.prog 148 .i32 := ⟨by kernel_rfl⟩
instance : TOne Try.prog 148 (.int .i32 0) := ⟨by kernel_rfl, by kernel_rfl, rfl⟩
instance : TInt Try.prog 149 .i32 := ⟨by kernel_rfl⟩
instance : TOne Try.prog 149 (.int .i32 0) := ⟨by kernel_rfl, by kernel_rfl, rfl⟩
instance : TField Try.prog 150 0 0 1 := ⟨_, _, Try.underlying150, rfl, rfl, by kernel_rfl, by decide⟩
instance : TField Try.prog 150 1 1 1 := ⟨_, _, Try.underlying150, rfl, rfl, by kernel_rfl, by decide⟩
instance : TField Try.prog 150 2 2 1 := ⟨_, _, Try.underlying150, rfl, rfl, by kernel_rfl, by decide⟩
instance : TField Try.prog 150 3 3 1 := ⟨_, _, Try.underlying150, rfl, rfl, by kernel_rfl, by decide⟩
instance : TField Try.prog 150 4 4 1 := ⟨_, _, Try.underlying150, rfl, rfl, by kernel_rfl, by decide⟩
instance : TField Try.prog 150 5 5 1 := ⟨_, _, Try.underlying150, rfl, rfl, by kernel_rfl, by decide⟩
instance : TField Try.prog 150 6 6 1 := ⟨_, _, Try.underlying150, rfl, rfl, by kernel_rfl, by decide⟩
instance : TField Try.prog 150 7 7 1 := ⟨_, _, Try.underlying150, rfl, rfl, by kernel_rfl, by decide⟩
instance : TField Try.prog 150 8 8 1 := ⟨_, _, Try.underlying150, rfl, rfl, by kernel_rfl, by decide⟩
instance : TField Try.prog 150 9 9 1 := ⟨_, _, Try.underlying150, rfl, rfl, by kernel_rfl, by decide⟩
instance : TField Try.prog 150 10 10 1 := ⟨_, _, Try.underlying150, rfl, rfl, by kernel_rfl, by decide⟩
instance : TRow Try.prog 150 11 := ⟨by kernel_rfl, by kernel_rfl⟩
instance : TZero Try.prog 150 ([.int .u64 0, .int .u64 0, .int .u32 0, .int .u8 0, .int .u8 0, .int .u8 0, .int .u8 0, .nilFunc, .pointer none, .int .i32 0, .int .i32 0]) := ⟨by kernel_rfl⟩
instance : TField Try.prog 151 0 0 1 := ⟨_, _, Try.underlying151, rfl, rfl, by kernel_rfl, by decide⟩
instance : TField Try.prog 151 1 1 1 := ⟨_, _, Try.underlying151, rfl, rfl, by kernel_rfl, by decide⟩
instance : TField Try.prog 151 2 2 1 := ⟨_, _, Try.underlying151, rfl, rfl, by kernel_rfl, by decide⟩
instance : TField Try.prog 151 3 3 1 := ⟨_, _, Try.underlying151, rfl, rfl, by kernel_rfl, by decide⟩
instance : TField Try.prog 151 4 4 1 := ⟨_, _, Try.underlying151, rfl, rfl, by kernel_rfl, by decide⟩
instance : TField Try.prog 151 5 5 1 := ⟨_, _, Try.underlying151, rfl, rfl, by kernel_rfl, by decide⟩
instance : TField Try.prog 151 6 6 1 := ⟨_, _, Try.underlying151, rfl, rfl, by kernel_rfl, by decide⟩
instance : TField Try.prog 151 7 7 1 := ⟨_, _, Try.underlying151, rfl, rfl, by kernel_rfl, by decide⟩
instance : TField Try.prog 151 8 8 1 := ⟨_, _, Try.underlying151, rfl, rfl, by kernel_rfl, by decide⟩
instance : TField Try.prog 151 9 9 1 := ⟨_, _, Try.underlying151, rfl, rfl, by kernel_rfl, by decide⟩
instance : TField Try.prog 151 10 10 1 := ⟨_, _, Try.underlying151, rfl, rfl, by kernel_rfl, by decide⟩
instance : TRow Try.prog 151 11 := ⟨by kernel_rfl, by kernel_rfl⟩
instance : TZero Try.prog 151 ([.int .u64 0, .int .u64 0, .int .u32 0, .int .u8 0, .int .u8 0, .int .u8 0, .int .u8 0, .nilFunc, .pointer none, .int .i32 0, .int .i32 0]) := ⟨by kernel_rfl⟩
instance : TOne Try.prog 152 (.pointer none) := ⟨by kernel_rfl, by kernel_rfl, rfl⟩
end Go.Proofs.Ytakeilefbcpabaa

/- The reader of bytes (package code): Read, Take, Num, In, Good. -/
namespace Go.Proofs.Ytakeilefbcpabaa
open Go.RowKit

/-- The block g holds these bytes, from its start on; none: there is no such block. -/
def BkP (g : Nat) (D : List UInt8) : HP := fun h => D = [] ∨ ∃ cs T fr, h g = some (.cells cs T fr) ∧ cs.toList.take D.length = bvs D
/-- The slice v lies in that block: it reads as l. -/
def SubOf (g : Nat) (D : List UInt8) (v : Value) (l : List UInt8) : Prop :=
  ∃ A cap, v = .slice A l.length cap ∧ l.length ≤ cap ∧ cap ≤ 9223372036854775807 ∧ (A = none → cap = 0) ∧ (l = [] ∨ ∃ o, A = some ⟨g, o, none⟩ ∧ (D.drop o).take l.length = l)
theorem SubOf.hasR {g : Nat} {D l : List UInt8} {v : Value} {n : Nat} {c : Con} {L : List HP} (h : SubOf g D v l) (hn : l.length = n) : HasR (St c (BkP g D :: L)) v n (bvs l) := fun w H => by
  subst hn
  obtain ⟨A, cap, rfl, h1, h2, h3, h4⟩ := h
  refine ⟨by simp [bvs_length], ?_⟩
  rcases h4 with rfl | ⟨o, rfl, h5⟩
  · cases A with
    | none => have := h3 rfl; subst this; exact .inl ⟨rfl, rfl⟩
    | some ad => exact .inr ⟨ad, cap, rfl, h1, h2, fun j u hu => by simp [bvs] at hu⟩
  · refine .inr ⟨_, cap, rfl, h1, h2, fun j u hu => ?_⟩
    obtain ⟨h, hb, l'⟩ := H.get
    have hl : l ≠ [] := by rintro rfl; simp [bvs] at hu
    rcases hb with rfl | ⟨cs, T, fr, hg, hcs⟩
    · rw [List.drop_nil, List.take_nil] at h5; exact absurd h5.symm hl
    · rw [add_mid, l'.cell hg]
      have hj : j < l.length := by have := (List.getElem?_eq_some_iff.1 hu).1; rwa [bvs_length] at this
      have e : (bvs D)[o + j]? = some u := by
        rw [← hu, bvs, bvs, List.getElem?_map, List.getElem?_map]
        congr 1
        rw [← h5, List.getElem?_take, if_pos hj, List.getElem?_drop]
      rw [← hcs, List.getElem?_take] at e
      split at e
      · simpa using e
      · cases e
theorem sub_take {g : Nat} {D l a b : List UInt8} {A : Option Addr} {n cap : Nat} (h : SubOf g D (.slice A n cap) l) (hl : l = a ++ b) {m : Nat} (hm : a.length = m) : SubOf g D (.slice A m m) a := by
  subst hm
  obtain ⟨A', cap', e, h1, h2, h3, h4⟩ := h
  cases e
  subst hl
  have hle : a.length ≤ (a ++ b).length := by simp
  refine ⟨A, a.length, rfl, Nat.le_refl _, by omega, fun e => ?_, ?_⟩
  · have := h3 e; omega
  · rcases h4 with h4 | ⟨o, e, h5⟩
    · exact .inl (List.append_eq_nil_iff.1 h4).1
    · refine .inr ⟨o, e, ?_⟩
      have := congrArg (List.take a.length) h5
      rwa [List.take_take, Nat.min_eq_left hle, List.take_left] at this
theorem sub_drop {g : Nat} {D l a b : List UInt8} {A : Option Addr} {n cap s : Nat} (h : SubOf g D (.slice A n cap) l) (hs : s = 1) (hl : l = a ++ b) {m : Nat} (hm : a.length = m) : SubOf g D (.slice (if cap = m then A else A.map (·.add (m * s))) (n - m) (cap - m)) b := by
  subst hm hs
  obtain ⟨A', cap', e, h1, h2, h3, h4⟩ := h
  cases e
  subst hl
  have hn : (a ++ b).length - a.length = b.length := by simp
  rw [List.length_append] at h1
  refine ⟨_, cap - a.length, by rw [hn], by omega, by omega, fun e => ?_, ?_⟩
  · split at e
    · omega
    · cases A with
      | none => have := h3 rfl; omega
      | some ad => cases e
  · rcases h4 with h4 | ⟨o, e, h5⟩
    · exact .inl (List.append_eq_nil_iff.1 h4).2
    · by_cases hb : b = []
      · exact .inl hb
      · refine .inr ⟨o + a.length, ?_, ?_⟩
        · have : 0 < b.length := List.length_pos_iff.2 hb
          rw [if_neg (by omega), e, Option.map_some, add_mid, Nat.mul_one]
        · have := congrArg (List.drop a.length) h5
          rw [List.drop_take, List.drop_drop, List.drop_left, List.length_append, Nat.add_sub_cancel_left] at this
          exact this
/-- The reader r: what is left, of the block's bytes; none: there was a fault. -/
def RdAt (r g : Nat) (D : List UInt8) : Option (List UInt8) → HP
  | some l => Ex fun v => Pure (SubOf g D v l) (Bl r 135 [v, .bool false])
  | none => Bl r 135 [.slice none 0 0, .bool true]
attribute [local irreducible] Y OW YK OWK W WL WP X CV Ev Evs HasCell HasCells Has Met Again Kept
section
variable {c : Con} {F : List HP} {w : World} {r g : Nat} {D : List UInt8}
theorem St.openRd {l : List UInt8} (H : St c (RdAt r g D (some l) :: F) w) : ∃ A cap, SubOf g D (.slice A l.length cap) l ∧ St c (Bl r 135 [.slice A l.length cap, .bool false] :: F) w := by
  obtain ⟨v, H⟩ := St.ex H
  obtain ⟨h, H⟩ := St.pure H
  obtain ⟨A, cap, rfl, k⟩ := id h
  exact ⟨A, cap, h, H⟩
theorem St.shutRd {l : List UInt8} {v : Value} (h : SubOf g D v l) (H : St c (Bl r 135 [v, .bool false] :: F) w) : St c (RdAt r g D (some l) :: F) w := St.toEx v (St.toPure h H)
theorem rd_take_ok {l a b : List UInt8} {n : Nat} {k : Int} (hl : l = a ++ b) (hn : a.length = n) (hk : (n : Int) = k) (H : St c (RdAt r g D (some l) :: F) w) : Calls Try.prog 75 #[.pointer (some ⟨r, 0, none⟩), .int .i64 k] w fun e w' =>
    ∃ q : { q : Option Addr × Nat // SubOf g D (.slice q.1 n q.2) a }, e = .returned (.tuple #[.slice q.1.1 n q.1.2, .bool true]) ∧ St c (RdAt r g D (some b) :: F) w' := by
  subst hk
  obtain ⟨A, cap, hs, H⟩ := H.openRd
  obtain ⟨m, hm⟩ : ∃ m, l.length = m := ⟨_, rfl⟩
  rw [hm] at hs H
  have hcap : m ≤ cap ∧ cap ≤ 9223372036854775807 := by obtain ⟨A', cap', e, h1, h2, _⟩ := id hs; cases e; omega
  have hnm : n ≤ m := by rw [← hm, hl, List.length_append]; omega
  have hsd := sub_drop hs rfl hl hn
  refine calls_w (vs := [.pointer (some ⟨r, 0, none⟩), .int .i64 n]) Try.func75 rfl rfl rfl ?_ w H
  (repeat' (first
      | (with_reducible refine at_slice ?_; first | refine yk (y_slice3h (ev_tmp rfl) (ev_tmp rfl) (ev_tmp rfl) (by omega)) ?_)
      | (with_reducible refine is_yk ?_; refine yk_auto (k := ?_))
      | (with_reducible refine is_owk0 ?_; refine owk0_auto (k := ?_))
      | (with_reducible refine is_owkc ?_; refine owk_auto (k := fun _ => ?_))
      | refine go1 (k := ?_)
      | (refine go2 (ka := ?_) (kb := ?_) <;> intro _)
      | fail))
  exact x_ret2 rfl rfl rfl (fun w H => ⟨⟨(A, n), sub_take hs hl hn⟩, rfl, St.shutRd hsd H⟩)
theorem rd_take_bad {R : Option (List UInt8)} {n : Int} (hn : ∀ l, R = some l → n < 0 ∨ (l.length : Int) < n) (H : St c (RdAt r g D R :: F) w) : Calls Try.prog 75 #[.pointer (some ⟨r, 0, none⟩), .int .i64 n] w fun e w' =>
    e = .returned (.tuple #[.slice none 0 0, .bool false]) ∧ St c (RdAt r g D none :: F) w' := by
  cases R with
  | none =>
    replace H : St c (Bl r 135 [.slice none 0 0, .bool true] :: F) w := H
    refine calls_w (vs := [.pointer (some ⟨r, 0, none⟩), .int .i64 n]) Try.func75 rfl rfl rfl ?_ w H
    (repeat' (first
      | (with_reducible refine is_yk ?_; refine yk_auto (k := ?_))
      | (with_reducible refine is_owk0 ?_; refine owk0_auto (k := ?_))
      | (with_reducible refine is_owkc ?_; refine owk_auto (k := fun _ => ?_))
      | refine go1 (k := ?_)
      | (refine go2 (ka := ?_) (kb := ?_) <;> intro _)
      | fail))
    exact x_ret2 rfl rfl rfl (fun w H => ⟨rfl, H⟩)
  | some l =>
    obtain ⟨A, cap, hs, H⟩ := H.openRd
    have hn := hn l rfl
    obtain ⟨m, hm⟩ : ∃ m, l.length = m := ⟨_, rfl⟩
    rw [hm] at hs H hn
    refine calls_w (vs := [.pointer (some ⟨r, 0, none⟩), .int .i64 n]) Try.func75 rfl rfl rfl ?_ w H
    by_cases h0 : n < 0
    · (repeat' (first
      | (with_reducible refine is_yk ?_; refine yk_auto (k := ?_))
      | (with_reducible refine is_owk0 ?_; refine owk0_auto (k := ?_))
      | (with_reducible refine is_owkc ?_; refine owk_auto (k := fun _ => ?_))
      | refine go1 (k := ?_)
      | (refine go2 (ka := ?_) (kb := ?_) <;> intro _)
      | fail))
      exact x_ret2 rfl rfl rfl (fun w H => ⟨rfl, H⟩)
    · have h1 : (m : Int) < n := by omega
      (repeat' (first
      | (with_reducible refine is_yk ?_; refine yk_auto (k := ?_))
      | (with_reducible refine is_owk0 ?_; refine owk0_auto (k := ?_))
      | (with_reducible refine is_owkc ?_; refine owk_auto (k := fun _ => ?_))
      | refine go1 (k := ?_)
      | (refine go2 (ka := ?_) (kb := ?_) <;> intro _)
      | fail))
      exact x_ret2 rfl rfl rfl (fun w H => ⟨rfl, H⟩)
theorem rd_good {R : Option (List UInt8)} {b : Bool} (hb : R.isSome = b) (H : St c (RdAt r g D R :: F) w) : Calls Try.prog 76 #[.pointer (some ⟨r, 0, none⟩)] w fun e w' =>
    e = .returned (.bool b) ∧ St c (RdAt r g D R :: F) w' := by
  subst hb
  cases R with
  | none =>
    replace H : St c (Bl r 135 [.slice none 0 0, .bool true] :: F) w := H
    refine calls_w (vs := [.pointer (some ⟨r, 0, none⟩)]) Try.func76 rfl rfl rfl ?_ w H
    (repeat' (first
      | (with_reducible refine is_yk ?_; refine yk_auto (k := ?_))
      | (with_reducible refine is_owk0 ?_; refine owk0_auto (k := ?_))
      | (with_reducible refine is_owkc ?_; refine owk_auto (k := fun _ => ?_))
      | refine go1 (k := ?_)
      | (refine go2 (ka := ?_) (kb := ?_) <;> intro _)
      | fail))
    exact x_ret1 rfl rfl (fun w H => ⟨rfl, H⟩)
  | some l =>
    obtain ⟨A, cap, hs, H⟩ := H.openRd
    refine calls_w (vs := [.pointer (some ⟨r, 0, none⟩)]) Try.func76 rfl rfl rfl ?_ w H
    (repeat' (first
      | (with_reducible refine is_yk ?_; refine yk_auto (k := ?_))
      | (with_reducible refine is_owk0 ?_; refine owk0_auto (k := ?_))
      | (with_reducible refine is_owkc ?_; refine owk_auto (k := fun _ => ?_))
      | refine go1 (k := ?_)
      | (refine go2 (ka := ?_) (kb := ?_) <;> intro _)
      | fail))
    exact x_ret1 rfl rfl (fun w H => ⟨rfl, St.shutRd hs H⟩)
/-- The number that stands next. -/
def numV : Option (List UInt8) → Int
  | some l => if 8 ≤ l.length then leInt (l.take 8) else 0
  | none => 0
def numR : Option (List UInt8) → Option (List UInt8)
  | some l => if 8 ≤ l.length then some (l.drop 8) else none
  | none => none
theorem rd_num_bad {R : Option (List UInt8)} (hn : ∀ l, R = some l → l.length < 8) (H : St c (RdAt r g D R :: F) w) : Calls Try.prog 74 #[.pointer (some ⟨r, 0, none⟩)] w fun e w' =>
    e = .returned (.int .i64 0) ∧ St c (RdAt r g D none :: F) w' := by
  refine calls_w (vs := [.pointer (some ⟨r, 0, none⟩)]) Try.func74 rfl rfl rfl ?_ w H
  (repeat' (first
      | ((with_reducible refine at_fn 75 ?_); with_reducible refine owk_c1 evs_auto (by kernel_rfl) pick_auto (fun w H => rd_take_bad (n := 8) (fun l e => by have := hn l e; omega) H) ?_)
      | (with_reducible refine is_yk ?_; refine yk_auto (k := ?_))
      | (with_reducible refine is_owk0 ?_; refine owk0_auto (k := ?_))
      | (with_reducible refine is_owkc ?_; refine owk_auto (k := fun _ => ?_))
      | refine go1 (k := ?_)
      | (refine go2 (ka := ?_) (kb := ?_) <;> intro _)
      | fail))
  exact x_ret1 rfl rfl (fun w H => ⟨rfl, H⟩)
set_option maxRecDepth 100000 in
theorem rd_num_ok {l a b : List UInt8} (hl : l = a ++ b) (ha : a.length = 8) (H : St c (RdAt r g D (some l) :: BkP g D :: F) w) : Calls Try.prog 74 #[.pointer (some ⟨r, 0, none⟩)] w fun e w' =>
    e = .returned (.int .i64 (leInt a)) ∧ St c (RdAt r g D (some b) :: BkP g D :: F) w' := by
  have h8 : (8 : Int) = ((8 : Nat) : Int) := rfl
  refine calls_w (vs := [.pointer (some ⟨r, 0, none⟩)]) Try.func74 rfl rfl rfl ?_ w H
  (repeat' (first
      | ((with_reducible refine at_fn 75 ?_); with_reducible refine owk_c1x evs_auto (by kernel_rfl) pick_auto (fun w H => rd_take_ok (n := 8) hl ha (by omega) H) (fun q => ?_))
      | (with_reducible refine is_yk ?_; refine yk_auto (k := ?_))
      | (with_reducible refine is_owk0 ?_; refine owk0_auto (k := ?_))
      | (with_reducible refine is_owkc ?_; refine owk_auto (k := fun _ => ?_))
      | refine go1 (k := ?_)
      | (refine go2 (ka := ?_) (kb := ?_) <;> intro _)
      | fail))
  obtain ⟨⟨A, cap⟩, hq⟩ := q
  have hA : A ≠ none := by
    rintro rfl
    obtain ⟨A', cap', e, h1, _, h3, _⟩ := hq
    obtain ⟨e1, e2, e3⟩ := Value.slice.inj e
    have := h3 e1.symm; omega
  obtain ⟨ad, rfl⟩ : ∃ ad, A = some ad := by cases A with | none => exact absurd rfl hA | some x => exact ⟨x, rfl⟩
  dsimp only at hq ⊢
  have hR : ∀ {L : List HP}, HasR (St c (BkP g D :: L)) (.slice (some ad) 8 cap) 8 (bvs a) := hq.hasR ha
  refine w_loop (α := Nat) (fun i => i ≤ 8)
    (fun i => [(17, .int .i64 (i : Int)), (16, .int .i64 8), (15, .slice (some ad) 8 cap), (5, .int .u64 ((leN (a.take i) : Nat) : Int))]) (fun _ => RdAt r g D (some b) :: BkP g D :: F) (fun i => 8 - i) 0 (by omega) sub_auto sel_auto (fun i hi => ?_)
  by_cases hlt : i < 8
  · have hil : i < a.length := by omega
    have hc := bvs_get hil
    have hb := a[i].toNat_lt
    have hx := leN_lt (a.take i)
    have hs : leN (a.take (i + 1)) = leN (a.take i) + a[i].toNat * 256 ^ i := by
      rw [List.take_succ_eq_append_getElem hil, leN_snoc, List.length_take, Nat.min_eq_left (by omega)]
    rw [List.length_take, Nat.min_eq_left (by omega)] at hx
    have hy := leN_lt (a.take (i + 1))
    rw [List.length_take, Nat.min_eq_left (by omega), hs] at hy
    have hp : 256 ^ i = 2 ^ (8 * i) := by rw [Nat.pow_mul]
    have hp64 : (256 : Nat) ^ (i + 1) ≤ 2 ^ 64 := by
      rw [show (2 : Nat) ^ 64 = 256 ^ 8 from rfl]; exact Nat.pow_le_pow_right (by omega) (by omega)
    rw [hp] at hx hs hy
    generalize a[i].toNat = y at hc hb hs hy
    generalize leN (a.take i) = x at hx hs hy ⊢
    have k1 : IntKind.u64.wrap (y : Int) = y := by show (y : Int) % 18446744073709551616 = y; omega
    have k2 : IntKind.u64.wrap ((y : Int) * 2 ^ (8 * (i : Int)).toNat) = ((y * 2 ^ (8 * i) : Nat) : Int) := by
      have e : (8 * (i : Int)).toNat = 8 * i := by omega
      rw [e]
      have e2 : (y : Int) * 2 ^ (8 * i) = ((y * 2 ^ (8 * i) : Nat) : Int) := by rw [Int.natCast_mul, Int.natCast_pow]; rfl
      rw [e2]
      generalize y * 2 ^ (8 * i) = q at hy
      show (q : Int) % 18446744073709551616 = q
      omega
    have k3 : bits .or .u64 (x : Int) ((y * 2 ^ (8 * i) : Nat) : Int) = ((leN (a.take (i + 1)) : Nat) : Int) := by rw [bits_or_u64 hx (by omega), hs]
    (repeat' (first
      | (with_reducible refine at_conv ?_; first | refine yk_eq (y_conv_int (ev_tmp rfl)) (congrArg _ k1) ?_)
      | (with_reducible refine at_load ?_; first | refine yk (y_load (ev_tmp rfl) (hasCell_tl (hasR_cell hR hc rfl))) ?_)
      | (with_reducible refine at_bin ?_; first | refine yk_eq (y_shl (ev_tmp rfl) (ev_tmp rfl) (by omega) (by simp [IntKind.bits]; omega)) (congrArg _ k2) ?_ | refine yk_eq (y_bits (.inr (.inl rfl)) (ev_tmp rfl) (ev_tmp rfl)) (congrArg _ k3) ?_)
      | (with_reducible refine is_yk ?_; refine yk_auto (k := ?_))
      | (with_reducible refine is_owk0 ?_; refine owk0_auto (k := ?_))
      | (with_reducible refine is_owkc ?_; refine owk_auto (k := fun _ => ?_))
      | refine go1 (k := ?_)
      | (refine go2 (ka := ?_) (kb := ?_) <;> intro _)
      | fail))
    exact x_again (i + 1) (by omega) (by omega) sub_auto sel_auto
  · have : i = 8 := by omega
    subst this
    rw [List.take_of_length_le (by omega)]
    have k4 : IntKind.i64.wrap (leN a : Int) = leInt a := by rw [leInt, IntWalk.i64_left]
    (repeat' (first
      | (with_reducible refine at_conv ?_; first | refine yk_eq (y_conv_int (ev_tmp rfl)) (congrArg _ k4) ?_)
      | (with_reducible refine is_yk ?_; refine yk_auto (k := ?_))
      | (with_reducible refine is_owk0 ?_; refine owk0_auto (k := ?_))
      | (with_reducible refine is_owkc ?_; refine owk_auto (k := fun _ => ?_))
      | refine go1 (k := ?_)
      | (refine go2 (ka := ?_) (kb := ?_) <;> intro _)
      | fail))
    exact x_ret1 rfl rfl (fun w H => ⟨rfl, H⟩)
end
end Go.Proofs.Ytakeilefbcpabaa

/- The reader of bytes (package code): In, Read. -/
namespace Go.Proofs.Ytakeilefbcpabaa
open Go.RowKit
attribute [local irreducible] Y OW YK OWK W WL WP X CV Ev Evs HasCell HasCells Has Met Again Kept
section
variable {c : Con} {F : List HP} {w : World} {r g : Nat} {D : List UInt8}
/-- A number from lo to hi. -/
def inOk (lo hi : Int) : Option (List UInt8) → Bool
  | some l => decide (8 ≤ l.length) && decide (lo ≤ leInt (l.take 8)) && decide (leInt (l.take 8) ≤ hi)
  | none => false
theorem rd_in_ok {l a b : List UInt8} {lo hi n : Int} (hl : l = a ++ b) (ha : a.length = 8) (hv : leInt a = n) (h1 : lo ≤ n ∧ n ≤ hi) (H : St c (RdAt r g D (some l) :: BkP g D :: F) w) : Calls Try.prog 70 #[.pointer (some ⟨r, 0, none⟩), .int .i64 lo, .int .i64 hi] w fun e w' =>
    e = .returned (.int .i64 n) ∧ St c (RdAt r g D (some b) :: BkP g D :: F) w' := by
  subst hv
  refine calls_w (vs := [.pointer (some ⟨r, 0, none⟩), .int .i64 lo, .int .i64 hi]) Try.func70 rfl rfl rfl ?_ w H
  (repeat' (first
      | ((with_reducible refine at_fn 74 ?_); with_reducible refine owk_c2 evs_auto (by kernel_rfl) pick_auto pick_auto (fun w H => rd_num_ok hl ha H) ?_)
      | ((with_reducible refine at_fn 76 ?_); with_reducible refine owk_c1 evs_auto (by kernel_rfl) pick_auto (fun w H => rd_good (R := some b) rfl H) ?_)
      | (with_reducible refine is_yk ?_; refine yk_auto (k := ?_))
      | (with_reducible refine is_owk0 ?_; refine owk0_auto (k := ?_))
      | (with_reducible refine is_owkc ?_; refine owk_auto (k := fun _ => ?_))
      | refine go1 (k := ?_)
      | (refine go2 (ka := ?_) (kb := ?_) <;> intro _)
      | fail))
  exact x_ret1 rfl rfl (fun w H => ⟨rfl, H⟩)
theorem rd_in_bad {R : Option (List UInt8)} {lo hi : Int} (hb : inOk lo hi R = false) (hlo : 0 < lo ∨ hi < 0 ∨ ∃ l, R = some l ∧ 8 ≤ l.length) (H : St c (RdAt r g D R :: BkP g D :: F) w) : Calls Try.prog 70 #[.pointer (some ⟨r, 0, none⟩), .int .i64 lo, .int .i64 hi] w fun e w' =>
    e = .returned (.int .i64 0) ∧ St c (RdAt r g D none :: BkP g D :: F) w' := by
  refine calls_w (vs := [.pointer (some ⟨r, 0, none⟩), .int .i64 lo, .int .i64 hi]) Try.func70 rfl rfl rfl ?_ w H
  by_cases h8 : ∃ l, R = some l ∧ 8 ≤ l.length
  · obtain ⟨l, rfl, h8⟩ := h8
    have hl : l = l.take 8 ++ l.drop 8 := (List.take_append_drop 8 l).symm
    have ha : (l.take 8).length = 8 := by simp; omega
    obtain ⟨n, hn⟩ : ∃ n, leInt (l.take 8) = n := ⟨_, rfl⟩
    have hbad : ¬ (lo ≤ n ∧ n ≤ hi) := by
      rintro ⟨h1, h2⟩
      simp [inOk, h8, hn, h1, h2] at hb
    by_cases h1 : n < lo
    · (repeat' (first
      | ((with_reducible refine at_fn 74 ?_); with_reducible refine owk_c2 evs_auto (by kernel_rfl) pick_auto pick_auto (fun w H => by have := rd_num_ok hl ha H; rw [hn] at this; exact this) ?_)
      | ((with_reducible refine at_fn 75 ?_); with_reducible refine owk_c1 evs_auto (by kernel_rfl) pick_auto (fun w H => rd_take_bad (R := some (l.drop 8)) (fun l e => by omega) H) ?_)
      | ((with_reducible refine at_fn 76 ?_); with_reducible refine owk_c1 evs_auto (by kernel_rfl) pick_auto (fun w H => rd_good (R := none) (b := false) rfl H) ?_)
      | (with_reducible refine is_yk ?_; refine yk_auto (k := ?_))
      | (with_reducible refine is_owk0 ?_; refine owk0_auto (k := ?_))
      | (with_reducible refine is_owkc ?_; refine owk_auto (k := fun _ => ?_))
      | refine go1 (k := ?_)
      | (refine go2 (ka := ?_) (kb := ?_) <;> intro _)
      | fail))
      exact x_ret1 rfl rfl (fun w H => ⟨rfl, H⟩)
    · have h2 : hi < n := by omega
      (repeat' (first
      | ((with_reducible refine at_fn 74 ?_); with_reducible refine owk_c2 evs_auto (by kernel_rfl) pick_auto pick_auto (fun w H => by have := rd_num_ok hl ha H; rw [hn] at this; exact this) ?_)
      | ((with_reducible refine at_fn 75 ?_); with_reducible refine owk_c1 evs_auto (by kernel_rfl) pick_auto (fun w H => rd_take_bad (R := some (l.drop 8)) (fun l e => by omega) H) ?_)
      | ((with_reducible refine at_fn 76 ?_); with_reducible refine owk_c1 evs_auto (by kernel_rfl) pick_auto (fun w H => rd_good (R := none) (b := false) rfl H) ?_)
      | (with_reducible refine is_yk ?_; refine yk_auto (k := ?_))
      | (with_reducible refine is_owk0 ?_; refine owk0_auto (k := ?_))
      | (with_reducible refine is_owkc ?_; refine owk_auto (k := fun _ => ?_))
      | refine go1 (k := ?_)
      | (refine go2 (ka := ?_) (kb := ?_) <;> intro _)
      | fail))
      exact x_ret1 rfl rfl (fun w H => ⟨rfl, H⟩)
  · have hn : ∀ l, R = some l → l.length < 8 := fun l e => Nat.lt_of_not_le fun k => h8 ⟨l, e, k⟩
    have hlo : 0 < lo ∨ hi < 0 := by rcases hlo with h | h | h; exact .inl h; exact .inr h; exact absurd h h8
    (repeat' (first
      | ((with_reducible refine at_fn 74 ?_); with_reducible refine owk_c1 evs_auto (by kernel_rfl) pick_auto (fun w H => rd_num_bad hn H) ?_)
      | ((with_reducible refine at_fn 75 ?_); with_reducible refine owk_c1 evs_auto (by kernel_rfl) pick_auto (fun w H => rd_take_bad (R := none) (fun l e => by cases e) H) ?_)
      | ((with_reducible refine at_fn 76 ?_); with_reducible refine owk_c1 evs_auto (by kernel_rfl) pick_auto (fun w H => rd_good (R := none) (b := false) rfl H) ?_)
      | (with_reducible refine is_yk ?_; refine yk_auto (k := ?_))
      | (with_reducible refine is_owk0 ?_; refine owk0_auto (k := ?_))
      | (with_reducible refine is_owkc ?_; refine owk_auto (k := fun _ => ?_))
      | refine go1 (k := ?_)
      | (refine go2 (ka := ?_) (kb := ?_) <;> intro _)
      | fail))
    all_goals exact x_ret1 rfl rfl (fun w H => ⟨rfl, H⟩)
theorem St.toRd {A : Option Addr} {n cap e : Nat} (H : St c (Bl r 135 [.slice A n cap, .bool false] :: OwnP e 1 (.slice A n cap) n (bvs D) :: F) w) (hD : D.length = n) : ∃ g, St c (RdAt r g D (some D) :: BkP g D :: F) w := by
  subst hD
  rcases St.ownOpen H.swap with ⟨e1, e2, e3, H'⟩ | ⟨g, cap', cur, e1, h1, h2, h3, h4, h5, H'⟩
  · obtain ⟨rfl, -, rfl⟩ := Value.slice.inj e1
    have hn : D = [] := List.eq_nil_of_length_eq_zero e2
    subst hn
    refine ⟨0, St.shutRd (v := .slice none 0 0) ⟨none, 0, rfl, Nat.le_refl _, by omega, fun _ => rfl, .inl rfl⟩ ?_⟩
    obtain ⟨h, a, l, r'⟩ := H'.stars
    exact ⟨H'.con, h, a, l, fun _ => none, .inl rfl, fun _ _ e => (by cases e), r'.mono (fun _ k => ⟨k, rfl⟩) fun _ _ _ e => e⟩
  · obtain ⟨rfl, -, rfl⟩ := Value.slice.inj e1
    rw [Nat.mul_one] at h4
    refine ⟨g, St.shutRd (v := .slice (some ⟨g, 0, none⟩) D.length cap) ⟨_, cap, rfl, h1, h2, fun e => (by cases e), .inr ⟨0, rfl, by simp⟩⟩ ?_⟩
    exact Sel.st (.cons (.tl .hd) (.imp .hd (fun h hb => .inr ⟨_, _, _, hb, by simpa using h4⟩) sel_all)) H'
/-- A reader of bytes, which are copied. -/
theorem rd_read {v : Value} {A : Option Addr} {n cap : Nat} (hv : v = .slice A n cap) (hr : HasR (St c F) v n (bvs D)) (hn : n ≤ 1073741824) (H : St c F w) : Calls Try.prog 69 #[v] w fun e w' =>
    ∃ q : Nat × Nat, e = .returned (.pointer (some ⟨q.1, 0, none⟩)) ∧ St c (RdAt q.1 q.2 D (some D) :: BkP q.2 D :: F) w' := by
  subst hv
  have hD : D.length = n := by
    obtain ⟨h1, -⟩ := hr w H
    rw [bvs_length] at h1; omega
  have h1 := bvs_oneCell D
  refine calls_w (vs := [.slice A n cap]) Try.func69 rfl rfl rfl ?_ w H
  (repeat' (first
      | (with_reducible refine is_owkc ?_; first | refine owk (ow_appendR0 ev_const (ev_tmp rfl) hr h1 (by omega)) (fun q => ?_))
      | (with_reducible refine is_yk ?_; refine yk_auto (k := ?_))
      | (with_reducible refine is_owk0 ?_; refine owk0_auto (k := ?_))
      | (with_reducible refine is_owkc ?_; refine owk_auto (k := fun _ => ?_))
      | refine go1 (k := ?_)
      | (refine go2 (ka := ?_) (kb := ?_) <;> intro _)
      | fail))
  exact x_ret1 rfl rfl (fun w H => by
    obtain ⟨g, H'⟩ := St.toRd (H : St c (Bl _ 135 [.slice q.1 n q.2, .bool false] :: _) w) hD
    exact ⟨(_, g), rfl, H'⟩)
end
end Go.Proofs.Ytakeilefbcpabaa

/- Ranges over a function, walked by what is known: what asks nothing of a fence goes in a round as anywhere; the statement; a call of yield; a function that leaves with a mark. No program in sight. -/
namespace Go.Proofs.Ytakeilefbcpabaa
open Go.RowKit

def isDefer : Op → Bool
  | .defer _ => true
  | _ => false
def noDefer (ops : List Oper) : Bool := ops.all fun o => !isDefer o.op
/-- A fence that asks nothing. -/
structure Wide (F : Fence) : Prop where
  fn : ∀ f, F.fn f
  depth : F.depth = none
  calls : ∀ (n : Nat) (P : Program) (f : FuncId) (args : Array Value) (w : World) (R : Ending → World → Prop), Calls P f args w R → CallsIn F n P f args w R
  rows : ∀ (n : Nat) (P : Program) (row : String) (args : Array Value) (w : World) (R : Value → World → Prop), Rows P row args w R → RowsIn F n P row args w R
theorem wide_dep {n : Nat} : Fence.wide.depth.isSome = true → 1 ≤ n := fun k => by cases k
theorem wide0 : Wide Fence.wide :=
  ⟨fun _ => trivial, rfl, fun _ _ _ _ _ _ h => callsIn_wide.2 h, fun _ _ _ _ _ _ h c cs _ => let ⟨v, w', r, s⟩ := h c cs; ⟨v, w', r, stepsIn_wide.2 s⟩⟩
theorem wideR (l : Nat) : Wide (Fence.wide.inRound l) :=
  ⟨fun _ => trivial, rfl, fun n P f args w R h => wide0.calls n P f args w R h, fun n P row args w R h => wide0.rows n P row args w R h⟩

/-- The frame, with calls deferred behind its own. -/
def wd (ds : List Deferred) (a : Act) : Act := { a with defers := a.defers ++ ds }
theorem wd_eval (ds : List Deferred) (a : Act) : (wd ds a).eval = a.eval := funext fun x => by cases x <;> rfl
theorem wd_put (ds : List Deferred) (a : Act) (d : Option Tmp) (v : Value) : (wd ds a).put d v = wd ds (a.put d v) := by cases d <;> rfl
theorem wd_nil (a : Act) : wd [] a = a := by simp [wd]

def Calm (Q : Exit → Act → World → Prop) : Prop := ∀ e a w, Q e a w → e = .normal
def NQ (Z : Act → World → Prop) : Exit → Act → World → Prop := fun e a w => e = .normal ∧ Z a w
theorem calm_nq {Z : Act → World → Prop} : Calm (NQ Z) := fun _ _ _ h => h.1
theorem calm_np {Q : Exit → Act → World → Prop} (h : Calm Q) : Calm (NoPanic Q) := fun e a w k => h e a w (NoPanic.imp e a w k)

section
variable {P : Program} {F : Fence} {n : Nat} {ops : Array Oper} {Q Q0 : Exit → Act → World → Prop} {ds : List Deferred} {a : Act} {w : World}

theorem wpIn_op (hF : Wide F) (hc : Calm Q0) {o : Oper} {K K' : Act → World → Prop} (hd : isDefer o.op = false) (hk : ∀ a w, K a w → K' (wd ds a) w)
    (h : o.wp P a w K Q0 ∨ (o.asks P a w ∧ LetsOut Q0)) : o.wpIn F n P (wd ds a) w K' Q := by
  have out : ¬ LetsOut Q0 := fun ⟨a, w, q⟩ => by cases hc _ a w q
  replace h := h.resolve_right fun k => out k.2
  refine ⟨fun f _ => hF.fn f, ?_⟩
  have e : o.semAt F.round (wd ds a).eval = execOp a.eval o := by
    rw [wd_eval]; exact Oper.semAt_eq _ _ _ fun c e => by rw [e] at hd; cases hd
  rw [e]
  unfold Oper.wp at h
  have dep : F.depth.isSome = true → 1 ≤ n := fun k => by rw [hF.depth] at k; cases k
  generalize (execOp a.eval o).run P w = r at h
  cases r with
  | ok x w' =>
    cases x <;> simp only [Oper.upon, Oper.uponIn] at h ⊢
    case value v => rw [wd_put]; exact hk _ _ h
    case skip => rw [wd_put]; exact hk _ _ h
    case «defer» d =>
      have := hk _ _ h
      rw [← wd_put] at this
      exact this
    case enter f args =>
      refine ⟨dep, hF.calls _ _ _ _ _ _ (Calls.mono h fun e w'' he => ?_)⟩
      cases e with
      | returned v =>
        show K' ((wd ds a).put o.dst v) w''
        rw [wd_put]; exact hk _ _ he
      | panicked ch => cases hc _ _ _ he
      | outgrown => exact absurd he out
    case row row args =>
      exact ⟨dep, hF.rows _ _ _ _ _ _ fun c cs => let ⟨v, w', r, s⟩ := h c cs; ⟨v, w', by rw [wd_put]; exact hk _ _ r, s⟩⟩
  | halt x w' =>
    cases x <;> simp only [Oper.upon, Oper.uponIn] at h ⊢
    case panic v => cases hc _ _ _ h

theorem wpListIn_split (hF : Wide F) {post : List Oper} {Z : Act → World → Prop} (hz : ∀ a w, Z a w → wpListIn F n P ops Q post (wd ds a) w) : ∀ (pre : List Oper) (a : Act) (w : World), noDefer pre = true →
    wpList P ops (NQ Z) pre a w → wpListIn F n P ops Q (pre ++ post) (wd ds a) w
  | [], _, _, _, h => hz _ _ h.2
  | o :: r, a, w, hn, h => by
    simp only [noDefer, List.all_cons, Bool.and_eq_true] at hn
    unfold wpList at h
    show wpListIn F n P ops Q (o :: (r ++ post)) (wd ds a) w
    unfold wpListIn
    show if Region.wanted o (yielded ops a.tmps) = true then _ else _
    split at h
    · rename_i hw
      rw [if_pos hw]
      exact wpIn_op hF calm_nq (by simpa using hn.1) (fun a w k => wpListIn_split hF hz r a w hn.2 k) h
    · rename_i hw
      rw [if_neg hw]
      exact ⟨fun f _ => hF.fn f, by have := wpListIn_split hF hz r _ w hn.2 h; rwa [← wd_put] at this⟩

theorem wpAnyIn_of (hF : Wide F) (hc : Calm Q0) (hnd : noDefer ops.toList = true) (hz : ∀ a w, Q0 .normal a w → Q .normal (wd ds a) w) : ∀ (fuel : Nat) (listed : Array Bool) (a : Act) (w : World),
    wpAny P .any ops Q0 fuel listed a w → wpAnyIn F n P .any ops Q fuel listed (wd ds a) w
  | 0, _, _, _, h => ⟨h.1, hz _ _ h.2⟩
  | fuel + 1, listed, a, w, h => by
    refine ⟨fun k => hz _ _ (h.1 k), fun i hi => ?_⟩
    have h2 := h.2 i hi
    unfold wpOp at h2
    unfold wpOpIn
    split at h2
    · rename_i ho; simp only [ho]; exact wpAnyIn_of hF hc hnd hz fuel _ a w h2
    · rename_i o ho
      simp only [ho]
      have hd : isDefer o.op = false := by
        have := List.all_eq_true.1 hnd o (by
          have := Array.mem_of_getElem? ho
          exact Array.mem_toList_iff.2 this)
        simpa using this
      show if Region.wanted o (yielded ops a.tmps) = true then _ else _
      split at h2
      · rename_i hw
        rw [if_pos hw]
        exact wpIn_op hF hc hd (fun a w k => wpAnyIn_of hF hc hnd hz fuel _ a w k) h2
      · rename_i hw
        rw [if_neg hw]
        exact ⟨fun f _ => hF.fn f, by have := wpAnyIn_of hF hc hnd hz fuel _ _ w h2; rwa [← wd_put] at this⟩

theorem region_planIn (hF : Wide F) (hc : Calm Q0) {id : Nat} (p : Plan) (S : World → Prop) (hm : P.follows .mixedOrders = true) (hB : planB .any ops p = true) (hnd : noDefer ops.toList = true)
    (hz : ∀ a w, Q0 .normal a w → Q .normal (wd ds a) w) (hS : p.any (·.2) = true → S w.drew) (h : wpPlan P ops (NoPanic Q0) (earlyB .any ops p.looks) p S a w.drew) : (Code.region id ops true).wpIn F n P Q (wd ds a) w := by
  have hQ : ∀ c (d : Option Tmp) (v : Value) a w, NoPanic Q0 (.panic c) (a.put d v) w → NoPanic Q0 (.panic c) a w := fun _ _ _ _ _ h => h
  simp only [planB, Bool.and_eq_true, decide_eq_true_eq] at hB
  obtain ⟨⟨hsel, hn⟩, hp⟩ := hB
  refine wpIn_region_any hm ?_
  have H := wpAnyR_plan (md := .any) hsel hQ p S _ a w.drew (fun i hi j hji he => by
    have h0 := List.any_eq_false.1 he i (List.mem_map.2 ⟨(i, true), List.mem_filter.2 ⟨hi, rfl⟩, rfl⟩)
    cases hw : Region.waitsFor .any ops j i with
    | true => rfl
    | false => rw [hw] at h0; simp at h0; exact absurd h0.symm hji) hp hS h
  rw [hn] at H
  exact wpAnyIn_of hF (calm_np hc) hnd hz _ _ _ _ (wpAny_of_R _ _ _ _ H)
end

/-! ### Code in a fence, with calls deferred -/
def WG (P : Program) (N : Nat) (c : Con) (F : Fence) (ds : List Deferred) (Q : Exit → Act → World → Prop) (code : Code) (E : Env) (L : List HP) : Prop := ∀ a w, Fr N E a → St c L w → code.wpIn F 0 P Q (wd ds a) w
def XG (N : Nat) (c : Con) (ds : List Deferred) (Q : Exit → Act → World → Prop) (e : Exit) (E : Env) (L : List HP) : Prop := ∀ a w, Fr N E a → St c L w → Q e (wd ds a) w
def NG (ds : List Deferred) (Q : Exit → Act → World → Prop) : Exit → Act → World → Prop := NQ fun a w => Q .normal (wd ds a) w
section
variable {P : Program} {N : Nat} {c : Con} {F : Fence} {ds : List Deferred} {Q : Exit → Act → World → Prop} {E : Env} {L : List HP}
theorem w_of_g {code : Code} (h : WG P N c Fence.wide [] Q code E L) : W P N c Q code E L := fun a w hf H => wpIn_wide.1 (by have := h a w hf H; rwa [wd_nil] at this)
theorem wg_region (hF : Wide F) {id : Nat} {l : List Oper} (hd : noDefer l = true) (h : WL P N c l.toArray (NG ds Q) l E L) : WG P N c F ds Q (.region id l.toArray false) E L := fun a w hf H => by
  have := wpListIn_split (n := 0) (Q := Q) (ds := ds) hF (ops := l.toArray) (post := []) (fun a w k => k) l a w hd (h a w hf H)
  rw [List.append_nil] at this
  exact wpIn_region_lit this
theorem wg_plan (hF : Wide F) {id : Nat} {ops : Array Oper} (p : Plan) (R : List HP) (hm : P.follows .mixedOrders = true) (hB : planB .any ops p = true) (hd : noDefer ops.toList = true) (hR : Sel L R)
    (h : WP P N c ops (NoPanic (NG ds Q)) R (earlyB .any ops p.looks) p E L) : WG P N c F ds Q (.region id ops true) E L := fun a _ hf H =>
  region_planIn hF calm_nq p (St c R) hm hB hd (fun _ _ k => k.2) (fun _ => (hR.st H).drew) (h a _ hf H.drew)
theorem wg_seq {x y : Code} (h : WG P N c F ds (Exit.then (fun a w => y.wpIn F 0 P Q a w) Q) x E L) : WG P N c F ds Q (x.seq y) E L := fun a w hf H => wpIn_seq (h a w hf H)
theorem wg_skip (h : XG N c ds Q .normal E L) : WG P N c F ds Q .skip E L := fun a w hf H => wpIn_skip (h a w hf H)
theorem wg_ret (h : XG N c ds Q .ret E L) : WG P N c F ds Q .ret E L := fun a w hf H => wpIn_ret (h a w hf H)
theorem wg_block {id : Nat} {x : Code} (h : WG P N c F ds (Exit.inBlock id Q) x E L) : WG P N c F ds Q (.block id x) E L := fun a w hf H => wpIn_block (h a w hf H)
theorem wg_true {t : Nat} {x y : Code} (hl : look E t = some (.bool true)) (h : WG P N c F ds Q x E L) : WG P N c F ds Q (.cond (.tmp t) x y) E L := fun a w hf H =>
  wpIn_cond_true (by rw [wd_eval]; exact ev_tmp hl N a hf) (h a w hf H)
theorem wg_false {t : Nat} {x y : Code} (hl : look E t = some (.bool false)) (h : WG P N c F ds Q y E L) : WG P N c F ds Q (.cond (.tmp t) x y) E L := fun a w hf H =>
  wpIn_cond_false (by rw [wd_eval]; exact ev_tmp hl N a hf) (h a w hf H)
theorem wg_cond {t : Nat} {x y : Code} {p : Prop} [Decidable p] (hl : look E t = some (.bool (decide p))) (h1 : p → WG P N c F ds Q x E L) (h2 : ¬ p → WG P N c F ds Q y E L) : WG P N c F ds Q (.cond (.tmp t) x y) E L := fun a w hf H => by
  by_cases hp : p
  · exact wpIn_cond_true (by rw [wd_eval, ev_tmp hl N a hf]; simp [hp]) (h1 hp a w hf H)
  · exact wpIn_cond_false (by rw [wd_eval, ev_tmp hl N a hf]; simp [hp]) (h2 hp a w hf H)
def CVG (P : Program) (N : Nat) (c : Con) (F : Fence) (ds : List Deferred) (Q : Exit → Act → World → Prop) (x y : Code) (E : Env) (L : List HP) (v : Value) : Prop := ∀ t, look E t = some v → WG P N c F ds Q (.cond (.tmp t) x y) E L
theorem wg_cv {t : Nat} {x y : Code} {v : Value} (hl : look E t = some v) (h : CVG P N c F ds Q x y E L v) : WG P N c F ds Q (.cond (.tmp t) x y) E L := h t hl
theorem cvg_true {x y : Code} (h : WG P N c F ds Q x E L) : CVG P N c F ds Q x y E L (.bool true) := fun _ hl => wg_true hl h
theorem cvg_false {x y : Code} (h : WG P N c F ds Q y E L) : CVG P N c F ds Q x y E L (.bool false) := fun _ hl => wg_false hl h
theorem cvg_dec {x y : Code} {p : Prop} [Decidable p] (h1 : p → WG P N c F ds Q x E L) (h2 : ¬ p → WG P N c F ds Q y E L) : CVG P N c F ds Q x y E L (.bool (decide p)) := fun _ hl => wg_cond hl h1 h2
theorem cvg_dec_t {x y : Code} {p : Prop} [Decidable p] (h : p) (h1 : WG P N c F ds Q x E L) : CVG P N c F ds Q x y E L (.bool (decide p)) := cvg_dec (fun _ => h1) fun k => absurd h k
theorem cvg_dec_f {x y : Code} {p : Prop} [Decidable p] (h : ¬ p) (h1 : WG P N c F ds Q y E L) : CVG P N c F ds Q x y E L (.bool (decide p)) := cvg_dec (fun k => absurd k h) fun _ => h1
theorem cvg_bool_t {x y : Code} {b : Bool} (h : b = true) (h1 : WG P N c F ds Q x E L) : CVG P N c F ds Q x y E L (.bool b) := by subst h; exact cvg_true h1
theorem cvg_bool_f {x y : Code} {b : Bool} (h : b = false) (h1 : WG P N c F ds Q y E L) : CVG P N c F ds Q x y E L (.bool b) := by subst h; exact cvg_false h1
theorem cvg_bool {x y : Code} {b : Bool} (h1 : b = true → WG P N c F ds Q x E L) (h2 : b = false → WG P N c F ds Q y E L) : CVG P N c F ds Q x y E L (.bool b) := by
  cases b
  · exact cvg_false (h2 rfl)
  · exact cvg_true (h1 rfl)
theorem wg_pure {code : Code} {p : Prop} {A : HP} {G : List HP} (hp : Pick L (Pure p A) G) (h : p → WG P N c F ds Q code E (A :: G)) : WG P N c F ds Q code E L := fun a w hf H => by
  obtain ⟨k, H⟩ := St.pure (hp.st H)
  exact h k a w hf H
theorem xg_pure {e : Exit} {p : Prop} {A : HP} {G : List HP} (hp : Pick L (Pure p A) G) (h : p → XG N c ds Q e E (A :: G)) : XG N c ds Q e E L := fun a w hf H => by
  obtain ⟨k, H⟩ := St.pure (hp.st H)
  exact h k a w hf H
theorem xg_sel {e : Exit} {L' : List HP} (s : Sel L L') (h : XG N c ds Q e E L') : XG N c ds Q e E L := fun a w hf H => h a w hf (s.st H)
theorem is_wg {x : Code} (h : WG P N c F ds Q x E L) : WG P N c F ds Q x E L := h
theorem is_xg {e : Exit} (h : XG N c ds Q e E L) : XG N c ds Q e E L := h
theorem is_cvg {x y : Code} {v : Value} (h : CVG P N c F ds Q x y E L v) : CVG P N c F ds Q x y E L v := h
theorem x_ng (h : XG N c ds Q .normal E L) : X N c (NG ds Q) .normal E L := fun a w hf H => ⟨rfl, h a w hf H⟩
theorem xg_then {y : Code} (h : WG P N c F ds Q y E L) : XG N c ds (Exit.then (fun a w => y.wpIn F 0 P Q a w) Q) .normal E L := h
theorem xg_thenW {y : Code} (h : WG P N c Fence.wide ds Q y E L) : XG N c ds (Exit.then (fun a w => y.wp P Q a w) Q) .normal E L := fun a w hf H => wpIn_wide.1 (h a w hf H)
theorem xg_thenR {K : Act → World → Prop} (h : XG N c ds Q .ret E L) : XG N c ds (Exit.then K Q) .ret E L := h
theorem xg_block {id : Nat} (h : XG N c ds Q .normal E L) : XG N c ds (Exit.inBlock id Q) .normal E L := h
theorem xg_blockR {id : Nat} (h : XG N c ds Q .ret E L) : XG N c ds (Exit.inBlock id Q) .ret E L := h

/-! ### Parties -/
theorem Stars.comm {A B : List HP} {S : Nat → Prop} {w : World} (h : Stars (A ++ B) S w) : Stars (B ++ A) S w := by
  have h1 : Stars (Join A :: (B ++ [])) S w := by rw [List.append_nil]; exact Stars.join.2 h
  have h2 : Stars (Join A :: Join B :: []) S w := h1.under fun _ k => Stars.join.2 k
  have h3 : Stars (Join B :: (A ++ [])) S w := h2.swap.under fun _ k => Stars.join.1 k
  rw [List.append_nil] at h3
  exact Stars.join.1 h3
theorem Stars.append {A B : List HP} {w : World} (k : ∀ S, Stars A S w → Stars B S w) : ∀ (X : List HP) {S : Nat → Prop}, Stars (X ++ A) S w → Stars (X ++ B) S w
  | [], _, h => k _ h
  | _ :: X, _, h => Stars.under (L := X ++ A) (fun _ h => Stars.append k X h) h
theorem St.regroup {A B G : List HP} {w : World} (H : St c (Join (A ++ B) :: G) w) : St c (Join (A ++ G) :: B) w := by
  refine St.join.2 ⟨H.con, ?_⟩
  have h := (St.join.1 H).stars
  rw [List.append_assoc] at h ⊢
  exact Stars.append (fun _ k => k.comm) A h
theorem St.toJoin {w : World} (Ls : List HP) (H : St c (Ls ++ L) w) : St c (Join Ls :: L) w := St.join.2 H
theorem St.putPt {b : Nat} {o o' : Obj} {w : World} (H : St c (Pt b o :: L) w) : St c (Pt b o' :: L) (w.putObj b o') := by
  obtain ⟨h, a, l, u⟩ := H.upd
  have hb := l b _ a
  have hlt : b < w.heap.size := (Array.getElem?_eq_some_iff.1 hb).1
  refine u _ _ rfl (fun k _ hn => World.putObj_heap_other ?_) ?_
  · rintro rfl; rw [a] at hn; cases hn
  · simp only [Pt]
    rw [if_pos (.inl (by rw [a]; rfl))]
    exact World.putObj_heap_same hlt

/-! ### A call of yield -/
theorem w_yield {id : Nat} {l : List Oper} (k : Nat) (hd : noDefer (l.take k) = true) (h : WL P N c l.toArray (NQ fun a w => wpListIn Fence.wide 0 P l.toArray Q (l.drop k) a w) (l.take k) E L) : W P N c Q (.region id l.toArray false) E L := fun a w hf H => by
  have := wpListIn_split (n := 0) (Q := Q) (ds := []) wide0 (ops := l.toArray) (post := l.drop k) (fun a w k => by rw [wd_nil]; exact k) (l.take k) a w hd (h a w hf H)
  rw [List.take_append_drop, wd_nil] at this
  exact wpIn_wide.1 (wpIn_region_lit this)
theorem x_rest {ops : Array Oper} {l : List Oper} (hd : noDefer l = true) (h : WL P N c ops (NQ fun a w => Q .normal a w) l E L) : X N c (NQ fun a w => wpListIn Fence.wide 0 P ops Q l a w) .normal E L := fun a w hf H => by
  have := wpListIn_split (n := 0) (Q := Q) (ds := []) wide0 (ops := ops) (post := []) (fun a w k => by rw [wd_nil]; exact k) l a w hd (h a w hf H)
  rw [List.append_nil, wd_nil] at this
  exact ⟨rfl, this⟩
theorem x_nq (h : X N c Q .normal E L) : X N c (NQ fun a w => Q .normal a w) .normal E L := fun a w hf H => ⟨rfl, h a w hf H⟩
theorem x_yield {ops : Array Oper} {d l : Nat} {fo x : Operand} {v : Value} {ts : Array TypeId} {ty : TypeId} {pos : String} {aft : Array Edge} {rest : List Oper} {L1 L2 : List HP} (hdN : Nat.blt d N = true)
    (ho : Ev E fo (.func (.yield l) #[] #[])) (hx : Ev E x v)
    (hy : ∀ w, St c L w → YieldAt Fence.wide 0 P l #[v] w fun e w' => (e = .returned (.bool true) ∧ St c L1 w') ∨ (e = .returned (.bool false) ∧ St c L2 w'))
    (h1 : X N c (NQ fun a w => wpListIn Fence.wide 0 P ops Q rest a w) .normal ((d, .bool true) :: E) L1)
    (h2 : X N c (NQ fun a w => wpListIn Fence.wide 0 P ops Q rest a w) .normal ((d, .bool false) :: E) L2) :
    X N c (NQ fun a w => wpListIn Fence.wide 0 P ops Q (Oper.mk (some d) (.call { callee := .value fo, args := #[x], argTypes := ts }) ty pos aft none :: rest) a w) .normal E L := fun a w hf H => by
  refine ⟨rfl, ?_⟩
  show wpListIn _ _ _ _ _ _ _ _
  unfold wpListIn
  rw [if_pos (by simp [Region.wanted])]
  refine ⟨fun _ _ => trivial, ?_⟩
  obtain ⟨fn, tmps, assign, body, hr, hR⟩ := hy w H
  have e : (Oper.semAt Fence.wide.round a.eval (Oper.mk (some d) (.call { callee := .value fo, args := #[x], argTypes := ts }) ty pos aft none)).run P w = .ok (.round l fn tmps assign body) w := by
    rw [Fence.wide_round, Oper.semAt_none]
    unfold execOp
    simp only [resolve, ho N a hf, Deferred.ofValue, Sem.run_bind, Sem.run_pure, Result.andThen_ok, invoke, Array.empty_append, List.map_toArray, List.map_cons, List.map_nil, hx N a hf]
    exact hr
  rw [e, Oper.uponIn_round]
  refine ⟨wide_dep, hR.mono ?_⟩
  rintro e w' (⟨rfl, H'⟩ | ⟨rfl, H'⟩)
  · exact (h1 _ w' (hf.put hdN) H').2
  · exact (h2 _ w' (hf.put hdN) H').2

/-! ### The statement -/
def PA (N : Nat) (c : Con) (E1 : Env) (L1 : List HP) : Exit → Act → World → Prop := fun e a w => e = .normal ∧ Fr N E1 a ∧ St c L1 w
def PB (c : Con) (L1 L2 : List HP) : Exit → Act → World → Prop := fun e _ w => (e = .normal ∧ St c L1 w) ∨ (e = .ret ∧ St c L2 w)
theorem xg_pa {E1 : Env} {L1 : List HP} (hE : Sub E1 E) (hL : Sel L L1) : XG N c [] (PA N c E1 L1) .normal E L := fun a w hf H => by rw [wd_nil]; exact ⟨rfl, hf.sub hE, hL.st H⟩
theorem xg_pb {L1 L2 : List HP} (hL : Sel L L1) : XG N c ds (PB c L1 L2) .normal E L := fun _ _ _ H => .inl ⟨rfl, hL.st H⟩
theorem xg_pbR {L1 L2 : List HP} (hL : Sel L L2) : XG N c ds (PB c L1 L2) .ret E L := fun _ _ _ H => .inr ⟨rfl, hL.st H⟩
abbrev markOf (D : Nat) : List Deferred := [{ target := .collected D, args := #[] }]
theorem w_range {g : Operand} {t : Nat} {assign body : Code} {gf : FuncId} {lb : List Value} {m : Nat} {K : List HP} (B : Nat → List HP) (Jr : List HP) (xs : Nat → Value) (E1 : Nat → Env)
    (ht : Nat.blt t N = true) (hg : Ev E g (.func (.func gf) #[] lb.toArray)) (he : entersB P gf = true)
    (hit : ∀ (l : Nat) (B' : Nat → HP) (J' : HP), (∀ i, i < m → ∀ (G : List HP) (w : World), St c (B' i :: G) w → YieldAt Fence.wide 0 P l #[xs i] w fun e w' => (e = .returned (.bool true) ∧ St c (B' (i + 1) :: G) w') ∨ (e = .returned (.bool false) ∧ St c (J' :: G) w')) →
      ∀ w, St c (B' 0 :: K) w → Calls P gf (.func (.yield l) #[] #[] :: lb).toArray w fun e w' => (∃ v, e = .returned v) ∧ (St c (B' m :: K) w' ∨ St c (J' :: K) w'))
    (h0 : Sel L (B 0 ++ K))
    (hassign : ∀ l i Rr, i < m → WG P N c (Fence.wide.inRound l) [] (PA N c (E1 i) (Rr :: B i)) assign ((t, xs i) :: E) (Rr :: B i))
    (hbody : ∀ l i Rr, i < m → WG P N c (Fence.wide.inRound l) [] (PB c (Rr :: B (i + 1)) (Rr :: Jr)) body (E1 i) (Rr :: B i))
    (hdone : ∀ D, XG N c (markOf D) Q .normal E (Pt D (.deferred (some [])) :: (B m ++ K)))
    (hret : ∀ D, XG N c (markOf D) Q .ret E (Pt D (.deferred (some [])) :: (Jr ++ K))) :
    W P N c Q (.rangeFunc g #[t] assign body) E L := fun a w hf H => by
  refine (wpIn_wide (n := 0)).1 (wpIn_rangeFunc fun fn _ => ?_)
  obtain ⟨rec, hrec⟩ : ∃ rec : LoopState → Option Code → Loop, rec = fun st pe => { state := st, pending := pe, fn, tmps := a.tmps, params := #[t], assign, body, defers := w.heap.size } := ⟨_, rfl⟩
  obtain ⟨l, hl⟩ : ∃ l, l = w.heap.size + 1 := ⟨_, rfl⟩
  obtain ⟨D, hD⟩ : ∃ D, D = w.heap.size := ⟨_, rfl⟩
  have H1 : St c (Pt l (.loop (rec .ready none)) :: Pt D (.deferred (some [])) :: (B 0 ++ K)) ((w.alloc (.deferred (some []))).alloc (.loop (rec .ready none))) := by
    have := ((h0.st H).allocPt (.deferred (some []))).allocPt (.loop (rec .ready none))
    rw [World.size_alloc] at this
    rw [hl, hD]; exact this
  obtain ⟨B', hB'⟩ : ∃ B' : Nat → HP, B' = fun i => Join ([Pt l (.loop (rec .ready none)), Pt D (.deferred (some []))] ++ B i) := ⟨_, rfl⟩
  obtain ⟨J', hJ'⟩ : ∃ J' : HP, J' = Join ([Pt l (.loop (rec .done (some .ret))), Pt D (.deferred (some []))] ++ Jr) := ⟨_, rfl⟩
  have H2 : St c (B' 0 :: K) ((w.alloc (.deferred (some []))).alloc (.loop (rec .ready none))) := by
    rw [hB']; refine St.join.2 ?_; rw [List.append_assoc]; exact H1
  have hrun := run_enterLoop_outer (P := P) (w := w) fn a.tmps #[t] assign body
  rw [← hl] at hrun
  have hw2 : (.loop { state := .ready, pending := none, fn, tmps := a.tmps, params := #[t], assign, body, defers := w.heap.size } : Obj) = .loop (rec .ready none) := by rw [hrec]
  rw [hw2, ← hD] at hrun
  have hds : markOf D ++ a.defers = (wd (markOf D) a).defers := by simp [wd, hf.defers]
  have hact : ({ a with defers := markOf D ++ a.defers } : Act) = wd (markOf D) a := by rw [hds]; rfl
  refine ⟨l, markOf D, ((w.alloc (.deferred (some []))).alloc (.loop (rec .ready none))), ⟨.fn (.func gf) lb.toArray, #[.func (.yield l) #[] #[]]⟩, ((w.alloc (.deferred (some []))).alloc (.loop (rec .ready none))), gf, (.func (.yield l) #[] #[] :: lb).toArray, ((w.alloc (.deferred (some []))).alloc (.loop (rec .ready none))), hrun, ?_, fun f' _ => wide0.fn f', ?_, wide_dep, ?_⟩
  · simp only [resolve, hg N a hf, Deferred.ofValue, Sem.run_pure, List.map_toArray, List.map_cons]
    simp [go_sem]
  · simp only [invoke]
    rw [show (#[Value.func (.yield l) #[] #[]] ++ lb.toArray) = (.func (.yield l) #[] #[] :: lb).toArray by simp]
    exact run_enters he _ _
  · rw [hact]
    refine callsIn_wide.2 ((hit l B' J' ?_ _ H2).mono ?_)
    · -- one round
      intro i hi G w1 K1
      rw [hB'] at K1
      have KR := St.regroup K1
      have hl1 := St.pt (St.join.1 K1)
      have hy := run_yield (P := P) (args := #[xs i]) hl1 (by rw [hrec]; rfl)
      refine ⟨_, _, _, _, hy, roundIn_of_wpIn trivial ?_⟩
      have ea : ({ tmps := ((rec .ready none).params.zip #[xs i]).foldl (fun tmps (t, a) => tmps.setIfInBounds t a) (rec .ready none).tmps, defers := [] } : Act) = wd [] (a.put (some t) (xs i)) := by
        rw [wd_nil, hrec]
        simp [Act.put, hf.defers]
      rw [ea]
      have eas : (rec .ready none).assign = assign := by rw [hrec]
      have ebo : (rec .ready none).body = body := by rw [hrec]
      rw [eas, ebo]
      refine wpIn_mono (hassign l i _ hi _ w1 (hf.put ht) KR) ?_
      rintro e a2 w2 ⟨rfl, hf2, K2⟩
      have K2' := St.join.1 K2
      have hl2 := St.pt K2'
      refine ⟨_, run_beginRound hl2 (by rw [hrec]), ?_⟩
      have K3 := St.toJoin ([Pt l (.loop { rec .ready none with state := .busy }), Pt D (.deferred (some []))] ++ G) (St.putPt (o' := .loop { rec .ready none with state := .busy }) K2')
      have hb := hbody l i _ hi a2 _ hf2 K3
      rw [wd_nil] at hb
      refine wpIn_mono hb ?_
      rintro e a4 w4 (⟨rfl, K4⟩ | ⟨rfl, K4⟩)
      · have K4' := St.join.1 K4
        have hl4 := St.pt K4'
        refine ⟨_, _, run_endRound none hl4, .inl ⟨rfl, ?_⟩⟩
        have K5 := St.putPt (o' := .loop (rec .ready none)) K4'
        rw [hB']
        have e5 : (.loop { { rec .ready none with state := .busy } with state := if (none : Option Code).isNone then .ready else .done, pending := none } : Obj) = .loop (rec .ready none) := by rw [hrec]; rfl
        rw [e5]
        exact St.regroup (St.toJoin ([Pt l (.loop (rec .ready none)), Pt D (.deferred (some []))] ++ G) K5)
      · have K4' := St.join.1 K4
        have hl4 := St.pt K4'
        refine ⟨_, _, run_endRound (some .ret) hl4, .inr ⟨rfl, ?_⟩⟩
        have K5 := St.putPt (o' := .loop (rec .done (some .ret))) K4'
        rw [hJ']
        have e5 : (.loop { { rec .ready none with state := .busy } with state := if (some Code.ret : Option Code).isNone then .ready else .done, pending := some .ret } : Obj) = .loop (rec .done (some .ret)) := by rw [hrec]; rfl
        rw [e5]
        exact St.regroup (St.toJoin ([Pt l (.loop (rec .done (some .ret))), Pt D (.deferred (some []))] ++ G) K5)
    · rintro e w3 ⟨⟨v, rfl⟩, H3 | H3⟩
      · rw [hB'] at H3
        have H3' := St.join.1 H3
        rw [List.append_assoc] at H3'
        have hl3 := St.pt H3'
        have hr := run_endLoop (P := P) hl3 (by rw [hrec]; simp)
        rw [show (rec .ready none).pending = none by rw [hrec]] at hr
        exact ⟨none, _, hr, hdone D a _ hf (St.putPt H3').tail⟩
      · rw [hJ'] at H3
        have H3' := St.join.1 H3
        rw [List.append_assoc] at H3'
        have hl3 := St.pt H3'
        have hr := run_endLoop (P := P) hl3 (by rw [hrec]; simp)
        rw [show (rec .done (some .ret)).pending = some .ret by rw [hrec]] at hr
        exact ⟨some .ret, _, hr, wpIn_ret (hret D a _ hf (St.putPt H3').tail)⟩

/-! ### A function that leaves with a mark -/
theorem calls_wM {f : FuncId} {fn : Func} {code : Code} {vs : List Value} {R : Ending → World → Prop} (hf : P.funcs[f]? = some fn) (hb : fn.body = some code) (hN : fn.ntmps = N) (hv : Nat.ble vs.length N = true)
    (h : W P N c (bodyPostM Fence.wide 0 P fn R) code (args0 0 vs) L) : ∀ w, St c L w → Calls P f vs.toArray w R := fun w H => by
  have hv' : vs.length ≤ N := by simpa using hv
  refine (callsIn_wide (n := 0)).1 (callsIn_of_wp_marks hf hb trivial (wpIn_wide.2 (h _ w ⟨rfl, by simp [hN]; omega, fun t v hl => ?_⟩ H)))
  obtain ⟨k, h1, h2⟩ := look_args vs 0 t v hl
  have hk : k < vs.length := (List.getElem?_eq_some_iff.1 h2).1
  have : t = k := by omega
  subst this
  have h3 : (vs.toArray ++ Array.replicate (fn.ntmps - vs.toArray.size) undef)[t]? = some v := by
    rw [Array.getElem?_append_left (by simpa using hk)]; simpa using h2
  rw [Array.getD_eq_getD_getElem?, h3]; rfl
theorem x_retM {fn : Func} {R : Ending → World → Prop} (h : X N c (bodyPost P fn R) .ret E L) : X N c (bodyPostM F 0 P fn R) .ret E L := fun a w hf H => by
  show LeavesInM F 0 P fn a.tmps R a.defers .returning w
  rw [hf.defers]
  exact (h a w hf H).2
theorem results_c1 {fn : Func} {p : Tmp} {ty : TypeId} {z v : Value} [ht : TOne P ty z] (h : fn.results = #[.cell p ty]) (tmps : Array Value) (w : World) (ad : Addr)
    (hp : tmps.getD p undef = .pointer (some ad)) (hc : w.cell? ad = some v) : (results fn tmps).run P w = .ok v w := by
  have hu := ht.u
  cases hd : P.underlying ty with
  | none => simp [hd] at hu
  | some ds =>
    have ha : (isAgg ty).run P w = .ok false w := by
      unfold isAgg
      rw [Sem.run_bind, run_underlying hd w]
      rw [hd] at hu
      cases ds <;> simp_all [TypeDesc.isRow]
    have hp' : tmps[p]?.getD undef = .pointer (some ad) := by simpa using hp
    simp [results, h, hp', asAddr, loadVar, ha, load, Sem.run, hc]
theorem x_retC1 {fn : Func} {R : Ending → World → Prop} {p : Tmp} {ty : TypeId} {z v : Value} {ad : Addr} [ht : TOne P ty z] (hr : fn.results = #[.cell p ty]) (hl : look E p = some (.pointer (some ad))) (hc : HasCell (St c L) ad v)
    (h : ∀ w, St c L w → R (.returned v) w) : X N c (bodyPost P fn R) .ret E L := fun a w hf H =>
  bodyPost_ret (v := v) (results_c1 hr a.tmps w ad (hf.get p _ hl) (hc w H)) hf.defers (h w H)
theorem xg_retC1 {fn : Func} {R : Ending → World → Prop} {p : Tmp} {ty : TypeId} {z v : Value} {ad : Addr} {D : Nat} [ht : TOne P ty z] (hr : fn.results = #[.cell p ty]) (hl : look E p = some (.pointer (some ad))) (hc : HasCell (St c L) ad v)
    (h : ∀ w, St c L w → R (.returned v) w) : XG N c (markOf D) (bodyPostM F 0 P fn R) .ret E (Pt D (.deferred (some [])) :: L) := fun a w hf H => by
  show LeavesInM F 0 P fn a.tmps R (a.defers ++ markOf D) .returning w
  rw [hf.defers]
  have H' := (St.putPt (o' := .deferred none) H).tail
  exact ⟨by simp, .inl ⟨D, _, rfl, run_takeDeferred H.pt, v, results_c1 hr a.tmps _ ad (hf.get p _ hl) (hc _ H'), h _ H'⟩⟩
end
section
variable {P : Program} {N : Nat} {c : Con} {F : Fence} {ds : List Deferred} {Q : Exit → Act → World → Prop} {E : Env} {L : List HP} {G : Prop}
theorem im_wg {x : Code} (h : G → WG P N c F ds Q x E L) : G → WG P N c F ds Q x E L := h
theorem im_xg {e : Exit} (h : G → XG N c ds Q e E L) : G → XG N c ds Q e E L := h
theorem im_cvg {x y : Code} {v : Value} (h : G → CVG P N c F ds Q x y E L v) : G → CVG P N c F ds Q x y E L v := h
end
theorem gg1 {G G' : Prop} (h : G' → G := by (first | (with_reducible apply im_wg; first | exact fun h => wg_seq h | exact fun h => wg_region (by first | exact wide0 | exact wideR _) rfl h | exact fun h => wg_cv rfl h | exact fun h => wg_skip h | exact fun h => wg_ret h | exact fun h => wg_block h) | (with_reducible apply im_xg; first | exact fun h => xg_then h | exact fun h => xg_thenW h | exact fun h => xg_thenR h | exact fun h => xg_block h | exact fun h => xg_blockR h) | (with_reducible apply im_cvg; first | exact fun h => cvg_true h | exact fun h => cvg_false h | exact fun h => cvg_dec_t (by first | exact rfl | exact ne_self | decide | omega | assumption) h | exact fun h => cvg_dec_f (by first | exact rfl | exact ne_self | decide | omega | assumption) h | exact fun h => cvg_bool_t (by assumption) h | exact fun h => cvg_bool_f (by assumption) h) | (with_reducible apply im_x; first | exact fun h => x_nq h | exact fun h => x_ng h))) (k : G') : G := h k
theorem gg2 {G A B : Prop} (h : A → B → G := by (first | exact fun h k => cvg_dec h k | exact fun h k => cvg_bool h k)) (ka : A) (kb : B) : G := h ka kb
end Go.Proofs.Ytakeilefbcpabaa

/- A region that draws its order, where two acts may come in either order: first what only looks, then a choice. No program in sight. -/
namespace Go.Proofs.Ytakeilefbcpabaa
open Go.RowKit

/-- The operations that are done, the last one first. -/
def listedOf (n : Nat) : List Nat → Array Bool
  | [] => Array.replicate n false
  | i :: r => (listedOf n r).setIfInBounds i true
def planPre (ops : Array Oper) : Plan → List Nat → Bool
  | [], _ => true
  | (i, b) :: r, l => b && (Region.ready .any ops (listedOf ops.size l)).contains i && Region.free .any ops (listedOf ops.size l) i && planPre ops r (i :: l)
def doneOf : Plan → List Nat → List Nat
  | [], l => l
  | (i, _) :: r, l => doneOf r (i :: l)

section
variable {P : Program} {ops : Array Oper} {Q : Exit → Act → World → Prop} {S : World → Prop} {q : List Nat}
theorem looks_late {i : Nat} (hi : i ∈ q) : ∀ j, j ≠ i → earlyB .any ops q j = false → Region.waitsFor .any ops j i = true := fun j hji he => by
  have h0 := List.any_eq_false.1 he i hi
  cases hw : Region.waitsFor .any ops j i with
  | true => rfl
  | false => rw [hw] at h0; simp at h0; exact absurd h0.symm hji
theorem looks_any (hsel : Region.noSelect ops = true) (hQ : ∀ c (d : Option Tmp) (v : Value) a w, Q (.panic c) (a.put d v) w → Q (.panic c) a w) {n : Nat} :
    ∀ (p : Plan) (l : List Nat) (a : Act) (w : World), (∀ i ∈ p.map (·.1), i ∈ q) → planPre ops p l = true → S w →
      wpPlan P ops (NQ fun a w => wpAnyR P .any ops Q S (earlyB .any ops q) n (listedOf ops.size (doneOf p l)) a w) (earlyB .any ops q) p S a w → wpAnyR P .any ops Q S (earlyB .any ops q) (p.length + n) (listedOf ops.size l) a w
  | [], l, a, w, _, _, _, h => by rw [List.length_nil, Nat.zero_add]; exact h.2
  | (i, false) :: r, l, a, w, _, hB, _, _ => by simp [planPre] at hB
  | (i, true) :: r, l, a, w, hq, hB, hS, h => by
    obtain ⟨o, v, ho, hy, h⟩ := h
    simp only [planPre, Bool.and_eq_true, true_and] at hB
    obtain ⟨⟨hr, hf⟩, hB⟩ := hB
    have H := looks_any hsel hQ r (i :: l) (a.put o.dst v) w (fun k hk => hq k (List.mem_cons_of_mem _ hk)) hB hS h
    have H2 := wpAnyR_first (md := .any) ho (Region.noSelect_spec hsel) (fun c a w => hQ c _ _ a w) (fun j oj hj hji he => by
      obtain ⟨o', ho', e, he', hb, hon⟩ := Region.waitsFor_spec (looks_late (hq i List.mem_cons_self) j hji he)
      obtain rfl : o' = oj := Option.some.inj (ho'.symm.trans hj)
      exact ⟨e, he', hb, hon⟩) _ (listedOf ops.size l) a w (Region.free_spec ho hf) (by simpa using hr) hy hS H
    rw [show ((i, true) :: r).length + n = (r.length + n) + 1 by simp; omega]
    exact H2
end

/-- What is left of a region, from a state on. -/
abbrev Rest (P : Program) (c : Con) (ops : Array Oper) (Q : Exit → Act → World → Prop) (R : List HP) (q : List Nat) (n : Nat) (l : List Nat) : Exit → Act → World → Prop :=
  NQ fun a w => wpAnyR P .any ops (NoPanic Q) (St c R) (earlyB .any ops q) n (listedOf ops.size l) a w
section
variable {P : Program} {N : Nat} {c : Con} {Q : Exit → Act → World → Prop} {E : Env} {L R : List HP} {ops : Array Oper} {q : List Nat}
theorem np_panic : ∀ c (d : Option Tmp) (v : Value) a w, NoPanic Q (.panic c) (a.put d v) w → NoPanic Q (.panic c) a w := fun _ _ _ _ _ h => h
/-- First the looks of p; q: all that looks. -/
theorem w_looks {id : Nat} (p : Plan) (q : List Nat) (R : List HP) (hm : P.follows .mixedOrders = true) (hsel : Region.noSelect ops = true) (hq : (p.map (·.1)).all (q.contains ·) = true) (hB : planPre ops p [] = true) (hl : Nat.ble p.length ops.size = true) (hR : Sel L R)
    (h : WP P N c ops (Rest P c ops Q R q (ops.size - p.length) (doneOf p [])) R (earlyB .any ops q) p E L) : W P N c Q (.region id ops true) E L := fun a w hf H => by
  refine wp_region_noPanic (wp_region_any hm ?_)
  have h1 := looks_any (S := St c R) hsel np_panic p [] a w.drew (fun i hi => by have := List.all_eq_true.1 hq i hi; simpa using this) hB (hR.st H).drew (h a _ hf H.drew)
  rw [show p.length + (ops.size - p.length) = ops.size by have := Nat.le_of_ble_eq_true hl; omega] at h1
  exact wpAny_of_R _ _ _ _ h1
theorem x_tail {n : Nat} {l : List Nat} (R' : List HP) (p : Plan) (hRR : Sel R' R) (hsel : Region.noSelect ops = true) (hq : p.looks.all (q.contains ·) = true) (hn : p.length = n) (hB : planOk .any ops (earlyB .any ops q) p (listedOf ops.size l) = true) (hR : Sel L R')
    (h : WP P N c ops (NoPanic Q) R' (earlyB .any ops q) p E L) : X N c (Rest P c ops Q R q n l) .normal E L := fun a w hf H => by
  refine ⟨rfl, ?_⟩
  subst hn
  exact wpAnyR_mono (fun w k => hRR.st k) _ _ _ _ (wpAnyR_plan hsel np_panic p (St c R') _ a w (fun i hi => looks_late (by
    have := List.all_eq_true.1 hq i (List.mem_map.2 ⟨(i, true), List.mem_filter.2 ⟨hi, rfl⟩, rfl⟩)
    simpa using this)) hB (fun _ => hR.st H) (h a w hf H))
/-- Two acts may come. -/
theorem x_two {m n i j d1 d2 : Nat} {l : List Nat} {op1 op2 : Op} {ty1 ty2 : TypeId} {pos1 pos2 : String} {aft1 aft2 : Array Edge} (hr : Region.ready .any ops (listedOf ops.size l) = [i, j])
    (h1 : ops[i]? = some ⟨some d1, op1, ty1, pos1, aft1, none⟩) (h2 : ops[j]? = some ⟨some d2, op2, ty2, pos2, aft2, none⟩) (b1 : Nat.blt d1 N = true) (b2 : Nat.blt d2 N = true) (hm : m = n + 1)
    (k1 : OWK P N c E L ⟨some d1, op1, ty1, pos1, aft1, none⟩ fun v L' => (Sel L' R ∧ X N c (Rest P c ops Q R q n (i :: l)) .normal ((d1, v) :: E) L'))
    (k2 : OWK P N c E L ⟨some d2, op2, ty2, pos2, aft2, none⟩ fun v L' => (Sel L' R ∧ X N c (Rest P c ops Q R q n (j :: l)) .normal ((d2, v) :: E) L')) : X N c (Rest P c ops Q R q m l) .normal E L := fun a w hf H => by
  subst hm
  refine ⟨rfl, ⟨fun e => (by rw [hr] at e; cases e), fun k hk => ?_⟩⟩
  rw [hr] at hk
  rcases List.mem_cons.1 hk with rfl | hk
  · obtain ⟨β, s, L', g1, g2⟩ := k1
    unfold wpOp
    simp only [h1]
    rw [if_pos (by simp [Region.wanted])]
    exact .inl (g1 _ _ a w hf H fun x w' H' => ⟨fun _ => (g2 x).1.st H', ((g2 x).2 _ w' (hf.put b1) H').2⟩)
  · obtain rfl := List.mem_singleton.1 hk
    obtain ⟨β, s, L', g1, g2⟩ := k2
    unfold wpOp
    simp only [h2]
    rw [if_pos (by simp [Region.wanted])]
    exact .inl (g1 _ _ a w hf H fun x w' H' => ⟨fun _ => (g2 x).1.st H', ((g2 x).2 _ w' (hf.put b2) H').2⟩)
end
end Go.Proofs.Ytakeilefbcpabaa

/- coffretref01.Num: a number's bytes, the lowest first; framed: some bytes as long as a frame of them. -/
namespace Go.Proofs.Ytakeilefbcpabaa
open Go.RowKit

def leB : Nat → Nat → List UInt8
  | 0, _ => []
  | k + 1, x => UInt8.ofNat (x % 256) :: leB k (x / 256)
theorem leB_length : ∀ k x, (leB k x).length = k
  | 0, _ => rfl
  | k + 1, x => by rw [leB, List.length_cons, leB_length k]
theorem leB_snoc : ∀ k x, leB (k + 1) x = leB k x ++ [UInt8.ofNat (x / 256 ^ k % 256)]
  | 0, x => by simp [leB]
  | k + 1, x => by
    rw [leB, leB_snoc k (x / 256), leB, List.cons_append]
    rw [Nat.div_div_eq_div_mul, Nat.pow_succ, Nat.mul_comm 256]
section
variable {P : Program} {H : World → Prop} {E : Env} {d : Option Nat} {ty : TypeId} {pos : String} {aft : Array Edge} {g : Option (Nat × Bool)}
theorem y_quoK {k : IntKind} {x y : Operand} {t t' : TypeId} {m n q : Int} (hx : Ev E x (.int k m)) (hy : Ev E y (.int k n)) (h : 0 ≤ m ∧ 0 < n) (hq : m / n = q) (hw : k.wrap q = q) :
    Y P H E (Oper.mk d (.binOp .quo t x y t') ty pos aft g) (.int k q) := fun N a w hf _ => by
  have h1 : m.tdiv n = m / n := Int.tdiv_eq_ediv_of_nonneg h.1
  have h0 : n ≠ 0 := by omega
  unfold execOp; simp [hx N a hf, hy N a hf, eqGuard, binOp, Op.intDiv, h0, h1, hq, hw]
end
theorem wrap64_nat {x : Nat} (h : x < 18446744073709551616) : IntKind.u64.wrap (x : Int) = x := by
  have e : IntKind.u64.wrap (x : Int) = (x : Int) % 18446744073709551616 := rfl
  rw [e]; omega
theorem wrap8_byte (y : Nat) : IntKind.u8.wrap ((y : Int) % 256) = ((UInt8.ofNat (y % 256)).toNat : Int) := by
  have e : IntKind.u8.wrap ((y : Int) % 256) = (y : Int) % 256 % 256 := rfl
  rw [e, UInt8.toNat_ofNat']; omega
attribute [local irreducible] Y OW YK OWK W WL WP X CV Ev Evs HasCell HasCells Has Met Again Kept
section
variable {c : Con} {F : List HP} {w : World}
set_option maxRecDepth 100000 in
theorem num_ref (x : Nat) (hx : x < 9223372036854775808) (H : St c F w) : Calls Try.prog 64 #[.int .i64 x] w fun e w' => e = .returned (str (leB 8 x)) ∧ St c F w' := by
  have hw0 : IntKind.u64.wrap (x : Int) = ((x / 256 ^ 0 : Nat) : Int) := by rw [wrap64_nat (by omega)]; simp
  refine calls_w (vs := [.int .i64 x]) Try.func64 rfl rfl rfl ?_ w H
  (repeat' (first
      | (with_reducible refine at_conv ?_; first | refine yk_eq (y_conv_int (ev_tmp rfl)) (congrArg _ hw0) ?_)
      | (with_reducible refine is_yk ?_; refine yk_auto (k := ?_))
      | (with_reducible refine is_owk0 ?_; refine owk0_auto (k := ?_))
      | (with_reducible refine is_owkc ?_; refine owk_auto (k := fun _ => ?_))
      | refine go1 (k := ?_)
      | (refine go2 (ka := ?_) (kb := ?_) <;> intro _)
      | fail))
  refine w_loop (α := Nat) (fun k => k ≤ 8)
    (fun k => [(5, .int .i64 (k : Int)), (4, str (leB k x)), (3, .int .u64 ((x / 256 ^ k : Nat) : Int))]) (fun _ => F) (fun k => 8 - k) 0 (by omega) sub_auto sel_auto (fun k hk => ?_)
  have hle : x / 256 ^ k ≤ x := Nat.div_le_self _ _
  have hq : (x / 256 ^ k) / 256 = x / 256 ^ (k + 1) := by rw [Nat.div_div_eq_div_mul, Nat.pow_succ]
  have hs := leB_snoc k x
  have hlen := leB_length k x
  generalize x / 256 ^ k = y at hle hq hs ⊢
  generalize hd : x / 256 ^ (k + 1) = y' at hq ⊢
  have hq' : (y : Int) / 256 = (y' : Int) := by omega
  have hy' : IntKind.u64.wrap (y' : Int) = y' := wrap64_nat (by omega)
  have h8 := wrap8_byte y
  have hb1 : (([UInt8.ofNat (y % 256)] : List UInt8)).length = 1 := rfl
  generalize hB : UInt8.ofNat (y % 256) = b at hs h8 hb1
  have hsz : (leB k x).length + [b].length ≤ 9223372036854775807 := by rw [hlen]; show k + 1 ≤ _; omega
  generalize hl0 : leB k x = l0 at hs hsz ⊢
  generalize hl1 : leB (k + 1) x = l1 at hs
  have hR : ∀ (q T : Nat) (G : List HP), HasR (St c (Bl q T (List.flatMap vcells [Value.int .u8 b.toNat]) :: G)) (.slice (some ⟨q, 0, none⟩) 1 1) 1 (bvs [b]) := fun q T G => reads_has (hasCells_bl has_hd rfl) rfl (by decide) (by decide)
  by_cases h8k : k < 8
  · (repeat' (first
      | (with_reducible refine at_conv ?_; first | refine yk_eq (y_conv_int (ev_tmp rfl)) (congrArg _ h8) ?_ | refine yk (y_str (n := 1) (l := [b]) (ev_tmp rfl) (hR _ _ _)) ?_)
      | (with_reducible refine at_bin ?_; first | refine yk (y_rem (ev_tmp rfl) ev_const (by omega)) ?_ | refine yk (y_quoK (ev_tmp rfl) ev_const (by omega) hq' hy') ?_ | refine yk_eq (y_add_s (ev_tmp rfl) (ev_tmp rfl) hsz) rfl ?_)
      | (with_reducible refine is_yk ?_; refine yk_auto (k := ?_))
      | (with_reducible refine is_owk0 ?_; refine owk0_auto (k := ?_))
      | (with_reducible refine is_owkc ?_; refine owk_auto (k := fun _ => ?_))
      | refine go1 (k := ?_)
      | (refine go2 (ka := ?_) (kb := ?_) <;> intro _)
      | fail))
    exact x_again (k + 1) (by omega) (by omega) (by rw [hl1, hs, hd]; exact sub_auto) sel_auto
  · have : k = 8 := by omega
    subst this
    (repeat' (first
      | (with_reducible refine is_yk ?_; refine yk_auto (k := ?_))
      | (with_reducible refine is_owk0 ?_; refine owk0_auto (k := ?_))
      | (with_reducible refine is_owkc ?_; refine owk_auto (k := fun _ => ?_))
      | refine go1 (k := ?_)
      | (refine go2 (ka := ?_) (kb := ?_) <;> intro _)
      | fail))
    exact x_ret1 rfl rfl (fun w H => ⟨by rw [hl0], H⟩)

/-- Some bytes as long as a frame of them. -/
def frameB (s : List UInt8) : List UInt8 := leB 8 (max s.length 40 + 8) ++ s ++ List.replicate (max s.length 40 - s.length) 0
theorem frameB_length (s : List UInt8) : (frameB s).length = max s.length 40 + 8 := by
  simp [frameB, leB_length]; omega
set_option maxRecDepth 100000 in
theorem framed_ref (s : List UInt8) (hs : s.length ≤ 16777216) {sv : Value} (hsv : sv = str s) (H : St c F w) : Calls Try.prog 45 #[sv] w fun e w' =>
    ∃ q : { q : Nat × Nat // (frameB s).length ≤ q.2 ∧ q.2 ≤ 9223372036854775807 }, e = .returned (.slice (some ⟨q.1.1, 0, none⟩) (frameB s).length q.1.2) ∧ St c (BytesP q.1.1 q.1.2 5 (frameB s) :: F) w' := by
  subst hsv
  have hfl := frameB_length s
  have hmx : max (s.length : Int) 40 + 8 = ((max s.length 40 + 8 : Nat) : Int) := by omega
  have hpad : ((max s.length 40 + 8 : Nat) : Int) - 8 - (s.length : Int) = ((max s.length 40 - s.length : Nat) : Int) := by omega
  have hfb : str (leB 8 (max s.length 40 + 8) ++ s ++ List.replicate (max s.length 40 - s.length) 0) = str (frameB s) := rfl
  have hRR : ∀ (b T : Nat) (G : List HP), HasR (St c (Bl b T (List.replicate (max s.length 40 - s.length) (.int .u8 0)) :: G)) (.slice (some ⟨b, 0, none⟩) (max s.length 40 - s.length) (max s.length 40 - s.length)) (max s.length 40 - s.length) (bvs (List.replicate (max s.length 40 - s.length) 0)) := fun b T G => by
    rw [replicate_bvs]; exact hasR_blAll (by simp [bvs_length, zeros_length]) (by omega) (by omega)
  have hsz2 : (leB 8 (max s.length 40 + 8) ++ s).length + (List.replicate (max s.length 40 - s.length) (0 : UInt8)).length ≤ 9223372036854775807 := by simp [leB_length]; omega
  have hl8 := leB_length 8 (max s.length 40 + 8)
  have hsz1 : (leB 8 (max s.length 40 + 8)).length + s.length ≤ 9223372036854775807 := by omega
  refine calls_w (vs := [str s]) Try.func45 rfl rfl rfl ?_ w H
  (repeat' (first
      | (with_reducible refine at_bin ?_; first | refine yk_eq (y_add64 (ev_tmp rfl) ev_const (by omega)) (congrArg _ hmx) ?_)
      | (with_reducible refine is_w ?_; first | refine w_looks [(0, true), (2, true), (4, true), (5, true), (6, true), (7, true), (8, true)] [0, 2, 3, 4, 5, 6, 7, 8, 10, 11, 13] [] (by kernel_rfl) (by kernel_rfl) (by kernel_rfl) (by kernel_rfl) (by kernel_rfl) Sel.nil ?_)
      | (with_reducible refine is_yk ?_; refine yk_auto (k := ?_))
      | (with_reducible refine is_owk0 ?_; refine owk0_auto (k := ?_))
      | (with_reducible refine is_owkc ?_; refine owk_auto (k := fun _ => ?_))
      | refine go1 (k := ?_)
      | (refine go2 (ka := ?_) (kb := ?_) <;> intro _)
      | fail))
  refine x_two (i := 1) (j := 9) (n := 6) (by kernel_rfl) rfl rfl rfl rfl rfl ?_ ?_
  · refine owk_c0s evs_auto (by kernel_rfl) (fun w H => num_ref _ (by omega) H) ⟨Sel.nil, ?_⟩
    refine x_tail [] [(3, true), (9, false), (10, true), (11, true), (12, false), (13, true)] Sel.nil (by kernel_rfl) (by kernel_rfl) rfl (by kernel_rfl) Sel.nil ?_
    (repeat' (first
      | (with_reducible refine is_owkc ?_; first | refine owk (ow_makeSliceI (ev_tmp rfl) (ev_tmp rfl) hpad (by omega) (by omega)) (fun b => ?_))
      | (with_reducible refine at_bin ?_; first | refine yk (y_add_s (ev_tmp rfl) (ev_tmp rfl) hsz1) ?_ | refine yk_eq (y_add_s (ev_tmp rfl) (ev_tmp rfl) hsz2) hfb ?_)
      | (with_reducible refine at_conv ?_; first | refine yk (y_str (l := List.replicate (max s.length 40 - s.length) 0) (n := max s.length 40 - s.length) (ev_tmp rfl) (hRR _ _ _)) ?_)
      | (with_reducible refine is_kept ?_; first | refine kept_more [Bl _ _ _] sel_auto sel_auto ?_)
      | (with_reducible refine is_yk ?_; refine yk_auto (k := ?_))
      | (with_reducible refine is_owk0 ?_; refine owk0_auto (k := ?_))
      | (with_reducible refine is_owkc ?_; refine owk_auto (k := fun _ => ?_))
      | refine go1 (k := ?_)
      | (refine go2 (ka := ?_) (kb := ?_) <;> intro _)
      | fail))
    exact x_ret1 rfl rfl (fun w H => ⟨_, rfl, Sel.st (.cons .hd (.tl sel_all)) H⟩)
  · refine owk (ow_makeSliceI (ev_tmp rfl) (ev_tmp rfl) hpad (by omega) (by omega)) (fun b => ⟨Sel.nil, ?_⟩)
    refine x_tail [Bl _ _ _] [(10, true), (1, false), (3, true), (11, true), (12, false), (13, true)] Sel.nil (by kernel_rfl) (by kernel_rfl) rfl (by kernel_rfl) sel_auto ?_
    (repeat' (first
      | ((with_reducible refine at_fn 64 ?_); with_reducible refine owk_c0s evs_auto (by kernel_rfl) (fun w H => num_ref _ (by omega) H) ?_)
      | (with_reducible refine at_bin ?_; first | refine yk (y_add_s (ev_tmp rfl) (ev_tmp rfl) hsz1) ?_ | refine yk_eq (y_add_s (ev_tmp rfl) (ev_tmp rfl) hsz2) hfb ?_)
      | (with_reducible refine at_conv ?_; first | refine yk (y_str (l := List.replicate (max s.length 40 - s.length) 0) (n := max s.length 40 - s.length) (ev_tmp rfl) (hRR _ _ _)) ?_)
      | (with_reducible refine is_yk ?_; refine yk_auto (k := ?_))
      | (with_reducible refine is_owk0 ?_; refine owk0_auto (k := ?_))
      | (with_reducible refine is_owkc ?_; refine owk_auto (k := fun _ => ?_))
      | refine go1 (k := ?_)
      | (refine go2 (ka := ?_) (kb := ?_) <;> intro _)
      | fail))
    exact x_ret1 rfl rfl (fun w H => ⟨_, rfl, Sel.st (.cons .hd (.tl sel_all)) H⟩)
end
end Go.Proofs.Ytakeilefbcpabaa

/- The disk as plain data (what a call makes of it), and how it lies in memory. -/
namespace Go.Proofs.Ytakeilefbcpabaa
open Go.RowKit

/-! ### Plain data -/
abbrev Sec := List UInt8
def zeroSec : Sec := zeros 256
theorem zeroSec_length : zeroSec.length = 256 := zeros_length 256
def pad (s : List UInt8) : Sec := s ++ zeros (256 - s.length)
def secs (l : List Sec) : List Value := bvs l.flatten
def wcells (l : List (Nat × Sec)) : List Value := l.flatMap fun x => .int .i64 (x.1 : Int) :: bvs x.2

structure DiskM where
  now : List Sec
  safe : List Sec
  waits : List (Nat × Sec)
  down : Bool
  acts : Int
  fuse : Int
  keep : Int

structure DiskM.WF (D : DiskM) : Prop where
  most : D.now.length ≤ 4096
  same : D.safe.length = D.now.length
  now : ∀ s ∈ D.now, s.length = 256
  safe : ∀ s ∈ D.safe, s.length = 256
  waits : ∀ x ∈ D.waits, x.1 < D.now.length ∧ x.2.length = 256
  fuse0 : 0 ≤ D.fuse
  fuse1 : D.fuse ≤ 9223372036854775807
  keep0 : 0 ≤ D.keep
  keep1 : D.keep < 18446744073709551616

/-- The bit i mod 64 is set. -/
def bitAt (k : Int) (i : Nat) : Bool := decide (k / 2 ^ (i % 64) % 2 = 1)
def keptFrom (k : Int) : Nat → List (Nat × Sec) → List Sec → List Sec
  | _, [], s => s
  | i, x :: r, s => keptFrom k (i + 1) r (if bitAt k i then s.set x.1 x.2 else s)
namespace DiskM
def new (n : Nat) : DiskM := ⟨List.replicate n zeroSec, List.replicate n zeroSec, [], false, 0, 0, 0⟩
def kept (D : DiskM) (k : Int) : List Sec := keptFrom k 0 D.waits D.safe
def off (D : DiskM) (k : Int) : DiskM := if D.down then D else { D with now := D.kept k, safe := D.kept k, waits := [], down := true, fuse := 0 }
def on (D : DiskM) : DiskM := { D with down := false }
def arm (D : DiskM) (n k : Int) : DiskM := { D with fuse := max n 0, keep := k }
/-- What the power does in an act: it goes? what is kept then? -/
def goes (D : DiskM) : Bool := !D.down && decide (D.fuse = 1)
def keeps (D : DiskM) : Int := if D.goes then D.keep else 0
def act (D : DiskM) : DiskM := if D.down then D else { D with acts := wrap64 (D.acts + 1), fuse := if D.fuse = 0 then 0 else D.fuse - 1 }
def ready (D : DiskM) (i : Int) : Int := if D.down then 8 else if i < 0 ∨ (D.now.length : Int) ≤ i then 1 else 0
def put (D : DiskM) (i : Nat) (s : Sec) : DiskM := { D with now := D.now.set i s, waits := D.waits ++ [(i, s)] }
def writeE (D : DiskM) (i : Int) (n : Nat) : Int := if D.ready i ≠ 0 then D.ready i else if 256 < n then 3 else if D.goes then 8 else 0
def write (D : DiskM) (i : Int) (b : List UInt8) : DiskM :=
  if D.ready i ≠ 0 then D else if 256 < b.length then D else
  if D.goes then (D.act.put i.toNat (pad b)).off D.keep else D.act.put i.toNat (pad b)
def syncE (D : DiskM) : Int := if D.down then 8 else if D.goes then 8 else 0
def sync (D : DiskM) : DiskM := if D.down then D else if D.goes then D.act.off D.keep else { D.act with safe := D.act.now, waits := [] }
def forgeE (D : DiskM) (i : Int) (n : Nat) : Int := if i < 0 ∨ (D.now.length : Int) ≤ i then 1 else if 256 < n then 3 else 0
def forge (D : DiskM) (i : Int) (b : List UInt8) : DiskM :=
  if D.forgeE i b.length ≠ 0 then D else
  { D with now := D.now.set i.toNat (pad b), safe := D.safe.set i.toNat (pad b), waits := D.waits.filter fun x => x.1 != i.toNat }
def image (D : DiskM) : List UInt8 := D.now.flatten
end DiskM

/-! ### How it lies in memory -/
def diskCells (n s : Nat) (wv : Value) (D : DiskM) : Array Value :=
  #[.slice (some ⟨n, 0, none⟩) D.now.length D.now.length, .slice (some ⟨s, 0, none⟩) D.now.length D.now.length, wv, .bool D.down, .int .i64 D.acts, .int .i64 D.fuse, .int .u64 D.keep]
/-- The disk whose struct is block p; n, s: its sectors' blocks; wv: its waiting writes. -/
def DiskParts (p n s : Nat) (wv : Value) (D : DiskM) : List HP :=
  [Pt p (.cells (diskCells n s wv D) 107 (0, 0)), Pt n (.cells (secs D.now).toArray 109 (0, 0)), Pt s (.cells (secs D.safe).toArray 109 (0, 0)),
    OwnP 111 257 wv D.waits.length (wcells D.waits)]
def DiskAt (p : Nat) (D : DiskM) : HP := Pure D.WF (Ex fun n => Ex fun s => Ex fun wv => Join (DiskParts p n s wv D))

theorem St.openDisk {c : Con} {F : List HP} {w : World} {p : Nat} {D : DiskM} (H : St c (DiskAt p D :: F) w) :
    D.WF ∧ ∃ n s wv, St c (DiskParts p n s wv D ++ F) w := by
  obtain ⟨h0, H⟩ := St.pure H
  obtain ⟨n, H⟩ := St.ex H
  obtain ⟨s, H⟩ := St.ex H
  obtain ⟨wv, H⟩ := St.ex H
  exact ⟨h0, n, s, wv, St.join.1 H⟩
theorem St.shutDisk {c : Con} {F : List HP} {w : World} {p n s : Nat} {wv : Value} {D : DiskM} (h : D.WF) (H : St c (DiskParts p n s wv D ++ F) w) : St c (DiskAt p D :: F) w :=
  St.toPure h (St.toEx n (St.toEx s (St.toEx wv (St.join.2 H))))

theorem St.openDisk4 {c : Con} {F : List HP} {w : World} {p : Nat} {D : DiskM} (H : St c (DiskAt p D :: F) w) :
    D.WF ∧ ∃ n s wv, St c (Pt p (.cells (diskCells n s wv D) 107 (0, 0)) :: Pt n (.cells (secs D.now).toArray 109 (0, 0)) :: Pt s (.cells (secs D.safe).toArray 109 (0, 0)) ::
      OwnP 111 257 wv D.waits.length (wcells D.waits) :: F) w := H.openDisk

theorem St.openOwn {c : Con} {F : List HP} {w : World} {e : TypeId} {size n : Nat} {v : Value} {xs : List Value} (H : St c (OwnP e size v n xs :: F) w) :
    (v = .slice none 0 0 ∧ n = 0 ∧ xs = [] ∧ St c F w) ∨ ∃ g cap cur, v = .slice (some ⟨g, 0, none⟩) n cap ∧ n ≤ cap ∧ cap ≤ 9223372036854775807 ∧ cur.length = cap * size ∧ cur.take (n * size) = xs ∧ xs.length = n * size ∧ St c (Pt g (.cells (cur : List Value).toArray e (0, 0)) :: F) w := by
  obtain ⟨h, ⟨hx, ho⟩, l, r⟩ := H.stars
  rcases ho with ⟨h1, h2⟩ | ⟨g, cap, cur, h1, h2, h3, h4, h5, h6⟩
  · subst h2
    exact .inl ⟨h1, rfl, List.eq_nil_of_length_eq_zero (by simpa using hx), H.tail⟩
  · refine .inr ⟨g, cap, cur.toList, h1, h3, by simpa [maxLen] using h4, by simpa using h5, h6, hx, H.con, h, ?_, l, r⟩
    simpa [Pt] using h2
theorem own_shut {e : TypeId} {size n g cap : Nat} {cur xs : List Value} (h3 : n ≤ cap) (h4 : cap ≤ 9223372036854775807) (h5 : cur.length = cap * size) (h6 : cur.take (n * size) = xs) : ∀ h, Pt g (.cells cur.toArray e (0, 0)) h → OwnP e size (.slice (some ⟨g, 0, none⟩) n cap) n xs h := fun h hb => by
  have hle : n * size ≤ cur.length := by rw [h5]; exact Nat.mul_le_mul_right _ h3
  refine ⟨by rw [← h6, List.length_take]; omega, .inr ⟨g, cap, cur.toArray, rfl, hb, h3, by simpa [maxLen] using h4, by simpa using h5, by simpa using h6⟩⟩

/-! ### Plain laws -/
theorem drop_past {α : Type} (a b : List α) (n : Nat) : (a ++ b).drop (a.length + n) = b.drop n := by
  rw [← List.drop_drop, List.drop_left]
theorem take_past {α : Type} (a b : List α) (n : Nat) : (a ++ b).take (a.length + n) = a ++ b.take n := by
  rw [List.take_append, List.take_of_length_le (by omega), show a.length + n - a.length = n by omega]
theorem pad_length (b : List UInt8) (h : b.length ≤ 256) : (pad b).length = 256 := by rw [pad, List.length_append, zeros_length]; omega
theorem keptFrom_length (k : Int) : ∀ (l : List (Nat × Sec)) (i : Nat) (s : List Sec), (keptFrom k i l s).length = s.length
  | [], _, _ => rfl
  | x :: r, i, s => by rw [keptFrom, keptFrom_length k r]; split <;> simp
theorem keptFrom_all (k : Int) : ∀ (l : List (Nat × Sec)) (i : Nat) (s : List Sec), (∀ x ∈ l, x.2.length = 256) → (∀ x ∈ s, x.length = 256) → ∀ x ∈ keptFrom k i l s, x.length = 256
  | [], _, _, _, h => h
  | x :: r, i, s, hl, hs => by
    rw [keptFrom]
    refine keptFrom_all k r (i + 1) _ (fun y hy => hl y (List.mem_cons_of_mem _ hy)) fun y hy => ?_
    split at hy
    · rcases List.mem_or_eq_of_mem_set hy with h | h
      · exact hs y h
      · rw [h]; exact hl x List.mem_cons_self
    · exact hs y hy
theorem DiskM.WF.new (n : Nat) (h : n ≤ 4096) : (DiskM.new n).WF where
  most := by show (List.replicate n zeroSec).length ≤ 4096; rw [List.length_replicate]; exact h
  same := rfl
  now := by intro s hs; rw [(List.mem_replicate.1 hs).2]; exact zeroSec_length
  safe := by intro s hs; rw [(List.mem_replicate.1 hs).2]; exact zeroSec_length
  waits := by intro x hx; cases hx
  fuse0 := Int.le_refl _
  fuse1 := by show (0 : Int) ≤ _; omega
  keep0 := Int.le_refl _
  keep1 := by show (0 : Int) < _; omega
theorem DiskM.WF.off {D : DiskM} (h : D.WF) (k : Int) : (D.off k).WF := by
  unfold DiskM.off
  split
  · exact h
  · have hk : ∀ x ∈ D.kept k, x.length = 256 := keptFrom_all k _ _ _ (fun x hx => (h.waits x hx).2) h.safe
    have hl : (D.kept k).length = D.now.length := by rw [DiskM.kept, keptFrom_length, h.same]
    exact ⟨by rw [hl]; exact h.most, rfl, hk, hk, by intro x hx; simp at hx, by simp, by simp, h.keep0, h.keep1⟩
theorem DiskM.WF.act {D : DiskM} (h : D.WF) : D.act.WF := by
  unfold DiskM.act
  split
  · exact h
  · have := h.fuse0; have := h.fuse1
    refine ⟨h.most, h.same, h.now, h.safe, h.waits, ?_, ?_, h.keep0, h.keep1⟩ <;> (show _ ≤ _; dsimp only; split <;> omega)
theorem DiskM.WF.put {D : DiskM} (h : D.WF) (i : Nat) (s : Sec) (hi : i < D.now.length) (hs : s.length = 256) : (D.put i s).WF := by
  refine ⟨by simpa [DiskM.put] using h.most, by simpa [DiskM.put] using h.same, ?_, h.safe, ?_, h.fuse0, h.fuse1, h.keep0, h.keep1⟩
  · intro x hx
    rcases List.mem_or_eq_of_mem_set hx with h' | h'
    · exact h.now x h'
    · rw [h']; exact hs
  · intro x hx
    simp only [DiskM.put, List.mem_append, List.mem_singleton, List.length_set] at hx ⊢
    rcases hx with hx | rfl
    · exact h.waits x hx
    · exact ⟨hi, hs⟩
theorem DiskM.WF.on {D : DiskM} (h : D.WF) : D.on.WF := ⟨h.most, h.same, h.now, h.safe, h.waits, h.fuse0, h.fuse1, h.keep0, h.keep1⟩
theorem DiskM.WF.arm {D : DiskM} (h : D.WF) {n k : Int} (h1 : n ≤ 9223372036854775807) (h2 : 0 ≤ k) (h3 : k < 18446744073709551616) : (D.arm n k).WF := by
  refine ⟨h.most, h.same, h.now, h.safe, h.waits, ?_, ?_, h2, h3⟩ <;> simp only [DiskM.arm] <;> omega
theorem secs_length {l : List Sec} (h : ∀ s ∈ l, s.length = 256) : (secs l).length = l.length * 256 := by
  induction l with
  | nil => rfl
  | cons a l ih =>
    have h1 := h a List.mem_cons_self
    have h2 := ih fun s hs => h s (List.mem_cons_of_mem _ hs)
    simp only [secs, bvs, List.length_map, List.flatten_cons, List.length_append, List.length_cons] at h2 ⊢
    rw [h2, h1]; omega
/-- A waiting write's cells. -/
def wcell (x : Nat × Sec) : List Value := .int .i64 (x.1 : Int) :: bvs x.2
theorem wcells_cons (x : Nat × Sec) (l : List (Nat × Sec)) : wcells (x :: l) = wcell x ++ wcells l := rfl
theorem wcells_append (l m : List (Nat × Sec)) : wcells (l ++ m) = wcells l ++ wcells m := by simp [wcells]
theorem wcell_length {x : Nat × Sec} (h : x.2.length = 256) : (wcell x).length = 257 := by simp [wcell, bvs, h]
theorem wcells_length : ∀ {l : List (Nat × Sec)}, (∀ x ∈ l, x.2.length = 256) → (wcells l).length = l.length * 257
  | [], _ => rfl
  | x :: l, h => by
    rw [wcells_cons, List.length_append, wcell_length (h x List.mem_cons_self), wcells_length fun y hy => h y (List.mem_cons_of_mem _ hy), List.length_cons]; omega
/-- The j-th element's cells out of a row of elements. -/
theorem wcells_at : ∀ {l : List (Nat × Sec)} (_ : ∀ x ∈ l, x.2.length = 256) (j : Nat) (hj : j < l.length), ((wcells l).drop (j * 257)).take 257 = wcell l[j]
  | x :: l, h, 0, _ => by
    rw [Nat.zero_mul, List.drop_zero, wcells_cons]
    exact List.take_left' (wcell_length (h x List.mem_cons_self))
  | x :: l, h, j + 1, hj => by
    rw [wcells_cons, show (j + 1) * 257 = (wcell x).length + j * 257 by rw [wcell_length (h x List.mem_cons_self)]; omega, drop_past]
    exact wcells_at (fun y hy => h y (List.mem_cons_of_mem _ hy)) j (by simpa using hj)
theorem keptFrom_snoc (k : Int) : ∀ (l : List (Nat × Sec)) (i : Nat) (x : Nat × Sec) (s : List Sec), keptFrom k i (l ++ [x]) s = if bitAt k (i + l.length) then (keptFrom k i l s).set x.1 x.2 else keptFrom k i l s
  | [], i, x, s => by simp [keptFrom]
  | y :: l, i, x, s => by
    rw [List.cons_append, keptFrom, keptFrom_snoc k l, keptFrom, List.length_cons]
    rw [show i + 1 + l.length = i + (l.length + 1) by omega]
/-- A sector out of the sectors' row. -/
theorem secs_at : ∀ {l : List Sec} (_ : ∀ s ∈ l, s.length = 256) (j : Nat) (hj : j < l.length), ((secs l).drop (j * 256)).take 256 = bvs l[j]
  | x :: l, h, 0, _ => by
    rw [Nat.zero_mul, List.drop_zero]
    simp only [secs, bvs, List.flatten_cons, List.map_append, List.getElem_cons_zero]
    exact List.take_left' (by rw [List.length_map]; exact h x List.mem_cons_self)
  | x :: l, h, j + 1, hj => by
    have hx := h x List.mem_cons_self
    have e : secs (x :: l) = bvs x ++ secs l := by simp [secs, bvs]
    rw [e, show (j + 1) * 256 = (bvs x).length + j * 256 by rw [bvs, List.length_map, hx]; omega, drop_past]
    exact secs_at (fun y hy => h y (List.mem_cons_of_mem _ hy)) j (by simpa using hj)
/-- A sector laid over the sectors' row. -/
theorem secs_set : ∀ {l : List Sec} (_ : ∀ s ∈ l, s.length = 256) (j : Nat) (_ : j < l.length) {s : Sec} (_ : s.length = 256), secs (l.set j s) = splice (secs l) (j * 256) (bvs s)
  | x :: l, h, 0, _, s, hs => by
    have e : ∀ y, secs (y :: l) = bvs y ++ secs l := by intro y; simp [secs, bvs]
    have hx : (bvs x).length = 256 := by rw [bvs, List.length_map]; exact h x List.mem_cons_self
    have hs' : (bvs s).length = 256 := by rw [bvs, List.length_map]; exact hs
    rw [List.set_cons_zero, e, e, splice, Nat.zero_mul, List.take_zero, List.nil_append, Nat.zero_add, hs', ← hx, List.drop_left]
  | x :: l, h, j + 1, hj, s, hs => by
    have e : ∀ (y : Sec) (l : List Sec), secs (y :: l) = bvs y ++ secs l := by intro y l; simp [secs, bvs]
    have hx : (bvs x).length = 256 := by rw [bvs, List.length_map]; exact h x List.mem_cons_self
    rw [List.set_cons_succ, e, e, secs_set (fun y hy => h y (List.mem_cons_of_mem _ hy)) j (by simpa using hj) hs]
    simp only [splice]
    rw [show (j + 1) * 256 = (bvs x).length + j * 256 by omega, take_past, Nat.add_assoc, drop_past]
    simp only [List.append_assoc]
theorem DiskM.ready_zero {D : DiskM} {i : Int} (h : D.ready i = 0) : D.down = false ∧ 0 ≤ i ∧ i < D.now.length := by
  unfold DiskM.ready at h
  split at h
  · omega
  · rename_i hd
    split at h
    · omega
    · refine ⟨by simpa using hd, by omega, by omega⟩
theorem bit_test (k : Int) (j : Nat) (h0 : 0 ≤ k) (h1 : k < 18446744073709551616) : (bits BinOp.and IntKind.u64 (k / 2 ^ (j % 64)) 1 == 1) = bitAt k j := by
  have hp : (0 : Int) < 2 ^ (j % 64) := Int.pow_pos (by omega)
  have h2 : 0 ≤ k / 2 ^ (j % 64) := Int.ediv_nonneg h0 (by omega)
  have h3 : k / 2 ^ (j % 64) ≤ k := Int.ediv_le_self _ h0
  rw [and_one_u64 _ h2 (by omega)]
  rfl
end Go.Proofs.Ytakeilefbcpabaa

/- The disk's small functions: what each call does. -/
namespace Go.Proofs.Ytakeilefbcpabaa
open Go.RowKit

section
variable {c : Con} {F : List HP} {w : World} {p : Nat} {D : DiskM}

/-- Acts. -/
theorem disk_acts (H : St c (DiskAt p D :: F) w) :
    Calls Try.prog 39 #[.pointer (some ⟨p, 0, none⟩)] w fun e w' => e = .returned (.int .i64 D.acts) ∧ w = w' := by
  obtain ⟨_, n, s, wv, H⟩ := H.openDisk
  have h0 := H.pt
  have hc : ∀ j, w.cell? ⟨p, j, none⟩ = (diskCells n s wv D)[j]? := fun j => cell_of_row w p j _ _ _ h0
  unfold diskCells at hc
  clear h0
  go_enter Try.func39, Try.ntmps39
  go_wp2
  go_ret
  exact ⟨rfl, rfl⟩
/-- Down. -/
theorem disk_down (H : St c (DiskAt p D :: F) w) :
    Calls Try.prog 40 #[.pointer (some ⟨p, 0, none⟩)] w fun e w' => e = .returned (.bool D.down) ∧ w = w' := by
  obtain ⟨_, n, s, wv, H⟩ := H.openDisk
  have h0 := H.pt
  have hc : ∀ j, w.cell? ⟨p, j, none⟩ = (diskCells n s wv D)[j]? := fun j => cell_of_row w p j _ _ _ h0
  unfold diskCells at hc
  clear h0
  go_enter Try.func40, Try.ntmps40
  go_wp2
  go_ret
  exact ⟨rfl, rfl⟩
theorem disk_down_nil (w : World) :
    Calls Try.prog 40 #[.pointer none] w fun e w' => e = .returned (.bool false) ∧ w = w' := by
  go_enter Try.func40, Try.ntmps40
  go_wp2
  go_ret
  exact ⟨rfl, rfl⟩
/-- Size. -/
theorem disk_size (H : St c (DiskAt p D :: F) w) :
    Calls Try.prog 28 #[.pointer (some ⟨p, 0, none⟩)] w fun e w' => e = .returned (.int .i64 D.now.length) ∧ w = w' := by
  obtain ⟨_, n, s, wv, H⟩ := H.openDisk
  have h0 := H.pt
  have hc : ∀ j, w.cell? ⟨p, j, none⟩ = (diskCells n s wv D)[j]? := fun j => cell_of_row w p j _ _ _ h0
  unfold diskCells at hc
  clear h0
  go_enter Try.func28, Try.ntmps28
  go_wp2
  go_ret
  exact ⟨rfl, rfl⟩
/-- ready. -/
theorem disk_ready (H : St c (DiskAt p D :: F) w) (i : Int) (hi0 : -9223372036854775808 ≤ i) (hi1 : i ≤ 9223372036854775807) :
    Calls Try.prog 58 #[.pointer (some ⟨p, 0, none⟩), .int .i64 i] w fun e w' => e = .returned (.int .i64 (D.ready i)) ∧ w = w' := by
  obtain ⟨hw, n, s, wv, H⟩ := H.openDisk
  have h0 := H.pt
  have hc : ∀ j, w.cell? ⟨p, j, none⟩ = (diskCells n s wv D)[j]? := fun j => cell_of_row w p j _ _ _ h0
  have hm := hw.most
  unfold diskCells at hc
  clear h0 hw
  obtain ⟨now, safe, waits, down, acts, fuse, keep⟩ := D
  dsimp only at hc hm
  have hr : (DiskM.mk now safe waits down acts fuse keep).ready i = if down then 8 else if i < 0 ∨ (now.length : Int) ≤ i then 1 else 0 := rfl
  cases down
  · by_cases h1 : i < 0
    · have hr' : (DiskM.mk now safe waits false acts fuse keep).ready i = 1 := by rw [hr]; simp [h1]
      rw [hr']; clear hr hr'
      go_enter Try.func58, Try.ntmps58
      go_wp2
      go_ret
      exact ⟨rfl, rfl⟩
    · have h1' : 0 ≤ i := by omega
      have hd : decide (i < 0) = false := by simpa using h1
      by_cases h2 : (now.length : Int) ≤ i
      · have hr' : (DiskM.mk now safe waits false acts fuse keep).ready i = 1 := by rw [hr]; simp [h2]
        rw [hr']; clear hr hr'
        go_enter Try.func58, Try.ntmps58
        go_wp2
        go_ret
        exact ⟨rfl, rfl⟩
      · have hr' : (DiskM.mk now safe waits false acts fuse keep).ready i = 0 := by rw [hr]; simp [h1, h2]
        rw [hr']; clear hr hr'
        have h2' : i < (now.length : Int) := by omega
        have hd2 : decide ((now.length : Int) ≤ i) = false := by simpa using h2'
        go_enter Try.func58, Try.ntmps58
        go_wp2
        go_ret
        exact ⟨rfl, rfl⟩
  · rw [hr]; clear hr
    go_enter Try.func58, Try.ntmps58
    go_wp2
    go_ret
    exact ⟨rfl, rfl⟩
end
end Go.Proofs.Ytakeilefbcpabaa
