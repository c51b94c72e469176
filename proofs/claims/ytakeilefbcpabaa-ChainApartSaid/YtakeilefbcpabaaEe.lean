/- The operations on memory, by what is known of their operands. No program in sight. -/
import Derived.Test.YtakeilefbcpabaaEd
namespace Go.Proofs.Ytakeilefbcpabaa
open Go.RowKit

section
variable {P : Program} {H : World → Prop} {E : Env} {d : Option Nat} {ty : TypeId} {pos : String} {aft : Array Edge} {g : Option (Nat × Bool)}

theorem str_size (l : List UInt8) : (ByteArray.mk l.toArray).size = l.length := rfl
/-! Addresses -/
theorem y_field {x : Operand} {s f off n b o : Nat} [hs : TField P s f off n] (hx : Ev E x (.pointer (some ⟨b, o, none⟩))) :
    Y P H E (Oper.mk d (.fieldAddr s x f) ty pos aft g) (.pointer (some ⟨b, o + off, none⟩)) := fun N a w hf _ => by
  obtain ⟨fs, fd, h1, h2, h3, h4, h5⟩ := hs.u
  unfold execOp
  cases hq : P.info? fd.type with
  | none => simp [hq] at h4
  | some i =>
    have h4' : i.size = n := by simpa [hq] using h4
    simp [hx N a hf, Instr.fieldAt, run_underlying h1, h2, Instr.sureAddr, fieldPlace, sizeOf, typeInfo, hq, h4', h5, add_mid, h3]
theorem y_fieldVal {x : Operand} {s f off n : Nat} {cs v : Value} [hs : TField P s f off n] (hx : Ev E x cs) (hv : ∀ w, (Instr.field s cs f).run P w = .ok v w) :
    Y P H E (Oper.mk d (.field s x f) ty pos aft g) v := fun N a w hf _ => by
  have _ := hs
  unfold execOp; simp [hx N a hf, hv]
theorem y_index {x i : Operand} {t e s by' : Nat} {z : Value} {b o n cap : Nat} {k : IntKind} {m : Int} [ht : TSlice P t e s by' z] (hx : Ev E x (.slice (some ⟨b, o, none⟩) n cap)) (hi : Ev E i (.int k m)) (h : 0 ≤ m ∧ m < n) :
    Y P H E (Oper.mk d (.indexAddr t x i) ty pos aft g) (.pointer (some ⟨b, o + m.toNat * s, none⟩)) := fun N a w hf _ => by
  unfold execOp
  have hz := ht.i
  cases hq : P.info? e with
  | none => simp [hq] at hz
  | some ie =>
    have hs : ie.size = s := by simp [hq] at hz; exact hz.2.1
    simp [hx N a hf, hi N a hf, Instr.indexAt, run_underlying ht.u, asIntOf, h.1, h.2, sizeOf, typeInfo, hq, hs, add_mid]
theorem y_indexN {x i : Operand} {t e s by' : Nat} {z : Value} {b o n cap : Nat} {k : IntKind} {m : Nat} [ht : TSlice P t e s by' z] (hx : Ev E x (.slice (some ⟨b, o, none⟩) n cap)) (hi : Ev E i (.int k m)) (h : m < n) :
    Y P H E (Oper.mk d (.indexAddr t x i) ty pos aft g) (.pointer (some ⟨b, o + m * s, none⟩)) := y_index (m := (m : Int)) hx hi ⟨by omega, by omega⟩
theorem y_indexA {x i : Operand} {t e s by' : Nat} {z : Value} {ad : Addr} {n cap : Nat} {k : IntKind} {m : Int} [ht : TSlice P t e s by' z] (hx : Ev E x (.slice (some ad) n cap)) (hi : Ev E i (.int k m)) (h : 0 ≤ m ∧ m < n) :
    Y P H E (Oper.mk d (.indexAddr t x i) ty pos aft g) (.pointer (some (ad.add (m.toNat * s)))) := fun N a w hf _ => by
  unfold execOp
  have hz := ht.i
  cases hq : P.info? e with
  | none => simp [hq] at hz
  | some ie =>
    have hs : ie.size = s := by simp [hq] at hz; exact hz.2.1
    simp [hx N a hf, hi N a hf, Instr.indexAt, run_underlying ht.u, asIntOf, h.1, h.2, sizeOf, typeInfo, hq, hs]
theorem y_indexAN {x i : Operand} {t e s by' : Nat} {z : Value} {ad : Addr} {n cap : Nat} {k : IntKind} {m : Nat} [ht : TSlice P t e s by' z] (hx : Ev E x (.slice (some ad) n cap)) (hi : Ev E i (.int k m)) (h : m < n) :
    Y P H E (Oper.mk d (.indexAddr t x i) ty pos aft g) (.pointer (some (ad.add (m * s)))) := y_indexA (m := (m : Int)) hx hi ⟨by omega, by omega⟩
theorem y_indexArr {x i : Operand} {t len e s b o : Nat} {k : IntKind} {m : Int} [ht : TArr P t len e s] (hx : Ev E x (.pointer (some ⟨b, o, none⟩))) (hi : Ev E i (.int k m)) (h : 0 ≤ m ∧ m < len) :
    Y P H E (Oper.mk d (.indexAddr t x i) ty pos aft g) (.pointer (some ⟨b, o + m.toNat * s, none⟩)) := fun N a w hf _ => by
  unfold execOp
  have hz := ht.i
  cases hq : P.info? e with
  | none => simp [hq] at hz
  | some ie =>
    have hs : ie.size = s := by simpa [hq] using hz
    simp [hx N a hf, hi N a hf, Instr.indexAt, Instr.sureAddr, run_underlying ht.u, asIntOf, h.1, h.2, sizeOf, typeInfo, hq, hs, add_mid]
/-- a[:] of an array. -/
theorem y_sliceArr {x : Operand} {t len e s : Nat} {ad : Addr} [ht : TArr P t len e s] (hx : Ev E x (.pointer (some ad))) :
    Y P H E (Oper.mk d (.slice t x none none none) ty pos aft g) (.slice (some ad) len len) := fun N a w hf _ => by
  unfold execOp
  have hz := ht.i
  cases hq : P.info? e with
  | none => simp [hq] at hz
  | some ie => simp [hx N a hf, Instr.sliceAt, Instr.sureAddr, run_underlying ht.u, Instr.sliceBounds, sizeOf, typeInfo, hq, Addr.add]
/-- s[lo:hi] and its kin. -/
theorem y_sliceLo {x lo : Operand} {t e s by' : Nat} {z : Value} {A : Option Addr} {n cap : Nat} {k : IntKind} {m : Nat} [ht : TSlice P t e s by' z] (hx : Ev E x (.slice A n cap)) (hl : Ev E lo (.int k m)) (h : m ≤ n) :
    Y P H E (Oper.mk d (.slice t x (some lo) none none) ty pos aft g) (.slice (if cap = m then A else A.map (·.add (m * s))) (n - m) (cap - m)) := fun N a w hf _ => by
  unfold execOp
  have hz := ht.i
  cases hq : P.info? e with
  | none => simp [hq] at hz
  | some ie =>
    have hs : ie.size = s := by simp [hq] at hz; exact hz.2.1
    simp [hx N a hf, hl N a hf, Instr.sliceAt, Instr.slice, run_underlying ht.u, Instr.sliceBounds, Instr.sliceBound, asIntOf, sizeOf, typeInfo, hq, hs, h]
theorem y_sliceHi {x hi : Operand} {t e s by' : Nat} {z : Value} {A : Option Addr} {n cap : Nat} {k : IntKind} {m : Nat} [ht : TSlice P t e s by' z] (hx : Ev E x (.slice A n cap)) (hl : Ev E hi (.int k m)) (h : m ≤ cap) :
    Y P H E (Oper.mk d (.slice t x none (some hi) none) ty pos aft g) (.slice A m cap) := fun N a w hf _ => by
  unfold execOp
  have hz := ht.i
  cases hq : P.info? e with
  | none => simp [hq] at hz
  | some ie =>
    have hs : ie.size = s := by simp [hq] at hz; exact hz.2.1
    have e0 : (A.map fun x => x.add (0 * s)) = A := by cases A <;> simp [Addr.add]
    simp [hx N a hf, hl N a hf, Instr.sliceAt, Instr.slice, run_underlying ht.u, Instr.sliceBounds, Instr.sliceBound, asIntOf, sizeOf, typeInfo, hq, h]
    cases A <;> simp [Addr.add]
theorem y_sliceStr {x lo hi : Operand} {t : Nat} {l : List UInt8} {k k' : IntKind} {m n : Nat} [ht : TStr P t] (hx : Ev E x (str l)) (hl : Ev E lo (.int k m)) (hh : Ev E hi (.int k' n)) (h : m ≤ n ∧ n ≤ l.length) :
    Y P H E (Oper.mk d (.slice t x (some lo) (some hi) none) ty pos aft g) (str ((l.take n).drop m)) := fun N a w hf _ => by
  unfold execOp
  have e : (ByteArray.mk l.toArray).extract m n = ⟨((l.take n).drop m).toArray⟩ := by
    apply ByteArray.ext
    simp [List.extract_eq_take_drop, List.drop_take]
  simp [hx N a hf, hl N a hf, hh N a hf, str, Instr.sliceAt, Instr.slice, run_underlying ht.u, Instr.sliceBounds, Instr.sliceBound, asIntOf, h.1, h.2, str_size, e]
theorem y_sliceStrLo {x lo : Operand} {t : Nat} {l : List UInt8} {k : IntKind} {m : Nat} [ht : TStr P t] (hx : Ev E x (str l)) (hl : Ev E lo (.int k m)) (h : m ≤ l.length) :
    Y P H E (Oper.mk d (.slice t x (some lo) none none) ty pos aft g) (str (l.drop m)) := fun N a w hf _ => by
  unfold execOp
  have e : (ByteArray.mk l.toArray).extract m l.length = ⟨(l.drop m).toArray⟩ := by
    apply ByteArray.ext
    simp [List.extract_eq_take_drop]
    rw [List.take_of_length_le (by simp)]
  simp [hx N a hf, hl N a hf, str, Instr.sliceAt, Instr.slice, run_underlying ht.u, Instr.sliceBounds, Instr.sliceBound, asIntOf, h, str_size, e]
theorem y_sliceStrHi {x hi : Operand} {t : Nat} {l : List UInt8} {k : IntKind} {n : Nat} [ht : TStr P t] (hx : Ev E x (str l)) (hh : Ev E hi (.int k n)) (h : n ≤ l.length) :
    Y P H E (Oper.mk d (.slice t x none (some hi) none) ty pos aft g) (str (l.take n)) := fun N a w hf _ => by
  unfold execOp
  have e : (ByteArray.mk l.toArray).extract 0 n = ⟨(l.take n).toArray⟩ := by
    apply ByteArray.ext
    simp [List.extract_eq_take_drop]
  simp [hx N a hf, hh N a hf, str, Instr.sliceAt, Instr.slice, run_underlying ht.u, Instr.sliceBounds, Instr.sliceBound, asIntOf, h, str_size, e]

/-! Loads -/
theorem y_load {x : Operand} {t : Nat} {z v : Value} {ad : Addr} [ht : TOne P t z] (hx : Ev E x (.pointer (some ad))) (hc : HasCell H ad v) : Y P H E (Oper.mk d (.load t x) ty pos aft g) v := fun N a w hf hw => by
  unfold execOp
  have hu := ht.u
  cases hd : P.underlying t with
  | none => simp [hd] at hu
  | some ds =>
    have ha : (isAgg t).run P w = .ok false w := by
      unfold isAgg
      rw [Sem.run_bind, run_underlying hd w]
      rw [hd] at hu
      cases ds <;> simp_all [TypeDesc.isRow]
    have hc' := hc w hw
    simp [hx N a hf, Instr.loadAt, Instr.sureAddr, loadVar, ha, load, Sem.run, hc']
theorem y_loadN {x : Operand} {t n : Nat} {cs : List Value} {ad : Addr} [ht : TRow P t n] (hx : Ev E x (.pointer (some ad))) (hc : HasCells H ad cs) (hn : cs.length = n) : Y P H E (Oper.mk d (.load t x) ty pos aft g) (.agg cs.toArray) := fun N a w hf hw => by
  unfold execOp
  have hu := ht.u
  have hi := ht.i
  cases hd : P.underlying t with
  | none => simp [hd] at hu
  | some ds =>
    have ha : (isAgg t).run P w = .ok true w := by
      unfold isAgg
      rw [Sem.run_bind, run_underlying hd w]
      rw [hd] at hu
      cases ds <;> simp_all [TypeDesc.isRow]
    cases hq : P.info? t with
    | none => simp [hq] at hi
    | some i =>
      have hs : i.size = n := by simpa [hq] using hi
      have hl := run_loadCells_list (P := P) w ad cs (fun j u e => hc j u e w hw)
      rw [hn] at hl
      simp [hx N a hf, Instr.loadAt, Instr.sureAddr, loadVar, ha, sizeOf, typeInfo, hq, hs, hl]

/-! Lengths, conversions -/
theorem y_lenSlice {x : Operand} {t e s by' : Nat} {z : Value} {A : Option Addr} {n cap : Nat} [ht : TSlice P t e s by' z] (hx : Ev E x (.slice A n cap)) :
    Y P H E (Oper.mk d (.call { callee := .builtin .len, args := #[x], argTypes := #[t] }) ty pos aft g) (.int .i64 n) := fun N a w hf _ => by
  unfold execOp; simp [hx N a hf, resolve, invoke, builtin, Builtin.len_, run_underlying ht.u, goInt]
theorem y_lenStr {x : Operand} {t : Nat} {l : List UInt8} [ht : TStr P t] (hx : Ev E x (str l)) :
    Y P H E (Oper.mk d (.call { callee := .builtin .len, args := #[x], argTypes := #[t] }) ty pos aft g) (.int .i64 l.length) := fun N a w hf _ => by
  unfold execOp; simp [hx N a hf, str, resolve, invoke, builtin, Builtin.len_, run_underlying ht.u, goInt, str_size]
theorem y_min {x y : Operand} {t t' : Nat} {k : IntKind} {m n : Int} (hx : Ev E x (.int k m)) (hy : Ev E y (.int k n)) :
    Y P H E (Oper.mk d (.call { callee := .builtin .min, args := #[x, y], argTypes := #[t, t'] }) ty pos aft g) (.int k (min m n)) := fun N a w hf _ => by
  have e : (if n < m then n else m) = min m n := by split <;> omega
  unfold execOp; simp [hx N a hf, hy N a hf, resolve, invoke, builtin, Builtin.min_, Builtin.min2, e]
theorem y_max {x y : Operand} {t t' : Nat} {k : IntKind} {m n : Int} (hx : Ev E x (.int k m)) (hy : Ev E y (.int k n)) :
    Y P H E (Oper.mk d (.call { callee := .builtin .max, args := #[x, y], argTypes := #[t, t'] }) ty pos aft g) (.int k (max m n)) := fun N a w hf _ => by
  have e : (if m < n then n else m) = max m n := by split <;> omega
  unfold execOp; simp [hx N a hf, hy N a hf, resolve, invoke, builtin, Builtin.max_, Builtin.max2, e]
theorem push_all : ∀ (l : List UInt8) (s : ByteArray), (l.map fun b => (b.toNat : Int)).foldl (fun r n => r.push (UInt8.ofNat n.toNat)) s = ⟨(s.data.toList ++ l).toArray⟩
  | [], s => by apply ByteArray.ext; simp
  | b :: l, s => by
    rw [List.map_cons, List.foldl_cons, push_all l]
    apply ByteArray.ext
    simp
theorem y_toStr {x : Operand} {t t' e s by' : Nat} {z v : Value} {l : List UInt8} [ht : TSlice P t e s by' z] [he : TInt P e .u8] [hs : TStr P t'] (hx : Ev E x v) (hr : ∀ w, H w → Reads w v l.length 1 (bvs l)) :
    Y P H E (Oper.mk d (.convert t t' x) ty pos aft g) (str l) := fun N a w hf hw => by
  unfold execOp
  rcases (hr w hw).2 with ⟨rfl, h0⟩ | ⟨ad, cap, rfl, h1, h2, h3⟩
  · have : l = [] := List.eq_nil_of_length_eq_zero h0
    subst this
    simp [hx N a hf, run_convert_bytes_string w t t' e none 0 0 ht.u he.u hs.u, Conv.bytesToString, str]
    rfl
  · have e1 : bvs l = (l.map fun b => (b.toNat : Int)).map (Value.int .u8) := by simp [bvs, bv]
    have hl := run_loadCells_list (P := P) w ad (bvs l) h3
    have hlen : (bvs l).length = l.length := by simp [bvs]
    rw [hlen, e1] at hl
    have h4 := run_bytesToString (P := P) w ad l.length cap _ hl
    rw [push_all] at h4
    simp [hx N a hf, run_convert_bytes_string w t t' e (some ad) l.length cap ht.u he.u hs.u, h4, str]
end

/-! What acts -/
section
variable {P : Program} {N : Nat} {c : Con} {E : Env} {L L' : List HP} {d : Option Nat} {ty : TypeId} {pos : String} {aft : Array Edge} {g : Option (Nat × Bool)}
theorem ow_store {x y : Operand} {t T b o : Nat} {z v : Value} {cs : List Value} [ht : TOne P t z] (hx : Ev E x (.pointer (some ⟨b, o, none⟩))) (hy : Ev E y v) (hv : v.oneCell' = true)
    (hu : Upd L b T cs (cs.set o v) L') (ho : o < cs.length) : OW P N c E L (Oper.mk d (.store t x y) ty pos aft g) (fun _ : Unit => undef) fun _ => L' := fun Q K a w hf H hk => by
  have hi := ht.i
  have hb := hu.has w H
  have hc : w.cell? ⟨b, o, none⟩ = some cs[o] := by rw [cell_of_row w b o _ _ _ hb]; simp [ho]
  have hfz := frozen_of_row w b o _ _ hb
  have hcl : v.cells = #[v] := by cases v <;> first | rfl | cases hv
  unfold Oper.wp execOp
  cases hq : P.info? t with
  | none => simp [hq] at hi
  | some i =>
    have hs : i.size = 1 := by simp [hq] at hi; exact hi.2
    have hst := run_storeCells_at P b o T [v] 0 cs.toArray w hb (by simp; omega) (by intro u hu; simp at hu; subst hu; exact hv)
    have e : (cs.toArray.toList.take (o + 0) ++ [v] ++ cs.toArray.toList.drop (o + 0 + [v].length)).toArray = (cs.set o v).toArray := by
      simp [List.set_eq_take_append_cons_drop, ho]
    rw [e] at hst
    simp only [hx N a hf, hy N a hf, Instr.storeAt, Instr.sureAddr, storeVar, sizeOf, typeInfo, hcl, Sem.run_bind, Sem.run_pure, Result.andThen_ok]
    simp [hq, hs, hst]
    exact hk () _ (hu.row H)
theorem ow_storeN {x y : Operand} {t n T b o : Nat} {cs vs : List Value} [ht : TRow P t n] (hx : Ev E x (.pointer (some ⟨b, o, none⟩))) (hy : Ev E y (.agg vs.toArray)) (hv : ∀ v ∈ vs, v.oneCell' = true) (hn : vs.length = n)
    (hu : Upd L b T cs (splice cs o vs) L') (ho : o + vs.length ≤ cs.length) : OW P N c E L (Oper.mk d (.store t x y) ty pos aft g) (fun _ : Unit => undef) fun _ => L' := fun Q K a w hf H hk => by
  have hb := hu.has w H
  have hr := store_row (P := P) w b o t vs.toArray cs.toArray T hb (by simpa using ho) (by rw [ht.i]; simp [hn]) (all_oneCell_toArray hv)
  unfold Oper.wp execOp
  simp only [hx N a hf, hy N a hf, Sem.run_bind, hr, Result.andThen_ok, Sem.run_pure]
  exact hk () _ (hu.row H)
theorem ow_storeAll {x y : Operand} {t n T b : Nat} {cs vs : List Value} [ht : TRow P t n] (hx : Ev E x (.pointer (some ⟨b, 0, none⟩))) (hy : Ev E y (.agg vs.toArray)) (hv : ∀ v ∈ vs, v.oneCell' = true) (hn : vs.length = n)
    (hu : Upd L b T cs vs L') (ho : cs.length = n) : OW P N c E L (Oper.mk d (.store t x y) ty pos aft g) (fun _ : Unit => undef) fun _ => L' :=
  ow_storeN hx hy hv hn (by
    have e : splice cs 0 vs = vs := splice_whole _ _ (by omega)
    rw [e]; exact hu) (by omega)
theorem ow_allocN {t : Nat} {z : List Value} [ht : TZero P t z] : OW P N c E L (Oper.mk d (.alloc t) ty pos aft g) (fun b => .pointer (some ⟨b, 0, none⟩)) fun b => Bl b t z :: L := fun Q K a w hf H hk => by
  have hi := ht.i
  have _ := hf
  cases hq : P.info? t with
  | none => simp [hq] at hi
  | some i =>
    have hr := alloc_new (P := P) (t := t) (z := z.toArray) (n := i.size) (by rw [hq] at hi ⊢; simp at hi ⊢; exact hi) w
    unfold Oper.wp execOp
    simp only [Sem.run_bind, hr, Result.andThen_ok, Sem.run_pure]
    exact hk _ _ (H.allocPt _)
theorem ow_alloc1 {t : Nat} {z : Value} [ht : TOne P t z] : OW P N c E L (Oper.mk d (.alloc t) ty pos aft g) (fun b => .pointer (some ⟨b, 0, none⟩)) fun b => Bl b t [z] :: L := fun Q K a w hf H hk => by
  have hi := ht.i
  have _ := hf
  cases hq : P.info? t with
  | none => simp [hq] at hi
  | some i =>
    have hz : i.zero = some z := by simp [hq] at hi; exact hi.1
    unfold Oper.wp execOp
    simp [Instr.alloc, zeroValue, typeInfo, hq, hz, newVar, ht.one, newRow]
    exact hk _ _ (H.allocPt _)
theorem ow_box {x : Operand} {t : Nat} {v : Value} {cs : List Value} (hx : Ev E x v) (hv : v.cells = cs.toArray) : OW P N c E L (Oper.mk d (.box t x) ty pos aft g) (fun b => .pointer (some ⟨b, 0, none⟩)) fun b => Bl b t cs :: L := fun Q K a w hf H hk => by
  unfold Oper.wp execOp
  simp [hx N a hf, Instr.box, newVar, hv, newRow]
  exact hk _ _ (H.allocPt _)
theorem ow_box1 {x : Operand} {t : Nat} {v : Value} (hx : Ev E x v) (hv : v.oneCell' = true) : OW P N c E L (Oper.mk d (.box t x) ty pos aft g) (fun b => .pointer (some ⟨b, 0, none⟩)) fun b => Bl b t [v] :: L :=
  ow_box hx (by cases v <;> first | rfl | cases hv)
theorem ow_boxAgg {x : Operand} {t : Nat} {cs : List Value} (hx : Ev E x (.agg cs.toArray)) : OW P N c E L (Oper.mk d (.box t x) ty pos aft g) (fun b => .pointer (some ⟨b, 0, none⟩)) fun b => Bl b t cs :: L :=
  ow_box hx rfl
theorem ow_storeE {x y : Operand} {t n T b o : Nat} {cs vs cs' : List Value} [ht : TRow P t n] (hx : Ev E x (.pointer (some ⟨b, o, none⟩))) (hy : Ev E y (.agg vs.toArray)) (hv : ∀ v ∈ vs, v.oneCell' = true) (hn : vs.length = n) (he : splice cs o vs = cs')
    (hu : Upd L b T cs cs' L') (ho : o + vs.length ≤ cs.length) : OW P N c E L (Oper.mk d (.store t x y) ty pos aft g) (fun _ : Unit => undef) fun _ => L' := by
  subst he; exact ow_storeN hx hy hv hn hu ho
/-- A call of a function of the program. -/
def entersB (P : Program) (f : FuncId) : Bool := match P.funcs[f]? with
  | some fn => fn.name != "runtime.NumGoroutine" && fn.body.isSome
  | none => false
theorem run_enters {f : FuncId} (h : entersB P f = true) (args : Array Value) (w : World) : (callFunc f args).run P w = .ok (.enter f args) w := by
  unfold entersB at h
  unfold callFunc
  cases hf : P.funcs[f]? with
  | none => rw [hf] at h; cases h
  | some fn =>
    rw [hf] at h
    simp only [Bool.and_eq_true, bne_iff_ne, ne_eq] at h
    have hb : fn.body.isNone = false := by cases hb : fn.body <;> simp_all
    have e : fn.body ≠ none := fun e => by rw [e] at hb; cases hb
    simp [program, Sem.run, hf, h.1, e]
theorem ow_call {β : Type} {r : β → Value} {L' : β → List HP} {f : FuncId} {fo : Operand} {xs : Array Operand} {ts : Array TypeId} {vs caps : List Value} (hf : Ev E fo (.func (.func f) #[] caps.toArray)) (hx : Evs E xs vs) (he : entersB P f = true)
    (pre : ∀ w, St c L w → Calls P f (vs ++ caps).toArray w fun e w' => ∃ x, e = .returned (r x) ∧ St c (L' x) w') :
    OW P N c E L (Oper.mk d (.call { callee := .value fo, args := xs, argTypes := ts }) ty pos aft g) r L' := fun Q K a w hfr H hk => by
  unfold Oper.wp execOp
  have e0 : (vs.toArray ++ caps.toArray) = (vs ++ caps).toArray := by simp
  simp only [resolve, hf N a hfr, hx N a hfr, Deferred.ofValue, Sem.run_bind, Sem.run_pure, Result.andThen_ok, invoke, Array.empty_append, e0, run_enters he, Oper.upon_enter]
  refine (pre w H).mono fun e w' h => ?_
  obtain ⟨x, rfl, H'⟩ := h
  exact hk x w' H'
theorem ow_call0 {r : Value} {f : FuncId} {xs : Array Operand} {ts : Array TypeId} {vs : List Value} (hx : Evs E xs vs) (he : entersB P f = true)
    (pre : ∀ w, St c L w → Calls P f vs.toArray w fun e w' => e = .returned r ∧ St c L' w') :
    OW P N c E L (Oper.mk d (.call { callee := .value (.func f), args := xs, argTypes := ts }) ty pos aft g) (fun _ : Unit => r) fun _ => L' :=
  ow_call (caps := []) ev_func hx he fun w H => by
    rw [List.append_nil]
    exact (pre w H).mono fun e w' h => ⟨(), h⟩
theorem ow_callx {β : Type} {r : β → Value} {L' : β → List HP} {f : FuncId} {xs : Array Operand} {ts : Array TypeId} {vs : List Value} (hx : Evs E xs vs) (he : entersB P f = true)
    (pre : ∀ w, St c L w → Calls P f vs.toArray w fun e w' => ∃ x, e = .returned (r x) ∧ St c (L' x) w') :
    OW P N c E L (Oper.mk d (.call { callee := .value (.func f), args := xs, argTypes := ts }) ty pos aft g) r L' :=
  ow_call (caps := []) ev_func hx he fun w H => by
    rw [List.append_nil]
    exact pre w H
/-- append onto a slice of one's own. -/
theorem ow_append {F : List HP} {s x : Operand} {t tx e size bytes n m k cap : Nat} {z v : Value} {A : Option Addr} {xs news ys : List Value} [ht : TSlice P t e size bytes z] (hs : Ev E s (.slice A n cap)) (hx : Ev E x v)
    (hsrc : ∀ w, St c L w → Src P size tx v m news w) (hk : n + m = k) (he : xs ++ news = ys) (hb : k ≤ 9223372036854775807 ∧ k * bytes ≤ 140737488355328) (hp : Pick L (OwnP e size (.slice A n cap) n xs) F) :
    OW P N c E L (Oper.mk d (.call { callee := .builtin .append, args := #[s, x], argTypes := #[t, tx] }) ty pos aft g) (fun q : Option Addr × Nat => .slice q.1 k q.2) fun q => OwnP e size (.slice q.1 k q.2) k ys :: F := fun Q K a w hf H hh => by
  subst hk he
  have hi := ht.i
  cases hq : P.info? e with
  | none => simp [hq] at hi
  | some ie =>
    simp only [hq, Option.map_some, Option.some.injEq, Prod.mk.injEq] at hi
    obtain ⟨A', cap', w', hr, h2⟩ := (hp.st H).appendS (P := P) (t := t) (tx := tx) (ty := ty) (i := ie) ht.u hq hi.1 hi.2.1 hi.2.2 ht.zs (hsrc w H) (by simpa [maxLen] using hb.1) hb.2
    unfold Oper.wp execOp
    simp only [resolve, invoke, builtin, Sem.run_bind, Sem.run_pure, Result.andThen_ok, List.map_toArray, List.map_cons, List.map_nil, hs N a hf, hx N a hf, hr]
    exact hh (A', cap') w' h2
theorem src_reads {tx e' size m : Nat} {v : Value} {news : List Value} {w : World} (ht : P.underlying tx = some (.slice e')) (h : Reads w v m size news) (h1 : ∀ u ∈ news, u.oneCell' = true) : Src P size tx v m news w := by
  rcases h.2 with ⟨rfl, rfl⟩ | ⟨ad, cap, rfl, _, _, h3⟩
  · have : news = [] := List.eq_nil_of_length_eq_zero (by rw [h.1]; simp)
    subst this
    exact Src.ofNil w ht 0
  · exact Src.ofSlice w ht ad m cap news h.1 h3 h1
theorem reads_has {H : World → Prop} {ad : Addr} {n cap size : Nat} {cs : List Value} (hc : HasCells H ad cs) (hl : cs.length = n * size) (h1 : n ≤ cap) (h2 : cap ≤ 9223372036854775807) : ∀ w, H w → Reads w (.slice (some ad) n cap) n size cs :=
  fun w hw => ⟨hl, .inr ⟨ad, cap, rfl, h1, h2, fun j u e => hc j u e w hw⟩⟩
theorem reads_len {v : Value} {l : List UInt8} {n : Nat} (hn : l.length = n) {H : World → Prop} (h : ∀ w, H w → Reads w v n 1 (bvs l)) : ∀ w, H w → Reads w v l.length 1 (bvs l) := by subst hn; exact h
theorem src_has {H : World → Prop} {ad : Addr} {tx e' n cap size : Nat} {cs : List Value} (ht : P.underlying tx = some (.slice e')) (hc : HasCells H ad cs) (hl : cs.length = n * size) (h1 : n ≤ cap) (h2 : cap ≤ 9223372036854775807) (h3 : ∀ u ∈ cs, u.oneCell' = true) :
    ∀ w, H w → Src P size tx (.slice (some ad) n cap) n cs w := fun w hw => src_reads ht (reads_has hc hl h1 h2 w hw) h3
/-- copy of one-cell elements onto a part of a block, all of them. -/
theorem ow_copy {F : List HP} {x y : Operand} {t tx e size bytes b o dLen dCap n T : Nat} {z v : Value} {cur cs : List Value} [ht : TSlice P t e size bytes z] (hs1 : size = 1) (hx : Ev E x (.slice (some ⟨b, o, none⟩) dLen dCap)) (hy : Ev E y v)
    (hp : Pick L (Bl b T cur) F) (hr : ∀ w, St c L w → Reads w v n 1 cs) (hn : n ≤ dLen) (hfit : o + n ≤ cur.length) (h1 : ∀ u ∈ cs, u.oneCell' = true) {cur' : List Value} (he : splice cur o cs = cur') :
    OW P N c E L (Oper.mk d (.call { callee := .builtin .copy, args := #[x, y], argTypes := #[t, tx] }) ty pos aft g) (fun _ : Unit => .int .i64 n) fun _ => Bl b T cur' :: F := fun Q K a w hf H hk => by
  subst he
  have hi := ht.i
  refine op_copy (P := P) (hp.st H) x y t tx rfl e dLen dCap n v cs (hx N a hf) (hy N a hf) (hr w H) ht.u ?_ hn (by simpa using hfit) h1 fun W H' => hk () W ?_
  · cases hq : P.info? e with
    | none => simp [hq] at hi
    | some ie => simp [hq] at hi ⊢; rw [hi.2.1, hs1]
  · exact H'
end
end Go.Proofs.Ytakeilefbcpabaa
