/- The operations, by what is known of their operands. No program in sight. -/
import Derived.Test.YtakeilefbcpabaaEb
import Derived.Test.YtakeilefbcpabaaBy
namespace Go.Proofs.Ytakeilefbcpabaa
open Go.RowKit

/-! ### What is known of types (laid by program for each seat) -/
class TInt (P : Program) (t : TypeId) (k : outParam IntKind) : Prop where
  u : P.underlying t = some (.int k)
class TBool (P : Program) (t : TypeId) : Prop where
  u : P.underlying t = some .bool
class TStr (P : Program) (t : TypeId) : Prop where
  u : P.underlying t = some .string
class TPtr (P : Program) (t : TypeId) (e : outParam TypeId) : Prop where
  u : P.underlying t = some (.pointer e)
/-- A type of one cell. -/
class TOne (P : Program) (t : TypeId) (z : outParam Value) : Prop where
  u : (P.underlying t).map (·.isRow) = some false
  i : (P.info? t).map (fun i => (i.zero, i.size)) = some (some z, 1)
  one : z.cells = #[z]
/-- A struct or an array. -/
class TRow (P : Program) (t : TypeId) (n : outParam Nat) : Prop where
  u : (P.underlying t).map (·.isRow) = some true
  i : (P.info? t).map (·.size) = some n
class TZero (P : Program) (t : TypeId) (z : outParam (List Value)) : Prop where
  i : (P.info? t).map (fun i => i.zero) = some (some (.agg z.toArray))
class TSlice (P : Program) (t : TypeId) (e n bytes : outParam Nat) (z : outParam Value) : Prop where
  u : P.underlying t = some (.slice e)
  i : (P.info? e).map (fun i => (i.zero, i.size, i.bytes)) = some (some z, n, bytes)
  zs : z.cells.size = n
def zeroOf (P : Program) (t : TypeId) : Value := ((P.info? t).bind (·.zero)).getD undef
class TArr (P : Program) (t : TypeId) (len e n : outParam Nat) : Prop where
  u : P.underlying t = some (.array len e)
  i : (P.info? e).map (·.size) = some n
class TField (P : Program) (s f : Nat) (off n : outParam Nat) : Prop where
  u : ∃ fs fd, P.underlying s = some (.struct fs) ∧ fs[f]? = some fd ∧ fd.offset = off ∧ (P.info? fd.type).map (·.size) = some n ∧ n ≠ 0

theorem run_size {P : Program} {t n : Nat} (h : (P.info? t).map (·.size) = some n) (w : World) : Sem.run P (sizeOf t) w = .ok n w := by
  cases hq : P.info? t with
  | none => simp [hq] at h
  | some i => simp [sizeOf, typeInfo, program, Sem.run, hq] at h ⊢; exact h
class TPlaces (P : Program) (t : TypeId) (ps : outParam (List (Nat × Nat))) (z : outParam (List Value)) : Prop where
  u : ∃ fs, P.underlying t = some (.struct fs) ∧ ∀ w, Sem.run P (fs.mapM fun (f : Field) => do pure (f.offset, ← sizeOf f.type)) w = .ok ps.toArray w
  i : (P.info? t).map (·.zero) = some (some (.agg z.toArray))
/-- A string by its bytes. -/
def str (l : List UInt8) : Value := .string ⟨l.toArray⟩

section
variable {P : Program} {H : World → Prop} {E : Env} {d : Option Nat} {ty : TypeId} {pos : String} {aft : Array Edge} {g : Option (Nat × Bool)}

theorem y_move {x : Operand} {v : Value} (hx : Ev E x v) : Y P H E (Oper.mk d (.move x) ty pos aft g) v := fun N a w hf _ => by
  unfold execOp; simp [hx N a hf]
theorem y_assign {x : Operand} {v : Value} (hx : Ev E x v) : Y P H E (Oper.mk d (.assign x) ty pos aft g) v := fun N a w hf _ => by
  unfold execOp; simp [hx N a hf]
theorem y_nilCheck {x : Operand} {p : Addr} (hx : Ev E x (.pointer (some p))) : Y P H E (Oper.mk d (.nilCheck x) ty pos aft g) (.pointer (some p)) := fun N a w hf _ => by
  unfold execOp; simp [hx N a hf]
theorem y_extract {x : Operand} {i : Nat} {vs : Array Value} {v : Value} (hx : Ev E x (.tuple vs)) (hv : vs[i]? = some v) : Y P H E (Oper.mk d (.extract x i) ty pos aft g) v := fun N a w hf _ => by
  unfold execOp; simp [hx N a hf, Instr.extract, hv]
theorem y_ext20 {x : Operand} {v0 v1 : Value} (hx : Ev E x (.tuple #[v0, v1])) : Y P H E (Oper.mk d (.extract x 0) ty pos aft g) v0 := y_extract hx rfl
theorem y_ext21 {x : Operand} {v0 v1 : Value} (hx : Ev E x (.tuple #[v0, v1])) : Y P H E (Oper.mk d (.extract x 1) ty pos aft g) v1 := y_extract hx rfl
theorem y_ext30 {x : Operand} {v0 v1 v2 : Value} (hx : Ev E x (.tuple #[v0, v1, v2])) : Y P H E (Oper.mk d (.extract x 0) ty pos aft g) v0 := y_extract hx rfl
theorem y_ext31 {x : Operand} {v0 v1 v2 : Value} (hx : Ev E x (.tuple #[v0, v1, v2])) : Y P H E (Oper.mk d (.extract x 1) ty pos aft g) v1 := y_extract hx rfl
theorem y_ext32 {x : Operand} {v0 v1 v2 : Value} (hx : Ev E x (.tuple #[v0, v1, v2])) : Y P H E (Oper.mk d (.extract x 2) ty pos aft g) v2 := y_extract hx rfl
theorem y_ext40 {x : Operand} {v0 v1 v2 v3 : Value} (hx : Ev E x (.tuple #[v0, v1, v2, v3])) : Y P H E (Oper.mk d (.extract x 0) ty pos aft g) v0 := y_extract hx rfl
theorem y_ext41 {x : Operand} {v0 v1 v2 v3 : Value} (hx : Ev E x (.tuple #[v0, v1, v2, v3])) : Y P H E (Oper.mk d (.extract x 1) ty pos aft g) v1 := y_extract hx rfl
theorem y_ext42 {x : Operand} {v0 v1 v2 v3 : Value} (hx : Ev E x (.tuple #[v0, v1, v2, v3])) : Y P H E (Oper.mk d (.extract x 2) ty pos aft g) v2 := y_extract hx rfl
theorem y_ext43 {x : Operand} {v0 v1 v2 v3 : Value} (hx : Ev E x (.tuple #[v0, v1, v2, v3])) : Y P H E (Oper.mk d (.extract x 3) ty pos aft g) v3 := y_extract hx rfl
theorem y_pick_t {x y z : Operand} {v : Value} (hx : Ev E x (.bool true)) (hy : Ev E y v) : Y P H E (Oper.mk d (.pick x y z) ty pos aft g) v := fun N a w hf _ => by
  unfold execOp; simp [hx N a hf, hy N a hf, asBool]
theorem y_pick_f {x y z : Operand} {v : Value} (hx : Ev E x (.bool false)) (hz : Ev E z v) : Y P H E (Oper.mk d (.pick x y z) ty pos aft g) v := fun N a w hf _ => by
  unfold execOp; simp [hx N a hf, hz N a hf, asBool]
theorem y_not {x : Operand} {t : TypeId} {p : Prop} [Decidable p] (hx : Ev E x (.bool (decide p))) : Y P H E (Oper.mk d (.unOp .not t x) ty pos aft g) (.bool (decide (¬ p))) := fun N a w hf _ => by
  unfold execOp; simp [hx N a hf, Op.unary]
theorem y_not_b {x : Operand} {t : TypeId} {b b' : Bool} (hx : Ev E x (.bool b)) (hb : (!b) = b') : Y P H E (Oper.mk d (.unOp .not t x) ty pos aft g) (.bool b') := fun N a w hf _ => by
  subst hb; unfold execOp; simp [hx N a hf, Op.unary]
theorem y_not_t {x : Operand} {t : TypeId} (hx : Ev E x (.bool true)) : Y P H E (Oper.mk d (.unOp .not t x) ty pos aft g) (.bool false) := y_not_b hx rfl
theorem y_not_f {x : Operand} {t : TypeId} (hx : Ev E x (.bool false)) : Y P H E (Oper.mk d (.unOp .not t x) ty pos aft g) (.bool true) := y_not_b hx rfl
theorem y_makeFunc {fn : Fn} {xs : Array Operand} {vs : List Value} (hx : Evs E xs vs) : Y P H E (Oper.mk d (.makeFunc fn #[] xs) ty pos aft g) (.func fn #[] vs.toArray) := fun N a w hf _ => by
  unfold execOp; simp [hx N a hf, Instr.makeFunc]

/-! Integers -/
theorem y_add64 {x y : Operand} {t t' : TypeId} {m n : Int} (hx : Ev E x (.int .i64 m)) (hy : Ev E y (.int .i64 n)) (h : -9223372036854775808 ≤ m + n ∧ m + n ≤ 9223372036854775807) :
    Y P H E (Oper.mk d (.binOp .add t x y t') ty pos aft g) (.int .i64 (m + n)) := fun N a w hf _ => by
  unfold execOp; simp [hx N a hf, hy N a hf, eqGuard, binOp, Op.intArith, IntWalk.i64_in (m + n) h]
theorem y_sub64 {x y : Operand} {t t' : TypeId} {m n : Int} (hx : Ev E x (.int .i64 m)) (hy : Ev E y (.int .i64 n)) (h : -9223372036854775808 ≤ m - n ∧ m - n ≤ 9223372036854775807) :
    Y P H E (Oper.mk d (.binOp .sub t x y t') ty pos aft g) (.int .i64 (m - n)) := fun N a w hf _ => by
  unfold execOp; simp [hx N a hf, hy N a hf, eqGuard, binOp, Op.intArith, IntWalk.i64_in (m - n) h]
theorem y_mul64 {x y : Operand} {t t' : TypeId} {m n : Int} (hx : Ev E x (.int .i64 m)) (hy : Ev E y (.int .i64 n)) (h : -9223372036854775808 ≤ m * n ∧ m * n ≤ 9223372036854775807) :
    Y P H E (Oper.mk d (.binOp .mul t x y t') ty pos aft g) (.int .i64 (m * n)) := fun N a w hf _ => by
  unfold execOp; simp [hx N a hf, hy N a hf, eqGuard, binOp, Op.intArith, IntWalk.i64_in (m * n) h]
theorem y_add {k : IntKind} {x y : Operand} {t t' : TypeId} {m n : Int} (hx : Ev E x (.int k m)) (hy : Ev E y (.int k n)) :
    Y P H E (Oper.mk d (.binOp .add t x y t') ty pos aft g) (.int k (k.wrap (m + n))) := fun N a w hf _ => by
  unfold execOp; simp [hx N a hf, hy N a hf, eqGuard, binOp, Op.intArith]
theorem y_sub {k : IntKind} {x y : Operand} {t t' : TypeId} {m n : Int} (hx : Ev E x (.int k m)) (hy : Ev E y (.int k n)) :
    Y P H E (Oper.mk d (.binOp .sub t x y t') ty pos aft g) (.int k (k.wrap (m - n))) := fun N a w hf _ => by
  unfold execOp; simp [hx N a hf, hy N a hf, eqGuard, binOp, Op.intArith]
theorem y_mul {k : IntKind} {x y : Operand} {t t' : TypeId} {m n : Int} (hx : Ev E x (.int k m)) (hy : Ev E y (.int k n)) :
    Y P H E (Oper.mk d (.binOp .mul t x y t') ty pos aft g) (.int k (k.wrap (m * n))) := fun N a w hf _ => by
  unfold execOp; simp [hx N a hf, hy N a hf, eqGuard, binOp, Op.intArith]
theorem y_quo64 {x y : Operand} {t t' : TypeId} {m n : Int} (hx : Ev E x (.int .i64 m)) (hy : Ev E y (.int .i64 n)) (h : 0 ≤ m ∧ m ≤ 9223372036854775807 ∧ 0 < n) :
    Y P H E (Oper.mk d (.binOp .quo t x y t') ty pos aft g) (.int .i64 (m / n)) := fun N a w hf _ => by
  have h1 : m.tdiv n = m / n := Int.tdiv_eq_ediv_of_nonneg h.1
  have h2 : 0 ≤ m / n := Int.ediv_nonneg h.1 (by omega)
  have h3 : m / n ≤ m := Int.ediv_le_self _ h.1
  have h0 : n ≠ 0 := by omega
  unfold execOp; simp [hx N a hf, hy N a hf, eqGuard, binOp, Op.intDiv, h0, h1, IntWalk.i64_in (m / n) ⟨by omega, by omega⟩]
theorem y_rem {k : IntKind} {x y : Operand} {t t' : TypeId} {m n : Int} (hx : Ev E x (.int k m)) (hy : Ev E y (.int k n)) (h : 0 ≤ m ∧ 0 < n) :
    Y P H E (Oper.mk d (.binOp .rem t x y t') ty pos aft g) (.int k (m % n)) := fun N a w hf _ => by
  have h1 : m.tmod n = m % n := Int.tmod_eq_emod_of_nonneg h.1
  have h0 : n ≠ 0 := by omega
  unfold execOp; simp [hx N a hf, hy N a hf, eqGuard, binOp, Op.intDiv, h0, h1]
theorem y_lss {k : IntKind} {x y : Operand} {t t' : TypeId} {m n : Int} (hx : Ev E x (.int k m)) (hy : Ev E y (.int k n)) :
    Y P H E (Oper.mk d (.binOp .lss t x y t') ty pos aft g) (.bool (decide (m < n))) := fun N a w hf _ => by
  unfold execOp; simp [hx N a hf, hy N a hf, eqGuard, binOp, Op.intCmp]
theorem y_leq {k : IntKind} {x y : Operand} {t t' : TypeId} {m n : Int} (hx : Ev E x (.int k m)) (hy : Ev E y (.int k n)) :
    Y P H E (Oper.mk d (.binOp .leq t x y t') ty pos aft g) (.bool (decide (m ≤ n))) := fun N a w hf _ => by
  unfold execOp; simp [hx N a hf, hy N a hf, eqGuard, binOp, Op.intCmp]
theorem y_gtr {k : IntKind} {x y : Operand} {t t' : TypeId} {m n : Int} (hx : Ev E x (.int k m)) (hy : Ev E y (.int k n)) :
    Y P H E (Oper.mk d (.binOp .gtr t x y t') ty pos aft g) (.bool (decide (n < m))) := fun N a w hf _ => by
  unfold execOp; simp [hx N a hf, hy N a hf, eqGuard, binOp, Op.intCmp]
theorem y_geq {k : IntKind} {x y : Operand} {t t' : TypeId} {m n : Int} (hx : Ev E x (.int k m)) (hy : Ev E y (.int k n)) :
    Y P H E (Oper.mk d (.binOp .geq t x y t') ty pos aft g) (.bool (decide (n ≤ m))) := fun N a w hf _ => by
  unfold execOp; simp [hx N a hf, hy N a hf, eqGuard, binOp, Op.intCmp]
theorem y_eql {k : IntKind} {x y : Operand} {t t' : TypeId} {m n : Int} (hx : Ev E x (.int k m)) (hy : Ev E y (.int k n)) :
    Y P H E (Oper.mk d (.binOp .eql t x y t') ty pos aft g) (.bool (decide (m = n))) := fun N a w hf _ => by
  unfold execOp; simp [hx N a hf, hy N a hf, eqGuard, binOp, Op.intCmp]; rfl
theorem y_neq {k : IntKind} {x y : Operand} {t t' : TypeId} {m n : Int} (hx : Ev E x (.int k m)) (hy : Ev E y (.int k n)) :
    Y P H E (Oper.mk d (.binOp .neq t x y t') ty pos aft g) (.bool (decide (m ≠ n))) := fun N a w hf _ => by
  unfold execOp; simp [hx N a hf, hy N a hf, eqGuard, binOp, Op.intCmp]; rfl
theorem y_shr {k k' : IntKind} {x y : Operand} {t t' : TypeId} {m n : Int} (hx : Ev E x (.int k m)) (hy : Ev E y (.int k' n)) (h : 0 ≤ n) (hn : n.toNat ≤ k.bits) :
    Y P H E (Oper.mk d (.binOp .shr t x y t') ty pos aft g) (.int k (m.fdiv (2 ^ n.toNat))) := fun N a w hf _ => by
  have h0 : ¬ n < 0 := by omega
  unfold execOp; simp [hx N a hf, hy N a hf, eqGuard, binOp, Op.shift, h0, Nat.min_eq_left hn]
theorem y_bits {k : IntKind} {x y : Operand} {t t' : TypeId} {m n : Int} {o : BinOp} (ho : o = .and ∨ o = .or ∨ o = .xor ∨ o = .andNot) (hx : Ev E x (.int k m)) (hy : Ev E y (.int k n)) :
    Y P H E (Oper.mk d (.binOp o t x y t') ty pos aft g) (.int k (bits o k m n)) := fun N a w hf _ => by
  rcases ho with rfl | rfl | rfl | rfl <;> (unfold execOp; simp [hx N a hf, hy N a hf, eqGuard, binOp, Op.intBits, bits])
theorem y_conv_int {x : Operand} {t t' : TypeId} {k k' : IntKind} {n : Int} [hs : TInt P t k'] [ht : TInt P t' k] (hx : Ev E x (.int k' n)) :
    Y P H E (Oper.mk d (.convert t t' x) ty pos aft g) (.int k (k.wrap n)) := fun N a w hf _ => by
  unfold execOp; simp [hx N a hf, convert, run_underlying ht.u, run_underlying hs.u, Conv.intToInt]

/-! Truth values, pointers, strings -/
theorem equal_bool {t : TypeId} (ht : P.underlying t = some .bool) (b b' : Bool) (w : World) : (Op.equal t (.bool b) (.bool b')).run P w = .ok (b == b') w := by
  unfold Op.equal Op.maxDepth
  rw [Op.equalIn]
  simp [Sem.run_bind, run_underlying ht]
theorem equal_nil {t e : TypeId} (ht : P.underlying t = some (.pointer e)) (p : Option Addr) (w : World) : (Op.equal t (.pointer p) (.pointer none)).run P w = .ok p.isNone w := by
  unfold Op.equal Op.maxDepth
  rw [Op.equalIn]
  cases p <;> simp [Sem.run_bind, run_underlying ht]
theorem y_eql_b {x y : Operand} {t t' : TypeId} {b b' : Bool} [ht : TBool P t] (hx : Ev E x (.bool b)) (hy : Ev E y (.bool b')) :
    Y P H E (Oper.mk d (.binOp .eql t x y t') ty pos aft g) (.bool (decide (b = b'))) := fun N a w hf _ => by
  unfold execOp; simp [hx N a hf, hy N a hf, eqGuard, binOp, equal_bool ht.u]; rfl
theorem y_neq_b {x y : Operand} {t t' : TypeId} {b b' : Bool} [ht : TBool P t] (hx : Ev E x (.bool b)) (hy : Ev E y (.bool b')) :
    Y P H E (Oper.mk d (.binOp .neq t x y t') ty pos aft g) (.bool (decide (b ≠ b'))) := fun N a w hf _ => by
  unfold execOp; simp [hx N a hf, hy N a hf, eqGuard, binOp, equal_bool ht.u]; cases b <;> cases b' <;> rfl
theorem y_eql_d {x y : Operand} {t t' : TypeId} {p q : Prop} [Decidable p] [Decidable q] [ht : TBool P t] (hx : Ev E x (.bool (decide p))) (hy : Ev E y (.bool (decide q))) :
    Y P H E (Oper.mk d (.binOp .eql t x y t') ty pos aft g) (.bool (decide (p ↔ q))) := by
  have e : decide (p ↔ q) = decide (decide p = decide q) := by by_cases p <;> by_cases q <;> simp_all
  rw [e]; exact y_eql_b hx hy
theorem y_neq_d {x y : Operand} {t t' : TypeId} {p q : Prop} [Decidable p] [Decidable q] [ht : TBool P t] (hx : Ev E x (.bool (decide p))) (hy : Ev E y (.bool (decide q))) :
    Y P H E (Oper.mk d (.binOp .neq t x y t') ty pos aft g) (.bool (decide (¬ (p ↔ q)))) := by
  have e : decide (¬ (p ↔ q)) = decide (decide p ≠ decide q) := by by_cases p <;> by_cases q <;> simp_all
  rw [e]; exact y_neq_b hx hy
theorem y_eql_some {x y : Operand} {t t' e : TypeId} {p : Addr} [ht : TPtr P t e] (hx : Ev E x (.pointer (some p))) (hy : Ev E y (.pointer none)) :
    Y P H E (Oper.mk d (.binOp .eql t x y t') ty pos aft g) (.bool false) := fun N a w hf _ => by
  unfold execOp; simp [hx N a hf, hy N a hf, eqGuard, binOp, equal_nil ht.u]
theorem y_neq_some {x y : Operand} {t t' e : TypeId} {p : Addr} [ht : TPtr P t e] (hx : Ev E x (.pointer (some p))) (hy : Ev E y (.pointer none)) :
    Y P H E (Oper.mk d (.binOp .neq t x y t') ty pos aft g) (.bool true) := fun N a w hf _ => by
  unfold execOp; simp [hx N a hf, hy N a hf, eqGuard, binOp, equal_nil ht.u]
theorem y_eql_none {x y : Operand} {t t' e : TypeId} [ht : TPtr P t e] (hx : Ev E x (.pointer none)) (hy : Ev E y (.pointer none)) :
    Y P H E (Oper.mk d (.binOp .eql t x y t') ty pos aft g) (.bool true) := fun N a w hf _ => by
  unfold execOp; simp [hx N a hf, hy N a hf, eqGuard, binOp, equal_nil ht.u]
theorem y_neq_none {x y : Operand} {t t' e : TypeId} [ht : TPtr P t e] (hx : Ev E x (.pointer none)) (hy : Ev E y (.pointer none)) :
    Y P H E (Oper.mk d (.binOp .neq t x y t') ty pos aft g) (.bool false) := fun N a w hf _ => by
  unfold execOp; simp [hx N a hf, hy N a hf, eqGuard, binOp, equal_nil ht.u]
theorem str_toList (l : List UInt8) : (⟨l.toArray⟩ : ByteArray).toList = l := by simp
theorem y_eql_s {x y : Operand} {t t' : TypeId} {l l' : List UInt8} (hx : Ev E x (str l)) (hy : Ev E y (str l')) :
    Y P H E (Oper.mk d (.binOp .eql t x y t') ty pos aft g) (.bool (decide (l = l'))) := fun N a w hf _ => by
  unfold execOp; simp [hx N a hf, hy N a hf, str, eqGuard, binOp, Op.stringOp]; by_cases h : l = l' <;> simp [h]
theorem y_neq_s {x y : Operand} {t t' : TypeId} {l l' : List UInt8} (hx : Ev E x (str l)) (hy : Ev E y (str l')) :
    Y P H E (Oper.mk d (.binOp .neq t x y t') ty pos aft g) (.bool (decide (l ≠ l'))) := fun N a w hf _ => by
  unfold execOp; simp [hx N a hf, hy N a hf, str, eqGuard, binOp, Op.stringOp]; by_cases h : l = l' <;> simp [h]
theorem y_add_s {x y : Operand} {t t' : TypeId} {l l' : List UInt8} (hx : Ev E x (str l)) (hy : Ev E y (str l')) (h : l.length + l'.length ≤ 9223372036854775807) :
    Y P H E (Oper.mk d (.binOp .add t x y t') ty pos aft g) (str (l ++ l')) := fun N a w hf _ => by
  have h0 : ¬ (((ByteArray.mk l.toArray).size + (ByteArray.mk l'.toArray).size : Nat) : Int) > IntKind.i64.max := by
    have e : IntKind.i64.max = 9223372036854775807 := rfl
    rw [e]; simp [ByteArray.size]; omega
  have e : (⟨l.toArray⟩ : ByteArray) ++ ⟨l'.toArray⟩ = ⟨(l ++ l').toArray⟩ := by
    apply ByteArray.ext; simp
  unfold execOp; simp only [hx N a hf, hy N a hf, str, eqGuard, binOp, Op.stringOp, if_neg h0, e]; rfl
end
end Go.Proofs.Ytakeilefbcpabaa
