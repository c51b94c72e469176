/- Slices with three bounds; shifts to the left; bytes as a number. No program in sight. -/
import Derived.Test.YtakeilefbcpabaaRd
import Derived.Test.YtakeilefbcpabaaOw
namespace Go.Proofs.Ytakeilefbcpabaa
open Go.RowKit
section
variable {P : Program} {N : Nat} {c : Con} {E : Env} {H : World → Prop} {L F : List HP} {d : Option Nat} {ty : TypeId} {pos : String} {aft : Array Edge} {g : Option (Nat × Bool)}
theorem y_slice3 {x lo hi mx : Operand} {t e s by' : Nat} {z : Value} {A : Option Addr} {n cap : Nat} {k1 k2 k3 : IntKind} {l h m : Nat} [ht : TSlice P t e s by' z] (hx : Ev E x (.slice A n cap)) (hl : Ev E lo (.int k1 l)) (hh : Ev E hi (.int k2 h)) (hm : Ev E mx (.int k3 m)) (hb : l ≤ h ∧ h ≤ m ∧ m ≤ cap) :
    Y P H E (Oper.mk d (.slice t x (some lo) (some hi) (some mx)) ty pos aft g) (.slice (if m = l then A else A.map (·.add (l * s))) (h - l) (m - l)) := fun N a w hf _ => by
  unfold execOp
  have hz := ht.i
  cases hq : P.info? e with
  | none => simp [hq] at hz
  | some ie =>
    have hs : ie.size = s := by simp [hq] at hz; exact hz.2.1
    simp [hx N a hf, hl N a hf, hh N a hf, hm N a hf, Instr.sliceAt, Instr.slice, run_underlying ht.u, Instr.sliceBounds, Instr.sliceBound, asIntOf, sizeOf, typeInfo, hq, hs, hb.1, hb.2.1, hb.2.2]
theorem y_sliceLoHi {x lo hi : Operand} {t e s by' : Nat} {z : Value} {A : Option Addr} {n cap : Nat} {k1 k2 : IntKind} {l h : Nat} [ht : TSlice P t e s by' z] (hx : Ev E x (.slice A n cap)) (hl : Ev E lo (.int k1 l)) (hh : Ev E hi (.int k2 h)) (hb : l ≤ h ∧ h ≤ cap) :
    Y P H E (Oper.mk d (.slice t x (some lo) (some hi) none) ty pos aft g) (.slice (if cap = l then A else A.map (·.add (l * s))) (h - l) (cap - l)) := fun N a w hf _ => by
  unfold execOp
  have hz := ht.i
  cases hq : P.info? e with
  | none => simp [hq] at hz
  | some ie =>
    have hs : ie.size = s := by simp [hq] at hz; exact hz.2.1
    simp [hx N a hf, hl N a hf, hh N a hf, Instr.sliceAt, Instr.slice, run_underlying ht.u, Instr.sliceBounds, Instr.sliceBound, asIntOf, sizeOf, typeInfo, hq, hs, hb.1, hb.2]
theorem y_slice3h {x hi mx : Operand} {t e s by' : Nat} {z : Value} {A : Option Addr} {n cap : Nat} {k2 k3 : IntKind} {h m : Nat} [ht : TSlice P t e s by' z] (hx : Ev E x (.slice A n cap)) (hh : Ev E hi (.int k2 h)) (hm : Ev E mx (.int k3 m)) (hb : h ≤ m ∧ m ≤ cap) :
    Y P H E (Oper.mk d (.slice t x none (some hi) (some mx)) ty pos aft g) (.slice A h m) := fun N a w hf _ => by
  unfold execOp
  have hz := ht.i
  cases hq : P.info? e with
  | none => simp [hq] at hz
  | some ie =>
    have hs : ie.size = s := by simp [hq] at hz; exact hz.2.1
    simp [hx N a hf, hh N a hf, hm N a hf, Instr.sliceAt, Instr.slice, run_underlying ht.u, Instr.sliceBounds, Instr.sliceBound, asIntOf, sizeOf, typeInfo, hq, hs, hb.1, hb.2]
    intro _
    cases A <;> simp [Addr.add]
theorem y_indexStr {x i : Operand} {t : Nat} {l : List UInt8} {k : IntKind} {m : Int} {j : Nat} {b : UInt8} [ht : TStr P t] (hx : Ev E x (str l)) (hi : Ev E i (.int k m)) (hm : m = j) (hb : l[j]? = some b) :
    Y P H E (Oper.mk d (.index t x i) ty pos aft g) (.int .u8 (b.toNat : Int)) := fun N a w hf _ => by
  subst hm
  have hj : j < l.length := (List.getElem?_eq_some_iff.1 hb).1
  have e : (ByteArray.mk l.toArray)[j]? = some b := by
    have h0 : j < (ByteArray.mk l.toArray).size := hj
    rw [getElem?_pos (ByteArray.mk l.toArray) j h0]
    rw [List.getElem?_eq_getElem hj] at hb
    exact hb
  unfold execOp
  simp [hx N a hf, hi N a hf, str, Instr.index, run_underlying ht.u, asIntOf, e]
theorem y_shl {k k' : IntKind} {x y : Operand} {t t' : TypeId} {m n : Int} (hx : Ev E x (.int k m)) (hy : Ev E y (.int k' n)) (h : 0 ≤ n) (hn : n.toNat ≤ k.bits) :
    Y P H E (Oper.mk d (.binOp .shl t x y t') ty pos aft g) (.int k (k.wrap (m * 2 ^ n.toNat))) := fun N a w hf _ => by
  have h0 : ¬ n < 0 := by omega
  unfold execOp; simp [hx N a hf, hy N a hf, eqGuard, binOp, Op.shift, h0, Nat.min_eq_left hn]
theorem y_build0z {t : Nat} {ps : List (Nat × Nat)} {z : List Value} [ht : TPlaces P t ps z] : Y P H E (Oper.mk d (.build t #[]) ty pos aft g) (.agg z.toArray) := y_build .nil
end
theorem hasR_cell {H : World → Prop} {ad : Addr} {n cap j o : Nat} {cs : List Value} {u : Value} (h : HasR H (.slice (some ad) n cap) n cs) (hu : cs[j]? = some u) (ho : o = j * 1) : HasCell H (ad.add o) u := fun w hw => by
  subst ho
  rw [Nat.mul_one]
  rcases (h w hw).2 with ⟨e, _⟩ | ⟨a, cap', e, _, _, h3⟩
  · cases e
  · cases e; exact h3 j u hu
theorem bvs_get {l : List UInt8} {j : Nat} (hj : j < l.length) : (bvs l)[j]? = some (.int .u8 (l[j].toNat : Int)) := by
  simp [bvs, bv, hj]
theorem hasR_blZ {c : Con} {L : List HP} {b T : Nat} (n : Nat) (h2 : n ≤ 9223372036854775807 := by omega) : HasR (St c (Bl b T (List.replicate n (.int .u8 0)) :: L)) (.slice (some ⟨b, 0, none⟩) n n) n (bvs (zeros n)) := by
  rw [replicate_bvs]; exact hasR_blAll (by simp [bvs_length, zeros_length]) (Nat.le_refl _) h2
theorem hasR_bytesN {c : Con} {L : List HP} {b cap e n : Nat} {l : List UInt8} (hn : l.length = n) (h : n ≤ cap ∧ cap ≤ 9223372036854775807) : HasR (St c (BytesP b cap e l :: L)) (.slice (some ⟨b, 0, none⟩) n cap) n (bvs l) := by
  subst hn; exact hasR_bytes h
theorem add_add (a : Addr) (l j : Nat) : (a.add l).add j = a.add (l + j) := by
  unfold Addr.add
  by_cases h1 : l = 0 <;> by_cases h2 : j = 0 <;> simp [h1, h2, Nat.add_assoc]
/-- A part of what reads. -/
theorem hasR_sub {H : World → Prop} {A : Option Addr} {n cap l h k s : Nat} {cs ds : List Value} (hr : HasR H (.slice A n cap) n cs) (hlh : l < h ∧ h ≤ n ∧ n ≤ 9223372036854775807) (hs : s = 1) (hk : k = h - l) (hd : (cs.take h).drop l = ds) :
    HasR H (.slice (A.map (·.add (l * s))) k k) k ds := fun w hw => by
  subst hs hk hd
  obtain ⟨hlen, h0⟩ := hr w hw
  rw [Nat.mul_one] at hlen
  refine ⟨by simp [hlen, Nat.min_eq_left hlh.2.1], ?_⟩
  rcases h0 with ⟨_, h2⟩ | ⟨a, cap', e, h1, h2, h3⟩
  · omega
  · obtain ⟨rfl, -, -⟩ := Value.slice.inj e
    refine .inr ⟨_, _, rfl, Nat.le_refl _, by omega, fun j u hu => ?_⟩
    rw [List.getElem?_drop, List.getElem?_take] at hu
    split at hu
    · have := h3 _ u hu
      rw [Nat.mul_one, add_add]
      exact this
    · cases hu
theorem ow_sel {P : Program} {N : Nat} {c : Con} {E : Env} {L L1 : List HP} {o : Oper} {β : Type} {r : β → Value} {L' : β → List HP} (s : Sel L L1) (h : OW P N c E L1 o r L') : OW P N c E L o r L' := fun Q K a w hf H hk => h Q K a w hf (s.st H) hk
/-- A slice of one's own that isn't empty, opened: its block, its capacity, its cells. -/
structure OB (k size : Nat) (ys : List Value) where
  g : Nat
  cap : Nat
  cur : List Value
  h1 : k ≤ cap
  h2 : cap ≤ 9223372036854775807
  h3 : cur.length = cap * size
  h4 : cur.take (k * size) = ys
theorem ow_opened {P : Program} {N : Nat} {c : Con} {E : Env} {L F : List HP} {o : Oper} {k size : Nat} {e : TypeId} {ys : List Value} (hk : 0 < k) (h : OW P N c E L o (fun q : Option Addr × Nat => .slice q.1 k q.2) fun q => OwnP e size (.slice q.1 k q.2) k ys :: F) :
    OW P N c E L o (fun x : OB k size ys => .slice (some ⟨x.g, 0, none⟩) k x.cap) fun x => Bl x.g e x.cur :: F := fun Q K a w hf H hh => h Q K a w hf H fun q w1 H1 => by
  rcases H1.ownOpen with ⟨_, h0, _⟩ | ⟨g, cap, cur, e1, h1, h2, h3, h4, h5, H2⟩
  · omega
  · show K (a.put o.dst (.slice q.1 k q.2)) w1
    rw [e1]
    exact hh ⟨g, cap, cur, h1, h2, h3, h4⟩ w1 H2
theorem OB.le {k size : Nat} {ys : List Value} (x : OB k size ys) {n : Nat} (h : n ≤ k) : n ≤ n ∧ n ≤ x.cap := ⟨Nat.le_refl _, Nat.le_trans h x.h1⟩
theorem OB.shut {k size : Nat} {ys : List Value} {e : TypeId} (x : OB k size ys) : ∀ h, Bl x.g e x.cur h → OwnP e size (.slice (some ⟨x.g, 0, none⟩) k x.cap) k ys h := shutOwn x.h1 x.h2 x.h3 x.h4
theorem OB.take1 {k : Nat} {ys : List Value} (x : OB k 1 ys) : x.cur.take k = ys := by have := x.h4; rwa [Nat.mul_one] at this
theorem OB.hasR {k : Nat} {ys : List Value} {e : TypeId} {c : Con} {L : List HP} (x : OB k 1 ys) : HasR (St c (Bl x.g e x.cur :: L)) (.slice (some ⟨x.g, 0, none⟩) k x.cap) k ys := hasR_bl x.take1 (by have h1 := x.h1; have h2 := x.h3; omega) x.h1 x.h2
/-- What lay there ahead. -/
theorem old_auto {H : World → Prop} {ad : Addr} {v : Value} (h : HasCell H ad v := by ((repeat (first | exact hasCell_old (by assumption) | apply hasCell_tl)); (first | done | fail))) : HasCell H ad v := h
/-- The walk stops here. -/
def Stop (p : Prop) : Prop := p
section
variable {P : Program} {N : Nat} {c : Con} {Q : Exit → Act → World → Prop} {E : Env} {L : List HP}
theorem w_meetS {id : Nat} {ops : Array Oper} {b : Bool} {x y : Code} {α : Type} (F : α → Prop) (Ev : α → Env) (Ls : α → List HP) (h : Stop (W P N c (Exit.then (Met N c F Ev Ls) Q) ((Code.region id ops b).seq x) E L)) (k : ∀ s, F s → W P N c Q y (Ev s) (Ls s)) : W P N c Q (((Code.region id ops b).seq x).seq y) E L := w_meet F Ev Ls h k
theorem w_stopR {id : Nat} {ops : Array Oper} {b : Bool} {x : Code} (h : Stop (W P N c Q ((Code.region id ops b).seq x) E L)) : W P N c Q ((Code.region id ops b).seq x) E L := h
end
/-- append onto nil. -/
theorem ow_appendR0 {P : Program} {N : Nat} {c : Con} {E : Env} {L : List HP} {d : Option Nat} {ty : TypeId} {pos : String} {aft : Array Edge} {g : Option (Nat × Bool)} {s x : Operand} {t tx e bytes e' s' b' m : Nat} {z z' v : Value} {news : List Value} [ht : TSlice P t e 1 bytes z] [htx : TSlice P tx e' s' b' z'] (hs : Ev E s (.slice none 0 0)) (hx : Ev E x v)
    (hr : HasR (St c L) v m news) (h1 : ∀ u ∈ news, u.oneCell' = true) (hb : m ≤ 9223372036854775807 ∧ m * bytes ≤ 140737488355328) :
    OW P N c E L (Oper.mk d (.call { callee := .builtin .append, args := #[s, x], argTypes := #[t, tx] }) ty pos aft g) (fun q : Option Addr × Nat => .slice q.1 m q.2) fun q => OwnP e 1 (.slice q.1 m q.2) m news :: L :=
  ow_sel (.own0 sel_all) (ow_appendR (k := m) (ys := news) hs hx (hasR_tl hr) h1 (Nat.zero_add m) (List.nil_append _) hb .hd)
/-- Bytes as a number, the lowest first. -/
def leN : List UInt8 → Nat
  | [] => 0
  | b :: r => b.toNat + 256 * leN r
theorem leN_lt : ∀ l : List UInt8, leN l < 256 ^ l.length
  | [] => by simp [leN]
  | b :: r => by
    have h1 := leN_lt r
    have h2 := b.toNat_lt
    rw [leN, List.length_cons, Nat.pow_succ]
    omega
theorem leN_snoc : ∀ (l : List UInt8) (b : UInt8), leN (l ++ [b]) = leN l + b.toNat * 256 ^ l.length
  | [], b => by simp [leN]
  | c :: r, b => by
    rw [List.cons_append, leN, leN, leN_snoc r b, List.length_cons, Nat.pow_succ, Nat.mul_add, ← Nat.mul_assoc, Nat.mul_comm 256 b.toNat, Nat.mul_comm (256 ^ r.length) 256, Nat.mul_assoc b.toNat, Nat.add_assoc]
/-- Two numbers without a common bit. -/
theorem bits_or_u64 {x y i : Nat} (hx : x < 2 ^ i) (hy : y * 2 ^ i + x < 2 ^ 64) : bits .or .u64 (x : Int) ((y * 2 ^ i : Nat) : Int) = ((x + y * 2 ^ i : Nat) : Int) := by
  have h2 : y * 2 ^ i < 2 ^ 64 := by omega
  have h1 : x < 2 ^ 64 := by omega
  have e := Nat.shiftLeft_add_eq_or_of_lt hx y
  rw [Nat.shiftLeft_eq] at e
  have e1 : (BitVec.ofInt 64 (x : Int)) = BitVec.ofNat 64 x := by simp
  have e2 : (BitVec.ofInt 64 ((y * 2 ^ i : Nat) : Int)) = BitVec.ofNat 64 (y * 2 ^ i) := by rw [BitVec.ofInt_natCast]
  show IntKind.u64.wrap (((BitVec.ofInt 64 (x : Int)) ||| (BitVec.ofInt 64 ((y * 2 ^ i : Nat) : Int))).toNat : Int) = _
  rw [e1, e2, BitVec.toNat_or, BitVec.toNat_ofNat, BitVec.toNat_ofNat, Nat.mod_eq_of_lt h1, Nat.mod_eq_of_lt h2, Nat.or_comm, ← e]
  have e3 : ∀ z : Int, IntKind.u64.wrap z = z % 18446744073709551616 := fun _ => rfl
  rw [e3]
  have : (2 : Nat) ^ 64 = 18446744073709551616 := rfl
  omega
/-- The number of eight bytes. -/
def leInt (l : List UInt8) : Int := wrap64 (leN l : Int)
end Go.Proofs.Ytakeilefbcpabaa
