/- Slices that came in, of elements of any make: from their reading as data to what their cells hold. -/
import Derived.Test.YtakeilefbcpabaaSld
import Derived.Test.YtakeilefbcpabaaBy
import Derived.ProofKit
import Derived.OpenShut
import Derived.SizedLaws
import Derived.ChangeOld
import Derived.Lib.SmallJoins
import Derived.Deep.Slices
namespace Go.Proofs.Ytakeilefbcpabaa
open Go.ChangeShapes Go.WideShapes Go.ChangeAt Go.RowKit Go.Deep

/-- Cells that lie at an address. -/
def CellsAt (w : World) (ad : Addr) (cs : List Value) : Prop := ∀ i u, cs[i]? = some u → w.cell? (ad.add i) = some u
theorem CellsAt.keep {w w' : World} {ad : Addr} {cs : List Value} (h : CellsAt w ad cs) (hk : ∀ b, b < w.heap.size → w'.heap[b]? = w.heap[b]?) : CellsAt w' ad cs := fun i u hu => by
  have e := h i u hu
  rw [World.cell?_of_block (w := w) (hk _ (World.block_lt_of_cell? w _ e))]
  exact e

/-- The slice (A, len) holds xs; R: what an element's cells say. -/
def ElemsOf {α : Type} (R : World → α → List Value → Prop) (size : Nat) (w : World) (A : Option Addr) (len : Nat) (xs : List α) : Prop :=
  xs.length = len ∧ len ≤ 9223372036854775807 ∧ ∀ (j : Nat) (x : α), xs[j]? = some x → ∃ a cs, A = some a ∧ R w x cs ∧ cs.length = size ∧ CellsAt w (a.add (j * size)) cs

section
variable {H : Type} {enc : TypeId × Value → H} {W : World} {α : Type}

theorem cells_at {P : Program} {ad : Addr} {n : Nat} {cs : List Value} (h : W.cells? 0 ad n = some cs) (_ : P = P) : cs.length = n ∧ CellsAt W ad cs := by
  unfold World.cells? at h
  rw [if_pos (Nat.zero_le _)] at h
  have hl : cs.length = n := by simpa using mapM_some_length h
  refine ⟨hl, fun i u hu => ?_⟩
  have hi : i < n := by rw [← hl]; exact (List.getElem?_eq_some_iff.1 hu).1
  have e := mapM_some_get h i i (by simp [hi])
  rw [hu] at e
  exact e

theorem open_elems {P : Program} {t e : TypeId} {size : Nat} {R : World → α → List Value → Prop} (ht : P.underlying t = some (.slice e)) (hs : P.cellsOf e = size)
    (hR : ∀ (n : Nat) (cs : List Value) (x : DataW H × List MemPlace), cs.length = size → DataW.trod enc P W 0 (fun _ => true) true n e cs = some x → ∃ y : α, R W y cs)
    {fuel : Nat} {cs0 : List Value} {x : DataW H × List MemPlace} (h : DataW.trod enc P W 0 (fun _ => true) true fuel t cs0 = some x) :
    ∃ a len cap, cs0 = [.slice a len cap] ∧ (a = none → len = 0 ∧ cap = 0) ∧ len ≤ cap ∧ cap ≤ 9223372036854775807 ∧ ∃ ys, ElemsOf R size W a len ys := by
  rcases open_slice ht h with ⟨rfl, _⟩ | ⟨a, len, cap, m, n, D, Pl, rfl, _, hl, hm, hmm, _, he⟩
  · exact ⟨none, 0, 0, rfl, fun _ => ⟨rfl, rfl⟩, Nat.le_refl _, by omega, [], rfl, by omega, fun j x h => by simp at h⟩
  · have hm' : m = cap := by simpa using hmm
    have hcap : cap ≤ 9223372036854775807 := by simpa [maxLen] using hm
    have hex : ∀ i : Nat, i < len → ∃ y cs, R W y cs ∧ cs.length = size ∧ CellsAt W (a.add (i * size)) cs := by
      intro i hi
      obtain ⟨cs', h1, h2⟩ := he i (by omega)
      rw [hs] at h1
      obtain ⟨h3, h4⟩ := cells_at (P := P) h1 rfl
      obtain ⟨y, hy⟩ := hR n cs' _ h3 h2
      exact ⟨y, cs', hy, h3, h4⟩
    refine ⟨some a, len, cap, rfl, (fun h => by cases h), hl, hcap, ?_⟩
    have build : ∀ k, k ≤ len → ∃ ys : List α, ys.length = k ∧ ∀ (j : Nat) (x : α), ys[j]? = some x → ∃ cs, R W x cs ∧ cs.length = size ∧ CellsAt W (a.add (j * size)) cs := by
      intro k
      induction k with
      | zero => intro _; exact ⟨[], rfl, fun j x h => by simp at h⟩
      | succ k ih =>
        intro hk
        obtain ⟨ys, h1, h2⟩ := ih (by omega)
        obtain ⟨y, cs, h3, h4, h5⟩ := hex k (by omega)
        refine ⟨ys ++ [y], by simp [h1], fun j x hx => ?_⟩
        rw [List.getElem?_append] at hx
        split at hx
        · exact h2 j x hx
        · rename_i hj
          have : j = k := by
            have := (List.getElem?_eq_some_iff.1 hx).1
            simp at this; omega
          subst this
          rw [h1, Nat.sub_self] at hx
          simp at hx
          subst hx
          exact ⟨cs, h3, h4, h5⟩
    obtain ⟨ys, h1, h2⟩ := build len (Nat.le_refl _)
    exact ⟨ys, h1, by omega, fun j x hx => by obtain ⟨cs, h⟩ := h2 j x hx; exact ⟨a, cs, rfl, h⟩⟩

/-! ### Elements -/
theorem elem_int {P : Program} {t : TypeId} (ht : P.underlying t = some (.int .i64)) {n : Nat} {cs : List Value} {x : DataW H × List MemPlace} (h : DataW.trod enc P W 0 (fun _ => true) true n t cs = some x) :
    ∃ z : Int, cs = [.int .i64 z] ∧ -9223372036854775808 ≤ z ∧ z ≤ 9223372036854775807 := by
  obtain ⟨z, h1, _, h2⟩ := DataW.trod_int ht h
  refine ⟨z, h1, ?_⟩
  simp [Lit.wf, IntKind.min, IntKind.max, IntKind.signed, IntKind.bits] at h2; omega
theorem elem_u64 {P : Program} {t : TypeId} (ht : P.underlying t = some (.int .u64)) {n : Nat} {cs : List Value} {x : DataW H × List MemPlace} (h : DataW.trod enc P W 0 (fun _ => true) true n t cs = some x) :
    ∃ z : Int, cs = [.int .u64 z] ∧ 0 ≤ z ∧ z < 18446744073709551616 := by
  obtain ⟨z, h1, _, h2⟩ := DataW.trod_int ht h
  refine ⟨z, h1, ?_⟩
  simp [Lit.wf, IntKind.min, IntKind.max, IntKind.signed, IntKind.bits] at h2; omega
theorem elem_byte {P : Program} {t : TypeId} (ht : P.underlying t = some (.int .u8)) {n : Nat} {cs : List Value} {x : DataW H × List MemPlace} (h : DataW.trod enc P W 0 (fun _ => true) true n t cs = some x) :
    ∃ b : UInt8, cs = [bv b] := by
  obtain ⟨z, h1, _, h2⟩ := DataW.trod_int ht h
  simp [Lit.wf, IntKind.min, IntKind.max, IntKind.signed, IntKind.bits] at h2
  refine ⟨UInt8.ofNat z.toNat, ?_⟩
  rw [h1, bv, UInt8.toNat_ofNat']
  congr 2
  omega
/-- An array of bytes. -/
theorem elem_bytes {P : Program} {t e : TypeId} {k : Nat} (ht : P.underlying t = some (.array k e)) (he : P.underlying e = some (.int .u8)) (hc : P.cellsOf e = 1) (hk : P.cellsOf t = k)
    {n : Nat} {cs : List Value} {x : DataW H × List MemPlace} (h : DataW.trod enc P W 0 (fun _ => true) true n t cs = some x) : ∃ r : List UInt8, cs = bvs r ∧ r.length = k := by
  obtain ⟨xs, m, _, _, hl, hxl, hf⟩ := DataW.trod_array ht h
  rw [hk] at hl
  have hex : ∀ i, i < k → ∃ b : UInt8, cs[i]? = some (bv b) := by
    intro i hi
    have e := hf i hi
    rw [hc, Nat.mul_one, List.getElem?_eq_getElem (by omega)] at e
    obtain ⟨b, hb⟩ := elem_byte he e
    refine ⟨b, ?_⟩
    have e2 := congrArg (fun l : List Value => l[0]?) hb
    simpa [List.getElem?_take, List.getElem?_drop] using e2
  have build : ∀ (l : List Value), (∀ i, i < l.length → ∃ b : UInt8, l[i]? = some (bv b)) → ∃ r : List UInt8, l = bvs r := by
    intro l
    induction l with
    | nil => intro _; exact ⟨[], rfl⟩
    | cons v l ih =>
      intro hb
      obtain ⟨b, h0⟩ := hb 0 (by simp)
      obtain ⟨r, hr⟩ := ih fun i hi => by simpa using hb (i + 1) (by simp; omega)
      refine ⟨b :: r, ?_⟩
      simp at h0
      rw [h0, hr]; rfl
  obtain ⟨r, rfl⟩ := build cs fun i hi => hex i (by omega)
  exact ⟨r, rfl, by simpa [bvs] using hl⟩
end
end Go.Proofs.Ytakeilefbcpabaa
