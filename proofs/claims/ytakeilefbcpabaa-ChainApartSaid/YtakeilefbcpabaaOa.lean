/- Slices that came in: of integers, truth values, texts, rows of bytes. No program in sight. -/
import Derived.Test.YtakeilefbcpabaaRo
namespace Go.Proofs.Ytakeilefbcpabaa
open Go.ChangeShapes Go.WideShapes Go.ChangeAt Go.RowKit Go.Deep
section
variable {H : Type} {enc : TypeId × Value → H} {W : World}
def IsInt (_ : World) (z : Int) (cs : List Value) : Prop := cs = [.int .i64 z] ∧ -9223372036854775808 ≤ z ∧ z ≤ 9223372036854775807
def IsTruth (_ : World) (b : Bool) (cs : List Value) : Prop := cs = [.bool b]
structure BRow where
  A : Option Addr
  len : Nat
  cap : Nat
  b : List UInt8
def IsBRow (w : World) (y : BRow) (cs : List Value) : Prop := cs = [.slice y.A y.len y.cap] ∧ y.b.length = y.len ∧ Reads w (.slice y.A y.len y.cap) y.len 1 (bvs y.b)
theorem elem_truth {P : Program} {t : TypeId} (ht : P.underlying t = some .bool) {n : Nat} {cs : List Value} {x : DataW H × List MemPlace} (h : DataW.trod enc P W 0 (fun _ => true) true n t cs = some x) : ∃ b : Bool, cs = [.bool b] := by
  obtain ⟨b, h1, _⟩ := DataW.trod_bool ht h
  exact ⟨b, h1⟩
theorem open_rowOf {α : Type} {P : Program} {t e : TypeId} {size : Nat} {R : World → α → List Value → Prop} (ht : P.underlying t = some (.slice e)) (hs : P.cellsOf e = size)
    (hR : ∀ (n : Nat) (cs : List Value) (x : DataW H × List MemPlace), cs.length = size → DataW.trod enc P W 0 (fun _ => true) true n e cs = some x → ∃ y : α, R W y cs)
    {a : Option Addr} {len cap : Nat} {d : DataW H} {ps : List MemPlace} (h : DataW.Trod enc P W 0 (fun _ => true) true t (.slice a len cap) d ps) : ∃ zs, ElemsOf R size W a len zs := by
  obtain ⟨fuel, hf⟩ := h
  obtain ⟨a', len', cap', hcs, _, _, _, ys, hy⟩ := open_elems ht hs hR hf
  simp [Value.cells] at hcs
  obtain ⟨rfl, rfl, rfl⟩ := hcs
  exact ⟨ys, hy⟩
theorem open_ints {P : Program} {t e : TypeId} (ht : P.underlying t = some (.slice e)) (he : P.underlying e = some (.int .i64)) (hs : P.cellsOf e = 1) {a : Option Addr} {len cap : Nat} {d : DataW H} {ps : List MemPlace}
    (h : DataW.Trod enc P W 0 (fun _ => true) true t (.slice a len cap) d ps) : ∃ zs, ElemsOf IsInt 1 W a len zs :=
  open_rowOf ht hs (fun _ _ _ _ hh => by obtain ⟨z, h1, h2⟩ := elem_int he hh; exact ⟨z, h1, h2⟩) h
theorem open_truths {P : Program} {t e : TypeId} (ht : P.underlying t = some (.slice e)) (he : P.underlying e = some .bool) (hs : P.cellsOf e = 1) {a : Option Addr} {len cap : Nat} {d : DataW H} {ps : List MemPlace}
    (h : DataW.Trod enc P W 0 (fun _ => true) true t (.slice a len cap) d ps) : ∃ zs, ElemsOf IsTruth 1 W a len zs :=
  open_rowOf ht hs (fun _ _ _ _ hh => elem_truth he hh) h
theorem open_brows {P : Program} {t e q : TypeId} (ht : P.underlying t = some (.slice e)) (he : P.underlying e = some (.slice q)) (hq : P.underlying q = some (.int .u8)) (hs : P.cellsOf e = 1) (hs' : P.cellsOf q = 1) {a : Option Addr} {len cap : Nat} {d : DataW H} {ps : List MemPlace}
    (h : DataW.Trod enc P W 0 (fun _ => true) true t (.slice a len cap) d ps) : ∃ zs, ElemsOf IsBRow 1 W a len zs :=
  open_rowOf ht hs (fun _ _ _ _ hh => by obtain ⟨a, len, cap, l, h1, h2, h3⟩ := elem_slice_bytes he hq hs' hh; exact ⟨⟨a, len, cap, l⟩, h1, h2, h3⟩) h
def IsText (_ : World) (s : List UInt8) (cs : List Value) : Prop := cs = [str s]
theorem elem_text {P : Program} {t : TypeId} (ht : P.underlying t = some .string) {n : Nat} {cs : List Value} {x : DataW H × List MemPlace} (h : DataW.trod enc P W 0 (fun _ => true) true n t cs = some x) : ∃ s : List UInt8, cs = [str s] := by
  obtain ⟨s, h1, _⟩ := DataW.trod_string ht h
  exact ⟨s.data.toList, by rw [h1]; simp [str]⟩
theorem open_texts {P : Program} {t e : TypeId} (ht : P.underlying t = some (.slice e)) (he : P.underlying e = some .string) (hs : P.cellsOf e = 1) {a : Option Addr} {len cap : Nat} {d : DataW H} {ps : List MemPlace}
    (h : DataW.Trod enc P W 0 (fun _ => true) true t (.slice a len cap) d ps) : ∃ zs, ElemsOf IsText 1 W a len zs := by
  obtain ⟨fuel, hf⟩ := h
  obtain ⟨a', len', cap', hcs, _, _, _, ys, hy⟩ := open_elems ht hs (R := IsText) (fun _ _ _ _ hh => by obtain ⟨s, h1⟩ := elem_text he hh; exact ⟨s, h1⟩) hf
  simp [Value.cells] at hcs
  obtain ⟨rfl, rfl, rfl⟩ := hcs
  exact ⟨ys, hy⟩
end
end Go.Proofs.Ytakeilefbcpabaa
