/- A region that draws its order: loads may be taken first where the few operations that may come up among them leave what they read as it is. No program in sight. -/
import Derived.Test.YtakeilefbcpabaaSlb
import Derived.OrdersHeld
import Derived.Deep.RegionHeld3
namespace Go.Proofs.Ytakeilefbcpabaa
open Go.RowKit

section
variable {P : Program} {ops : Array Oper} {Q : Exit → Act → World → Prop} {md : Region.Mode} {S : World → Prop}

/-- 'wpAny', and S holds behind each operation below m. -/
def wpAnyE (P : Program) (md : Region.Mode) (ops : Array Oper) (Q : Exit → Act → World → Prop) (S : World → Prop) (m : Nat) : Nat → Array Bool → Act → World → Prop
  | 0, listed, a, w => Region.ready md ops listed = [] ∧ Q .normal a w
  | fuel + 1, listed, a, w =>
    (Region.ready md ops listed = [] → Q .normal a w) ∧
    ∀ i ∈ Region.ready md ops listed, wpOp P ops Q i (fun a' w' => (i < m → S w') ∧ wpAnyE P md ops Q S m fuel (listed.setIfInBounds i true) a' w') a w

theorem wpAny_of_E {m : Nat} : ∀ (fuel : Nat) (listed : Array Bool) (a : Act) (w : World), wpAnyE P md ops Q S m fuel listed a w → wpAny P md ops Q fuel listed a w
  | 0, _, _, _, h => h
  | fuel + 1, _, _, _, h => ⟨h.1, fun i hi => wpOp_mono (fun a' w' h' => wpAny_of_E fuel _ a' w' h'.2) (h.2 i hi)⟩

theorem wpAnyE_first {m i : Nat} {oi : Oper} {v : Value} (hi : ops[i]? = some oi) (hsel : ∀ (j : Nat) (o : Oper) cs b, ops[j]? = some o → o.op ≠ .select cs b)
    (hQ : ∀ c a w, Q (.panic c) (a.put oi.dst v) w → Q (.panic c) a w)
    (hlate : ∀ j oj, ops[j]? = some oj → m ≤ j → ∃ e ∈ oj.after, Region.binds md e = true ∧ e.on = i) :
    ∀ (fuel : Nat) (listed : Array Bool) (a : Act) (w : World),
      (∀ j oj, ops[j]? = some oj → j ≠ i → listed.getD j true = false → (∀ e ∈ oj.after, Region.binds md e = true → e.on ≠ i) → oi.apart ops oj = true) →
      i ∈ Region.ready md ops listed → YieldsIf P ops S oi v a → S w →
      wpAnyE P md ops Q S m fuel (listed.setIfInBounds i true) (a.put oi.dst v) w → (∀ k, i < k → k < ops.size → True) → wpAnyE P md ops Q (fun w => S w) m (fuel + 1) listed a w := by
  intro fuel
  induction fuel with
  | zero =>
    intro listed a w _ hr hy hS H _
    refine ⟨fun h => (by rw [h] at hr; cases hr), fun j hj => ?_⟩
    by_cases hji : j = i
    · subst hji; exact hy.wpOp hi hS ⟨fun _ => hS, H⟩
    · have := ready_mono hj hji
      rw [H.1] at this
      cases this
  | succ fuel ih =>
    intro listed a w hfree hr hy hS H ht
    refine ⟨fun h => (by rw [h] at hr; cases hr), fun j hj => ?_⟩
    by_cases hji : j = i
    · subst hji; exact hy.wpOp hi hS ⟨fun _ => hS, H⟩
    · have h1 := H.2 j (ready_mono hj hji)
      obtain ⟨hjun, oj, hoj, hall⟩ := mem_ready.1 hj
      have hnot : ∀ e ∈ oj.after, Region.binds md e = true → e.on ≠ i := fun e he hb heq => by
        have h1 := hall e he hb
        have h0 := (mem_ready.1 hr).1
        rw [heq] at h1
        rcases Nat.lt_or_ge i listed.size with h' | h'
        · simp [h'] at h0 h1; rw [h0] at h1; cases h1
        · simp [Array.getElem?_eq_none h'] at h1
      have hjm : j < m := by
        rcases Nat.lt_or_ge j m with h | h
        · exact h
        · obtain ⟨e, he, hb, ho⟩ := hlate j oj hoj h
          exact absurd ho (hnot e he hb)
      have h2 := wpOp_putIf hoj (hfree j oj hoj hji hjun hnot) (fun cs b => hsel i oi cs b hi) (fun cs b => hsel j oj cs b hoj) hQ hy h1
      have hfree' : ∀ k ok, ops[k]? = some ok → k ≠ i → (listed.setIfInBounds j true).getD k true = false →
          (∀ e ∈ ok.after, Region.binds md e = true → e.on ≠ i) → oi.apart ops ok = true := fun k ok hk hki hun hno => by
        refine hfree k ok hk hki ?_ hno
        by_cases hjk : j = k
        · subst hjk; exact hjun
        · rw [getD_set_ne true hjk] at hun; exact hun
      refine wpOp_mono (fun a' w' h3 => ⟨fun _ => h3.2.1 hjm, ih (listed.setIfInBounds j true) a' w' hfree' (ready_mono hr (Ne.symm hji)) h3.1 (h3.2.1 hjm) ?_ ht⟩) h2
      rw [Array.setIfInBounds_comm _ _ hji]
      exact h3.2.2

/-- The first operations, in the text's order: each yields its value in every world that meets S. -/
def wpHeads (P : Program) (ops : Array Oper) (S : World → Prop) (Kf : Act → Prop) : List Oper → Act → Prop
  | [], a => Kf a
  | o :: rest, a => ∃ v, YieldsIf P ops S o v a ∧ wpHeads P ops S Kf rest (a.put o.dst v)

theorem heads_nil {Kf : Act → Prop} {a : Act} (h : Kf a) : wpHeads P ops S Kf [] a := h
theorem heads_step {Kf : Act → Prop} {a : Act} {o : Oper} {rest : List Oper} {v : Value} (hg : o.guard = none) (hv : ∀ w, S w → (execOp a.eval o).run P w = .ok (.value v) w)
    (h : wpHeads P ops S Kf rest (a.put o.dst v)) : wpHeads P ops S Kf (o :: rest) a :=
  ⟨v, .inl ⟨by simp [Region.wanted, hg], hv⟩, h⟩

/-- The operations behind them, in the text's order: S holds behind each of the first e. -/
def wpListE (P : Program) (ops : Array Oper) (Q : Exit → Act → World → Prop) (S : World → Prop) : Nat → List Oper → Act → World → Prop
  | 0, l, a, w => wpList P ops Q l a w
  | _ + 1, [], a, w => Q .normal a w
  | e + 1, o :: rest, a, w =>
    if Region.wanted o (yielded ops a.tmps) then o.wp P a w (fun a' w' => S w' ∧ wpListE P ops Q S e rest a' w') Q
    else S w ∧ wpListE P ops Q S e rest (a.put o.dst undef) w

theorem listE_step {e : Nat} {a : Act} {w : World} {o : Oper} {rest : List Oper} (hg : o.guard = none)
    (h : ∀ K : Act → World → Prop, (∀ a w, S w → wpListE P ops Q S e rest a w → K a w) → o.wp P a w K Q) : wpListE P ops Q S (e + 1) (o :: rest) a w := by
  rw [wpListE, if_pos (by simp [Region.wanted, hg])]
  exact h _ fun a w h1 h2 => ⟨h1, h2⟩

/-- The order from number k on is forced. -/
theorem wpAnyE_of_seq {m : Nat} : ∀ (l : List Oper) (e k : Nat) (listed : Array Bool) (a : Act) (w : World), (∀ j, l[j]? = ops[k + j]?) → m ≤ k + e →
    Region.seqB md ops l.length k listed = true → wpListE P ops Q S e l a w → wpAnyE P md ops Q S m l.length listed a w
  | [], e, k, listed, a, w, _, _, hB, h => by
    cases e <;> exact ⟨by simpa [Region.seqB] using hB, h⟩
  | o :: l, 0, k, listed, a, w, hl, hm, hB, h => by
    have h0 : ops[k]? = some o := by simpa using (hl 0).symm
    simp only [List.length_cons, Region.seqB, Bool.and_eq_true, decide_eq_true_eq] at hB
    refine ⟨fun h1 => (by rw [hB.1] at h1; cases h1), fun i hi => ?_⟩
    rw [hB.1] at hi
    have hik : i = k := by simpa using hi
    subst hik
    have hw : wpOp P ops Q i (wpList P ops Q l) a w := by unfold wpOp; simp only [h0]; exact h
    exact wpOp_mono (fun a' w' h' => ⟨fun hlt => by omega, wpAnyE_of_seq l 0 (i + 1) _ a' w' (fun j => by have := hl (j + 1); simpa [Nat.add_assoc, Nat.add_comm 1 j] using this) (by omega) hB.2 h'⟩) hw
  | o :: l, e + 1, k, listed, a, w, hl, hm, hB, h => by
    have h0 : ops[k]? = some o := by simpa using (hl 0).symm
    simp only [List.length_cons, Region.seqB, Bool.and_eq_true, decide_eq_true_eq] at hB
    refine ⟨fun h1 => (by rw [hB.1] at h1; cases h1), fun i hi => ?_⟩
    rw [hB.1] at hi
    have hik : i = k := by simpa using hi
    subst hik
    have hw : wpOp P ops Q i (fun a' w' => S w' ∧ wpListE P ops Q S e l a' w') a w := by
      unfold wpOp
      simp only [h0]
      unfold wpListE at h
      by_cases hg : Region.wanted o (yielded ops a.tmps) = true
      · rw [if_pos hg] at h ⊢; exact .inl h
      · rw [if_neg hg] at h ⊢; exact h
    exact wpOp_mono (fun a' w' h' => ⟨fun _ => h'.1, wpAnyE_of_seq l e (i + 1) _ a' w' (fun j => by have := hl (j + 1); simpa [Nat.add_assoc, Nat.add_comm 1 j] using this) (by omega) hB.2 h'.2⟩) hw

/-- Each operation from m on waits for each below n. -/
def lateB (md : Region.Mode) (ops : Array Oper) (n m : Nat) : Bool :=
  (List.range ops.size).all fun j => decide (j < m) || (List.range n).all fun i => Region.waitsFor md ops j i

theorem lateB_spec {n m : Nat} (h : lateB md ops n m = true) {i : Nat} (hi : i < n) (j : Nat) (oj : Oper) (hj : ops[j]? = some oj) (hm : m ≤ j) : ∃ e ∈ oj.after, Region.binds md e = true ∧ e.on = i := by
  have h1 := List.all_eq_true.1 h j (List.mem_range.2 (Array.getElem?_eq_some_iff.1 hj).1)
  simp only [Bool.or_eq_true, decide_eq_true_eq] at h1
  rcases h1 with h1 | h1
  · omega
  · obtain ⟨o', ho', e, he, hb, ho⟩ := Region.waitsFor_spec (List.all_eq_true.1 h1 i (List.mem_range.2 hi))
    obtain rfl : o' = oj := Option.some.inj (ho'.symm.trans hj)
    exact ⟨e, he, hb, ho⟩

theorem wpAnyE_lex {n m g : Nat} {Kf : Act → Prop} (hsel : Region.noSelect ops = true) (hl : lateB md ops n m = true)
    (hQ : ∀ c (d : Option Tmp) (v : Value) a w, Q (.panic c) (a.put d v) w → Q (.panic c) a w) (w : World) (hS : S w)
    (hK : ∀ listed a, Region.seqB md ops g n listed = true → Kf a → wpAnyE P md ops Q S m g listed a w) :
    ∀ (l : List Oper) (k : Nat) (listed : Array Bool) (a : Act), (∀ j, j < l.length → l[j]? = ops[k + j]?) → k + l.length = n →
      Region.lexHead md ops g l.length k listed = true → wpHeads P ops S Kf l a → wpAnyE P md ops Q S m (l.length + g) listed a w
  | [], k, listed, a, _, hk, hB, h => by
    obtain rfl : k = n := by simpa using hk
    rw [List.length_nil, Nat.zero_add]
    exact hK _ _ (by simpa [Region.lexHead] using hB) h
  | o :: l, k, listed, a, hlk, hk, hB, h => by
    have h0 : ops[k]? = some o := by simpa using (hlk 0 (by simp)).symm
    simp only [List.length_cons, Region.lexHead, Bool.and_eq_true] at hB
    obtain ⟨⟨hr, hf⟩, hB'⟩ := hB
    obtain ⟨v, hy, h'⟩ := h
    have hkn : k < n := by simp only [List.length_cons] at hk; omega
    rw [List.length_cons, show l.length + 1 + g = (l.length + g) + 1 by omega]
    exact wpAnyE_first h0 (Region.noSelect_spec hsel) (fun c a w => hQ c _ _ a w) (fun j oj hj hm => lateB_spec hl hkn j oj hj hm) _ listed a w (Region.free_spec h0 hf) (by simpa using hr) hy hS
      (wpAnyE_lex hsel hl hQ w hS hK l (k + 1) _ _ (fun j hj => by have := hlk (j + 1) (by simp; omega); simpa [Nat.add_assoc, Nat.add_comm 1 j] using this) (by simp only [List.length_cons] at hk; omega) hB' h') (fun _ _ _ => trivial)

/-- What the kernel reckons of a region: n loads ahead, of the rest m - n may come up among them. -/
def takeB (md : Region.Mode) (ops : Array Oper) (n m : Nat) : Bool :=
  Region.noSelect ops && decide (n ≤ ops.size) && lateB md ops n m && Region.lexHead md ops (ops.size - n) n 0 (Array.replicate ops.size false)

/-- THE LAW: the first n operations in the text's order, in every world that meets S; then the rest in the text's order, S kept by those below m. -/
theorem region_take {id : Nat} {l : List Oper} {a : Act} {w : World} (n m : Nat) (S : World → Prop) (hm : P.follows .mixedOrders = true) (hB : takeB .any l.toArray n m = true)
    (hS : S w.drew)
    (h : wpHeads P l.toArray S (fun a' => wpListE P l.toArray (NoPanic Q) S (m - n) (l.drop n) a' w.drew) (l.take n) a) : (Code.region id l.toArray true).wp P Q a w := by
  refine wp_region_noPanic ?_
  have hQ : ∀ c (d : Option Tmp) (v : Value) a w, NoPanic Q (.panic c) (a.put d v) w → NoPanic Q (.panic c) a w := fun _ _ _ _ _ h => h
  simp only [takeB, Bool.and_eq_true, decide_eq_true_eq] at hB
  obtain ⟨⟨⟨hsel, hn⟩, hl⟩, hlex⟩ := hB
  have hn' : n ≤ l.length := by simpa using hn
  have htl : (l.take n).length = n := by simp; omega
  have hdl : (l.drop n).length = l.toArray.size - n := by simp
  refine wp_region_any hm ?_
  have H := wpAnyE_lex (md := .any) (m := m) (g := l.toArray.size - n) hsel hl hQ w.drew hS (fun listed a' hB' hK => by
      have := wpAnyE_of_seq (P := P) (md := .any) (Q := NoPanic Q) (S := S) (m := m) (l.drop n) (m - n) n listed a' w.drew (fun j => by simp [List.getElem?_drop]) (by omega) (by rw [hdl]; exact hB') hK
      rwa [hdl] at this) (l.take n) 0 _ a (fun j hj => by
        have hj' : j < n := by rw [htl] at hj; exact hj
        simp [hj']) (by simpa using htl) (by rw [htl]; exact hlex) h
  have := wpAny_of_E _ _ _ _ H
  rw [htl, show n + (l.toArray.size - n) = l.toArray.size by simp; omega] at this
  exact this
end
end Go.Proofs.Ytakeilefbcpabaa
