/- A region that draws its order, by a plan: what only looks is taken early, what acts is taken where nothing else can come. No program in sight. -/
import Derived.Test.YtakeilefbcpabaaSld
namespace Go.Proofs.Ytakeilefbcpabaa
open Go.RowKit

section
variable {P : Program} {ops : Array Oper} {Q : Exit → Act → World → Prop} {md : Region.Mode} {S : World → Prop}

/-- 'wpAny', and S holds behind each operation that er names. -/
def wpAnyR (P : Program) (md : Region.Mode) (ops : Array Oper) (Q : Exit → Act → World → Prop) (S : World → Prop) (er : Nat → Bool) : Nat → Array Bool → Act → World → Prop
  | 0, listed, a, w => Region.ready md ops listed = [] ∧ Q .normal a w
  | fuel + 1, listed, a, w =>
    (Region.ready md ops listed = [] → Q .normal a w) ∧
    ∀ i ∈ Region.ready md ops listed, wpOp P ops Q i (fun a' w' => (er i = true → S w') ∧ wpAnyR P md ops Q S er fuel (listed.setIfInBounds i true) a' w') a w

theorem wpAny_of_R {er : Nat → Bool} : ∀ (fuel : Nat) (listed : Array Bool) (a : Act) (w : World), wpAnyR P md ops Q S er fuel listed a w → wpAny P md ops Q fuel listed a w
  | 0, _, _, _, h => h
  | fuel + 1, _, _, _, h => ⟨h.1, fun i hi => wpOp_mono (fun a' w' h' => wpAny_of_R fuel _ a' w' h'.2) (h.2 i hi)⟩

theorem wpAnyR_mono {er : Nat → Bool} {S' : World → Prop} (hs : ∀ w, S' w → S w) : ∀ (fuel : Nat) (listed : Array Bool) (a : Act) (w : World), wpAnyR P md ops Q S' er fuel listed a w → wpAnyR P md ops Q S er fuel listed a w
  | 0, _, _, _, h => h
  | fuel + 1, _, _, _, h => ⟨h.1, fun i hi => wpOp_mono (fun a' w' h' => ⟨fun e => hs _ (h'.1 e), wpAnyR_mono hs fuel _ a' w' h'.2⟩) (h.2 i hi)⟩

theorem wpAnyR_first {er : Nat → Bool} {i : Nat} {oi : Oper} {v : Value} (hi : ops[i]? = some oi) (hsel : ∀ (j : Nat) (o : Oper) cs b, ops[j]? = some o → o.op ≠ .select cs b)
    (hQ : ∀ c a w, Q (.panic c) (a.put oi.dst v) w → Q (.panic c) a w)
    (hlate : ∀ j oj, ops[j]? = some oj → j ≠ i → er j = false → ∃ e ∈ oj.after, Region.binds md e = true ∧ e.on = i) :
    ∀ (fuel : Nat) (listed : Array Bool) (a : Act) (w : World),
      (∀ j oj, ops[j]? = some oj → j ≠ i → listed.getD j true = false → (∀ e ∈ oj.after, Region.binds md e = true → e.on ≠ i) → oi.apart ops oj = true) →
      i ∈ Region.ready md ops listed → YieldsIf P ops S oi v a → S w →
      wpAnyR P md ops Q S er fuel (listed.setIfInBounds i true) (a.put oi.dst v) w → wpAnyR P md ops Q S er (fuel + 1) listed a w := by
  intro fuel
  induction fuel with
  | zero =>
    intro listed a w _ hr hy hS H
    refine ⟨fun h => (by rw [h] at hr; cases hr), fun j hj => ?_⟩
    by_cases hji : j = i
    · subst hji; exact hy.wpOp hi hS ⟨fun _ => hS, H⟩
    · have := ready_mono hj hji
      rw [H.1] at this
      cases this
  | succ fuel ih =>
    intro listed a w hfree hr hy hS H
    refine ⟨fun h => (by rw [h] at hr; cases hr), fun j hj => ?_⟩
    by_cases hji : j = i
    · subst hji; exact hy.wpOp hi hS ⟨fun _ => hS, H⟩
    · have h1 := H.2 j (ready_mono hj hji)
      obtain ⟨hjun, oj, hoj, hall⟩ := mem_ready.1 hj
      have hnot : ∀ e ∈ oj.after, Region.binds md e = true → e.on ≠ i := fun e he hb heq => by
        have h1 := hall e he hb
        have h0 := (mem_ready.1 hr).1
        rw [heq] at h1
        rcases Nat.lt_or_ge i listed.size with h' | h'
        · simp [h'] at h0 h1; rw [h0] at h1; cases h1
        · simp [Array.getElem?_eq_none h'] at h1
      have hjm : er j = true := by
        cases h : er j with
        | true => rfl
        | false =>
          obtain ⟨e, he, hb, ho⟩ := hlate j oj hoj hji h
          exact absurd ho (hnot e he hb)
      have h2 := wpOp_putIf hoj (hfree j oj hoj hji hjun hnot) (fun cs b => hsel i oi cs b hi) (fun cs b => hsel j oj cs b hoj) hQ hy h1
      have hfree' : ∀ k ok, ops[k]? = some ok → k ≠ i → (listed.setIfInBounds j true).getD k true = false →
          (∀ e ∈ ok.after, Region.binds md e = true → e.on ≠ i) → oi.apart ops ok = true := fun k ok hk hki hun hno => by
        refine hfree k ok hk hki ?_ hno
        by_cases hjk : j = k
        · subst hjk; exact hjun
        · rw [getD_set_ne true hjk] at hun; exact hun
      refine wpOp_mono (fun a' w' h3 => ⟨fun _ => h3.2.1 hjm, ih (listed.setIfInBounds j true) a' w' hfree' (ready_mono hr (Ne.symm hji)) h3.1 (h3.2.1 hjm) ?_⟩) h2
      rw [Array.setIfInBounds_comm _ _ hji]
      exact h3.2.2

/-- A plan: the operations one by one; true: it only looks. -/
abbrev Plan := List (Nat × Bool)
def Plan.looks (p : Plan) : List Nat := (p.filter (·.2)).map (·.1)
/-- May the operation j come ahead of one of those that only look? -/
def earlyB (md : Region.Mode) (ops : Array Oper) (q : List Nat) (j : Nat) : Bool := q.any fun i => i != j && !Region.waitsFor md ops j i
def planOk (md : Region.Mode) (ops : Array Oper) (er : Nat → Bool) : Plan → Array Bool → Bool
  | [], listed => (Region.ready md ops listed).isEmpty
  | (i, true) :: r, listed => (Region.ready md ops listed).contains i && Region.free md ops listed i && planOk md ops er r (listed.setIfInBounds i true)
  | (i, false) :: r, listed => decide (Region.ready md ops listed = [i]) && planOk md ops er r (listed.setIfInBounds i true)

/-- Must what the looks read lie there still? -/
def needB (er : Nat → Bool) (i : Nat) (r : Plan) : Bool := er i || r.any (·.2)
/-- What a plan's way asks: S, what the looks read, may grow behind an act. -/
def wpPlan (P : Program) (ops : Array Oper) (Q : Exit → Act → World → Prop) (er : Nat → Bool) : Plan → (World → Prop) → Act → World → Prop
  | [], _, a, w => Q .normal a w
  | (i, true) :: r, S, a, w => ∃ o v, ops[i]? = some o ∧ YieldsIf P ops S o v a ∧ wpPlan P ops Q er r S (a.put o.dst v) w
  | (i, false) :: r, S, a, w => ∃ o, ops[i]? = some o ∧
      if Region.wanted o (yielded ops a.tmps) then o.wp P a w (fun a' w' => ∃ S' : World → Prop, (∀ w, S' w → S w) ∧ (needB er i r = true → S' w') ∧ wpPlan P ops Q er r S' a' w') Q
      else (needB er i r = true → S w) ∧ wpPlan P ops Q er r S (a.put o.dst undef) w

theorem wpAnyR_plan {er : Nat → Bool} (hsel : Region.noSelect ops = true)
    (hQ : ∀ c (d : Option Tmp) (v : Value) a w, Q (.panic c) (a.put d v) w → Q (.panic c) a w) :
    ∀ (p : Plan) (S : World → Prop) (listed : Array Bool) (a : Act) (w : World), (∀ i, (i, true) ∈ p → ∀ j, j ≠ i → er j = false → Region.waitsFor md ops j i = true) →
      planOk md ops er p listed = true → (p.any (·.2) = true → S w) → wpPlan P ops Q er p S a w → wpAnyR P md ops Q S er p.length listed a w
  | [], _, listed, a, w, _, hB, _, h => ⟨by simpa [planOk] using hB, h⟩
  | (i, true) :: r, S, listed, a, w, hl, hB, hS, h => by
    obtain ⟨o, v, ho, hy, h⟩ := h
    simp only [planOk, Bool.and_eq_true] at hB
    obtain ⟨⟨hr, hf⟩, hB⟩ := hB
    have hSw := hS (by simp)
    refine wpAnyR_first ho (Region.noSelect_spec hsel) (fun c a w => hQ c _ _ a w) (fun j oj hj hji he => ?_) _ listed a w (Region.free_spec ho hf) (by simpa using hr) hy hSw
      (wpAnyR_plan hsel hQ r S _ _ w (fun k hk => hl k (List.mem_cons_of_mem _ hk)) hB (fun _ => hSw) h)
    obtain ⟨o', ho', e, he', hb, hon⟩ := Region.waitsFor_spec (hl i List.mem_cons_self j hji he)
    obtain rfl : o' = oj := Option.some.inj (ho'.symm.trans hj)
    exact ⟨e, he', hb, hon⟩
  | (i, false) :: r, S, listed, a, w, hl, hB, hS, h => by
    obtain ⟨o, ho, h⟩ := h
    simp only [planOk, Bool.and_eq_true, decide_eq_true_eq] at hB
    obtain ⟨hr, hB⟩ := hB
    refine ⟨fun h1 => (by rw [hr] at h1; cases h1), fun j hj => ?_⟩
    rw [hr] at hj
    obtain rfl : j = i := by simpa using hj
    have go : ∀ (S' : World → Prop) a' w', (∀ w, S' w → S w) → (needB er j r = true → S' w') → wpPlan P ops Q er r S' a' w' → (er j = true → S w') ∧ wpAnyR P md ops Q S er r.length (listed.setIfInBounds j true) a' w' := fun S' a' w' h1 h2 h3 =>
      ⟨fun e => h1 _ (h2 (by simp [needB, e])), wpAnyR_mono h1 _ _ _ _ (wpAnyR_plan hsel hQ r S' _ a' w' (fun k hk => hl k (List.mem_cons_of_mem _ hk)) hB (fun hq => h2 (by simp only [needB, hq, Bool.or_true])) h3)⟩
    have main : wpOp P ops Q j (fun a' w' => ∃ S' : World → Prop, (∀ w, S' w → S w) ∧ (needB er j r = true → S' w') ∧ wpPlan P ops Q er r S' a' w') a w := by
      unfold wpOp
      simp only [ho]
      split
      · rename_i hw; rw [if_pos hw] at h; exact .inl h
      · rename_i hw; rw [if_neg hw] at h; exact ⟨S, fun _ k => k, h.1, h.2⟩
    exact wpOp_mono (fun a' w' ⟨S', h1, h2, h3⟩ => go S' a' w' h1 h2 h3) main

def planB (md : Region.Mode) (ops : Array Oper) (p : Plan) : Bool :=
  Region.noSelect ops && decide (p.length = ops.size) && planOk md ops (earlyB md ops p.looks) p (Array.replicate ops.size false)

theorem region_plan {id : Nat} {ops : Array Oper} {a : Act} {w : World} (p : Plan) (S : World → Prop) (hm : P.follows .mixedOrders = true) (hB : planB .any ops p = true)
    (hS : p.any (·.2) = true → S w.drew) (h : wpPlan P ops (NoPanic Q) (earlyB .any ops p.looks) p S a w.drew) : (Code.region id ops true).wp P Q a w := by
  refine wp_region_noPanic ?_
  have hQ : ∀ c (d : Option Tmp) (v : Value) a w, NoPanic Q (.panic c) (a.put d v) w → NoPanic Q (.panic c) a w := fun _ _ _ _ _ h => h
  simp only [planB, Bool.and_eq_true, decide_eq_true_eq] at hB
  obtain ⟨⟨hsel, hn⟩, hp⟩ := hB
  refine wp_region_any hm ?_
  have H := wpAnyR_plan (md := .any) hsel hQ p S _ a w.drew (fun i hi j hji he => by
    have h0 := List.any_eq_false.1 he i (List.mem_map.2 ⟨(i, true), List.mem_filter.2 ⟨hi, rfl⟩, rfl⟩)
    cases hw : Region.waitsFor .any ops j i with
    | true => rfl
    | false => rw [hw] at h0; simp at h0; exact absurd h0.symm hji) hp hS h
  rw [hn] at H
  exact wpAny_of_R _ _ _ _ H
end
end Go.Proofs.Ytakeilefbcpabaa
