/- A region that draws its order, where two acts may come in either order: first what only looks, then a choice. No program in sight. -/
import Derived.Test.YtakeilefbcpabaaYr
namespace Go.Proofs.Ytakeilefbcpabaa
open Go.RowKit

/-- The operations that are done, the last one first. -/
def listedOf (n : Nat) : List Nat → Array Bool
  | [] => Array.replicate n false
  | i :: r => (listedOf n r).setIfInBounds i true
def planPre (ops : Array Oper) : Plan → List Nat → Bool
  | [], _ => true
  | (i, b) :: r, l => b && (Region.ready .any ops (listedOf ops.size l)).contains i && Region.free .any ops (listedOf ops.size l) i && planPre ops r (i :: l)
def doneOf : Plan → List Nat → List Nat
  | [], l => l
  | (i, _) :: r, l => doneOf r (i :: l)

section
variable {P : Program} {ops : Array Oper} {Q : Exit → Act → World → Prop} {S : World → Prop} {q : List Nat}
theorem looks_late {i : Nat} (hi : i ∈ q) : ∀ j, j ≠ i → earlyB .any ops q j = false → Region.waitsFor .any ops j i = true := fun j hji he => by
  have h0 := List.any_eq_false.1 he i hi
  cases hw : Region.waitsFor .any ops j i with
  | true => rfl
  | false => rw [hw] at h0; simp at h0; exact absurd h0.symm hji
theorem looks_any (hsel : Region.noSelect ops = true) (hQ : ∀ c (d : Option Tmp) (v : Value) a w, Q (.panic c) (a.put d v) w → Q (.panic c) a w) {n : Nat} :
    ∀ (p : Plan) (l : List Nat) (a : Act) (w : World), (∀ i ∈ p.map (·.1), i ∈ q) → planPre ops p l = true → S w →
      wpPlan P ops (NQ fun a w => wpAnyR P .any ops Q S (earlyB .any ops q) n (listedOf ops.size (doneOf p l)) a w) (earlyB .any ops q) p S a w → wpAnyR P .any ops Q S (earlyB .any ops q) (p.length + n) (listedOf ops.size l) a w
  | [], l, a, w, _, _, _, h => by rw [List.length_nil, Nat.zero_add]; exact h.2
  | (i, false) :: r, l, a, w, _, hB, _, _ => by simp [planPre] at hB
  | (i, true) :: r, l, a, w, hq, hB, hS, h => by
    obtain ⟨o, v, ho, hy, h⟩ := h
    simp only [planPre, Bool.and_eq_true, true_and] at hB
    obtain ⟨⟨hr, hf⟩, hB⟩ := hB
    have H := looks_any hsel hQ r (i :: l) (a.put o.dst v) w (fun k hk => hq k (List.mem_cons_of_mem _ hk)) hB hS h
    have H2 := wpAnyR_first (md := .any) ho (Region.noSelect_spec hsel) (fun c a w => hQ c _ _ a w) (fun j oj hj hji he => by
      obtain ⟨o', ho', e, he', hb, hon⟩ := Region.waitsFor_spec (looks_late (hq i List.mem_cons_self) j hji he)
      obtain rfl : o' = oj := Option.some.inj (ho'.symm.trans hj)
      exact ⟨e, he', hb, hon⟩) _ (listedOf ops.size l) a w (Region.free_spec ho hf) (by simpa using hr) hy hS H
    rw [show ((i, true) :: r).length + n = (r.length + n) + 1 by simp; omega]
    exact H2
end

/-- What is left of a region, from a state on. -/
abbrev Rest (P : Program) (c : Con) (ops : Array Oper) (Q : Exit → Act → World → Prop) (R : List HP) (q : List Nat) (n : Nat) (l : List Nat) : Exit → Act → World → Prop :=
  NQ fun a w => wpAnyR P .any ops (NoPanic Q) (St c R) (earlyB .any ops q) n (listedOf ops.size l) a w
section
variable {P : Program} {N : Nat} {c : Con} {Q : Exit → Act → World → Prop} {E : Env} {L R : List HP} {ops : Array Oper} {q : List Nat}
theorem np_panic : ∀ c (d : Option Tmp) (v : Value) a w, NoPanic Q (.panic c) (a.put d v) w → NoPanic Q (.panic c) a w := fun _ _ _ _ _ h => h
/-- First the looks of p; q: all that looks. -/
theorem w_looks {id : Nat} (p : Plan) (q : List Nat) (R : List HP) (hm : P.follows .mixedOrders = true) (hsel : Region.noSelect ops = true) (hq : (p.map (·.1)).all (q.contains ·) = true) (hB : planPre ops p [] = true) (hl : Nat.ble p.length ops.size = true) (hR : Sel L R)
    (h : WP P N c ops (Rest P c ops Q R q (ops.size - p.length) (doneOf p [])) R (earlyB .any ops q) p E L) : W P N c Q (.region id ops true) E L := fun a w hf H => by
  refine wp_region_noPanic (wp_region_any hm ?_)
  have h1 := looks_any (S := St c R) hsel np_panic p [] a w.drew (fun i hi => by have := List.all_eq_true.1 hq i hi; simpa using this) hB (hR.st H).drew (h a _ hf H.drew)
  rw [show p.length + (ops.size - p.length) = ops.size by have := Nat.le_of_ble_eq_true hl; omega] at h1
  exact wpAny_of_R _ _ _ _ h1
theorem x_tail {n : Nat} {l : List Nat} (R' : List HP) (p : Plan) (hRR : Sel R' R) (hsel : Region.noSelect ops = true) (hq : p.looks.all (q.contains ·) = true) (hn : p.length = n) (hB : planOk .any ops (earlyB .any ops q) p (listedOf ops.size l) = true) (hR : Sel L R')
    (h : WP P N c ops (NoPanic Q) R' (earlyB .any ops q) p E L) : X N c (Rest P c ops Q R q n l) .normal E L := fun a w hf H => by
  refine ⟨rfl, ?_⟩
  subst hn
  exact wpAnyR_mono (fun w k => hRR.st k) _ _ _ _ (wpAnyR_plan hsel np_panic p (St c R') _ a w (fun i hi => looks_late (by
    have := List.all_eq_true.1 hq i (List.mem_map.2 ⟨(i, true), List.mem_filter.2 ⟨hi, rfl⟩, rfl⟩)
    simpa using this)) hB (fun _ => hR.st H) (h a w hf H))
/-- Two acts may come. -/
theorem x_two {m n i j d1 d2 : Nat} {l : List Nat} {op1 op2 : Op} {ty1 ty2 : TypeId} {pos1 pos2 : String} {aft1 aft2 : Array Edge} (hr : Region.ready .any ops (listedOf ops.size l) = [i, j])
    (h1 : ops[i]? = some ⟨some d1, op1, ty1, pos1, aft1, none⟩) (h2 : ops[j]? = some ⟨some d2, op2, ty2, pos2, aft2, none⟩) (b1 : Nat.blt d1 N = true) (b2 : Nat.blt d2 N = true) (hm : m = n + 1)
    (k1 : OWK P N c E L ⟨some d1, op1, ty1, pos1, aft1, none⟩ fun v L' => (Sel L' R ∧ X N c (Rest P c ops Q R q n (i :: l)) .normal ((d1, v) :: E) L'))
    (k2 : OWK P N c E L ⟨some d2, op2, ty2, pos2, aft2, none⟩ fun v L' => (Sel L' R ∧ X N c (Rest P c ops Q R q n (j :: l)) .normal ((d2, v) :: E) L')) : X N c (Rest P c ops Q R q m l) .normal E L := fun a w hf H => by
  subst hm
  refine ⟨rfl, ⟨fun e => (by rw [hr] at e; cases e), fun k hk => ?_⟩⟩
  rw [hr] at hk
  rcases List.mem_cons.1 hk with rfl | hk
  · obtain ⟨β, s, L', g1, g2⟩ := k1
    unfold wpOp
    simp only [h1]
    rw [if_pos (by simp [Region.wanted])]
    exact .inl (g1 _ _ a w hf H fun x w' H' => ⟨fun _ => (g2 x).1.st H', ((g2 x).2 _ w' (hf.put b1) H').2⟩)
  · obtain rfl := List.mem_singleton.1 hk
    obtain ⟨β, s, L', g1, g2⟩ := k2
    unfold wpOp
    simp only [h2]
    rw [if_pos (by simp [Region.wanted])]
    exact .inl (g1 _ _ a w hf H fun x w' H' => ⟨fun _ => (g2 x).1.st H', ((g2 x).2 _ w' (hf.put b2) H').2⟩)
end
end Go.Proofs.Ytakeilefbcpabaa
