/- Ranges over a function, walked by what is known: what asks nothing of a fence goes in a round as anywhere; the statement; a call of yield; a function that leaves with a mark. No program in sight. -/
import Derived.Test.YtakeilefbcpabaaEg
import Derived.RangeFuncLeaves
import Derived.RangeFuncSeq
import Derived.RangeFuncRecord
import Derived.OrdersIn
import Derived.TacticsIn
namespace Go.Proofs.Ytakeilefbcpabaa
open Go.RowKit

def isDefer : Op → Bool
  | .defer _ => true
  | _ => false
def noDefer (ops : List Oper) : Bool := ops.all fun o => !isDefer o.op
/-- A fence that asks nothing. -/
structure Wide (F : Fence) : Prop where
  fn : ∀ f, F.fn f
  depth : F.depth = none
  calls : ∀ (n : Nat) (P : Program) (f : FuncId) (args : Array Value) (w : World) (R : Ending → World → Prop), Calls P f args w R → CallsIn F n P f args w R
  rows : ∀ (n : Nat) (P : Program) (row : String) (args : Array Value) (w : World) (R : Value → World → Prop), Rows P row args w R → RowsIn F n P row args w R
theorem wide_dep {n : Nat} : Fence.wide.depth.isSome = true → 1 ≤ n := fun k => by cases k
theorem wide0 : Wide Fence.wide :=
  ⟨fun _ => trivial, rfl, fun _ _ _ _ _ _ h => callsIn_wide.2 h, fun _ _ _ _ _ _ h c cs _ => let ⟨v, w', r, s⟩ := h c cs; ⟨v, w', r, stepsIn_wide.2 s⟩⟩
theorem wideR (l : Nat) : Wide (Fence.wide.inRound l) :=
  ⟨fun _ => trivial, rfl, fun n P f args w R h => wide0.calls n P f args w R h, fun n P row args w R h => wide0.rows n P row args w R h⟩

/-- The frame, with calls deferred behind its own. -/
def wd (ds : List Deferred) (a : Act) : Act := { a with defers := a.defers ++ ds }
theorem wd_eval (ds : List Deferred) (a : Act) : (wd ds a).eval = a.eval := funext fun x => by cases x <;> rfl
theorem wd_put (ds : List Deferred) (a : Act) (d : Option Tmp) (v : Value) : (wd ds a).put d v = wd ds (a.put d v) := by cases d <;> rfl
theorem wd_nil (a : Act) : wd [] a = a := by simp [wd]

def Calm (Q : Exit → Act → World → Prop) : Prop := ∀ e a w, Q e a w → e = .normal
def NQ (Z : Act → World → Prop) : Exit → Act → World → Prop := fun e a w => e = .normal ∧ Z a w
theorem calm_nq {Z : Act → World → Prop} : Calm (NQ Z) := fun _ _ _ h => h.1
theorem calm_np {Q : Exit → Act → World → Prop} (h : Calm Q) : Calm (NoPanic Q) := fun e a w k => h e a w (NoPanic.imp e a w k)

section
variable {P : Program} {F : Fence} {n : Nat} {ops : Array Oper} {Q Q0 : Exit → Act → World → Prop} {ds : List Deferred} {a : Act} {w : World}

theorem wpIn_op (hF : Wide F) (hc : Calm Q0) {o : Oper} {K K' : Act → World → Prop} (hd : isDefer o.op = false) (hk : ∀ a w, K a w → K' (wd ds a) w)
    (h : o.wp P a w K Q0 ∨ (o.asks P a w ∧ LetsOut Q0)) : o.wpIn F n P (wd ds a) w K' Q := by
  have out : ¬ LetsOut Q0 := fun ⟨a, w, q⟩ => by cases hc _ a w q
  replace h := h.resolve_right fun k => out k.2
  refine ⟨fun f _ => hF.fn f, ?_⟩
  have e : o.semAt F.round (wd ds a).eval = execOp a.eval o := by
    rw [wd_eval]; exact Oper.semAt_eq _ _ _ fun c e => by rw [e] at hd; cases hd
  rw [e]
  unfold Oper.wp at h
  have dep : F.depth.isSome = true → 1 ≤ n := fun k => by rw [hF.depth] at k; cases k
  generalize (execOp a.eval o).run P w = r at h
  cases r with
  | ok x w' =>
    cases x <;> simp only [Oper.upon, Oper.uponIn] at h ⊢
    case value v => rw [wd_put]; exact hk _ _ h
    case skip => rw [wd_put]; exact hk _ _ h
    case «defer» d =>
      have := hk _ _ h
      rw [← wd_put] at this
      exact this
    case enter f args =>
      refine ⟨dep, hF.calls _ _ _ _ _ _ (Calls.mono h fun e w'' he => ?_)⟩
      cases e with
      | returned v =>
        show K' ((wd ds a).put o.dst v) w''
        rw [wd_put]; exact hk _ _ he
      | panicked ch => cases hc _ _ _ he
      | outgrown => exact absurd he out
    case row row args =>
      exact ⟨dep, hF.rows _ _ _ _ _ _ fun c cs => let ⟨v, w', r, s⟩ := h c cs; ⟨v, w', by rw [wd_put]; exact hk _ _ r, s⟩⟩
  | halt x w' =>
    cases x <;> simp only [Oper.upon, Oper.uponIn] at h ⊢
    case panic v => cases hc _ _ _ h

theorem wpListIn_split (hF : Wide F) {post : List Oper} {Z : Act → World → Prop} (hz : ∀ a w, Z a w → wpListIn F n P ops Q post (wd ds a) w) : ∀ (pre : List Oper) (a : Act) (w : World), noDefer pre = true →
    wpList P ops (NQ Z) pre a w → wpListIn F n P ops Q (pre ++ post) (wd ds a) w
  | [], _, _, _, h => hz _ _ h.2
  | o :: r, a, w, hn, h => by
    simp only [noDefer, List.all_cons, Bool.and_eq_true] at hn
    unfold wpList at h
    show wpListIn F n P ops Q (o :: (r ++ post)) (wd ds a) w
    unfold wpListIn
    show if Region.wanted o (yielded ops a.tmps) = true then _ else _
    split at h
    · rename_i hw
      rw [if_pos hw]
      exact wpIn_op hF calm_nq (by simpa using hn.1) (fun a w k => wpListIn_split hF hz r a w hn.2 k) h
    · rename_i hw
      rw [if_neg hw]
      exact ⟨fun f _ => hF.fn f, by have := wpListIn_split hF hz r _ w hn.2 h; rwa [← wd_put] at this⟩

theorem wpAnyIn_of (hF : Wide F) (hc : Calm Q0) (hnd : noDefer ops.toList = true) (hz : ∀ a w, Q0 .normal a w → Q .normal (wd ds a) w) : ∀ (fuel : Nat) (listed : Array Bool) (a : Act) (w : World),
    wpAny P .any ops Q0 fuel listed a w → wpAnyIn F n P .any ops Q fuel listed (wd ds a) w
  | 0, _, _, _, h => ⟨h.1, hz _ _ h.2⟩
  | fuel + 1, listed, a, w, h => by
    refine ⟨fun k => hz _ _ (h.1 k), fun i hi => ?_⟩
    have h2 := h.2 i hi
    unfold wpOp at h2
    unfold wpOpIn
    split at h2
    · rename_i ho; simp only [ho]; exact wpAnyIn_of hF hc hnd hz fuel _ a w h2
    · rename_i o ho
      simp only [ho]
      have hd : isDefer o.op = false := by
        have := List.all_eq_true.1 hnd o (by
          have := Array.mem_of_getElem? ho
          exact Array.mem_toList_iff.2 this)
        simpa using this
      show if Region.wanted o (yielded ops a.tmps) = true then _ else _
      split at h2
      · rename_i hw
        rw [if_pos hw]
        exact wpIn_op hF hc hd (fun a w k => wpAnyIn_of hF hc hnd hz fuel _ a w k) h2
      · rename_i hw
        rw [if_neg hw]
        exact ⟨fun f _ => hF.fn f, by have := wpAnyIn_of hF hc hnd hz fuel _ _ w h2; rwa [← wd_put] at this⟩

theorem region_planIn (hF : Wide F) (hc : Calm Q0) {id : Nat} (p : Plan) (S : World → Prop) (hm : P.follows .mixedOrders = true) (hB : planB .any ops p = true) (hnd : noDefer ops.toList = true)
    (hz : ∀ a w, Q0 .normal a w → Q .normal (wd ds a) w) (hS : p.any (·.2) = true → S w.drew) (h : wpPlan P ops (NoPanic Q0) (earlyB .any ops p.looks) p S a w.drew) : (Code.region id ops true).wpIn F n P Q (wd ds a) w := by
  have hQ : ∀ c (d : Option Tmp) (v : Value) a w, NoPanic Q0 (.panic c) (a.put d v) w → NoPanic Q0 (.panic c) a w := fun _ _ _ _ _ h => h
  simp only [planB, Bool.and_eq_true, decide_eq_true_eq] at hB
  obtain ⟨⟨hsel, hn⟩, hp⟩ := hB
  refine wpIn_region_any hm ?_
  have H := wpAnyR_plan (md := .any) hsel hQ p S _ a w.drew (fun i hi j hji he => by
    have h0 := List.any_eq_false.1 he i (List.mem_map.2 ⟨(i, true), List.mem_filter.2 ⟨hi, rfl⟩, rfl⟩)
    cases hw : Region.waitsFor .any ops j i with
    | true => rfl
    | false => rw [hw] at h0; simp at h0; exact absurd h0.symm hji) hp hS h
  rw [hn] at H
  exact wpAnyIn_of hF (calm_np hc) hnd hz _ _ _ _ (wpAny_of_R _ _ _ _ H)
end

/-! ### Code in a fence, with calls deferred -/
def WG (P : Program) (N : Nat) (c : Con) (F : Fence) (ds : List Deferred) (Q : Exit → Act → World → Prop) (code : Code) (E : Env) (L : List HP) : Prop := ∀ a w, Fr N E a → St c L w → code.wpIn F 0 P Q (wd ds a) w
def XG (N : Nat) (c : Con) (ds : List Deferred) (Q : Exit → Act → World → Prop) (e : Exit) (E : Env) (L : List HP) : Prop := ∀ a w, Fr N E a → St c L w → Q e (wd ds a) w
def NG (ds : List Deferred) (Q : Exit → Act → World → Prop) : Exit → Act → World → Prop := NQ fun a w => Q .normal (wd ds a) w
section
variable {P : Program} {N : Nat} {c : Con} {F : Fence} {ds : List Deferred} {Q : Exit → Act → World → Prop} {E : Env} {L : List HP}
theorem w_of_g {code : Code} (h : WG P N c Fence.wide [] Q code E L) : W P N c Q code E L := fun a w hf H => wpIn_wide.1 (by have := h a w hf H; rwa [wd_nil] at this)
theorem wg_region (hF : Wide F) {id : Nat} {l : List Oper} (hd : noDefer l = true) (h : WL P N c l.toArray (NG ds Q) l E L) : WG P N c F ds Q (.region id l.toArray false) E L := fun a w hf H => by
  have := wpListIn_split (n := 0) (Q := Q) (ds := ds) hF (ops := l.toArray) (post := []) (fun a w k => k) l a w hd (h a w hf H)
  rw [List.append_nil] at this
  exact wpIn_region_lit this
theorem wg_plan (hF : Wide F) {id : Nat} {ops : Array Oper} (p : Plan) (R : List HP) (hm : P.follows .mixedOrders = true) (hB : planB .any ops p = true) (hd : noDefer ops.toList = true) (hR : Sel L R)
    (h : WP P N c ops (NoPanic (NG ds Q)) R (earlyB .any ops p.looks) p E L) : WG P N c F ds Q (.region id ops true) E L := fun a _ hf H =>
  region_planIn hF calm_nq p (St c R) hm hB hd (fun _ _ k => k.2) (fun _ => (hR.st H).drew) (h a _ hf H.drew)
theorem wg_seq {x y : Code} (h : WG P N c F ds (Exit.then (fun a w => y.wpIn F 0 P Q a w) Q) x E L) : WG P N c F ds Q (x.seq y) E L := fun a w hf H => wpIn_seq (h a w hf H)
theorem wg_skip (h : XG N c ds Q .normal E L) : WG P N c F ds Q .skip E L := fun a w hf H => wpIn_skip (h a w hf H)
theorem wg_ret (h : XG N c ds Q .ret E L) : WG P N c F ds Q .ret E L := fun a w hf H => wpIn_ret (h a w hf H)
theorem wg_block {id : Nat} {x : Code} (h : WG P N c F ds (Exit.inBlock id Q) x E L) : WG P N c F ds Q (.block id x) E L := fun a w hf H => wpIn_block (h a w hf H)
theorem wg_true {t : Nat} {x y : Code} (hl : look E t = some (.bool true)) (h : WG P N c F ds Q x E L) : WG P N c F ds Q (.cond (.tmp t) x y) E L := fun a w hf H =>
  wpIn_cond_true (by rw [wd_eval]; exact ev_tmp hl N a hf) (h a w hf H)
theorem wg_false {t : Nat} {x y : Code} (hl : look E t = some (.bool false)) (h : WG P N c F ds Q y E L) : WG P N c F ds Q (.cond (.tmp t) x y) E L := fun a w hf H =>
  wpIn_cond_false (by rw [wd_eval]; exact ev_tmp hl N a hf) (h a w hf H)
theorem wg_cond {t : Nat} {x y : Code} {p : Prop} [Decidable p] (hl : look E t = some (.bool (decide p))) (h1 : p → WG P N c F ds Q x E L) (h2 : ¬ p → WG P N c F ds Q y E L) : WG P N c F ds Q (.cond (.tmp t) x y) E L := fun a w hf H => by
  by_cases hp : p
  · exact wpIn_cond_true (by rw [wd_eval, ev_tmp hl N a hf]; simp [hp]) (h1 hp a w hf H)
  · exact wpIn_cond_false (by rw [wd_eval, ev_tmp hl N a hf]; simp [hp]) (h2 hp a w hf H)
def CVG (P : Program) (N : Nat) (c : Con) (F : Fence) (ds : List Deferred) (Q : Exit → Act → World → Prop) (x y : Code) (E : Env) (L : List HP) (v : Value) : Prop := ∀ t, look E t = some v → WG P N c F ds Q (.cond (.tmp t) x y) E L
theorem wg_cv {t : Nat} {x y : Code} {v : Value} (hl : look E t = some v) (h : CVG P N c F ds Q x y E L v) : WG P N c F ds Q (.cond (.tmp t) x y) E L := h t hl
theorem cvg_true {x y : Code} (h : WG P N c F ds Q x E L) : CVG P N c F ds Q x y E L (.bool true) := fun _ hl => wg_true hl h
theorem cvg_false {x y : Code} (h : WG P N c F ds Q y E L) : CVG P N c F ds Q x y E L (.bool false) := fun _ hl => wg_false hl h
theorem cvg_dec {x y : Code} {p : Prop} [Decidable p] (h1 : p → WG P N c F ds Q x E L) (h2 : ¬ p → WG P N c F ds Q y E L) : CVG P N c F ds Q x y E L (.bool (decide p)) := fun _ hl => wg_cond hl h1 h2
theorem cvg_dec_t {x y : Code} {p : Prop} [Decidable p] (h : p) (h1 : WG P N c F ds Q x E L) : CVG P N c F ds Q x y E L (.bool (decide p)) := cvg_dec (fun _ => h1) fun k => absurd h k
theorem cvg_dec_f {x y : Code} {p : Prop} [Decidable p] (h : ¬ p) (h1 : WG P N c F ds Q y E L) : CVG P N c F ds Q x y E L (.bool (decide p)) := cvg_dec (fun k => absurd k h) fun _ => h1
theorem cvg_bool_t {x y : Code} {b : Bool} (h : b = true) (h1 : WG P N c F ds Q x E L) : CVG P N c F ds Q x y E L (.bool b) := by subst h; exact cvg_true h1
theorem cvg_bool_f {x y : Code} {b : Bool} (h : b = false) (h1 : WG P N c F ds Q y E L) : CVG P N c F ds Q x y E L (.bool b) := by subst h; exact cvg_false h1
theorem cvg_bool {x y : Code} {b : Bool} (h1 : b = true → WG P N c F ds Q x E L) (h2 : b = false → WG P N c F ds Q y E L) : CVG P N c F ds Q x y E L (.bool b) := by
  cases b
  · exact cvg_false (h2 rfl)
  · exact cvg_true (h1 rfl)
theorem wg_pure {code : Code} {p : Prop} {A : HP} {G : List HP} (hp : Pick L (Pure p A) G) (h : p → WG P N c F ds Q code E (A :: G)) : WG P N c F ds Q code E L := fun a w hf H => by
  obtain ⟨k, H⟩ := St.pure (hp.st H)
  exact h k a w hf H
theorem xg_pure {e : Exit} {p : Prop} {A : HP} {G : List HP} (hp : Pick L (Pure p A) G) (h : p → XG N c ds Q e E (A :: G)) : XG N c ds Q e E L := fun a w hf H => by
  obtain ⟨k, H⟩ := St.pure (hp.st H)
  exact h k a w hf H
theorem xg_sel {e : Exit} {L' : List HP} (s : Sel L L') (h : XG N c ds Q e E L') : XG N c ds Q e E L := fun a w hf H => h a w hf (s.st H)
theorem is_wg {x : Code} (h : WG P N c F ds Q x E L) : WG P N c F ds Q x E L := h
theorem is_xg {e : Exit} (h : XG N c ds Q e E L) : XG N c ds Q e E L := h
theorem is_cvg {x y : Code} {v : Value} (h : CVG P N c F ds Q x y E L v) : CVG P N c F ds Q x y E L v := h
theorem x_ng (h : XG N c ds Q .normal E L) : X N c (NG ds Q) .normal E L := fun a w hf H => ⟨rfl, h a w hf H⟩
theorem xg_then {y : Code} (h : WG P N c F ds Q y E L) : XG N c ds (Exit.then (fun a w => y.wpIn F 0 P Q a w) Q) .normal E L := h
theorem xg_thenW {y : Code} (h : WG P N c Fence.wide ds Q y E L) : XG N c ds (Exit.then (fun a w => y.wp P Q a w) Q) .normal E L := fun a w hf H => wpIn_wide.1 (h a w hf H)
theorem xg_thenR {K : Act → World → Prop} (h : XG N c ds Q .ret E L) : XG N c ds (Exit.then K Q) .ret E L := h
theorem xg_block {id : Nat} (h : XG N c ds Q .normal E L) : XG N c ds (Exit.inBlock id Q) .normal E L := h
theorem xg_blockR {id : Nat} (h : XG N c ds Q .ret E L) : XG N c ds (Exit.inBlock id Q) .ret E L := h

/-! ### Parties -/
theorem Stars.comm {A B : List HP} {S : Nat → Prop} {w : World} (h : Stars (A ++ B) S w) : Stars (B ++ A) S w := by
  have h1 : Stars (Join A :: (B ++ [])) S w := by rw [List.append_nil]; exact Stars.join.2 h
  have h2 : Stars (Join A :: Join B :: []) S w := h1.under fun _ k => Stars.join.2 k
  have h3 : Stars (Join B :: (A ++ [])) S w := h2.swap.under fun _ k => Stars.join.1 k
  rw [List.append_nil] at h3
  exact Stars.join.1 h3
theorem Stars.append {A B : List HP} {w : World} (k : ∀ S, Stars A S w → Stars B S w) : ∀ (X : List HP) {S : Nat → Prop}, Stars (X ++ A) S w → Stars (X ++ B) S w
  | [], _, h => k _ h
  | _ :: X, _, h => Stars.under (L := X ++ A) (fun _ h => Stars.append k X h) h
theorem St.regroup {A B G : List HP} {w : World} (H : St c (Join (A ++ B) :: G) w) : St c (Join (A ++ G) :: B) w := by
  refine St.join.2 ⟨H.con, ?_⟩
  have h := (St.join.1 H).stars
  rw [List.append_assoc] at h ⊢
  exact Stars.append (fun _ k => k.comm) A h
theorem St.toJoin {w : World} (Ls : List HP) (H : St c (Ls ++ L) w) : St c (Join Ls :: L) w := St.join.2 H
theorem St.putPt {b : Nat} {o o' : Obj} {w : World} (H : St c (Pt b o :: L) w) : St c (Pt b o' :: L) (w.putObj b o') := by
  obtain ⟨h, a, l, u⟩ := H.upd
  have hb := l b _ a
  have hlt : b < w.heap.size := (Array.getElem?_eq_some_iff.1 hb).1
  refine u _ _ rfl (fun k _ hn => World.putObj_heap_other ?_) ?_
  · rintro rfl; rw [a] at hn; cases hn
  · simp only [Pt]
    rw [if_pos (.inl (by rw [a]; rfl))]
    exact World.putObj_heap_same hlt

/-! ### A call of yield -/
theorem w_yield {id : Nat} {l : List Oper} (k : Nat) (hd : noDefer (l.take k) = true) (h : WL P N c l.toArray (NQ fun a w => wpListIn Fence.wide 0 P l.toArray Q (l.drop k) a w) (l.take k) E L) : W P N c Q (.region id l.toArray false) E L := fun a w hf H => by
  have := wpListIn_split (n := 0) (Q := Q) (ds := []) wide0 (ops := l.toArray) (post := l.drop k) (fun a w k => by rw [wd_nil]; exact k) (l.take k) a w hd (h a w hf H)
  rw [List.take_append_drop, wd_nil] at this
  exact wpIn_wide.1 (wpIn_region_lit this)
theorem x_rest {ops : Array Oper} {l : List Oper} (hd : noDefer l = true) (h : WL P N c ops (NQ fun a w => Q .normal a w) l E L) : X N c (NQ fun a w => wpListIn Fence.wide 0 P ops Q l a w) .normal E L := fun a w hf H => by
  have := wpListIn_split (n := 0) (Q := Q) (ds := []) wide0 (ops := ops) (post := []) (fun a w k => by rw [wd_nil]; exact k) l a w hd (h a w hf H)
  rw [List.append_nil, wd_nil] at this
  exact ⟨rfl, this⟩
theorem x_nq (h : X N c Q .normal E L) : X N c (NQ fun a w => Q .normal a w) .normal E L := fun a w hf H => ⟨rfl, h a w hf H⟩
theorem x_yield {ops : Array Oper} {d l : Nat} {fo x : Operand} {v : Value} {ts : Array TypeId} {ty : TypeId} {pos : String} {aft : Array Edge} {rest : List Oper} {L1 L2 : List HP} (hdN : Nat.blt d N = true)
    (ho : Ev E fo (.func (.yield l) #[] #[])) (hx : Ev E x v)
    (hy : ∀ w, St c L w → YieldAt Fence.wide 0 P l #[v] w fun e w' => (e = .returned (.bool true) ∧ St c L1 w') ∨ (e = .returned (.bool false) ∧ St c L2 w'))
    (h1 : X N c (NQ fun a w => wpListIn Fence.wide 0 P ops Q rest a w) .normal ((d, .bool true) :: E) L1)
    (h2 : X N c (NQ fun a w => wpListIn Fence.wide 0 P ops Q rest a w) .normal ((d, .bool false) :: E) L2) :
    X N c (NQ fun a w => wpListIn Fence.wide 0 P ops Q (Oper.mk (some d) (.call { callee := .value fo, args := #[x], argTypes := ts }) ty pos aft none :: rest) a w) .normal E L := fun a w hf H => by
  refine ⟨rfl, ?_⟩
  show wpListIn _ _ _ _ _ _ _ _
  unfold wpListIn
  rw [if_pos (by simp [Region.wanted])]
  refine ⟨fun _ _ => trivial, ?_⟩
  obtain ⟨fn, tmps, assign, body, hr, hR⟩ := hy w H
  have e : (Oper.semAt Fence.wide.round a.eval (Oper.mk (some d) (.call { callee := .value fo, args := #[x], argTypes := ts }) ty pos aft none)).run P w = .ok (.round l fn tmps assign body) w := by
    rw [Fence.wide_round, Oper.semAt_none]
    unfold execOp
    simp only [resolve, ho N a hf, Deferred.ofValue, Sem.run_bind, Sem.run_pure, Result.andThen_ok, invoke, Array.empty_append, List.map_toArray, List.map_cons, List.map_nil, hx N a hf]
    exact hr
  rw [e, Oper.uponIn_round]
  refine ⟨wide_dep, hR.mono ?_⟩
  rintro e w' (⟨rfl, H'⟩ | ⟨rfl, H'⟩)
  · exact (h1 _ w' (hf.put hdN) H').2
  · exact (h2 _ w' (hf.put hdN) H').2

/-! ### The statement -/
def PA (N : Nat) (c : Con) (E1 : Env) (L1 : List HP) : Exit → Act → World → Prop := fun e a w => e = .normal ∧ Fr N E1 a ∧ St c L1 w
def PB (c : Con) (L1 L2 : List HP) : Exit → Act → World → Prop := fun e _ w => (e = .normal ∧ St c L1 w) ∨ (e = .ret ∧ St c L2 w)
theorem xg_pa {E1 : Env} {L1 : List HP} (hE : Sub E1 E) (hL : Sel L L1) : XG N c [] (PA N c E1 L1) .normal E L := fun a w hf H => by rw [wd_nil]; exact ⟨rfl, hf.sub hE, hL.st H⟩
theorem xg_pb {L1 L2 : List HP} (hL : Sel L L1) : XG N c ds (PB c L1 L2) .normal E L := fun _ _ _ H => .inl ⟨rfl, hL.st H⟩
theorem xg_pbR {L1 L2 : List HP} (hL : Sel L L2) : XG N c ds (PB c L1 L2) .ret E L := fun _ _ _ H => .inr ⟨rfl, hL.st H⟩
abbrev markOf (D : Nat) : List Deferred := [{ target := .collected D, args := #[] }]
theorem w_range {g : Operand} {t : Nat} {assign body : Code} {gf : FuncId} {lb : List Value} {m : Nat} {K : List HP} (B : Nat → List HP) (Jr : List HP) (xs : Nat → Value) (E1 : Nat → Env)
    (ht : Nat.blt t N = true) (hg : Ev E g (.func (.func gf) #[] lb.toArray)) (he : entersB P gf = true)
    (hit : ∀ (l : Nat) (B' : Nat → HP) (J' : HP), (∀ i, i < m → ∀ (G : List HP) (w : World), St c (B' i :: G) w → YieldAt Fence.wide 0 P l #[xs i] w fun e w' => (e = .returned (.bool true) ∧ St c (B' (i + 1) :: G) w') ∨ (e = .returned (.bool false) ∧ St c (J' :: G) w')) →
      ∀ w, St c (B' 0 :: K) w → Calls P gf (.func (.yield l) #[] #[] :: lb).toArray w fun e w' => (∃ v, e = .returned v) ∧ (St c (B' m :: K) w' ∨ St c (J' :: K) w'))
    (h0 : Sel L (B 0 ++ K))
    (hassign : ∀ l i Rr, i < m → WG P N c (Fence.wide.inRound l) [] (PA N c (E1 i) (Rr :: B i)) assign ((t, xs i) :: E) (Rr :: B i))
    (hbody : ∀ l i Rr, i < m → WG P N c (Fence.wide.inRound l) [] (PB c (Rr :: B (i + 1)) (Rr :: Jr)) body (E1 i) (Rr :: B i))
    (hdone : ∀ D, XG N c (markOf D) Q .normal E (Pt D (.deferred (some [])) :: (B m ++ K)))
    (hret : ∀ D, XG N c (markOf D) Q .ret E (Pt D (.deferred (some [])) :: (Jr ++ K))) :
    W P N c Q (.rangeFunc g #[t] assign body) E L := fun a w hf H => by
  refine (wpIn_wide (n := 0)).1 (wpIn_rangeFunc fun fn _ => ?_)
  obtain ⟨rec, hrec⟩ : ∃ rec : LoopState → Option Code → Loop, rec = fun st pe => { state := st, pending := pe, fn, tmps := a.tmps, params := #[t], assign, body, defers := w.heap.size } := ⟨_, rfl⟩
  obtain ⟨l, hl⟩ : ∃ l, l = w.heap.size + 1 := ⟨_, rfl⟩
  obtain ⟨D, hD⟩ : ∃ D, D = w.heap.size := ⟨_, rfl⟩
  have H1 : St c (Pt l (.loop (rec .ready none)) :: Pt D (.deferred (some [])) :: (B 0 ++ K)) ((w.alloc (.deferred (some []))).alloc (.loop (rec .ready none))) := by
    have := ((h0.st H).allocPt (.deferred (some []))).allocPt (.loop (rec .ready none))
    rw [World.size_alloc] at this
    rw [hl, hD]; exact this
  obtain ⟨B', hB'⟩ : ∃ B' : Nat → HP, B' = fun i => Join ([Pt l (.loop (rec .ready none)), Pt D (.deferred (some []))] ++ B i) := ⟨_, rfl⟩
  obtain ⟨J', hJ'⟩ : ∃ J' : HP, J' = Join ([Pt l (.loop (rec .done (some .ret))), Pt D (.deferred (some []))] ++ Jr) := ⟨_, rfl⟩
  have H2 : St c (B' 0 :: K) ((w.alloc (.deferred (some []))).alloc (.loop (rec .ready none))) := by
    rw [hB']; refine St.join.2 ?_; rw [List.append_assoc]; exact H1
  have hrun := run_enterLoop_outer (P := P) (w := w) fn a.tmps #[t] assign body
  rw [← hl] at hrun
  have hw2 : (.loop { state := .ready, pending := none, fn, tmps := a.tmps, params := #[t], assign, body, defers := w.heap.size } : Obj) = .loop (rec .ready none) := by rw [hrec]
  rw [hw2, ← hD] at hrun
  have hds : markOf D ++ a.defers = (wd (markOf D) a).defers := by simp [wd, hf.defers]
  have hact : ({ a with defers := markOf D ++ a.defers } : Act) = wd (markOf D) a := by rw [hds]; rfl
  refine ⟨l, markOf D, ((w.alloc (.deferred (some []))).alloc (.loop (rec .ready none))), ⟨.fn (.func gf) lb.toArray, #[.func (.yield l) #[] #[]]⟩, ((w.alloc (.deferred (some []))).alloc (.loop (rec .ready none))), gf, (.func (.yield l) #[] #[] :: lb).toArray, ((w.alloc (.deferred (some []))).alloc (.loop (rec .ready none))), hrun, ?_, fun f' _ => wide0.fn f', ?_, wide_dep, ?_⟩
  · simp only [resolve, hg N a hf, Deferred.ofValue, Sem.run_pure, List.map_toArray, List.map_cons]
    simp [go_sem]
  · simp only [invoke]
    rw [show (#[Value.func (.yield l) #[] #[]] ++ lb.toArray) = (.func (.yield l) #[] #[] :: lb).toArray by simp]
    exact run_enters he _ _
  · rw [hact]
    refine callsIn_wide.2 ((hit l B' J' ?_ _ H2).mono ?_)
    · -- one round
      intro i hi G w1 K1
      rw [hB'] at K1
      have KR := St.regroup K1
      have hl1 := St.pt (St.join.1 K1)
      have hy := run_yield (P := P) (args := #[xs i]) hl1 (by rw [hrec]; rfl)
      refine ⟨_, _, _, _, hy, roundIn_of_wpIn trivial ?_⟩
      have ea : ({ tmps := ((rec .ready none).params.zip #[xs i]).foldl (fun tmps (t, a) => tmps.setIfInBounds t a) (rec .ready none).tmps, defers := [] } : Act) = wd [] (a.put (some t) (xs i)) := by
        rw [wd_nil, hrec]
        simp [Act.put, hf.defers]
      rw [ea]
      have eas : (rec .ready none).assign = assign := by rw [hrec]
      have ebo : (rec .ready none).body = body := by rw [hrec]
      rw [eas, ebo]
      refine wpIn_mono (hassign l i _ hi _ w1 (hf.put ht) KR) ?_
      rintro e a2 w2 ⟨rfl, hf2, K2⟩
      have K2' := St.join.1 K2
      have hl2 := St.pt K2'
      refine ⟨_, run_beginRound hl2 (by rw [hrec]), ?_⟩
      have K3 := St.toJoin ([Pt l (.loop { rec .ready none with state := .busy }), Pt D (.deferred (some []))] ++ G) (St.putPt (o' := .loop { rec .ready none with state := .busy }) K2')
      have hb := hbody l i _ hi a2 _ hf2 K3
      rw [wd_nil] at hb
      refine wpIn_mono hb ?_
      rintro e a4 w4 (⟨rfl, K4⟩ | ⟨rfl, K4⟩)
      · have K4' := St.join.1 K4
        have hl4 := St.pt K4'
        refine ⟨_, _, run_endRound none hl4, .inl ⟨rfl, ?_⟩⟩
        have K5 := St.putPt (o' := .loop (rec .ready none)) K4'
        rw [hB']
        have e5 : (.loop { { rec .ready none with state := .busy } with state := if (none : Option Code).isNone then .ready else .done, pending := none } : Obj) = .loop (rec .ready none) := by rw [hrec]; rfl
        rw [e5]
        exact St.regroup (St.toJoin ([Pt l (.loop (rec .ready none)), Pt D (.deferred (some []))] ++ G) K5)
      · have K4' := St.join.1 K4
        have hl4 := St.pt K4'
        refine ⟨_, _, run_endRound (some .ret) hl4, .inr ⟨rfl, ?_⟩⟩
        have K5 := St.putPt (o' := .loop (rec .done (some .ret))) K4'
        rw [hJ']
        have e5 : (.loop { { rec .ready none with state := .busy } with state := if (some Code.ret : Option Code).isNone then .ready else .done, pending := some .ret } : Obj) = .loop (rec .done (some .ret)) := by rw [hrec]; rfl
        rw [e5]
        exact St.regroup (St.toJoin ([Pt l (.loop (rec .done (some .ret))), Pt D (.deferred (some []))] ++ G) K5)
    · rintro e w3 ⟨⟨v, rfl⟩, H3 | H3⟩
      · rw [hB'] at H3
        have H3' := St.join.1 H3
        rw [List.append_assoc] at H3'
        have hl3 := St.pt H3'
        have hr := run_endLoop (P := P) hl3 (by rw [hrec]; simp)
        rw [show (rec .ready none).pending = none by rw [hrec]] at hr
        exact ⟨none, _, hr, hdone D a _ hf (St.putPt H3').tail⟩
      · rw [hJ'] at H3
        have H3' := St.join.1 H3
        rw [List.append_assoc] at H3'
        have hl3 := St.pt H3'
        have hr := run_endLoop (P := P) hl3 (by rw [hrec]; simp)
        rw [show (rec .done (some .ret)).pending = some .ret by rw [hrec]] at hr
        exact ⟨some .ret, _, hr, wpIn_ret (hret D a _ hf (St.putPt H3').tail)⟩

/-! ### A function that leaves with a mark -/
theorem calls_wM {f : FuncId} {fn : Func} {code : Code} {vs : List Value} {R : Ending → World → Prop} (hf : P.funcs[f]? = some fn) (hb : fn.body = some code) (hN : fn.ntmps = N) (hv : Nat.ble vs.length N = true)
    (h : W P N c (bodyPostM Fence.wide 0 P fn R) code (args0 0 vs) L) : ∀ w, St c L w → Calls P f vs.toArray w R := fun w H => by
  have hv' : vs.length ≤ N := by simpa using hv
  refine (callsIn_wide (n := 0)).1 (callsIn_of_wp_marks hf hb trivial (wpIn_wide.2 (h _ w ⟨rfl, by simp [hN]; omega, fun t v hl => ?_⟩ H)))
  obtain ⟨k, h1, h2⟩ := look_args vs 0 t v hl
  have hk : k < vs.length := (List.getElem?_eq_some_iff.1 h2).1
  have : t = k := by omega
  subst this
  have h3 : (vs.toArray ++ Array.replicate (fn.ntmps - vs.toArray.size) undef)[t]? = some v := by
    rw [Array.getElem?_append_left (by simpa using hk)]; simpa using h2
  rw [Array.getD_eq_getD_getElem?, h3]; rfl
theorem x_retM {fn : Func} {R : Ending → World → Prop} (h : X N c (bodyPost P fn R) .ret E L) : X N c (bodyPostM F 0 P fn R) .ret E L := fun a w hf H => by
  show LeavesInM F 0 P fn a.tmps R a.defers .returning w
  rw [hf.defers]
  exact (h a w hf H).2
theorem results_c1 {fn : Func} {p : Tmp} {ty : TypeId} {z v : Value} [ht : TOne P ty z] (h : fn.results = #[.cell p ty]) (tmps : Array Value) (w : World) (ad : Addr)
    (hp : tmps.getD p undef = .pointer (some ad)) (hc : w.cell? ad = some v) : (results fn tmps).run P w = .ok v w := by
  have hu := ht.u
  cases hd : P.underlying ty with
  | none => simp [hd] at hu
  | some ds =>
    have ha : (isAgg ty).run P w = .ok false w := by
      unfold isAgg
      rw [Sem.run_bind, run_underlying hd w]
      rw [hd] at hu
      cases ds <;> simp_all [TypeDesc.isRow]
    have hp' : tmps[p]?.getD undef = .pointer (some ad) := by simpa using hp
    simp [results, h, hp', asAddr, loadVar, ha, load, Sem.run, hc]
theorem x_retC1 {fn : Func} {R : Ending → World → Prop} {p : Tmp} {ty : TypeId} {z v : Value} {ad : Addr} [ht : TOne P ty z] (hr : fn.results = #[.cell p ty]) (hl : look E p = some (.pointer (some ad))) (hc : HasCell (St c L) ad v)
    (h : ∀ w, St c L w → R (.returned v) w) : X N c (bodyPost P fn R) .ret E L := fun a w hf H =>
  bodyPost_ret (v := v) (results_c1 hr a.tmps w ad (hf.get p _ hl) (hc w H)) hf.defers (h w H)
theorem xg_retC1 {fn : Func} {R : Ending → World → Prop} {p : Tmp} {ty : TypeId} {z v : Value} {ad : Addr} {D : Nat} [ht : TOne P ty z] (hr : fn.results = #[.cell p ty]) (hl : look E p = some (.pointer (some ad))) (hc : HasCell (St c L) ad v)
    (h : ∀ w, St c L w → R (.returned v) w) : XG N c (markOf D) (bodyPostM F 0 P fn R) .ret E (Pt D (.deferred (some [])) :: L) := fun a w hf H => by
  show LeavesInM F 0 P fn a.tmps R (a.defers ++ markOf D) .returning w
  rw [hf.defers]
  have H' := (St.putPt (o' := .deferred none) H).tail
  exact ⟨by simp, .inl ⟨D, _, rfl, run_takeDeferred H.pt, v, results_c1 hr a.tmps _ ad (hf.get p _ hl) (hc _ H'), h _ H'⟩⟩
end
section
variable {P : Program} {N : Nat} {c : Con} {F : Fence} {ds : List Deferred} {Q : Exit → Act → World → Prop} {E : Env} {L : List HP} {G : Prop}
theorem im_wg {x : Code} (h : G → WG P N c F ds Q x E L) : G → WG P N c F ds Q x E L := h
theorem im_xg {e : Exit} (h : G → XG N c ds Q e E L) : G → XG N c ds Q e E L := h
theorem im_cvg {x y : Code} {v : Value} (h : G → CVG P N c F ds Q x y E L v) : G → CVG P N c F ds Q x y E L v := h
end
theorem gg1 {G G' : Prop} (h : G' → G := by (first | (with_reducible apply im_wg; first | exact fun h => wg_seq h | exact fun h => wg_region (by first | exact wide0 | exact wideR _) rfl h | exact fun h => wg_cv rfl h | exact fun h => wg_skip h | exact fun h => wg_ret h | exact fun h => wg_block h) | (with_reducible apply im_xg; first | exact fun h => xg_then h | exact fun h => xg_thenW h | exact fun h => xg_thenR h | exact fun h => xg_block h | exact fun h => xg_blockR h) | (with_reducible apply im_cvg; first | exact fun h => cvg_true h | exact fun h => cvg_false h | exact fun h => cvg_dec_t (by first | exact rfl | exact ne_self | decide | omega | assumption) h | exact fun h => cvg_dec_f (by first | exact rfl | exact ne_self | decide | omega | assumption) h | exact fun h => cvg_bool_t (by assumption) h | exact fun h => cvg_bool_f (by assumption) h) | (with_reducible apply im_x; first | exact fun h => x_nq h | exact fun h => x_ng h))) (k : G') : G := h k
theorem gg2 {G A B : Prop} (h : A → B → G := by (first | exact fun h k => cvg_dec h k | exact fun h k => cvg_bool h k)) (ka : A) (kb : B) : G := h ka kb
end Go.Proofs.Ytakeilefbcpabaa
