/- The walk's steps. No program in sight. -/
import Derived.Test.YtakeilefbcpabaaEe
namespace Go.Proofs.Ytakeilefbcpabaa
open Go.RowKit

section
variable {P : Program} {N : Nat} {c : Con} {E : Env} {L : List HP} {Q : Exit → Act → World → Prop} {ops : Array Oper} {H : World → Prop}
/-- The operation yields a value for which K. -/
def YK (P : Program) (H : World → Prop) (E : Env) (o : Oper) (K : Value → Prop) : Prop := ∃ v, Y P H E o v ∧ K v
/-- The operation acts, and K of what it yields and of the parties then. -/
def OWK (P : Program) (N : Nat) (c : Con) (E : Env) (L : List HP) (o : Oper) (K : Value → List HP → Prop) : Prop :=
  ∃ (β : Type) (r : β → Value) (L' : β → List HP), OW P N c E L o r L' ∧ ∀ x, K (r x) (L' x)
theorem yk {o : Oper} {v : Value} {K : Value → Prop} (h : Y P H E o v) (k : K v) : YK P H E o K := ⟨v, h, k⟩
theorem owk {o : Oper} {β : Type} {r : β → Value} {L' : β → List HP} {K : Value → List HP → Prop} (h : OW P N c E L o r L') (k : ∀ x, K (r x) (L' x)) : OWK P N c E L o K := ⟨β, r, L', h, k⟩
theorem owk0 {o : Oper} {r : Value} {L' : List HP} {K : Value → List HP → Prop} (h : OW P N c E L o (fun _ : Unit => r) fun _ => L') (k : K r L') : OWK P N c E L o K := ⟨Unit, _, _, h, fun _ => k⟩
theorem owk_yk {o : Oper} {K : Value → List HP → Prop} (h : YK P (St c L) E o fun v => K v L) : OWK P N c E L o K := by
  obtain ⟨v, h1, h2⟩ := h
  exact owk0 h1.ow h2
/-- A value in another spelling. -/
theorem yk_eq {o : Oper} {v v' : Value} {K : Value → Prop} (h : Y P H E o v) (e : v = v') (k : K v') : YK P H E o K := ⟨v, h, by rw [e]; exact k⟩

section
variable {d : Nat} {op : Op} {ty : TypeId} {pos : String} {aft : Array Edge} {rest : List Oper}
theorem wl_step (hd : Nat.blt d N = true) (h : OWK P N c E L ⟨some d, op, ty, pos, aft, none⟩ fun v L' => WL P N c ops Q rest ((d, v) :: E) L') : WL P N c ops Q (⟨some d, op, ty, pos, aft, none⟩ :: rest) E L := by
  obtain ⟨β, r, L', h1, h2⟩ := h
  exact wl_ow h1 hd h2
theorem wl_step0 (h : OWK P N c E L ⟨none, op, ty, pos, aft, none⟩ fun _ L' => WL P N c ops Q rest E L') : WL P N c ops Q (⟨none, op, ty, pos, aft, none⟩ :: rest) E L := fun a w hf Hw => by
  obtain ⟨β, r, L', h1, h2⟩ := h
  exact wpList_plain rfl fun K hK => h1 Q K a w hf Hw fun x w' H' => hK _ _ (h2 x _ _ hf H')
end
section
variable {d i : Nat} {op : Op} {ty : TypeId} {pos : String} {aft : Array Edge} {R : List HP} {er : Nat → Bool} {r : Plan}
theorem wq_step (ho : ops[i]? = some ⟨some d, op, ty, pos, aft, none⟩) (hd : Nat.blt d N = true) (h : YK P (St c R) E ⟨some d, op, ty, pos, aft, none⟩ fun v => WP P N c ops Q R er r ((d, v) :: E) L) : WP P N c ops Q R er ((i, true) :: r) E L := by
  obtain ⟨v, h1, h2⟩ := h
  exact wq_y ho h1 hd h2
theorem wq_stepG {j t : Nat} {b : Bool} (ho : ops[i]? = some ⟨some d, op, ty, pos, aft, some (j, b)⟩) (hs : guardSlot ops j = some t) (hl : look E t = some (.bool b)) (hd : Nat.blt d N = true)
    (h : YK P (St c R) E ⟨some d, op, ty, pos, aft, none⟩ fun v => WP P N c ops Q R er r ((d, v) :: E) L) : WP P N c ops Q R er ((i, true) :: r) E L := by
  obtain ⟨v, h1, h2⟩ := h
  exact wq_yg ho hs hl h1 hd h2
/-- What the looks read, behind an act. -/
def Kept (P : Program) (N : Nat) (c : Con) (ops : Array Oper) (Q : Exit → Act → World → Prop) (R : List HP) (er : Nat → Bool) (i : Nat) (r : Plan) (E : Env) (L : List HP) : Prop :=
  ∃ R', Sel R' R ∧ (needB er i r = true → Sel L R') ∧ WP P N c ops Q R' er r E L
theorem kept_late (hn : needB er i r = false) (h : WP P N c ops Q R er r E L) : Kept P N c ops Q R er i r E L := ⟨R, sel_all, fun e => (by rw [hn] at e; cases e), h⟩
theorem kept_same (hs : Sel L R) (h : WP P N c ops Q R er r E L) : Kept P N c ops Q R er i r E L := ⟨R, sel_all, fun _ => hs, h⟩
theorem kept_more (R' : List HP) (h1 : Sel R' R) (h2 : Sel L R') (h : WP P N c ops Q R' er r E L) : Kept P N c ops Q R er i r E L := ⟨R', h1, fun _ => h2, h⟩
theorem Kept.plan (h : Kept P N c ops Q R er i r E L) {a : Act} {w : World} (hf : Fr N E a) (H : St c L w) : ∃ S' : World → Prop, (∀ w, S' w → St c R w) ∧ (needB er i r = true → S' w) ∧ wpPlan P ops Q er r S' a w := by
  obtain ⟨R', h1, h2, h3⟩ := h
  exact ⟨St c R', fun w k => h1.st k, fun e => (h2 e).st H, h3 a w hf H⟩
theorem wq_act (ho : ops[i]? = some ⟨some d, op, ty, pos, aft, none⟩) (hd : Nat.blt d N = true) (h : OWK P N c E L ⟨some d, op, ty, pos, aft, none⟩ fun v L' => Kept P N c ops Q R er i r ((d, v) :: E) L') :
    WP P N c ops Q R er ((i, false) :: r) E L := fun a w hf Hw => by
  obtain ⟨β, s, L', h1, h2⟩ := h
  exact ⟨_, ho, by rw [if_pos (by simp [Region.wanted])]; exact h1 Q _ a w hf Hw fun x w' H' => (h2 x).plan (hf.put hd) H'⟩
theorem wq_act0 (ho : ops[i]? = some ⟨none, op, ty, pos, aft, none⟩) (h : OWK P N c E L ⟨none, op, ty, pos, aft, none⟩ fun _ L' => Kept P N c ops Q R er i r E L') :
    WP P N c ops Q R er ((i, false) :: r) E L := fun a w hf Hw => by
  obtain ⟨β, s, L', h1, h2⟩ := h
  exact ⟨_, ho, by rw [if_pos (by simp [Region.wanted])]; exact h1 Q _ a w hf Hw fun x w' H' => (h2 x).plan hf H'⟩
theorem wq_actG {j t : Nat} {b : Bool} (ho : ops[i]? = some ⟨some d, op, ty, pos, aft, some (j, b)⟩) (hs : guardSlot ops j = some t) (hl : look E t = some (.bool b)) (hd : Nat.blt d N = true)
    (h : OWK P N c E L ⟨some d, op, ty, pos, aft, none⟩ fun v L' => Kept P N c ops Q R er i r ((d, v) :: E) L') : WP P N c ops Q R er ((i, false) :: r) E L := fun a w hf Hw => by
  obtain ⟨β, s, L', h1, h2⟩ := h
  exact ⟨_, ho, by
    rw [if_pos (by rw [wanted_of hf rfl hs hl]; simp)]
    exact oper_guard (h1 Q _ a w hf Hw fun x w' H' => (h2 x).plan (hf.put hd) H')⟩
end

/-- A slice of one's own, opened: nil, or the head of a block. -/
theorem w_openOwn {F : List HP} {e : TypeId} {size n : Nat} {v : Value} {xs : List Value} {x : Code} (hp : Pick L (OwnP e size v n xs) F) (h1 : v = .slice none 0 0 → n = 0 → xs = [] → W P N c Q x E F)
    (h2 : ∀ g cap (cur : List Value), v = .slice (some ⟨g, 0, none⟩) n cap → n ≤ cap → cap ≤ 9223372036854775807 → cur.length = cap * size → cur.take (n * size) = xs → W P N c Q x E (Bl g e cur :: F)) : W P N c Q x E L := fun a w hf H => by
  obtain ⟨h, ⟨hx, ho⟩, l, r⟩ := (hp.st H).stars
  rcases ho with ⟨k1, k2⟩ | ⟨g, cap, cur, k1, k2, k3, k4, k5, k6⟩
  · subst k2
    exact h1 k1 rfl (List.eq_nil_of_length_eq_zero (by simpa using hx)) a w hf (hp.st H).tail
  · refine h2 g cap cur.toList k1 k3 (by simpa [maxLen] using k4) (by simpa using k5) k6 a w hf ⟨H.con, h, ?_, l, r⟩
    simpa [Pt] using k2

theorem ne_self {α : Type} {x : α} : ¬ (x ≠ x) := fun h => h rfl
/-! A branch by its value -/
def CV (P : Program) (N : Nat) (c : Con) (Q : Exit → Act → World → Prop) (x y : Code) (E : Env) (L : List HP) (v : Value) : Prop := ∀ t, look E t = some v → W P N c Q (.cond (.tmp t) x y) E L
theorem w_cv {t : Nat} {x y : Code} {v : Value} (hl : look E t = some v) (h : CV P N c Q x y E L v) : W P N c Q (.cond (.tmp t) x y) E L := h t hl
theorem cv_true {x y : Code} (h : W P N c Q x E L) : CV P N c Q x y E L (.bool true) := fun _ hl => w_true hl h
theorem cv_false {x y : Code} (h : W P N c Q y E L) : CV P N c Q x y E L (.bool false) := fun _ hl => w_false hl h
theorem cv_dec {x y : Code} {p : Prop} [Decidable p] (h1 : p → W P N c Q x E L) (h2 : ¬ p → W P N c Q y E L) : CV P N c Q x y E L (.bool (decide p)) := fun _ hl => w_cond hl h1 h2
theorem cv_dec_t {x y : Code} {p : Prop} [Decidable p] (h : p) (h1 : W P N c Q x E L) : CV P N c Q x y E L (.bool (decide p)) := cv_dec (fun _ => h1) fun k => absurd h k
theorem cv_dec_f {x y : Code} {p : Prop} [Decidable p] (h : ¬ p) (h1 : W P N c Q y E L) : CV P N c Q x y E L (.bool (decide p)) := cv_dec (fun k => absurd k h) fun _ => h1
theorem cv_bool_t {x y : Code} {b : Bool} (h : b = true) (h1 : W P N c Q x E L) : CV P N c Q x y E L (.bool b) := by subst h; exact cv_true h1
theorem cv_bool_f {x y : Code} {b : Bool} (h : b = false) (h1 : W P N c Q y E L) : CV P N c Q x y E L (.bool b) := by subst h; exact cv_false h1
theorem cv_bool {x y : Code} {b : Bool} (h1 : b = true → W P N c Q x E L) (h2 : b = false → W P N c Q y E L) : CV P N c Q x y E L (.bool b) := fun _ hl => w_bool hl h1 h2

/-! Calls by contracts: of one party, of two, of none -/
section
variable {d : Option Nat} {ty : TypeId} {pos : String} {aft : Array Edge} {f : FuncId} {xs : Array Operand} {ts : Array TypeId} {vs : List Value} {A A' B B' : HP} {F F' : List HP} {K : Value → List HP → Prop}
theorem owk_c0 {r : Value} (hx : Evs E xs vs) (he : entersB P f = true) (pre : ∀ w, St c L w → Calls P f vs.toArray w fun e w' => e = .returned r ∧ w = w') (k : K r L) :
    OWK P N c E L (Oper.mk d (.call { callee := .value (.func f), args := xs, argTypes := ts }) ty pos aft none) K :=
  owk0 (ow_call0 hx he fun w H => (pre w H).mono fun _ _ h => ⟨h.1, h.2 ▸ H⟩) k
theorem owk_c0s {r : Value} (hx : Evs E xs vs) (he : entersB P f = true) (pre : ∀ w, St c L w → Calls P f vs.toArray w fun e w' => e = .returned r ∧ St c L w') (k : K r L) :
    OWK P N c E L (Oper.mk d (.call { callee := .value (.func f), args := xs, argTypes := ts }) ty pos aft none) K :=
  owk0 (ow_call0 hx he pre) k
theorem owk_c0x {β : Type} {r : β → Value} {A' : β → HP} (hx : Evs E xs vs) (he : entersB P f = true) (pre : ∀ w, St c L w → Calls P f vs.toArray w fun e w' => ∃ x, e = .returned (r x) ∧ St c (A' x :: L) w') (k : ∀ x, K (r x) (A' x :: L)) :
    OWK P N c E L (Oper.mk d (.call { callee := .value (.func f), args := xs, argTypes := ts }) ty pos aft none) K :=
  owk (ow_callx hx he pre) k
theorem owk_c1q {r : Value} (hx : Evs E xs vs) (he : entersB P f = true) (hp : Pick L A F) (pre : ∀ w, St c (A :: F) w → Calls P f vs.toArray w fun e w' => e = .returned r ∧ w = w') (k : K r L) :
    OWK P N c E L (Oper.mk d (.call { callee := .value (.func f), args := xs, argTypes := ts }) ty pos aft none) K :=
  owk0 (ow_call0 hx he fun w H => (pre w (hp.st H)).mono fun _ _ h => ⟨h.1, h.2 ▸ H⟩) k
theorem owk_c1 {r : Value} (hx : Evs E xs vs) (he : entersB P f = true) (hp : Pick L A F) (pre : ∀ w, St c (A :: F) w → Calls P f vs.toArray w fun e w' => e = .returned r ∧ St c (A' :: F) w') (k : K r (A' :: F)) :
    OWK P N c E L (Oper.mk d (.call { callee := .value (.func f), args := xs, argTypes := ts }) ty pos aft none) K :=
  owk0 (ow_call0 hx he fun w H => pre w (hp.st H)) k
theorem owk_c1x {β : Type} {r : β → Value} {L' : β → List HP} (hx : Evs E xs vs) (he : entersB P f = true) (hp : Pick L A F) (pre : ∀ w, St c (A :: F) w → Calls P f vs.toArray w fun e w' => ∃ x, e = .returned (r x) ∧ St c (L' x) w') (k : ∀ x, K (r x) (L' x)) :
    OWK P N c E L (Oper.mk d (.call { callee := .value (.func f), args := xs, argTypes := ts }) ty pos aft none) K :=
  owk (ow_callx hx he fun w H => pre w (hp.st H)) k
theorem owk_c2 {r : Value} (hx : Evs E xs vs) (he : entersB P f = true) (hp : Pick L A F) (hq : Pick F B F') (pre : ∀ w, St c (A :: B :: F') w → Calls P f vs.toArray w fun e w' => e = .returned r ∧ St c (A' :: B' :: F') w') (k : K r (A' :: B' :: F')) :
    OWK P N c E L (Oper.mk d (.call { callee := .value (.func f), args := xs, argTypes := ts }) ty pos aft none) K :=
  owk0 (ow_call0 hx he fun w H => pre w (Sel.st (.cons hp (.cons hq sel_all)) H)) k
theorem owk_c2x {β : Type} {r : β → Value} {L' : β → List HP} (hx : Evs E xs vs) (he : entersB P f = true) (hp : Pick L A F) (hq : Pick F B F') (pre : ∀ w, St c (A :: B :: F') w → Calls P f vs.toArray w fun e w' => ∃ x, e = .returned (r x) ∧ St c (L' x) w') (k : ∀ x, K (r x) (L' x)) :
    OWK P N c E L (Oper.mk d (.call { callee := .value (.func f), args := xs, argTypes := ts }) ty pos aft none) K :=
  owk (ow_callx hx he fun w H => pre w (Sel.st (.cons hp (.cons hq sel_all)) H)) k
theorem owk_c2q {r : Value} (hx : Evs E xs vs) (he : entersB P f = true) (hp : Pick L A F) (hq : Pick F B F') (pre : ∀ w, St c (A :: B :: F') w → Calls P f vs.toArray w fun e w' => e = .returned r ∧ w = w') (k : K r L) :
    OWK P N c E L (Oper.mk d (.call { callee := .value (.func f), args := xs, argTypes := ts }) ty pos aft none) K :=
  owk0 (ow_call0 hx he fun w H => (pre w (Sel.st (.cons hp (.cons hq sel_all)) H)).mono fun _ _ h => ⟨h.1, h.2 ▸ H⟩) k
end
/-- A call of a function value, by a contract of one party. -/
theorem owk_fv1 {c : Con} {L F : List HP} {A A' : HP} {d : Option Nat} {ty : TypeId} {pos : String} {aft : Array Edge} {f : FuncId} {fo : Operand} {xs : Array Operand} {ts : Array TypeId} {vs caps al : List Value} {K : Value → List HP → Prop} {r : Value}
    (hf : Ev E fo (.func (.func f) #[] caps.toArray)) (hx : Evs E xs vs) (he : entersB P f = true) (hp : Pick L A F) (ha : vs ++ caps = al)
    (pre : ∀ w, St c (A :: F) w → Calls P f al.toArray w fun e w' => e = .returned r ∧ St c (A' :: F) w') (k : K r (A' :: F)) :
    OWK P N c E L (Oper.mk d (.call { callee := .value fo, args := xs, argTypes := ts }) ty pos aft none) K :=
  owk0 (ow_call hf hx he fun w H => by rw [ha]; exact (pre w (hp.st H)).mono fun _ _ h => ⟨(), h⟩) k
theorem at_move {K : Value → Prop} {d : Option Nat} {ty : TypeId} {pos : String} {aft : Array Edge} {g : Option (Nat × Bool)} {x : Operand} (h : YK P H E (Oper.mk d (.move x) ty pos aft g) K) : YK P H E (Oper.mk d (.move x) ty pos aft g) K := h
theorem at_assign {K : Value → Prop} {d : Option Nat} {ty : TypeId} {pos : String} {aft : Array Edge} {g : Option (Nat × Bool)} {x : Operand} (h : YK P H E (Oper.mk d (.assign x) ty pos aft g) K) : YK P H E (Oper.mk d (.assign x) ty pos aft g) K := h
theorem at_nilCheck {K : Value → Prop} {d : Option Nat} {ty : TypeId} {pos : String} {aft : Array Edge} {g : Option (Nat × Bool)} {x : Operand} (h : YK P H E (Oper.mk d (.nilCheck x) ty pos aft g) K) : YK P H E (Oper.mk d (.nilCheck x) ty pos aft g) K := h
theorem at_field {K : Value → Prop} {d : Option Nat} {ty : TypeId} {pos : String} {aft : Array Edge} {g : Option (Nat × Bool)} {s f : Nat} {x : Operand} (h : YK P H E (Oper.mk d (.fieldAddr s x f) ty pos aft g) K) : YK P H E (Oper.mk d (.fieldAddr s x f) ty pos aft g) K := h
theorem at_load {K : Value → Prop} {d : Option Nat} {ty : TypeId} {pos : String} {aft : Array Edge} {g : Option (Nat × Bool)} {t : TypeId} {x : Operand} (h : YK P H E (Oper.mk d (.load t x) ty pos aft g) K) : YK P H E (Oper.mk d (.load t x) ty pos aft g) K := h
theorem at_bin {K : Value → Prop} {d : Option Nat} {ty : TypeId} {pos : String} {aft : Array Edge} {g : Option (Nat × Bool)} {o : BinOp} {t t' : TypeId} {x y : Operand} (h : YK P H E (Oper.mk d (.binOp o t x y t') ty pos aft g) K) : YK P H E (Oper.mk d (.binOp o t x y t') ty pos aft g) K := h
theorem at_pick {K : Value → Prop} {d : Option Nat} {ty : TypeId} {pos : String} {aft : Array Edge} {g : Option (Nat × Bool)} {x y z : Operand} (h : YK P H E (Oper.mk d (.pick x y z) ty pos aft g) K) : YK P H E (Oper.mk d (.pick x y z) ty pos aft g) K := h
theorem at_extract {K : Value → Prop} {d : Option Nat} {ty : TypeId} {pos : String} {aft : Array Edge} {g : Option (Nat × Bool)} {x : Operand} {i : Nat} (h : YK P H E (Oper.mk d (.extract x i) ty pos aft g) K) : YK P H E (Oper.mk d (.extract x i) ty pos aft g) K := h
theorem at_un {K : Value → Prop} {d : Option Nat} {ty : TypeId} {pos : String} {aft : Array Edge} {g : Option (Nat × Bool)} {o : UnOp} {t : TypeId} {x : Operand} (h : YK P H E (Oper.mk d (.unOp o t x) ty pos aft g) K) : YK P H E (Oper.mk d (.unOp o t x) ty pos aft g) K := h
theorem at_call {K : Value → Prop} {d : Option Nat} {ty : TypeId} {pos : String} {aft : Array Edge} {g : Option (Nat × Bool)} {b : Call} (h : YK P H E (Oper.mk d (.call b) ty pos aft g) K) : YK P H E (Oper.mk d (.call b) ty pos aft g) K := h
theorem at_index {K : Value → Prop} {d : Option Nat} {ty : TypeId} {pos : String} {aft : Array Edge} {g : Option (Nat × Bool)} {t : TypeId} {x i : Operand} (h : YK P H E (Oper.mk d (.indexAddr t x i) ty pos aft g) K) : YK P H E (Oper.mk d (.indexAddr t x i) ty pos aft g) K := h
theorem at_slice {K : Value → Prop} {d : Option Nat} {ty : TypeId} {pos : String} {aft : Array Edge} {g : Option (Nat × Bool)} {t : TypeId} {x : Operand} {l h' m : Option Operand} (h : YK P H E (Oper.mk d (.slice t x l h' m) ty pos aft g) K) : YK P H E (Oper.mk d (.slice t x l h' m) ty pos aft g) K := h
theorem at_conv {K : Value → Prop} {d : Option Nat} {ty : TypeId} {pos : String} {aft : Array Edge} {g : Option (Nat × Bool)} {t t' : TypeId} {x : Operand} (h : YK P H E (Oper.mk d (.convert t t' x) ty pos aft g) K) : YK P H E (Oper.mk d (.convert t t' x) ty pos aft g) K := h
theorem at_func {K : Value → Prop} {d : Option Nat} {ty : TypeId} {pos : String} {aft : Array Edge} {g : Option (Nat × Bool)} {fn : Fn} {a b : Array Operand} (h : YK P H E (Oper.mk d (.makeFunc fn a b) ty pos aft g) K) : YK P H E (Oper.mk d (.makeFunc fn a b) ty pos aft g) K := h
theorem at_build {K : Value → Prop} {d : Option Nat} {ty : TypeId} {pos : String} {aft : Array Edge} {g : Option (Nat × Bool)} {t : TypeId} {ps : Array (Nat × Operand)} (h : YK P H E (Oper.mk d (.build t ps) ty pos aft g) K) : YK P H E (Oper.mk d (.build t ps) ty pos aft g) K := h
theorem at_callO {K : Value → List HP → Prop} {d : Option Nat} {ty : TypeId} {pos : String} {aft : Array Edge} {g : Option (Nat × Bool)} {b : Call} (h : OWK P N c E L (Oper.mk d (.call b) ty pos aft g) K) : OWK P N c E L (Oper.mk d (.call b) ty pos aft g) K := h
theorem at_allocO {K : Value → List HP → Prop} {d : Option Nat} {ty : TypeId} {pos : String} {aft : Array Edge} {g : Option (Nat × Bool)} {t : TypeId} (h : OWK P N c E L (Oper.mk d (.alloc t) ty pos aft g) K) : OWK P N c E L (Oper.mk d (.alloc t) ty pos aft g) K := h
theorem at_boxO {K : Value → List HP → Prop} {d : Option Nat} {ty : TypeId} {pos : String} {aft : Array Edge} {g : Option (Nat × Bool)} {t : TypeId} {x : Operand} (h : OWK P N c E L (Oper.mk d (.box t x) ty pos aft g) K) : OWK P N c E L (Oper.mk d (.box t x) ty pos aft g) K := h
theorem at_storeO {K : Value → List HP → Prop} {d : Option Nat} {ty : TypeId} {pos : String} {aft : Array Edge} {g : Option (Nat × Bool)} {t : TypeId} {x y : Operand} (h : OWK P N c E L (Oper.mk d (.store t x y) ty pos aft g) K) : OWK P N c E L (Oper.mk d (.store t x y) ty pos aft g) K := h
theorem at_buildSliceO {K : Value → List HP → Prop} {d : Option Nat} {ty : TypeId} {pos : String} {aft : Array Edge} {g : Option (Nat × Bool)} {t n : Nat} {ps : Array (Nat × Operand)} (h : OWK P N c E L (Oper.mk d (.buildSlice t n ps) ty pos aft g) K) : OWK P N c E L (Oper.mk d (.buildSlice t n ps) ty pos aft g) K := h
theorem at_makeSliceO {K : Value → List HP → Prop} {d : Option Nat} {ty : TypeId} {pos : String} {aft : Array Edge} {g : Option (Nat × Bool)} {t : TypeId} {x y : Operand} (h : OWK P N c E L (Oper.mk d (.makeSlice t x y) ty pos aft g) K) : OWK P N c E L (Oper.mk d (.makeSlice t x y) ty pos aft g) K := h
theorem at_convO {K : Value → List HP → Prop} {d : Option Nat} {ty : TypeId} {pos : String} {aft : Array Edge} {g : Option (Nat × Bool)} {t t' : TypeId} {x : Operand} (h : OWK P N c E L (Oper.mk d (.convert t t' x) ty pos aft g) K) : OWK P N c E L (Oper.mk d (.convert t t' x) ty pos aft g) K := h
theorem at_builtinO {K : Value → List HP → Prop} {d : Option Nat} {ty : TypeId} {pos : String} {aft : Array Edge} {g : Option (Nat × Bool)} {b : Builtin} {xs : Array Operand} {ts : Array TypeId} (h : OWK P N c E L (Oper.mk d (.call { callee := .builtin b, args := xs, argTypes := ts }) ty pos aft g) K) : OWK P N c E L (Oper.mk d (.call { callee := .builtin b, args := xs, argTypes := ts }) ty pos aft g) K := h
theorem at_fn {K : Value → List HP → Prop} {d : Option Nat} {ty : TypeId} {pos : String} {aft : Array Edge} {g : Option (Nat × Bool)} (f : FuncId) {xs : Array Operand} {ts : Array TypeId} (h : OWK P N c E L (Oper.mk d (.call { callee := .value (.func f), args := xs, argTypes := ts }) ty pos aft g) K) : OWK P N c E L (Oper.mk d (.call { callee := .value (.func f), args := xs, argTypes := ts }) ty pos aft g) K := h
theorem is_yk {K : Value → Prop} {o : Oper} (h : YK P H E o K) : YK P H E o K := h
theorem is_owk {K : Value → List HP → Prop} {o : Oper} (h : OWK P N c E L o K) : OWK P N c E L o K := h
theorem is_wl {l : List Oper} (h : WL P N c ops Q l E L) : WL P N c ops Q l E L := h
theorem is_wp {R : List HP} {er : Nat → Bool} {p : Plan} (h : WP P N c ops Q R er p E L) : WP P N c ops Q R er p E L := h
theorem is_w {x : Code} (h : W P N c Q x E L) : W P N c Q x E L := h
theorem is_x {e : Exit} (h : X N c Q e E L) : X N c Q e E L := h
theorem is_kept {R : List HP} {er : Nat → Bool} {i : Nat} {r : Plan} (h : Kept P N c ops Q R er i r E L) : Kept P N c ops Q R er i r E L := h
theorem is_wpT {R : List HP} {er : Nat → Bool} {i : Nat} {r : Plan} (h : WP P N c ops Q R er ((i, true) :: r) E L) : WP P N c ops Q R er ((i, true) :: r) E L := h
theorem is_wpF {R : List HP} {er : Nat → Bool} {i : Nat} {r : Plan} (h : WP P N c ops Q R er ((i, false) :: r) E L) : WP P N c ops Q R er ((i, false) :: r) E L := h
theorem is_cv {x y : Code} {v : Value} (h : CV P N c Q x y E L v) : CV P N c Q x y E L v := h
end
end Go.Proofs.Ytakeilefbcpabaa
