/- The walk by what is known: a frame by the slots that are known, a world by its parties. No program in sight. -/
import Derived.Test.YtakeilefbcpabaaEa
namespace Go.Proofs.Ytakeilefbcpabaa
open Go.RowKit

/-! ### What is known of a frame -/
abbrev Env := List (Nat × Value)
def look : Env → Nat → Option Value
  | [], _ => none
  | (s, v) :: r, t => cond (Nat.beq s t) (some v) (look r t)
theorem look_hit {r : Env} {d : Nat} {v : Value} : look ((d, v) :: r) d = some v := by simp [look]
theorem beq_ne {d t : Nat} (h : d ≠ t) : Nat.beq d t = false := by
  cases e : Nat.beq d t with
  | false => rfl
  | true => exact absurd (Nat.eq_of_beq_eq_true e) h
theorem look_miss {r : Env} {d t : Nat} {v : Value} (h : d ≠ t) : look ((d, v) :: r) t = look r t := by simp [look, beq_ne h]

structure Fr (N : Nat) (E : Env) (a : Act) : Prop where
  defers : a.defers = []
  size : a.tmps.size = N
  get : ∀ t v, look E t = some v → a.tmps.getD t undef = v
theorem Fr.put {N : Nat} {E : Env} {a : Act} {d : Nat} {v : Value} (h : Fr N E a) (hd : Nat.blt d N = true) : Fr N ((d, v) :: E) (a.put (some d) v) := by
  have hd' : d < N := by simp [Nat.blt] at hd; omega
  refine ⟨h.defers, by simp [Act.put, h.size], fun t u hl => ?_⟩
  by_cases e : d = t
  · subst e
    rw [look_hit] at hl
    cases hl
    simp [Act.put, h.size, hd']
  · rw [look_miss e] at hl
    have := h.get t u hl
    simp only [Act.put, Array.getD_eq_getD_getElem?] at this ⊢
    rw [Array.getElem?_setIfInBounds_ne e]; exact this
/-- One knows less. -/
def Sub (E' E : Env) : Prop := ∀ t v, look E' t = some v → look E t = some v
theorem Fr.sub {N : Nat} {E E' : Env} {a : Act} (h : Fr N E a) (s : Sub E' E) : Fr N E' a := ⟨h.defers, h.size, fun t v hl => h.get t v (s t v hl)⟩
theorem sub_nil {E : Env} : Sub [] E := fun _ _ h => by cases h
theorem sub_cons {E E' : Env} {d : Nat} {v : Value} (h : look E d = some v) (s : Sub E' E) : Sub ((d, v) :: E') E := fun t u hl => by
  by_cases e : d = t
  · subst e; rw [look_hit] at hl; cases hl; exact h
  · rw [look_miss e] at hl; exact s t u hl
theorem sub_refl {E : Env} : Sub E E := fun _ _ h => h
theorem Sub.trans {E E' E'' : Env} (h : Sub E E') (k : Sub E' E'') : Sub E E'' := fun t v e => k t v (h t v e)

/-- An operand's value. -/
def Ev (E : Env) (x : Operand) (v : Value) : Prop := ∀ N a, Fr N E a → a.eval x = v
theorem ev_tmp {E : Env} {t : Nat} {v : Value} (h : look E t = some v) : Ev E (.tmp t) v := fun _ _ hf => hf.get t v h
theorem ev_const {E : Env} {v : Value} : Ev E (.const v) v := fun _ _ _ => rfl
theorem ev_func {E : Env} {f : FuncId} : Ev E (.func f) (.func (.func f) #[] #[]) := fun _ _ _ => rfl
/-- Of several operands. -/
def Evs (E : Env) (xs : Array Operand) (vs : List Value) : Prop := ∀ N a, Fr N E a → xs.map a.eval = vs.toArray
theorem evs_nil {E : Env} : Evs E #[] [] := fun _ _ _ => by simp
theorem evs_cons {E : Env} {x : Operand} {xs : List Operand} {v : Value} {vs : List Value} (h : Ev E x v) (k : Evs E xs.toArray vs) : Evs E (x :: xs).toArray (v :: vs) := fun N a hf => by
  have h1 := h N a hf
  have h2 := k N a hf
  simp only [List.map_toArray, List.map_cons, h1] at h2 ⊢
  congr 2
  simpa using h2

/-! ### What lies in a world -/
def HasCell (H : World → Prop) (a : Addr) (v : Value) : Prop := ∀ w, H w → w.cell? a = some v
def HasCells (H : World → Prop) (a : Addr) (cs : List Value) : Prop := ∀ i u, cs[i]? = some u → HasCell H (a.add i) u
def Has (H : World → Prop) (b : Nat) (o : Obj) : Prop := ∀ w, H w → w.heap[b]? = some o
/-- A block of one's own. -/
abbrev Bl (b : Nat) (T : TypeId) (cs : List Value) : HP := Pt b (.cells cs.toArray T (0, 0))

section
variable {c : Con} {A B A' : HP} {L F : List HP}
/-- One party out of many. -/
inductive Pick : List HP → HP → List HP → Prop where
  | hd {A : HP} {F : List HP} : Pick (A :: F) A F
  | tl {L : List HP} {A B : HP} {F : List HP} (h : Pick L A F) : Pick (B :: L) A (B :: F)
theorem Pick.stars {w : World} {L F : List HP} {A : HP} (h : Pick L A F) : ∀ S : Nat → Prop, Stars L S w → Stars (A :: F) S w := by
  induction h with
  | hd => exact fun _ H => H
  | tl _ ih => exact fun _ H => (H.under fun _ k => ih _ k).swap
theorem Pick.st {w : World} {L F : List HP} {A : HP} (h : Pick L A F) (H : St c L w) : St c (A :: F) w := ⟨H.con, h.stars _ H.stars⟩
/-- Some parties out of many, in an order of one's own. -/
inductive Sel : List HP → List HP → Prop where
  | nil {L : List HP} : Sel L []
  | cons {L F T : List HP} {A : HP} (h : Pick L A F) (k : Sel F T) : Sel L (A :: T)
  | own0 {L T : List HP} {e : TypeId} {size : Nat} (k : Sel L T) : Sel L (OwnP e size (.slice none 0 0) 0 [] :: T)
  | tl {L T : List HP} {A : HP} (k : Sel L T) : Sel (A :: L) T
  | imp {L F T : List HP} {A A' : HP} (h : Pick L A F) (i : ∀ h, A h → A' h) (k : Sel F T) : Sel L (A' :: T)
theorem Sel.stars {w : World} {L T : List HP} (h : Sel L T) : ∀ S : Nat → Prop, Stars L S w → Stars T S w := by
  induction h with
  | nil => exact fun _ _ => trivial
  | cons h _ ih => exact fun _ H => (h.stars _ H).under fun _ k => ih _ k
  | own0 _ ih => exact fun _ H => ⟨fun _ => none, OwnP.nil _ _ _, (fun _ _ e => by cases e), ih _ (H.mono (fun _ k => ⟨k, rfl⟩) fun _ _ _ e => e)⟩
  | tl _ ih => exact fun _ H => ih _ H.tail
  | imp h i _ ih =>
    intro _ H
    obtain ⟨h0, a, l, r⟩ := (h.stars _ H).under fun _ k => ih _ k
    exact ⟨h0, i _ a, l, r⟩
theorem Sel.st {L T : List HP} (h : Sel L T) {w : World} (H : St c L w) : St c T w := ⟨H.con, h.stars _ H.stars⟩
theorem sel_all {L : List HP} : Sel L L := by
  induction L with
  | nil => exact .nil
  | cons _ _ ih => exact .cons .hd ih

theorem has_hd {b : Nat} {o : Obj} : Has (St c (Pt b o :: L)) b o := fun _ H => H.pt
theorem has_tl {b : Nat} {o : Obj} (h : Has (St c L) b o) : Has (St c (A :: L)) b o := fun _ H => h _ H.tail
theorem hasCell_tl {a : Addr} {v : Value} (h : HasCell (St c L) a v) : HasCell (St c (A :: L)) a v := fun _ H => h _ H.tail
theorem hasCells_tl {a : Addr} {cs : List Value} (h : HasCells (St c L) a cs) : HasCells (St c (A :: L)) a cs := fun i u e => hasCell_tl (h i u e)
theorem hasCell_bl {H : World → Prop} {b o : Nat} {T : TypeId} {fr : Nat × Nat} {C : Array Value} {v : Value} (h : Has H b (.cells C T fr)) (hv : C.toList[o]? = some v) : HasCell H ⟨b, o, none⟩ v := fun w k => by
  rw [cell_of_row w b o C T fr (h w k)]; simpa using hv
theorem hasCells_bl {H : World → Prop} {b o : Nat} {T : TypeId} {fr : Nat × Nat} {C : Array Value} {cs : List Value} (h : Has H b (.cells C T fr)) (hv : (C.toList.drop o).take cs.length = cs) : HasCells H ⟨b, o, none⟩ cs := fun i u e w k => by
  rw [add_mid, cell_of_row w b (o + i) C T fr (h w k)]
  rw [← hv, List.getElem?_take] at e
  split at e
  · rw [List.getElem?_drop] at e; simpa using e
  · cases e
theorem hasCells_all {H : World → Prop} {b T : Nat} {fr : Nat × Nat} {cs : List Value} (h : Has H b (.cells cs.toArray T fr)) : HasCells H ⟨b, 0, none⟩ cs := hasCells_bl h (by simp)
theorem hasCell_old {w0 : World} {a : Addr} {v : Value} (h : w0.cell? a = some v) : HasCell (St c (Old w0 :: L)) a v := fun w H => by
  rw [World.cell?_of_block (w := w0) (H.old _ (World.block_lt_of_cell? w0 _ h))]; exact h
theorem hasCells_old {w0 : World} {a : Addr} {cs : List Value} (h : ∀ i u, cs[i]? = some u → w0.cell? (a.add i) = some u) : HasCells (St c (Old w0 :: L)) a cs := fun i u e => hasCell_old (h i u e)

/-- Cells are stored into a block. -/
inductive Upd : List HP → Nat → TypeId → List Value → List Value → List HP → Prop where
  | hd {L : List HP} {b : Nat} {T : TypeId} {cs cs' : List Value} : Upd (Bl b T cs :: L) b T cs cs' (Bl b T cs' :: L)
  | tl {L L' : List HP} {A : HP} {b : Nat} {T : TypeId} {cs cs' : List Value} (h : Upd L b T cs cs' L') : Upd (A :: L) b T cs cs' (A :: L')
theorem Upd.pick {L L' : List HP} {b : Nat} {T : TypeId} {cs cs' : List Value} (h : Upd L b T cs cs' L') : ∃ F, (∀ (w : World) (S : Nat → Prop), Stars L S w → Stars (Bl b T cs :: F) S w) ∧ ∀ (w : World) (S : Nat → Prop), Stars (Bl b T cs' :: F) S w → Stars L' S w := by
  induction h with
  | hd => exact ⟨_, fun _ _ h => h, fun _ _ h => h⟩
  | tl _ ih =>
    obtain ⟨F, h1, h2⟩ := ih
    exact ⟨_, fun _ _ k => (k.under fun _ k => h1 _ _ k).swap, fun _ _ k => k.swap.under fun _ k => h2 _ _ k⟩
theorem Upd.has {L L' : List HP} {b : Nat} {T : TypeId} {cs cs' : List Value} (h : Upd L b T cs cs' L') : Has (St c L) b (.cells cs.toArray T (0, 0)) := fun w H => by
  obtain ⟨F, h1, _⟩ := h.pick
  exact St.pt (c := c) ⟨H.con, h1 _ _ H.stars⟩
theorem Upd.row {L L' : List HP} {b : Nat} {T : TypeId} {cs cs' : List Value} (h : Upd L b T cs cs' L') {w : World} (H : St c L w) : St c L' (w.setRow b cs'.toArray) := by
  obtain ⟨F, h1, h2⟩ := h.pick
  have k := St.setRowPt (c := c) (L := F) ⟨H.con, h1 _ _ H.stars⟩ cs'.toArray
  exact ⟨k.con, h2 _ _ k.stars⟩
theorem Upd.cell {L L' : List HP} {b j : Nat} {T : TypeId} {cs : List Value} {v : Value} (h : Upd L b T cs (cs.set j v) L') {w : World} (H : St c L w) : St c L' (w.setCell ⟨b, j, none⟩ v) := by
  obtain ⟨F, h1, h2⟩ := h.pick
  have k := St.setPt (c := c) (L := F) ⟨H.con, h1 _ _ H.stars⟩ j v
  rw [List.setIfInBounds_toArray] at k
  exact ⟨k.con, h2 _ _ k.stars⟩
end

/-! ### Operations -/
/-- The operation yields v and leaves the world. -/
def Y (P : Program) (H : World → Prop) (E : Env) (o : Oper) (v : Value) : Prop := ∀ N a w, Fr N E a → H w → (execOp a.eval o).run P w = .ok (.value v) w
/-- The operation acts: it yields r x, and the parties are L' x then. -/
def OW (P : Program) (N : Nat) (c : Con) (E : Env) (L : List HP) (o : Oper) {β : Type} (r : β → Value) (L' : β → List HP) : Prop :=
  ∀ (Q : Exit → Act → World → Prop) (K : Act → World → Prop) (a : Act) (w : World), Fr N E a → St c L w → (∀ x w1, St c (L' x) w1 → K (a.put o.dst (r x)) w1) → o.wp P a w K Q

section
variable {P : Program} {N : Nat} {c : Con} {E : Env} {L : List HP} {Q : Exit → Act → World → Prop} {ops : Array Oper}
def W (P : Program) (N : Nat) (c : Con) (Q : Exit → Act → World → Prop) (code : Code) (E : Env) (L : List HP) : Prop := ∀ a w, Fr N E a → St c L w → code.wp P Q a w
def WL (P : Program) (N : Nat) (c : Con) (ops : Array Oper) (Q : Exit → Act → World → Prop) (l : List Oper) (E : Env) (L : List HP) : Prop := ∀ a w, Fr N E a → St c L w → wpList P ops Q l a w
def WP (P : Program) (N : Nat) (c : Con) (ops : Array Oper) (Q : Exit → Act → World → Prop) (R : List HP) (er : Nat → Bool) (p : Plan) (E : Env) (L : List HP) : Prop :=
  ∀ a w, Fr N E a → St c L w → wpPlan P ops Q er p (St c R) a w
def X (N : Nat) (c : Con) (Q : Exit → Act → World → Prop) (e : Exit) (E : Env) (L : List HP) : Prop := ∀ a w, Fr N E a → St c L w → Q e a w

theorem Y.ow {E : Env} {o : Oper} {v : Value} (h : Y P (St c L) E o v) : OW P N c E L o (fun _ : Unit => v) fun _ => L := fun Q K a w hf H hk => by
  unfold Oper.wp
  rw [h N a w hf H, Oper.upon_value]
  exact hk () w H

/-! In a list -/
theorem wl_nil (h : X N c Q .normal E L) : WL P N c ops Q [] E L := h
section
variable {d : Nat} {op : Op} {ty : TypeId} {pos : String} {aft : Array Edge} {rest : List Oper}
theorem wl_y {v : Value} (hy : Y P (St c L) E ⟨some d, op, ty, pos, aft, none⟩ v) (hd : Nat.blt d N = true) (h : WL P N c ops Q rest ((d, v) :: E) L) :
    WL P N c ops Q (⟨some d, op, ty, pos, aft, none⟩ :: rest) E L := fun a w hf H =>
  wpList_plain rfl fun K hK => by
    unfold Oper.wp
    rw [hy N a w hf H, Oper.upon_value]
    exact hK _ _ (h _ _ (hf.put hd) H)
theorem wl_ow {β : Type} {r : β → Value} {L' : β → List HP} (ho : OW P N c E L ⟨some d, op, ty, pos, aft, none⟩ r L') (hd : Nat.blt d N = true) (h : ∀ x, WL P N c ops Q rest ((d, r x) :: E) (L' x)) :
    WL P N c ops Q (⟨some d, op, ty, pos, aft, none⟩ :: rest) E L := fun a w hf H =>
  wpList_plain rfl fun K hK => ho Q K a w hf H fun x _ H' => hK _ _ (h x _ _ (hf.put hd) H')
theorem wl_ow0 {r : Value} {L' : List HP} (ho : OW P N c E L ⟨some d, op, ty, pos, aft, none⟩ (fun _ : Unit => r) fun _ => L') (hd : Nat.blt d N = true) (h : WL P N c ops Q rest ((d, r) :: E) L') :
    WL P N c ops Q (⟨some d, op, ty, pos, aft, none⟩ :: rest) E L := wl_ow ho hd fun _ => h
theorem wl_os {r : Value} {L' : List HP} (ho : OW P N c E L ⟨none, op, ty, pos, aft, none⟩ (fun _ : Unit => r) fun _ => L') (h : WL P N c ops Q rest E L') :
    WL P N c ops Q (⟨none, op, ty, pos, aft, none⟩ :: rest) E L := fun a w hf H =>
  wpList_plain rfl fun K hK => ho Q K a w hf H fun _ _ H' => hK _ _ (h _ _ hf H')
/-- The slot of a guard. -/
def guardSlot (ops : Array Oper) (i : Nat) : Option Nat := (ops[i]?).bind (·.dst)
theorem wanted_of {N : Nat} {E : Env} {a : Act} {o : Oper} {i t : Nat} {b b' : Bool} (hf : Fr N E a) (hg : o.guard = some (i, b)) (hs : guardSlot ops i = some t) (hl : look E t = some (.bool b')) :
    Region.wanted o (yielded ops a.tmps) = (b' == b) := by
  have h1 := hf.get t _ hl
  unfold guardSlot at hs
  cases ho : ops[i]? with
  | none => rw [ho] at hs; cases hs
  | some oi =>
    rw [ho] at hs
    simp only [Option.bind_some] at hs
    have h2 : a.tmps[t]? = some (.bool b') := by
      rw [Array.getD_eq_getD_getElem?] at h1
      cases e : a.tmps[t]? with
      | none => rw [e] at h1; cases h1
      | some u => rw [e] at h1; exact congrArg some h1
    simp [Region.wanted, hg, yielded, ho, hs, h2]
/-- A guard that is decided. -/
theorem wl_in {i t : Nat} {b : Bool} {dst : Option Nat} (hs : guardSlot ops i = some t) (hl : look E t = some (.bool b)) (h : WL P N c ops Q (⟨dst, op, ty, pos, aft, none⟩ :: rest) E L) :
    WL P N c ops Q (⟨dst, op, ty, pos, aft, some (i, b)⟩ :: rest) E L := fun a w hf H => by
  have h0 := h a w hf H
  have hw := wanted_of (o := ⟨dst, op, ty, pos, aft, some (i, b)⟩) hf rfl hs hl
  unfold wpList at h0 ⊢
  rw [if_pos (by simp [Region.wanted])] at h0
  rw [if_pos (by rw [hw]; simp)]
  exact h0
theorem wl_out {i t : Nat} {b b' : Bool} (hs : guardSlot ops i = some t) (hl : look E t = some (.bool b')) (hb : (b' == b) = false) (hd : Nat.blt d N = true) (h : WL P N c ops Q rest ((d, undef) :: E) L) :
    WL P N c ops Q (⟨some d, op, ty, pos, aft, some (i, b)⟩ :: rest) E L := fun a w hf H => by
  have hw := wanted_of (o := ⟨some d, op, ty, pos, aft, some (i, b)⟩) hf rfl hs hl
  unfold wpList
  rw [if_neg (by rw [hw, hb]; simp)]
  exact h _ _ (hf.put hd) H
theorem wl_out0 {i t : Nat} {b b' : Bool} (hs : guardSlot ops i = some t) (hl : look E t = some (.bool b')) (hb : (b' == b) = false) (h : WL P N c ops Q rest E L) :
    WL P N c ops Q (⟨none, op, ty, pos, aft, some (i, b)⟩ :: rest) E L := fun a w hf H => by
  have hw := wanted_of (o := ⟨none, op, ty, pos, aft, some (i, b)⟩) hf rfl hs hl
  unfold wpList
  rw [if_neg (by rw [hw, hb]; simp)]
  exact h _ _ hf H
/-- A guard that has no value: it is not wanted. -/
theorem wanted_undef {N : Nat} {E : Env} {a : Act} {o : Oper} {i t : Nat} {b : Bool} (hf : Fr N E a) (hg : o.guard = some (i, b)) (hs : guardSlot ops i = some t) (hl : look E t = some undef) :
    Region.wanted o (yielded ops a.tmps) = false := by
  have h1 := hf.get t _ hl
  unfold guardSlot at hs
  cases ho : ops[i]? with
  | none => rw [ho] at hs; cases hs
  | some oi =>
    rw [ho] at hs
    simp only [Option.bind_some] at hs
    rw [Array.getD_eq_getD_getElem?] at h1
    cases e : a.tmps[t]? with
    | none => simp [Region.wanted, hg, yielded, ho, hs, e]
    | some v =>
      rw [e] at h1
      obtain rfl : v = undef := h1
      simp [Region.wanted, hg, yielded, ho, hs, e, undef]
theorem wl_outU {i t : Nat} {b : Bool} (hs : guardSlot ops i = some t) (hl : look E t = some undef) (hd : Nat.blt d N = true) (h : WL P N c ops Q rest ((d, undef) :: E) L) :
    WL P N c ops Q (⟨some d, op, ty, pos, aft, some (i, b)⟩ :: rest) E L := fun a w hf H => by
  have hw := wanted_undef (o := ⟨some d, op, ty, pos, aft, some (i, b)⟩) hf rfl hs hl
  unfold wpList
  rw [if_neg (by rw [hw]; simp)]
  exact h _ _ (hf.put hd) H
/-- A guard parts the ways. -/
theorem wl_part {i t : Nat} {b : Bool} {p : Prop} [Decidable p] {dst : Option Nat} (hs : guardSlot ops i = some t) (hl : look E t = some (.bool (decide p)))
    (h1 : p → WL P N c ops Q (⟨dst, op, ty, pos, aft, some (i, b)⟩ :: rest) ((t, .bool true) :: E) L) (h2 : ¬ p → WL P N c ops Q (⟨dst, op, ty, pos, aft, some (i, b)⟩ :: rest) ((t, .bool false) :: E) L) :
    WL P N c ops Q (⟨dst, op, ty, pos, aft, some (i, b)⟩ :: rest) E L := fun a w hf H => by
  have _ := hs
  have more : ∀ b, decide p = b → Fr N ((t, .bool b) :: E) a := fun b e => ⟨hf.defers, hf.size, fun s v hv => by
    by_cases e' : t = s
    · subst e'; rw [look_hit] at hv; cases hv; rw [← e]; exact hf.get t _ hl
    · rw [look_miss e'] at hv; exact hf.get s v hv⟩
  by_cases hp : p
  · exact h1 hp a w (more true (by simpa using hp)) H
  · exact h2 hp a w (more false (by simpa using hp)) H
end

section
variable {d : Nat} {op : Op} {ty : TypeId} {pos : String} {aft : Array Edge} {rest : List Oper}
theorem wl_part_t {i t : Nat} {b : Bool} {p : Prop} [Decidable p] {dst : Option Nat} (hs : guardSlot ops i = some t) (hl : look E t = some (.bool (decide p))) (h : p)
    (h1 : WL P N c ops Q (⟨dst, op, ty, pos, aft, some (i, b)⟩ :: rest) ((t, .bool true) :: E) L) : WL P N c ops Q (⟨dst, op, ty, pos, aft, some (i, b)⟩ :: rest) E L := wl_part hs hl (fun _ => h1) fun k => absurd h k
theorem wl_part_f {i t : Nat} {b : Bool} {p : Prop} [Decidable p] {dst : Option Nat} (hs : guardSlot ops i = some t) (hl : look E t = some (.bool (decide p))) (h : ¬ p)
    (h1 : WL P N c ops Q (⟨dst, op, ty, pos, aft, some (i, b)⟩ :: rest) ((t, .bool false) :: E) L) : WL P N c ops Q (⟨dst, op, ty, pos, aft, some (i, b)⟩ :: rest) E L := wl_part hs hl (fun k => absurd k h) fun _ => h1
/-- A truth value that parts the ways. -/
theorem wl_partB {i t : Nat} {b b' : Bool} {dst : Option Nat} (hs : guardSlot ops i = some t) (hl : look E t = some (.bool b'))
    (h1 : b' = true → WL P N c ops Q (⟨dst, op, ty, pos, aft, some (i, b)⟩ :: rest) ((t, .bool true) :: E) L) (h2 : b' = false → WL P N c ops Q (⟨dst, op, ty, pos, aft, some (i, b)⟩ :: rest) ((t, .bool false) :: E) L) :
    WL P N c ops Q (⟨dst, op, ty, pos, aft, some (i, b)⟩ :: rest) E L :=
  wl_part (p := b' = true) hs (by rw [hl]; cases b' <;> rfl) h1 fun k => h2 (by cases b' <;> simp_all)
end
theorem exec_guard {ρ : Operand → Value} {d : Option Nat} {op : Op} {ty : TypeId} {pos : String} {aft : Array Edge} (g : Option (Nat × Bool)) : execOp ρ ⟨d, op, ty, pos, aft, g⟩ = execOp ρ ⟨d, op, ty, pos, aft, none⟩ := by
  unfold execOp; rfl
theorem oper_guard {d : Option Nat} {op : Op} {ty : TypeId} {pos : String} {aft : Array Edge} {g : Option (Nat × Bool)} {a : Act} {w : World} {K : Act → World → Prop} (h : Oper.wp P ⟨d, op, ty, pos, aft, none⟩ a w K Q) :
    Oper.wp P ⟨d, op, ty, pos, aft, g⟩ a w K Q := by
  unfold Oper.wp at h ⊢
  rw [exec_guard]
  exact h
/-! In a plan -/
section
variable {d i : Nat} {op : Op} {ty : TypeId} {pos : String} {aft : Array Edge} {R : List HP} {er : Nat → Bool} {r : Plan}
theorem wq_nil (h : X N c Q .normal E L) : WP P N c ops Q R er [] E L := h
theorem wq_y {v : Value} (ho : ops[i]? = some ⟨some d, op, ty, pos, aft, none⟩) (hy : Y P (St c R) E ⟨some d, op, ty, pos, aft, none⟩ v) (hd : Nat.blt d N = true) (h : WP P N c ops Q R er r ((d, v) :: E) L) :
    WP P N c ops Q R er ((i, true) :: r) E L := fun a w hf H =>
  ⟨_, v, ho, .inl ⟨by simp [Region.wanted], fun w' k => hy N a w' hf k⟩, h _ _ (hf.put hd) H⟩
theorem wq_yg {v : Value} {j t : Nat} {b : Bool} (ho : ops[i]? = some ⟨some d, op, ty, pos, aft, some (j, b)⟩) (hs : guardSlot ops j = some t) (hl : look E t = some (.bool b))
    (hy : Y P (St c R) E ⟨some d, op, ty, pos, aft, none⟩ v) (hd : Nat.blt d N = true) (h : WP P N c ops Q R er r ((d, v) :: E) L) :
    WP P N c ops Q R er ((i, true) :: r) E L := fun a w hf H =>
  ⟨_, v, ho, .inl ⟨by rw [wanted_of hf rfl hs hl]; simp, fun w' k => by rw [exec_guard]; exact hy N a w' hf k⟩, h _ _ (hf.put hd) H⟩
theorem wq_out {j t : Nat} {b b' : Bool} (ho : ops[i]? = some ⟨some d, op, ty, pos, aft, some (j, b)⟩) (hs : guardSlot ops j = some t) (hl : look E t = some (.bool b')) (hb : (b' == b) = false)
    (hd : Nat.blt d N = true) (h : WP P N c ops Q R er r ((d, undef) :: E) L) :
    WP P N c ops Q R er ((i, true) :: r) E L := fun a w hf H =>
  ⟨_, undef, ho, .inr ⟨by rw [wanted_of hf rfl hs hl, hb], rfl⟩, h _ _ (hf.put hd) H⟩
theorem wq_part {p : Prop} [Decidable p] {j t : Nat} {b q : Bool} {dst : Option Nat} (ho : ops[i]? = some ⟨dst, op, ty, pos, aft, some (j, b)⟩) (hs : guardSlot ops j = some t) (hl : look E t = some (.bool (decide p)))
    (h1 : p → WP P N c ops Q R er ((i, q) :: r) ((t, .bool true) :: E) L) (h2 : ¬ p → WP P N c ops Q R er ((i, q) :: r) ((t, .bool false) :: E) L) :
    WP P N c ops Q R er ((i, q) :: r) E L := fun a w hf H => by
  have more : ∀ b, decide p = b → Fr N ((t, .bool b) :: E) a := fun b e => ⟨hf.defers, hf.size, fun s v hv => by
    by_cases e' : t = s
    · subst e'; rw [look_hit] at hv; cases hv; rw [← e]; exact hf.get t _ hl
    · rw [look_miss e'] at hv; exact hf.get s v hv⟩
  have _ := ho
  have _ := hs
  by_cases hp : p
  · exact h1 hp a w (more true (by simpa using hp)) H
  · exact h2 hp a w (more false (by simpa using hp)) H
theorem wq_part_t {p : Prop} [Decidable p] {j t : Nat} {b q : Bool} {dst : Option Nat} (ho : ops[i]? = some ⟨dst, op, ty, pos, aft, some (j, b)⟩) (hs : guardSlot ops j = some t) (hl : look E t = some (.bool (decide p))) (h : p)
    (h1 : WP P N c ops Q R er ((i, q) :: r) ((t, .bool true) :: E) L) : WP P N c ops Q R er ((i, q) :: r) E L := wq_part ho hs hl (fun _ => h1) fun k => absurd h k
theorem wq_part_f {p : Prop} [Decidable p] {j t : Nat} {b q : Bool} {dst : Option Nat} (ho : ops[i]? = some ⟨dst, op, ty, pos, aft, some (j, b)⟩) (hs : guardSlot ops j = some t) (hl : look E t = some (.bool (decide p))) (h : ¬ p)
    (h1 : WP P N c ops Q R er ((i, q) :: r) ((t, .bool false) :: E) L) : WP P N c ops Q R er ((i, q) :: r) E L := wq_part ho hs hl (fun k => absurd k h) fun _ => h1
theorem wq_partB {j t : Nat} {b b' q : Bool} {dst : Option Nat} (ho : ops[i]? = some ⟨dst, op, ty, pos, aft, some (j, b)⟩) (hs : guardSlot ops j = some t) (hl : look E t = some (.bool b'))
    (h1 : b' = true → WP P N c ops Q R er ((i, q) :: r) ((t, .bool true) :: E) L) (h2 : b' = false → WP P N c ops Q R er ((i, q) :: r) ((t, .bool false) :: E) L) : WP P N c ops Q R er ((i, q) :: r) E L :=
  wq_part (p := b' = true) ho hs (by rw [hl]; cases b' <;> rfl) h1 fun k => h2 (by cases b' <;> simp_all)
theorem wq_outa {j t : Nat} {b b' : Bool} (ho : ops[i]? = some ⟨some d, op, ty, pos, aft, some (j, b)⟩) (hs : guardSlot ops j = some t) (hl : look E t = some (.bool b')) (hb : (b' == b) = false)
    (hd : Nat.blt d N = true) (hS : needB er i r = true → Sel L R) (h : WP P N c ops Q R er r ((d, undef) :: E) L) :
    WP P N c ops Q R er ((i, false) :: r) E L := fun a w hf H =>
  ⟨_, ho, by rw [if_neg (by rw [wanted_of hf rfl hs hl, hb]; simp)]; exact ⟨fun e => (hS e).st H, h _ _ (hf.put hd) H⟩⟩
end

/-! Of code -/
theorem w_region {id : Nat} {l : List Oper} (h : WL P N c l.toArray Q l E L) : W P N c Q (.region id l.toArray false) E L := fun a w hf H => wp_region_lit (h a w hf H)
theorem w_plan {id : Nat} {ops : Array Oper} (p : Plan) (R : List HP) (hm : P.follows .mixedOrders = true) (hB : planB .any ops p = true) (hR : Sel L R)
    (h : WP P N c ops (NoPanic Q) R (earlyB .any ops p.looks) p E L) : W P N c Q (.region id ops true) E L := fun a _ hf H =>
  region_plan p (St c R) hm hB (fun _ => (hR.st H).drew) (h a _ hf H.drew)
theorem w_seq {x y : Code} (h : W P N c (Exit.then (fun a w => y.wp P Q a w) Q) x E L) : W P N c Q (x.seq y) E L := fun a w hf H => wp_seq (h a w hf H)
theorem w_skip (h : X N c Q .normal E L) : W P N c Q .skip E L := fun a w hf H => wp_skip (h a w hf H)
theorem w_ret (h : X N c Q .ret E L) : W P N c Q .ret E L := fun a w hf H => wp_ret (h a w hf H)
theorem w_exit {id : Nat} (h : X N c Q (.exit id) E L) : W P N c Q (.exit id) E L := fun a w hf H => wp_exit (h a w hf H)
theorem w_block {id : Nat} {x : Code} (h : W P N c (Exit.inBlock id Q) x E L) : W P N c Q (.block id x) E L := fun a w hf H => wp_block (h a w hf H)
theorem w_cond {t : Nat} {x y : Code} {p : Prop} [Decidable p] (hl : look E t = some (.bool (decide p))) (h1 : p → W P N c Q x E L) (h2 : ¬ p → W P N c Q y E L) : W P N c Q (.cond (.tmp t) x y) E L := fun a w hf H => by
  by_cases hp : p
  · exact wp_cond_true (by rw [ev_tmp hl N a hf]; simp [hp]) (h1 hp a w hf H)
  · exact wp_cond_false (by rw [ev_tmp hl N a hf]; simp [hp]) (h2 hp a w hf H)
theorem w_true {t : Nat} {x y : Code} (hl : look E t = some (.bool true)) (h1 : W P N c Q x E L) : W P N c Q (.cond (.tmp t) x y) E L := fun a w hf H =>
  wp_cond_true (ev_tmp hl N a hf) (h1 a w hf H)
theorem w_false {t : Nat} {x y : Code} (hl : look E t = some (.bool false)) (h1 : W P N c Q y E L) : W P N c Q (.cond (.tmp t) x y) E L := fun a w hf H =>
  wp_cond_false (ev_tmp hl N a hf) (h1 a w hf H)
theorem w_bool {t : Nat} {x y : Code} {b : Bool} (hl : look E t = some (.bool b)) (h1 : b = true → W P N c Q x E L) (h2 : b = false → W P N c Q y E L) : W P N c Q (.cond (.tmp t) x y) E L := fun a w hf H => by
  cases b
  · exact wp_cond_false (ev_tmp hl N a hf) (h2 rfl a w hf H)
  · exact wp_cond_true (ev_tmp hl N a hf) (h1 rfl a w hf H)
theorem W.weak {code : Code} {E' : Env} {L' : List HP} (h : W P N c Q code E' L') (hE : Sub E' E) (hL : Sel L L') : W P N c Q code E L := fun a w hf H => h a w (hf.sub hE) (hL.st H)

/-! Where a piece ends -/
theorem x_then {y : Code} (h : W P N c Q y E L) : X N c (Exit.then (fun a w => y.wp P Q a w) Q) .normal E L := h
theorem x_thenE {K : Act → World → Prop} {id : Nat} (h : X N c Q (.exit id) E L) : X N c (Exit.then K Q) (.exit id) E L := h
theorem x_thenR {K : Act → World → Prop} (h : X N c Q .ret E L) : X N c (Exit.then K Q) .ret E L := h
theorem x_block {id : Nat} (h : X N c Q .normal E L) : X N c (Exit.inBlock id Q) .normal E L := h
theorem x_blockR {id : Nat} (h : X N c Q .ret E L) : X N c (Exit.inBlock id Q) .ret E L := h
theorem x_blockE {id : Nat} (h : X N c Q .normal E L) : X N c (Exit.inBlock id Q) (.exit id) E L := fun a w hf H => by
  show (if id = id then _ else _); rw [if_pos rfl]; exact h a w hf H
theorem x_blockE' {id id' : Nat} (hi : Nat.beq id' id = false) (h : X N c Q (.exit id') E L) : X N c (Exit.inBlock id Q) (.exit id') E L := fun a w hf H => by
  have hne : id' ≠ id := fun e => by rw [e, Nat.beq_refl] at hi; cases hi
  show (if id' = id then _ else _); rw [if_neg hne]; exact h a w hf H
theorem x_noPanic (h : X N c Q .normal E L) : X N c (NoPanic Q) .normal E L := h

/-! Meetings and loops -/
/-- One of the states of a family. -/
def Met {α : Type} (N : Nat) (c : Con) (F : α → Prop) (Ev : α → Env) (Ls : α → List HP) (a : Act) (w : World) : Prop := ∃ x, F x ∧ Fr N (Ev x) a ∧ St c (Ls x) w
theorem x_met {α : Type} {F : α → Prop} {Ev : α → Env} {Ls : α → List HP} (x : α) (hF : F x) (hE : Sub (Ev x) E) (hL : Sel L (Ls x)) : X N c (Exit.then (Met N c F Ev Ls) Q) .normal E L := fun _ _ hf H =>
  ⟨x, hF, hf.sub hE, hL.st H⟩
theorem w_meet {x y : Code} {α : Type} (F : α → Prop) (Ev : α → Env) (Ls : α → List HP) (h : W P N c (Exit.then (Met N c F Ev Ls) Q) x E L) (k : ∀ s, F s → W P N c Q y (Ev s) (Ls s)) : W P N c Q (x.seq y) E L := fun a w hf H =>
  wp_seq (Code.wp_mono (fun e a w q => by
    cases e <;> first
      | (obtain ⟨s, h1, h2, h3⟩ := q; exact k s h1 a w h2 h3)
      | exact q) (h a w hf H))
/-- The state of a loop's next round. -/
def Again {α : Type} (N : Nat) (c : Con) (F : α → Prop) (Ev : α → Env) (Ls : α → List HP) (μ : α → Nat) (n : Nat) (a : Act) (w : World) : Prop := ∃ x, F x ∧ μ x < n ∧ Fr N (Ev x) a ∧ St c (Ls x) w
theorem x_again {α : Type} {F : α → Prop} {Ev : α → Env} {Ls : α → List HP} {μ : α → Nat} {n : Nat} (x : α) (hF : F x) (hμ : μ x < n) (hE : Sub (Ev x) E) (hL : Sel L (Ls x)) :
    X N c (Exit.then (Again N c F Ev Ls μ n) Q) .normal E L := fun _ _ hf H => ⟨x, hF, hμ, hf.sub hE, hL.st H⟩
theorem w_loop {body : Code} {α : Type} (F : α → Prop) (Ev : α → Env) (Ls : α → List HP) (μ : α → Nat) (x0 : α) (h0 : F x0) (hE : Sub (Ev x0) E) (hL : Sel L (Ls x0))
    (round : ∀ x, F x → W P N c (Exit.then (Again N c F Ev Ls μ (μ x)) Q) body (Ev x) (Ls x)) : W P N c Q (.loop body) E L := fun a w hf H => by
  intro b k cs
  have key : ∀ n x a w, μ x = n → F x → Fr N (Ev x) a → St c (Ls x) w →
      ∃ e a' w', Q e a' w' ∧ Arrives P (lone (b.at a (.code body :: .inLoop body :: k)) cs w) b k cs e a' w' := by
    intro n
    induction n using Nat.strongRecOn with
    | _ n ih =>
      intro x a w hn hF hfr hst
      obtain ⟨e, a₁, w₁, hq, harr⟩ := round x hF a w hfr hst b (.inLoop body :: k) cs
      cases e with
      | normal =>
        obtain ⟨x₁, hF₁, hlt, hfr₁, hst₁⟩ := hq
        obtain ⟨e₂, a₂, w₂, hq₂, harr₂⟩ := ih (μ x₁) (hn ▸ hlt) x₁ a₁ w₁ rfl hF₁ hfr₁ hst₁
        exact ⟨e₂, a₂, w₂, hq₂, .of_steps (Steps.trans harr (.one step_inLoop)) harr₂⟩
      | exit id => exact ⟨_, a₁, w₁, hq, .pass (x := .inLoop body) rfl (fun _ _ => .inl (by simp)) harr⟩
      | goto l => exact ⟨_, a₁, w₁, hq, .pass (x := .inLoop body) rfl (fun _ _ => .inl (by simp)) harr⟩
      | ret => exact ⟨_, a₁, w₁, hq, .pass (x := .inLoop body) rfl (fun _ _ => .inl (by simp)) harr⟩
      | panic ch => exact ⟨_, a₁, w₁, hq, .pass (x := .inLoop body) rfl (fun _ _ => .inl (by simp)) harr⟩
      | outgrown => exact ⟨_, a₁, w₁, hq, .pass (x := .inLoop body) rfl (fun _ _ => .inl (by simp)) harr⟩
  obtain ⟨e, a', w', hq, harr⟩ := key _ x0 a w rfl h0 (hf.sub hE) (hL.st H)
  exact ⟨e, a', w', hq, .of_steps (.one step_loop) harr⟩

/-! Of functions -/
/-- The slots at a function's start. -/
def args0 : Nat → List Value → Env
  | _, [] => []
  | i, v :: r => (i, v) :: args0 (i + 1) r
theorem look_args : ∀ (vs : List Value) (i t : Nat) (v : Value), look (args0 i vs) t = some v → ∃ k, t = i + k ∧ vs[k]? = some v
  | [], _, _, _, h => by cases h
  | u :: r, i, t, v, h => by
    by_cases e : i = t
    · subst e
      rw [args0, look_hit] at h
      exact ⟨0, rfl, by simpa using h⟩
    · rw [args0, look_miss e] at h
      obtain ⟨k, h1, h2⟩ := look_args r (i + 1) t v h
      exact ⟨k + 1, by omega, by simpa using h2⟩
theorem calls_w {f : FuncId} {fn : Func} {code : Code} {vs : List Value} {R : Ending → World → Prop} (hf : P.funcs[f]? = some fn) (hb : fn.body = some code) (hN : fn.ntmps = N) (hv : Nat.ble vs.length N = true)
    (h : W P N c (bodyPost P fn R) code (args0 0 vs) L) : ∀ w, St c L w → Calls P f vs.toArray w R := fun w H => by
  have hv' : vs.length ≤ N := by simpa using hv
  refine calls_of_wp hf hb (h _ w ⟨rfl, by simp [hN]; omega, fun t v hl => ?_⟩ H)
  obtain ⟨k, h1, h2⟩ := look_args vs 0 t v hl
  have hk : k < vs.length := (List.getElem?_eq_some_iff.1 h2).1
  have : t = k := by omega
  subst this
  have h3 : (vs.toArray ++ Array.replicate (fn.ntmps - vs.toArray.size) undef)[t]? = some v := by
    rw [Array.getElem?_append_left (by simpa using hk)]; simpa using h2
  rw [Array.getD_eq_getD_getElem?, h3]; rfl
theorem x_ret0 {fn : Func} {R : Ending → World → Prop} (hr : fn.results = #[]) (h : ∀ w, St c L w → R (.returned (.tuple #[])) w) : X N c (bodyPost P fn R) .ret E L := fun _ w hf H =>
  bodyPost_ret (v := .tuple #[]) (results_none hr _ _ _) hf.defers (h w H)
theorem x_end0 {fn : Func} {R : Ending → World → Prop} (hr : fn.results = #[]) (h : ∀ w, St c L w → R (.returned (.tuple #[])) w) : X N c (bodyPost P fn R) .normal E L := fun _ w hf H =>
  bodyPost_end (v := .tuple #[]) (results_none hr _ _ _) hf.defers (h w H)
theorem x_ret1 {fn : Func} {R : Ending → World → Prop} {t : Nat} {v : Value} (hr : fn.results = #[.tmp t]) (hl : look E t = some v) (h : ∀ w, St c L w → R (.returned v) w) : X N c (bodyPost P fn R) .ret E L := fun a w hf H =>
  bodyPost_ret (v := v) (by rw [results_tmp hr, hf.get t v hl]) hf.defers (h w H)
theorem x_ret2 {fn : Func} {R : Ending → World → Prop} {t u : Nat} {v v' : Value} (hr : fn.results = #[.tmp t, .tmp u]) (hl : look E t = some v) (hl' : look E u = some v')
    (h : ∀ w, St c L w → R (.returned (.tuple #[v, v'])) w) : X N c (bodyPost P fn R) .ret E L := fun a w hf H =>
  bodyPost_ret (v := .tuple #[v, v']) (by rw [results_tmp2 hr, hf.get t v hl, hf.get u v' hl']) hf.defers (h w H)
end
end Go.Proofs.Ytakeilefbcpabaa
