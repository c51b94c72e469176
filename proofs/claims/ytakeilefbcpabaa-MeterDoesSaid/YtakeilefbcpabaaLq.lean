/- Rows of strings that begin anywhere in a block of their own; several of them. No program in sight. -/
import Derived.Test.YtakeilefbcpabaaLp
import Derived.Deep.AppendSrc
namespace Go.Proofs.Ytakeilefbcpabaa
open Go.RowKit

theorem Pick.unpick {w : World} {L F : List HP} {A : HP} (h : Pick L A F) : ∀ S : Nat → Prop, Stars (A :: F) S w → Stars L S w := by
  induction h with
  | hd => exact fun _ H => H
  | tl _ ih => exact fun _ H => H.swap.under fun _ k => ih _ k
section
variable {α : Type} {f : α → HP}
theorem pick_map : ∀ {rs : List α} {k : Nat} {r : α} {F : List HP}, rs[k]? = some r → Pick (rs.map f ++ F) (f r) ((rs.eraseIdx k).map f ++ F)
  | [], _, _, _, h => by cases h
  | a :: l, 0, r, F, h => by
    obtain rfl : a = r := by simpa using h
    exact Pick.hd
  | a :: l, k + 1, r, F, h => Pick.tl (pick_map (rs := l) (by simpa using h))
theorem eraseIdx_set_same : ∀ (rs : List α) (k : Nat) (r : α), (rs.set k r).eraseIdx k = rs.eraseIdx k
  | [], _, _ => rfl
  | _ :: _, 0, _ => rfl
  | a :: l, k + 1, r => congrArg (a :: ·) (eraseIdx_set_same l k r)
def RowsP (f : α → HP) (rs : List α) : HP := Join (rs.map f)
theorem rowsP_take {c : Con} {w : World} {F : List HP} {rs : List α} {k : Nat} {r : α} (h : rs[k]? = some r) (H : St c (RowsP f rs :: F) w) : St c (f r :: RowsP f (rs.eraseIdx k) :: F) w :=
  ⟨H.con, ((pick_map h).stars _ (Stars.join.1 H.stars)).under fun _ k => Stars.join.2 k⟩
theorem rowsP_put {c : Con} {w : World} {F : List HP} {rs : List α} {k : Nat} {r : α} (h : k < rs.length) (H : St c (f r :: RowsP f (rs.eraseIdx k) :: F) w) : St c (RowsP f (rs.set k r) :: F) w := by
  have hp : Pick ((rs.set k r).map f ++ F) (f r) (((rs.set k r).eraseIdx k).map f ++ F) := pick_map (by simp [h])
  rw [eraseIdx_set_same] at hp
  exact ⟨H.con, Stars.join.2 (hp.unpick _ (H.stars.under fun _ k => Stars.join.1 k))⟩
theorem rowsP_snoc {c : Con} {w : World} {F : List HP} {rs : List α} {r : α} (H : St c (f r :: RowsP f rs :: F) w) : St c (RowsP f (rs ++ [r]) :: F) w := by
  have hp : Pick ((rs ++ [r]).map f ++ F) (f r) (((rs ++ [r]).eraseIdx rs.length).map f ++ F) := pick_map (by simp)
  have e : (rs ++ [r]).eraseIdx rs.length = rs := by rw [List.eraseIdx_append_of_length_le (Nat.le_refl _)]; simp
  rw [e] at hp
  exact ⟨H.con, Stars.join.2 (hp.unpick _ (H.stars.under fun _ k => Stars.join.1 k))⟩
theorem rows_nil {c : Con} {w : World} {F : List HP} (H : St c F w) : St c (RowsP f [] :: F) w := St.join.2 H
theorem rows_imp : ∀ {rs : List α} {k : Nat} {r r' : α}, rs[k]? = some r → (∀ h, f r h → f r' h) → ∀ h, RowsP f rs h → RowsP f (rs.set k r') h
  | [], _, _, _, hr, _, _, _ => by cases hr
  | a :: l, 0, r, r', hr, hi, h, ⟨h1, k1, s, j⟩ => by
    obtain rfl : a = r := by simpa using hr
    exact ⟨h1, hi _ k1, s, j⟩
  | a :: l, k + 1, r, r', hr, hi, h, ⟨h1, k1, s, j⟩ => ⟨h1, k1, s, rows_imp (rs := l) (by simpa using hr) hi _ j⟩
end

/-- A slice of strings in a block of its own. -/
structure SRow where
  g : Nat
  off : Nat
  cap : Nat
  xs : List (List UInt8)
def SRow.v (r : SRow) : Value := .slice (some ⟨r.g, r.off, none⟩) r.xs.length r.cap
def SRowP (e : TypeId) (r : SRow) : HP := fun h => ∃ cur : Array Value, h r.g = some (.cells cur e (0, 0)) ∧ cur.size = r.off + r.cap ∧ r.xs.length ≤ r.cap ∧ r.cap ≤ maxLen ∧ (cur.toList.drop r.off).take r.xs.length = r.xs.map str
/-- Its last alone. -/
def SRow.cut (r : SRow) : SRow := ⟨r.g, r.off + (r.xs.length - 1), r.cap - (r.xs.length - 1), r.xs.drop (r.xs.length - 1)⟩
theorem SRowP.cut {e : TypeId} {r : SRow} : ∀ h, SRowP e r h → SRowP e r.cut h := fun h ⟨cur, h1, h2, h3, h4, h5⟩ => by
  refine ⟨cur, h1, ?_, ?_, ?_, ?_⟩
  · show cur.size = (r.off + (r.xs.length - 1)) + (r.cap - (r.xs.length - 1)); omega
  · show (r.xs.drop _).length ≤ r.cap - (r.xs.length - 1); rw [List.length_drop]; omega
  · show r.cap - (r.xs.length - 1) ≤ maxLen; omega
  · show ((cur.toList.drop (r.off + (r.xs.length - 1))).take (r.xs.drop (r.xs.length - 1)).length) = (r.xs.drop (r.xs.length - 1)).map str
    rw [List.map_drop, ← h5, List.drop_take, List.drop_drop, List.length_drop]
theorem SRow.cut_v {r : SRow} (h : r.xs ≠ []) (hc : r.xs.length ≤ r.cap) {m : Nat} (hm : m = r.xs.length - 1) :
    Value.slice (if r.cap = m then some ⟨r.g, r.off, none⟩ else (some (⟨r.g, r.off, none⟩ : Addr)).map (·.add (m * 1))) (r.xs.length - m) (r.cap - m) = r.cut.v := by
  have hl : 0 < r.xs.length := List.length_pos_iff.2 h
  subst hm
  rw [if_neg (by omega)]
  simp only [SRow.v, SRow.cut, Option.map_some, Nat.mul_one, add_mid, List.length_drop]
theorem SRow.cut_xs {r : SRow} (h : r.xs ≠ []) : r.cut.xs = r.xs.getLast?.toList := by
  obtain ⟨l, a, e⟩ : ∃ l a, r.xs = l ++ [a] := ⟨_, _, (List.dropLast_concat_getLast h).symm⟩
  simp [SRow.cut, e]

section
variable {P : Program} {N : Nat} {c : Con} {E : Env} {L F : List HP} {d : Option Nat} {ty : TypeId} {pos : String} {aft : Array Edge} {g : Option (Nat × Bool)} {Q : Exit → Act → World → Prop}
theorem St.appendRow {w : World} {bytes m : Nat} {t tx ty e : TypeId} {i : TypeInfo} {z x : Value} {r : SRow} {ss : List (List UInt8)} (H : St c (SRowP e r :: F) w)
    (ht : P.underlying t = some (.slice e)) (hi : P.info? e = some i) (hz : i.zero = some z)
    (hsize : i.size = 1) (hby : i.bytes = bytes) (hzs : z.cells.size = 1) (hs : Src P 1 tx x m (ss.map str) w)
    (h63 : r.xs.length + m ≤ maxLen) (hbytes : (r.xs.length + m) * bytes ≤ 140737488355328) :
    ∃ (r' : SRow) (w' : World), r'.xs = r.xs ++ ss ∧ (Builtin.append_ #[t, tx] ty #[r.v, x]).run P w = .ok r'.v w' ∧ St c (SRowP e r' :: F) w' := by
  subst hby
  obtain ⟨h, ⟨cur, hg, hcs, hnc, hcm, htake⟩, l, u⟩ := H.upd
  have hl := hs.newsLen
  rw [List.length_map, Nat.mul_one] at hl
  have hsl : (ss.map str).length = m := by rw [List.length_map, hl]
  have hlen : (r.xs ++ ss).length = r.xs.length + m := by rw [List.length_append, hl]
  have hgw := l r.g _ hg
  have hx : (r.xs.map str).length = r.xs.length := List.length_map ..
  by_cases hroom : r.xs.length + m ≤ r.cap
  · have hst := run_storeCells_at P r.g (r.off + r.xs.length) e (ss.map str) 0 cur w hgw (by simp; omega) hs.one
    simp only [Nat.add_zero] at hst
    refine ⟨⟨r.g, r.off, r.cap, r.xs ++ ss⟩, w.setRow r.g (cur.toList.take (r.off + r.xs.length) ++ ss.map str ++ cur.toList.drop (r.off + r.xs.length + (ss.map str).length)).toArray, rfl, ?_, ?_⟩
    · rcases hs.kind with ⟨e', hk⟩ | hk <;> simp only [SRow.v, hlen] <;> simp [Builtin.append_, run_underlying ht, run_underlying hk, sizeOf, typeInfo, hi, hsize, hs.len, hroom, hs.cells, add_mid, hst]
    · refine u _ _ rfl (fun b hb hn => setRow_other w r.g b _ ?_) ⟨(cur.toList.take (r.off + r.xs.length) ++ ss.map str ++ cur.toList.drop (r.off + r.xs.length + (ss.map str).length)).toArray, ?_, ?_, ?_, hcm, ?_⟩
      · rintro rfl; rw [hg] at hn; cases hn
      · exact (if_pos (Or.inl (by rw [hg]; rfl))).trans (setRow_heap w r.g cur _ e _ hgw)
      · simp only [List.size_toArray, List.length_append, List.length_take, List.length_drop, Array.length_toList, List.length_map]
        omega
      · show (r.xs ++ ss).length ≤ r.cap; omega
      · show ((cur.toList.take (r.off + r.xs.length) ++ ss.map str ++ cur.toList.drop (r.off + r.xs.length + (ss.map str).length)).drop r.off).take (r.xs ++ ss).length = (r.xs ++ ss).map str
        have e1 : (cur.toList.take (r.off + r.xs.length)).drop r.off = r.xs.map str := by rw [List.drop_take, ← htake]; congr 1; omega
        rw [List.append_assoc, List.drop_append_of_le_length (by simp; omega), e1, ← List.append_assoc, List.map_append]
        rw [List.take_append_of_le_length (by simp), List.take_of_length_le (by simp)]
  · have holds : ∀ j u, (r.xs.map str)[j]? = some u → w.drew.cell? ((⟨r.g, r.off, none⟩ : Addr).add j) = some u := by
      intro j u hu
      rw [add_mid]
      show w.cell? _ = _
      rw [cell_of_row w r.g (r.off + j) cur e (0, 0) hgw]
      rw [← htake, List.getElem?_take] at hu
      split at hu
      · rw [List.getElem?_drop] at hu; simpa using hu
      · cases hu
    have hr := run_append_grow_src (P := P) w t tx ty e i z ht hi hz (some ⟨r.g, r.off, none⟩) r.xs.length r.cap (r.xs.map str) (run_firstCells_some w.drew i.size r.xs.length _ r.xs.length r.cap (r.xs.map str) (by rw [hsize, hx, Nat.mul_one]) (by intro j u hu; exact holds j u hu)) x m (ss.map str) (by rw [hsize]; exact hs) (by omega) (by simp only [maxLen] at h63; omega)
      (growslice_fits (by omega) hbytes)
    refine ⟨⟨w.heap.size, 0, grownCap w (r.xs.length + m) r.cap e, r.xs ++ ss⟩, _, rfl, by simp only [SRow.v, hlen]; exact hr, ?_⟩
    have hge := grownCap_ge w (r.xs.length + m) r.cap e
    have hcm := grownCap_le_maxLen w (r.xs.length + m) r.cap e h63
    refine u _ _ rfl (fun b hb _ => Below.heap_alloc w.drew _ b hb) ⟨_, (if_pos (Or.inr (Nat.le_refl _))).trans (heap_alloc_new w.drew _), ?_, ?_, hcm, ?_⟩
    · simp only [Array.size_append, List.size_toArray, size_zeroCells, hzs, List.length_append, List.length_map]
      omega
    · show (r.xs ++ ss).length ≤ _; rw [hlen]; exact hge
    · simp only [Array.toList_append, List.drop_zero]
      rw [List.take_append_of_le_length (by simp), List.take_of_length_le (by simp), List.map_append]

/-- append onto one of the rows. -/
theorem ow_appendRow {s x : Operand} {t tx e bytes e' s' b' n cap k m l : Nat} {z z' v : Value} {A : Option Addr} {r : SRow} {rs : List SRow} {ss : List (List UInt8)} [ht : TSlice P t e 1 bytes z] [htx : TSlice P tx e' s' b' z'] (hs : Ev E s (.slice A n cap)) (hv : Value.slice A n cap = r.v) (hx : Ev E x v)
    (hr : HasR (St c L) v m (ss.map str)) (hk : rs[k]? = some r) (hb : r.xs.length + m = l) (hl : l ≤ 1000) (hby : bytes ≤ 1000) (hp : Pick L (RowsP (SRowP e) rs) F) :
    OW P N c E L (Oper.mk d (.call { callee := .builtin .append, args := #[s, x], argTypes := #[t, tx] }) ty pos aft g) (fun r' : { r' : SRow // r'.xs = r.xs ++ ss } => .slice (some ⟨r'.1.g, r'.1.off, none⟩) l r'.1.cap) fun r' => RowsP (SRowP e) (rs.set k r'.1) :: F := fun Q K a w hf H hh => by
  have hi := ht.i
  have hlt : k < rs.length := (List.getElem?_eq_some_iff.1 hk).1
  cases hq : P.info? e with
  | none => simp [hq] at hi
  | some ie =>
    simp only [hq, Option.map_some, Option.some.injEq, Prod.mk.injEq] at hi
    have hsrc : Src P 1 tx v m (ss.map str) w := src_reads htx.u (hr w H) (by intro u hu; obtain ⟨q, _, rfl⟩ := List.mem_map.1 hu; rfl)
    have h63 : r.xs.length + m ≤ maxLen := by simp only [maxLen]; omega
    have hbb : (r.xs.length + m) * bytes ≤ 140737488355328 := Nat.le_trans (Nat.mul_le_mul (by omega : _ ≤ 1000) hby) (by decide)
    obtain ⟨r', w', h1, h2, h3⟩ := (rowsP_take hk (hp.st H)).appendRow (P := P) (t := t) (tx := tx) (ty := ty) (i := ie) (x := v) (m := m) (ss := ss) ht.u hq hi.1 hi.2.1 hi.2.2 ht.zs hsrc h63 hbb
    have hl' : r'.xs.length = l := by
      have h4 := hsrc.newsLen
      rw [List.length_map, Nat.mul_one] at h4
      rw [h1, List.length_append, h4, hb]
    have e1 : r'.v = .slice (some ⟨r'.g, r'.off, none⟩) l r'.cap := by rw [SRow.v, hl']
    rw [← hv] at h2
    unfold Oper.wp execOp
    simp only [resolve, invoke, builtin, Sem.run_bind, Sem.run_pure, Result.andThen_ok, List.map_toArray, List.map_cons, List.map_nil, hs N a hf, hx N a hf, h2, e1]
    exact hh ⟨r', h1⟩ w' (rowsP_put hlt h3)
/-- A new row. -/
theorem ow_buildRow {t e bytes : Nat} {z : Value} {x : Operand} {s : List UInt8} {rs : List SRow} [ht : TSlice P t e 1 bytes z] (hx : Ev E x (str s)) (hp : Pick L (RowsP (SRowP e) rs) F) :
    OW P N c E L (Oper.mk d (.buildSlice t 1 #[(0, x)]) ty pos aft g) (fun b => .slice (some ⟨b, 0, none⟩) 1 1) fun b => RowsP (SRowP e) (rs ++ [⟨b, 0, 1, [s]⟩]) :: F := fun Q K a w hf H hk => by
  have h0 := ow_buildSlice (P := P) (N := N) (c := c) (E := E) (L := L) (d := d) (ty := ty) (pos := pos) (aft := aft) (g := g) (t := t) (e := e) (size := 1) (bytes := bytes) (n := 1) (z := z) (ps := [(0, x)]) (vs := [str s]) (.cons hx .nil) rfl (by intro v hv; simp at hv; subst hv; rfl) (by decide) (by decide)
  refine h0 Q K a w hf H fun b w' H' => hk b w' (rowsP_snoc ((Pick.tl hp).st H' |>.swap.imp fun h hb => ?_))
  exact ⟨#[str s], hb, rfl, Nat.le_refl _, (by decide : 1 ≤ maxLen), rfl⟩
/-- A slice of one string. -/
theorem ow_buildStr {t e bytes : Nat} {z : Value} {x : Operand} {s : List UInt8} [ht : TSlice P t e 1 bytes z] (hx : Ev E x (str s)) :
    OW P N c E L (Oper.mk d (.buildSlice t 1 #[(0, x)]) ty pos aft g) (fun b => .slice (some ⟨b, 0, none⟩) 1 1) fun b => Bl b e ([s].map str) :: L := fun Q K a w hf H hk => by
  have h0 := ow_buildSlice (P := P) (N := N) (c := c) (E := E) (L := L) (d := d) (ty := ty) (pos := pos) (aft := aft) (g := g) (t := t) (e := e) (size := 1) (bytes := bytes) (n := 1) (z := z) (ps := [(0, x)]) (vs := [str s]) (.cons hx .nil) rfl (by intro v hv; simp at hv; subst hv; rfl) (by decide) (by decide)
  exact h0 Q K a w hf H hk
theorem w_rows {α : Type} {f : α → HP} {x : Code} (h : W P N c Q x E (RowsP f [] :: L)) : W P N c Q x E L := fun a w hf H => h a w hf (rows_nil H)
theorem w_rowCap {x : Code} {e : TypeId} {rs : List SRow} {r : SRow} {k : Nat} (hp : Pick L (RowsP (SRowP e) rs) F) (hk : rs[k]? = some r) (h : r.xs.length ≤ r.cap ∧ r.cap ≤ 9223372036854775807 → W P N c Q x E L) : W P N c Q x E L := fun a w hf H => by
  obtain ⟨h0, ⟨cur, h1, h2, h3, h4, h5⟩, l⟩ := (rowsP_take hk (hp.st H)).get
  exact h ⟨h3, by simpa [maxLen] using h4⟩ a w hf H
theorem hasCell_row {e : TypeId} {rs : List SRow} {r : SRow} {k i : Nat} {s : List UInt8} (hk : rs[k]? = some r) (hi : r.xs[i]? = some s) : HasCell (St c (RowsP (SRowP e) rs :: L)) ⟨r.g, r.off + i * 1, none⟩ (str s) := fun w H => by
  obtain ⟨h0, ⟨cur, h1, h2, h3, h4, h5⟩, l⟩ := (rowsP_take hk H).get
  have e1 : (r.xs.map str)[i]? = some (str s) := by rw [List.getElem?_map, hi]; rfl
  rw [l.cell h1, Nat.mul_one]
  rw [← h5, List.getElem?_take] at e1
  split at e1
  · rw [List.getElem?_drop] at e1; simpa using e1
  · cases e1
end
end Go.Proofs.Ytakeilefbcpabaa
