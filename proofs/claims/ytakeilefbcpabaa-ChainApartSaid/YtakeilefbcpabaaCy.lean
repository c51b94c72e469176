/- Frames that lie in sectors, one behind the other. -/
import Derived.Test.YtakeilefbcpabaaCv
namespace Go.Proofs.Ytakeilefbcpabaa
open Go.RowKit
/-- Sectors that lie from a place on. -/
def LaidAt (now : List Sec) (lo : Nat) (L : List Sec) : Prop := ∀ j s, L[j]? = some s → now[lo + j]? = some s
def secsOf (f : List UInt8) : List Sec := (chunks f).map pad
theorem secsOf_length (f : List UInt8) : (secsOf f).length = (f.length + 255) / 256 := by rw [secsOf, List.length_map, chunks_length]
def sizeS (fs : List (List UInt8)) : Nat := (fs.flatMap secsOf).length
theorem sizeS_nil : sizeS [] = 0 := rfl
theorem sizeS_snoc (fs : List (List UInt8)) (f : List UInt8) : sizeS (fs ++ [f]) = sizeS fs + (f.length + 255) / 256 := by simp [sizeS, secsOf_length]
theorem sizeS_cons (fs : List (List UInt8)) (f : List UInt8) : sizeS (f :: fs) = (f.length + 255) / 256 + sizeS fs := by simp [sizeS, secsOf_length]
theorem LaidAt.nil {now : List Sec} {lo : Nat} : LaidAt now lo [] := fun j s h => by simp at h
theorem LaidAt.append {now : List Sec} {lo : Nat} {L M : List Sec} (h : LaidAt now lo L) (k : LaidAt now (lo + L.length) M) : LaidAt now lo (L ++ M) := fun j s e => by
  rw [List.getElem?_append] at e
  split at e
  · exact h j s e
  · rename_i hj
    have := k (j - L.length) s e
    rwa [show lo + L.length + (j - L.length) = lo + j by omega] at this
theorem LaidAt.left {now : List Sec} {lo : Nat} {L M : List Sec} (h : LaidAt now lo (L ++ M)) : LaidAt now lo L := fun j s e => h j s (by
  rw [List.getElem?_append_left (List.getElem?_eq_some_iff.1 e).1]; exact e)
theorem LaidAt.right {now : List Sec} {lo : Nat} {L M : List Sec} (h : LaidAt now lo (L ++ M)) : LaidAt now (lo + L.length) M := fun j s e => by
  have := h (L.length + j) s (by rw [List.getElem?_append_right (by omega), Nat.add_sub_cancel_left]; exact e)
  rwa [← Nat.add_assoc] at this
theorem LaidAt.keep {now now' : List Sec} {lo : Nat} {L : List Sec} (h : LaidAt now lo L) (k : ∀ t, lo ≤ t → t < lo + L.length → now'[t]? = now[t]?) : LaidAt now' lo L := fun j s e => by
  have hj := (List.getElem?_eq_some_iff.1 e).1
  rw [k _ (by omega) (by omega)]; exact h j s e
/-- Which sectors several writes turn. -/
theorem wrTo_get {D : DiskM} {n pos : Nat} {a : Int} (h : Steady D n a) {cs : List (List UInt8)} (hc : ∀ i, i < cs.length → (cs.getD i []).length ≤ 256) (hp : pos + cs.length ≤ n) (ha : 0 ≤ a ∧ a + cs.length < 4611686018427387904) :
    ∀ i, i ≤ cs.length → ∀ t, (wrTo D pos cs i).now[t]? = if pos ≤ t ∧ t < pos + i then some (pad (cs.getD (t - pos) [])) else D.now[t]?
  | 0, _, t => by rw [if_neg (by omega)]; rfl
  | i + 1, hi, t => by
    have h1 := h.wrTo hc hp ha i (by omega)
    rw [wrTo, h1.write_eq (i := ((pos + i : Nat) : Int)) ⟨by omega, by omega⟩ (hc i (by omega)) (by omega)]
    dsimp only
    rw [Int.toNat_natCast, List.getElem?_set, wrTo_get h hc hp ha i (by omega) t, h1.len]
    by_cases e : pos + i = t
    · subst e
      rw [if_pos rfl, if_pos (by omega), if_pos (by omega), Nat.add_sub_cancel_left]
    · rw [if_neg e]
      by_cases k : pos ≤ t ∧ t < pos + i
      · rw [if_pos k, if_pos (by omega)]
      · rw [if_neg k, if_neg (by omega)]
theorem frame_laid {D : DiskM} {n pos m : Nat} {a : Int} (h : Steady D n a) {f : List UInt8} (hm : (f.length + 255) / 256 = m) (hp : pos + m ≤ n) (ha : 0 ≤ a ∧ a + m < 4611686018427387904) :
    LaidAt (wrTo D pos (chunks f) m).now pos (secsOf f) ∧ ∀ t, (t < pos ∨ pos + m ≤ t) → (wrTo D pos (chunks f) m).now[t]? = D.now[t]? := by
  have hl : (chunks f).length = m := by rw [chunks_length, hm]
  have hg := wrTo_get h (pos := pos) (chunks_le f) (by omega) (by omega) m (by omega)
  refine ⟨fun j s e => ?_, fun t ht => by rw [hg, if_neg (by omega)]⟩
  have hj := (List.getElem?_eq_some_iff.1 e).1
  rw [secsOf, List.length_map, hl] at hj
  rw [hg, if_pos (by omega), Nat.add_sub_cancel_left]
  rw [secsOf, List.getElem?_map] at e
  rw [List.getD_eq_getElem?_getD]
  cases k : (chunks f)[j]? with
  | none => rw [k] at e; cases e
  | some c => rw [k] at e; exact e
/-- Several frames, and one behind them. -/
theorem laid_add {D : DiskM} {n lo m : Nat} {a : Int} (h : Steady D n a) {fs : List (List UInt8)} {f : List UInt8} (hl : LaidAt D.now lo (fs.flatMap secsOf)) (hm : (f.length + 255) / 256 = m) (hp : lo + sizeS fs + m ≤ n) (ha : 0 ≤ a ∧ a + m < 4611686018427387904) :
    LaidAt (wrTo D (lo + sizeS fs) (chunks f) m).now lo ((fs ++ [f]).flatMap secsOf) := by
  obtain ⟨h1, h2⟩ := frame_laid h (pos := lo + sizeS fs) hm hp ha
  rw [List.flatMap_append, List.flatMap_singleton]
  refine LaidAt.append (hl.keep fun t h3 h4 => h2 t (.inl ?_)) h1
  exact h4
/-- A frame that lies there stands next. -/
theorem accB_laid {now : List Sec} {pos : Nat} {L : List Sec} (h : LaidAt now pos L) {k : Nat} (hk : k ≤ L.length) : accB now pos k = (L.take k).flatten := by
  unfold accB
  congr 1
  apply List.ext_getElem?
  intro j
  rw [List.getElem?_take, List.getElem?_take]
  by_cases hj : j < k
  · rw [if_pos hj, if_pos hj, List.getElem?_drop]
    obtain ⟨s, hs⟩ : ∃ s, L[j]? = some s := ⟨_, List.getElem?_eq_getElem (by omega)⟩
    rw [hs, h j s hs]
  · rw [if_neg hj, if_neg hj]
theorem chunks_cat (f : List UInt8) : ∀ k, 256 * k ≤ f.length → (((chunks f).take k).map pad).flatten = f.take (256 * k)
  | 0, _ => by simp
  | k + 1, h => by
    have hk : k < (f.length + 255) / 256 := by omega
    have hl : k < (chunks f).length := by rw [chunks_length]; exact hk
    have hg := chunks_get f hk
    rw [List.getD_eq_getElem?_getD, List.getElem?_eq_getElem hl] at hg
    have hg : (chunks f)[k] = chunkB f k := hg
    rw [List.take_succ_eq_append_getElem hl, List.map_append, List.flatten_append, chunks_cat f k (by omega), hg]
    have hc : (chunkB f k).length = 256 := by rw [chunkB_length]; omega
    have hp : pad (chunkB f k) = chunkB f k := by unfold pad; rw [hc]; simp [zeros]
    simp only [List.map_cons, List.map_nil, List.flatten_cons, List.flatten_nil, List.append_nil, hp]
    unfold chunkB
    rw [show min 256 (f.length - 256 * k) = 256 by omega, show 256 * (k + 1) = 256 * k + 256 by omega]
    rw [List.drop_take, show 256 * k + 256 - 256 * k = 256 by omega, ← List.take_add]
theorem secs_cat (f : List UInt8) : ∃ z, (secsOf f).flatten = f ++ List.replicate z 0 := by
  by_cases h0 : f.length % 256 = 0
  · refine ⟨0, ?_⟩
    have h := chunks_cat f ((f.length + 255) / 256) (by omega)
    rw [List.take_of_length_le (by rw [chunks_length]; omega), List.take_of_length_le (by omega)] at h
    rw [secsOf, h]; simp
  · obtain ⟨k, hk⟩ : ∃ k, (f.length + 255) / 256 = k + 1 := ⟨f.length / 256, by omega⟩
    have hl : (chunks f).length = k + 1 := by rw [chunks_length, hk]
    have h := chunks_cat f k (by omega)
    have hg := chunks_get f (j := k) (by omega)
    rw [List.getD_eq_getElem?_getD, List.getElem?_eq_getElem (by omega)] at hg
    have hg : (chunks f)[k]'(by omega) = chunkB f k := hg
    have e : chunks f = (chunks f).take k ++ [chunkB f k] := by
      rw [← hg, ← List.take_succ_eq_append_getElem (by omega), List.take_of_length_le (by omega)]
    refine ⟨256 - (chunkB f k).length, ?_⟩
    rw [secsOf, e, List.map_append, List.flatten_append, h]
    simp only [List.map_cons, List.map_nil, List.flatten_cons, List.flatten_nil, List.append_nil]
    unfold pad
    rw [← List.append_assoc]
    congr 1
    unfold chunkB
    have e3 : f.take (256 * k + min 256 (f.length - 256 * k)) = f := List.take_of_length_le (by omega)
    rw [e3, List.take_append_drop]
theorem stands_of {now : List Sec} {pos lim : Nat} {f : List UInt8} (hw : ∀ s ∈ now, s.length = 256) (h : LaidAt now pos (secsOf f)) (hne : f ≠ []) (hM : lengthM f = f.length) (hlim : (f.length + 255) / 256 ≤ lim) (hn : pos + lim ≤ now.length) :
    ∃ k, Stands now pos lim k f.length f ∧ k + 1 = (f.length + 255) / 256 := by
  have hlen : 0 < f.length := List.length_pos_iff.2 hne
  obtain ⟨h1, h2, h3, h4, h5⟩ := lengthM_pos (b := f) (by omega)
  obtain ⟨k, hk⟩ : ∃ k, (f.length + 255) / 256 = k + 1 := ⟨(f.length - 1) / 256, by omega⟩
  obtain ⟨z, hz⟩ := secs_cat f
  have hsl := secsOf_length f
  have hacc : accB now pos (k + 1) = f ++ List.replicate z 0 := by
    rw [accB_laid h (by omega), List.take_of_length_le (by omega), hz]
  have haccl : ∀ j, j ≤ k → (accB now pos (j + 1)).length = 256 * (j + 1) := fun j hj => accB_length hw (by omega)
  have hpre : ∀ j, j ≤ k → (accB now pos (j + 1)).take 8 = f.take 8 := fun j hj => by
    have h8 : (accB now pos (j + 1)).take 8 = (accB now pos (k + 1)).take 8 := by
      have e : accB now pos (j + 1) = (accB now pos (k + 1)).take (256 * (j + 1)) := by
        have e1 : (now.drop pos).take (k + 1) = (now.drop pos).take (j + 1) ++ ((now.drop pos).drop (j + 1)).take (k - j) := by
          rw [show k + 1 = (j + 1) + (k - j) by omega, List.take_add]
        have e2 : accB now pos (k + 1) = accB now pos (j + 1) ++ (((now.drop pos).drop (j + 1)).take (k - j)).flatten := by
          unfold accB; rw [e1, List.flatten_append]
        rw [e2, ← haccl j hj, List.take_left]
      rw [e, List.take_take, Nat.min_eq_left (by omega)]
    rw [h8, hacc, List.take_append_of_le_length h2]
  refine ⟨k, ⟨by omega, fun j hj => ?_, ?_, hlen, by omega, ?_, rfl, hM, hk⟩, hk.symm⟩
  · rw [lengthM_of (n := (f.length : Int)) (by rw [haccl j (by omega)]; omega) (by rw [hpre j (by omega), ← h1, hM]) (by omega), haccl j (by omega), if_neg (by omega)]
  · rw [lengthM_of (n := (f.length : Int)) (by rw [haccl k (by omega)]; omega) (by rw [hpre k (by omega), ← h1, hM]) (by omega), haccl k (by omega), if_pos (by omega)]
  · rw [hacc, List.take_left]
theorem sizeS_take {us : List (List UInt8)} {i : Nat} {f : List UInt8} (h : us[i]? = some f) : sizeS (us.take (i + 1)) = sizeS (us.take i) + (f.length + 255) / 256 := by
  have hl := (List.getElem?_eq_some_iff.1 h).1
  have e : us[i] = f := by rw [List.getElem?_eq_getElem hl] at h; exact Option.some.inj h
  rw [List.take_succ_eq_append_getElem hl, e, sizeS_snoc]
theorem sizeS_take_le (us : List (List UInt8)) (i : Nat) : sizeS (us.take i) ≤ sizeS us := by
  have e : us = us.take i ++ us.drop i := (List.take_append_drop i us).symm
  have ha : ∀ a b : List (List UInt8), sizeS (a ++ b) = sizeS a + sizeS b := fun a b => by simp [sizeS]
  have h := ha (us.take i) (us.drop i)
  rw [← e] at h
  omega
theorem laid_nth {now : List Sec} {lo : Nat} {us : List (List UInt8)} (h : LaidAt now lo (us.flatMap secsOf)) {i : Nat} {f : List UInt8} (hf : us[i]? = some f) : LaidAt now (lo + sizeS (us.take i)) (secsOf f) := by
  have hl := (List.getElem?_eq_some_iff.1 hf).1
  have e1 : us[i] = f := by rw [List.getElem?_eq_getElem hl] at hf; exact Option.some.inj hf
  have e : us = us.take i ++ (f :: us.drop (i + 1)) := by rw [← e1, ← List.drop_eq_getElem_cons hl, List.take_append_drop]
  rw [e, List.flatMap_append] at h
  have h2 := h.right
  rw [List.flatMap_cons] at h2
  exact h2.left
/-- Frames as strings, in memory. -/
theorem cell_nth {g T n j o : Nat} {cur : List Value} {us : List (List UInt8)} {H : World → Prop} {f : List UInt8} (h : Has H g (.cells cur.toArray T (0, 0))) (hc : cur.take (n * 1) = us.map str) (hn : us.length = n) (hf : us[j]? = some f) (ho : o = 0 + j * 1) : HasCell H ⟨g, o, none⟩ (str f) := by
  subst ho
  refine hasCell_bl h ?_
  have hj := (List.getElem?_eq_some_iff.1 hf).1
  have e : (us.map str)[j]? = some (str f) := by rw [List.getElem?_map, hf]; rfl
  rw [← hc, List.getElem?_take] at e
  split at e
  · simpa using e
  · cases e
/-- A frame as it may be added. -/
structure FrameOk (f : List UInt8) (most : Nat) : Prop where
  ne : f ≠ []
  is : lengthM f = f.length
  le : f.length ≤ most
theorem frame_ok (s : List UInt8) (hs : s.length ≤ 16376) {most : Nat} (hm : max s.length 40 + 8 ≤ most) : FrameOk (frameB s) most := ⟨frame_ne s, lengthM_frame s hs, by rw [frameB_length]; exact hm⟩
end Go.Proofs.Ytakeilefbcpabaa
