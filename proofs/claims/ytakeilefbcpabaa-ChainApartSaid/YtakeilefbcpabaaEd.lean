/- The operations on memory, by what is known of their operands. No program in sight. -/
import Derived.Test.YtakeilefbcpabaaEc
import Derived.Deep.AppendSrc
import Derived.Laws.BytesString
namespace Go.Proofs.Ytakeilefbcpabaa
open Go.RowKit

/-! ### append of whatever reads -/
theorem St.appendS {c : Con} {L : List HP} {w : World} {P : Program} {size bytes n m : Nat} {t tx ty e : TypeId} {i : TypeInfo} {z v x : Value} {xs news : List Value} (H : St c (OwnP e size v n xs :: L) w)
    (ht : P.underlying t = some (.slice e)) (hi : P.info? e = some i) (hz : i.zero = some z)
    (hsize : i.size = size) (hby : i.bytes = bytes) (hzs : z.cells.size = size) (hs : Src P size tx x m news w)
    (h63 : n + m ≤ maxLen) (hbytes : (n + m) * bytes ≤ 140737488355328) :
    ∃ A cap w', (Builtin.append_ #[t, tx] ty #[v, x]).run P w = .ok (.slice A (n + m) cap) w' ∧ St c (OwnP e size (.slice A (n + m) cap) (n + m) (xs ++ news) :: L) w' := by
  subst hsize
  subst hby
  obtain ⟨h, ⟨hx, ho⟩, l, u⟩ := H.upd
  have hl := hs.newsLen
  have hlen : (xs ++ news).length = (n + m) * i.size := by rw [List.length_append, hx, hl, Nat.add_mul]
  have grown : ∀ (old : Nat), St c (OwnP e i.size (.slice (some ⟨w.heap.size, 0, none⟩) (n + m) (grownCap w (n + m) old e)) (n + m) (xs ++ news) :: L)
      (w.drew.alloc (.cells ((xs ++ news).toArray ++ Builtin.zeroCells z.cells (grownCap w (n + m) old e - (n + m))) e)) := by
    intro old
    have hge := grownCap_ge w (n + m) old e
    have hcm : grownCap w (n + m) old e ≤ maxLen := grownCap_le_maxLen w (n + m) old e h63
    refine u _ _ rfl (fun b hb _ => Below.heap_alloc w.drew _ b hb) ⟨hlen, .inr ⟨w.heap.size, _, (xs ++ news).toArray ++ Builtin.zeroCells z.cells (grownCap w (n + m) old e - (n + m)), rfl, ?_, hge, hcm, ?_, ?_⟩⟩
    · exact (if_pos (Or.inr (Nat.le_refl _))).trans (heap_alloc_new w.drew _)
    · simp only [Array.size_append, List.size_toArray, size_zeroCells, hzs, hlen, ← Nat.add_mul]
      congr 1
      omega
    · simp only [Array.toList_append]
      rw [← hlen]
      exact List.take_left
  rcases ho with ⟨rfl, rfl⟩ | ⟨g, cap, cur, rfl, hg, hnc, hcm, hcs, htake⟩
  · have hx' : xs = [] := List.eq_nil_of_length_eq_zero (by simpa using hx)
    subst hx'
    by_cases hm : m = 0
    · subst hm
      have hn : news = [] := List.eq_nil_of_length_eq_zero (by simpa using hl)
      subst hn
      refine ⟨none, 0, w, ?_, H⟩
      have hc := hs.cells
      rcases hs.kind with ⟨e', hk⟩ | hk <;> simp [Builtin.append_, run_underlying ht, run_underlying hk, sizeOf, typeInfo, hi, hs.len, hc]
    · have hr := run_append_grow_src (P := P) w t tx ty e i z ht hi hz none 0 0 [] (run_firstCells_none w.drew i.size 0 0 0) x m news hs (by omega) (by simp only [maxLen] at h63; omega)
        (growslice_fits (by omega) (by simpa using hbytes))
      exact ⟨_, _, _, hr, by have := grown 0; simpa using this⟩
  · have hgw := l g _ hg
    by_cases hroom : n + m ≤ cap
    · have hfit : n * i.size + news.length ≤ cur.size := by rw [hl, hcs, ← Nat.add_mul]; exact Nat.mul_le_mul_right _ hroom
      have hst := run_storeCells_at P g (n * i.size) e news 0 cur w hgw (by simpa using hfit) hs.one
      simp only [Nat.add_zero] at hst
      have hr : (Builtin.append_ #[t, tx] ty #[.slice (some ⟨g, 0, none⟩) n cap, x]).run P w = .ok (.slice (some ⟨g, 0, none⟩) (n + m) cap) (w.setRow g (cur.toList.take (n * i.size) ++ news ++ cur.toList.drop (n * i.size + news.length)).toArray) := by
        rcases hs.kind with ⟨e', hk⟩ | hk <;> simp [Builtin.append_, run_underlying ht, run_underlying hk, sizeOf, typeInfo, hi, hs.len, hroom, hs.cells, add_mid, hst]
      refine ⟨_, _, _, hr, ?_⟩
      refine u _ _ rfl (fun b hb hn => setRow_other w g b _ ?_) ⟨hlen, .inr ⟨g, cap, (cur.toList.take (n * i.size) ++ news ++ cur.toList.drop (n * i.size + news.length)).toArray, rfl, ?_, hroom, hcm, ?_, ?_⟩⟩
      · rintro rfl; rw [hg] at hn; cases hn
      · exact (if_pos (Or.inl (by rw [hg]; rfl))).trans (setRow_heap w g cur _ e _ hgw)
      · simp only [List.size_toArray, List.length_append, List.length_take, List.length_drop, Array.length_toList]
        omega
      · rw [htake, ← hlen]
        exact List.take_left
    · have holds : ∀ j u, xs[j]? = some u → w.drew.cell? ((⟨g, 0, none⟩ : Addr).add j) = some u := by
        intro j u hu
        rw [add_mid, Nat.zero_add]
        show w.cell? _ = _
        rw [cell_of_row w g j cur e (0, 0) hgw]
        rw [← htake, List.getElem?_take] at hu
        split at hu
        · simpa using hu
        · cases hu
      have hr := run_append_grow_src (P := P) w t tx ty e i z ht hi hz (some ⟨g, 0, none⟩) n cap xs (run_firstCells_some w.drew i.size n _ n cap xs hx holds) x m news hs (by omega) (by simp only [maxLen] at h63; omega)
        (growslice_fits (by omega) hbytes)
      exact ⟨_, _, _, hr, grown cap⟩
end Go.Proofs.Ytakeilefbcpabaa
