/- What reads as bytes; strings of it. No program in sight. -/
import Derived.Test.YtakeilefbcpabaaEg
import Derived.Test.YtakeilefbcpabaaOq
namespace Go.Proofs.Ytakeilefbcpabaa
open Go.RowKit

/-- The slice v reads as n bytes. -/
def HasR (H : World → Prop) (v : Value) (n : Nat) (cs : List Value) : Prop := ∀ w, H w → Reads w v n 1 cs
section
variable {c : Con} {L : List HP} {A : HP} {H : World → Prop}
theorem hasR_tl {v : Value} {n : Nat} {cs : List Value} (h : HasR (St c L) v n cs) : HasR (St c (A :: L)) v n cs := fun w k => h w k.tail
theorem hasR_old {w0 : World} {v : Value} {n : Nat} {cs : List Value} (h : Reads w0 v n 1 cs) : HasR (St c (Old w0 :: L)) v n cs := fun w k => by
  refine ⟨h.1, h.2.imp (fun e => e) ?_⟩
  rintro ⟨a, cap, h1, h2, h3, h4⟩
  exact ⟨a, cap, h1, h2, h3, fun j u hu => by
    have e := h4 j u hu
    rw [World.cell?_of_block (w := w0) (k.old _ (World.block_lt_of_cell? w0 _ e))]; exact e⟩
theorem hasR_own {e n : Nat} {v : Value} {xs : List Value} : HasR (St c (OwnP e 1 v n xs :: L)) v n xs := fun w k => by
  obtain ⟨h, ⟨hx, ho⟩, l⟩ := k.get
  refine ⟨hx, ?_⟩
  rcases ho with ⟨h1, h2⟩ | ⟨g, cap, cur, h1, h2, h3, h4, h5, h6⟩
  · exact .inl ⟨h1, h2⟩
  · refine .inr ⟨_, cap, h1, h3, by simpa [maxLen] using h4, fun j u hu => ?_⟩
    rw [add_mid, Nat.zero_add, l.cell h2]
    rw [← h6, List.getElem?_take] at hu
    split at hu
    · simpa using hu
    · cases hu
theorem hasR_bytes {b cap e : Nat} {l : List UInt8} (h : l.length ≤ cap ∧ cap ≤ 9223372036854775807) : HasR (St c (BytesP b cap e l :: L)) (.slice (some ⟨b, 0, none⟩) l.length cap) l.length (bvs l) := bytesP_reads h.1 h.2
theorem hasR_bl {b T n cap : Nat} {fr : Nat × Nat} {cs ds : List Value} (hd : cs.take n = ds) (hn : n ≤ cs.length) (h1 : n ≤ cap) (h2 : cap ≤ 9223372036854775807) : HasR (St c (Pt b (.cells cs.toArray T fr) :: L)) (.slice (some ⟨b, 0, none⟩) n cap) n ds := fun w k => by
  subst hd
  refine ⟨by simp [hn], .inr ⟨_, cap, rfl, h1, h2, fun j u hu => ?_⟩⟩
  rw [add_mid, Nat.zero_add, cell_of_row w b j _ _ _ k.pt]
  rw [List.getElem?_take] at hu
  split at hu
  · simpa using hu
  · cases hu
theorem hasR_blAll {b T n cap : Nat} {fr : Nat × Nat} {cs : List Value} (hn : cs.length = n) (h1 : n ≤ cap) (h2 : cap ≤ 9223372036854775807) : HasR (St c (Pt b (.cells cs.toArray T fr) :: L)) (.slice (some ⟨b, 0, none⟩) n cap) n cs := hasR_bl (List.take_of_length_le (by omega)) (by omega) h1 h2
theorem HasR.bytes {v : Value} {n : Nat} {l : List UInt8} (h : HasR H v n (bvs l)) : ∀ w, H w → Reads w v l.length 1 (bvs l) := fun w k => by
  have h1 := h w k
  have h2 : l.length = n := by have := h1.1; rw [bvs_length] at this; omega
  rw [h2]; exact h1
section
variable {P : Program} {E : Env} {d : Option Nat} {ty : TypeId} {pos : String} {aft : Array Edge} {g : Option (Nat × Bool)}
theorem y_str {x : Operand} {t t' e s by' n : Nat} {z v : Value} {l : List UInt8} [ht : TSlice P t e s by' z] [he : TInt P e .u8] [hs : TStr P t'] (hx : Ev E x v) (hr : HasR H v n (bvs l)) :
    Y P H E (Oper.mk d (.convert t t' x) ty pos aft g) (str l) := y_toStr hx hr.bytes
theorem ow_makeSliceI {N : Nat} {x y : Operand} {t e bytes : Nat} {z z' : Value} {m : Int} {k k' : IntKind} [ht : TSlice P t e 1 bytes z] [he : TOne P e z'] (hx : Ev E x (.int k m)) (hy : Ev E y (.int k' m)) {n : Nat} (hm : m = n) (hb : bytes * n ≤ 281474976710656) (h63 : n ≤ 9223372036854775807) :
    OW P N c E L (Oper.mk d (.makeSlice t x y) ty pos aft g) (fun b => .slice (some ⟨b, 0, none⟩) n n) fun b => Bl b e (List.replicate n z') :: L := by
  subst hm; exact ow_makeSlice hx hy hb h63
theorem ow_appendR {N : Nat} {F : List HP} {s x : Operand} {t tx e bytes e' s' b' n m k cap : Nat} {z z' v : Value} {A : Option Addr} {xs news ys : List Value} [ht : TSlice P t e 1 bytes z] [htx : TSlice P tx e' s' b' z'] (hs : Ev E s (.slice A n cap)) (hx : Ev E x v)
    (hr : HasR (St c L) v m news) (h1 : ∀ u ∈ news, u.oneCell' = true) (hk : n + m = k) (he : xs ++ news = ys) (hb : k ≤ 9223372036854775807 ∧ k * bytes ≤ 140737488355328) (hp : Pick L (OwnP e 1 (.slice A n cap) n xs) F) :
    OW P N c E L (Oper.mk d (.call { callee := .builtin .append, args := #[s, x], argTypes := #[t, tx] }) ty pos aft g) (fun q : Option Addr × Nat => .slice q.1 k q.2) fun q => OwnP e 1 (.slice q.1 k q.2) k ys :: F :=
  ow_append hs hx (fun w H => src_reads htx.u (hr w H) h1) hk he hb hp
end
end
theorem rds_auto {H : World → Prop} {v : Value} {n : Nat} {cs : List Value} (h : HasR H v n cs := by ((repeat (first | exact hasR_own | exact hasR_bytes (by first | assumption | omega) | exact hasR_old (by assumption) | exact hasR_blAll (by assumption) (by omega) (by omega) | refine hasR_tl ?_)); (first | done | fail))) : HasR H v n cs := h
/-! ### A slice of bytes that came in -/
section
variable {H : Type} {enc : TypeId × Value → H} {W : World}
def IsByte (_ : World) (b : UInt8) (cs : List Value) : Prop := cs = [bv b]
theorem reads_of_elems {a : Option Addr} {len cap : Nat} {l : List UInt8} (h : ElemsOf IsByte 1 W a len l) (h0 : a = none → len = 0 ∧ cap = 0) (h1 : len ≤ cap) (h2 : cap ≤ 9223372036854775807) : l.length = len ∧ Reads W (.slice a len cap) len 1 (bvs l) := by
  obtain ⟨hl, -, he⟩ := h
  refine ⟨hl, by rw [bvs_length, hl, Nat.mul_one], ?_⟩
  cases a with
  | none =>
    obtain ⟨rfl, rfl⟩ := h0 rfl
    exact .inl ⟨rfl, rfl⟩
  | some ad =>
    refine .inr ⟨ad, cap, rfl, h1, h2, fun j u hu => ?_⟩
    simp only [bvs, List.getElem?_map, Option.map_eq_some_iff] at hu
    obtain ⟨b, hb, rfl⟩ := hu
    obtain ⟨a', cs, ha, hcs, _, hc⟩ := he j b hb
    cases ha
    have := hc 0 (bv b) (by rw [hcs]; rfl)
    rw [Nat.mul_one] at this
    simpa [Addr.add] using this
end
end Go.Proofs.Ytakeilefbcpabaa
