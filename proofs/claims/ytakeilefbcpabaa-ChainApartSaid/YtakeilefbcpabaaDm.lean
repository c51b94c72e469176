/- The disk as plain data (what a call makes of it), and how it lies in memory. -/
import Derived.Test.YtakeilefbcpabaaSlb
import Derived.Test.YtakeilefbcpabaaBy
namespace Go.Proofs.Ytakeilefbcpabaa
open Go.RowKit

/-! ### Plain data -/
abbrev Sec := List UInt8
def zeroSec : Sec := zeros 256
theorem zeroSec_length : zeroSec.length = 256 := zeros_length 256
def pad (s : List UInt8) : Sec := s ++ zeros (256 - s.length)
def secs (l : List Sec) : List Value := bvs l.flatten
def wcells (l : List (Nat × Sec)) : List Value := l.flatMap fun x => .int .i64 (x.1 : Int) :: bvs x.2

structure DiskM where
  now : List Sec
  safe : List Sec
  waits : List (Nat × Sec)
  down : Bool
  acts : Int
  fuse : Int
  keep : Int

structure DiskM.WF (D : DiskM) : Prop where
  most : D.now.length ≤ 4096
  same : D.safe.length = D.now.length
  now : ∀ s ∈ D.now, s.length = 256
  safe : ∀ s ∈ D.safe, s.length = 256
  waits : ∀ x ∈ D.waits, x.1 < D.now.length ∧ x.2.length = 256
  fuse0 : 0 ≤ D.fuse
  fuse1 : D.fuse ≤ 9223372036854775807
  keep0 : 0 ≤ D.keep
  keep1 : D.keep < 18446744073709551616

/-- The bit i mod 64 is set. -/
def bitAt (k : Int) (i : Nat) : Bool := decide (k / 2 ^ (i % 64) % 2 = 1)
def keptFrom (k : Int) : Nat → List (Nat × Sec) → List Sec → List Sec
  | _, [], s => s
  | i, x :: r, s => keptFrom k (i + 1) r (if bitAt k i then s.set x.1 x.2 else s)
namespace DiskM
def new (n : Nat) : DiskM := ⟨List.replicate n zeroSec, List.replicate n zeroSec, [], false, 0, 0, 0⟩
def kept (D : DiskM) (k : Int) : List Sec := keptFrom k 0 D.waits D.safe
def off (D : DiskM) (k : Int) : DiskM := if D.down then D else { D with now := D.kept k, safe := D.kept k, waits := [], down := true, fuse := 0 }
def on (D : DiskM) : DiskM := { D with down := false }
def arm (D : DiskM) (n k : Int) : DiskM := { D with fuse := max n 0, keep := k }
/-- What the power does in an act: it goes? what is kept then? -/
def goes (D : DiskM) : Bool := !D.down && decide (D.fuse = 1)
def keeps (D : DiskM) : Int := if D.goes then D.keep else 0
def act (D : DiskM) : DiskM := if D.down then D else { D with acts := wrap64 (D.acts + 1), fuse := if D.fuse = 0 then 0 else D.fuse - 1 }
def ready (D : DiskM) (i : Int) : Int := if D.down then 8 else if i < 0 ∨ (D.now.length : Int) ≤ i then 1 else 0
def put (D : DiskM) (i : Nat) (s : Sec) : DiskM := { D with now := D.now.set i s, waits := D.waits ++ [(i, s)] }
def writeE (D : DiskM) (i : Int) (n : Nat) : Int := if D.ready i ≠ 0 then D.ready i else if 256 < n then 3 else if D.goes then 8 else 0
def write (D : DiskM) (i : Int) (b : List UInt8) : DiskM :=
  if D.ready i ≠ 0 then D else if 256 < b.length then D else
  if D.goes then (D.act.put i.toNat (pad b)).off D.keep else D.act.put i.toNat (pad b)
def syncE (D : DiskM) : Int := if D.down then 8 else if D.goes then 8 else 0
def sync (D : DiskM) : DiskM := if D.down then D else if D.goes then D.act.off D.keep else { D.act with safe := D.act.now, waits := [] }
def forgeE (D : DiskM) (i : Int) (n : Nat) : Int := if i < 0 ∨ (D.now.length : Int) ≤ i then 1 else if 256 < n then 3 else 0
def forge (D : DiskM) (i : Int) (b : List UInt8) : DiskM :=
  if D.forgeE i b.length ≠ 0 then D else
  { D with now := D.now.set i.toNat (pad b), safe := D.safe.set i.toNat (pad b), waits := D.waits.filter fun x => x.1 != i.toNat }
def image (D : DiskM) : List UInt8 := D.now.flatten
end DiskM

/-! ### How it lies in memory -/
def diskCells (n s : Nat) (wv : Value) (D : DiskM) : Array Value :=
  #[.slice (some ⟨n, 0, none⟩) D.now.length D.now.length, .slice (some ⟨s, 0, none⟩) D.now.length D.now.length, wv, .bool D.down, .int .i64 D.acts, .int .i64 D.fuse, .int .u64 D.keep]
/-- The disk whose struct is block p; n, s: its sectors' blocks; wv: its waiting writes. -/
def DiskParts (p n s : Nat) (wv : Value) (D : DiskM) : List HP :=
  [Pt p (.cells (diskCells n s wv D) 107 (0, 0)), Pt n (.cells (secs D.now).toArray 109 (0, 0)), Pt s (.cells (secs D.safe).toArray 109 (0, 0)),
    OwnP 111 257 wv D.waits.length (wcells D.waits)]
def DiskAt (p : Nat) (D : DiskM) : HP := Pure D.WF (Ex fun n => Ex fun s => Ex fun wv => Join (DiskParts p n s wv D))

theorem St.openDisk {c : Con} {F : List HP} {w : World} {p : Nat} {D : DiskM} (H : St c (DiskAt p D :: F) w) :
    D.WF ∧ ∃ n s wv, St c (DiskParts p n s wv D ++ F) w := by
  obtain ⟨h0, H⟩ := St.pure H
  obtain ⟨n, H⟩ := St.ex H
  obtain ⟨s, H⟩ := St.ex H
  obtain ⟨wv, H⟩ := St.ex H
  exact ⟨h0, n, s, wv, St.join.1 H⟩
theorem St.shutDisk {c : Con} {F : List HP} {w : World} {p n s : Nat} {wv : Value} {D : DiskM} (h : D.WF) (H : St c (DiskParts p n s wv D ++ F) w) : St c (DiskAt p D :: F) w :=
  St.toPure h (St.toEx n (St.toEx s (St.toEx wv (St.join.2 H))))

theorem St.openDisk4 {c : Con} {F : List HP} {w : World} {p : Nat} {D : DiskM} (H : St c (DiskAt p D :: F) w) :
    D.WF ∧ ∃ n s wv, St c (Pt p (.cells (diskCells n s wv D) 107 (0, 0)) :: Pt n (.cells (secs D.now).toArray 109 (0, 0)) :: Pt s (.cells (secs D.safe).toArray 109 (0, 0)) ::
      OwnP 111 257 wv D.waits.length (wcells D.waits) :: F) w := H.openDisk

theorem St.openOwn {c : Con} {F : List HP} {w : World} {e : TypeId} {size n : Nat} {v : Value} {xs : List Value} (H : St c (OwnP e size v n xs :: F) w) :
    (v = .slice none 0 0 ∧ n = 0 ∧ xs = [] ∧ St c F w) ∨ ∃ g cap cur, v = .slice (some ⟨g, 0, none⟩) n cap ∧ n ≤ cap ∧ cap ≤ 9223372036854775807 ∧ cur.length = cap * size ∧ cur.take (n * size) = xs ∧ xs.length = n * size ∧ St c (Pt g (.cells (cur : List Value).toArray e (0, 0)) :: F) w := by
  obtain ⟨h, ⟨hx, ho⟩, l, r⟩ := H.stars
  rcases ho with ⟨h1, h2⟩ | ⟨g, cap, cur, h1, h2, h3, h4, h5, h6⟩
  · subst h2
    exact .inl ⟨h1, rfl, List.eq_nil_of_length_eq_zero (by simpa using hx), H.tail⟩
  · refine .inr ⟨g, cap, cur.toList, h1, h3, by simpa [maxLen] using h4, by simpa using h5, h6, hx, H.con, h, ?_, l, r⟩
    simpa [Pt] using h2
theorem own_shut {e : TypeId} {size n g cap : Nat} {cur xs : List Value} (h3 : n ≤ cap) (h4 : cap ≤ 9223372036854775807) (h5 : cur.length = cap * size) (h6 : cur.take (n * size) = xs) : ∀ h, Pt g (.cells cur.toArray e (0, 0)) h → OwnP e size (.slice (some ⟨g, 0, none⟩) n cap) n xs h := fun h hb => by
  have hle : n * size ≤ cur.length := by rw [h5]; exact Nat.mul_le_mul_right _ h3
  refine ⟨by rw [← h6, List.length_take]; omega, .inr ⟨g, cap, cur.toArray, rfl, hb, h3, by simpa [maxLen] using h4, by simpa using h5, by simpa using h6⟩⟩

/-! ### Plain laws -/
theorem drop_past {α : Type} (a b : List α) (n : Nat) : (a ++ b).drop (a.length + n) = b.drop n := by
  rw [← List.drop_drop, List.drop_left]
theorem take_past {α : Type} (a b : List α) (n : Nat) : (a ++ b).take (a.length + n) = a ++ b.take n := by
  rw [List.take_append, List.take_of_length_le (by omega), show a.length + n - a.length = n by omega]
theorem pad_length (b : List UInt8) (h : b.length ≤ 256) : (pad b).length = 256 := by rw [pad, List.length_append, zeros_length]; omega
theorem keptFrom_length (k : Int) : ∀ (l : List (Nat × Sec)) (i : Nat) (s : List Sec), (keptFrom k i l s).length = s.length
  | [], _, _ => rfl
  | x :: r, i, s => by rw [keptFrom, keptFrom_length k r]; split <;> simp
theorem keptFrom_all (k : Int) : ∀ (l : List (Nat × Sec)) (i : Nat) (s : List Sec), (∀ x ∈ l, x.2.length = 256) → (∀ x ∈ s, x.length = 256) → ∀ x ∈ keptFrom k i l s, x.length = 256
  | [], _, _, _, h => h
  | x :: r, i, s, hl, hs => by
    rw [keptFrom]
    refine keptFrom_all k r (i + 1) _ (fun y hy => hl y (List.mem_cons_of_mem _ hy)) fun y hy => ?_
    split at hy
    · rcases List.mem_or_eq_of_mem_set hy with h | h
      · exact hs y h
      · rw [h]; exact hl x List.mem_cons_self
    · exact hs y hy
theorem DiskM.WF.new (n : Nat) (h : n ≤ 4096) : (DiskM.new n).WF where
  most := by show (List.replicate n zeroSec).length ≤ 4096; rw [List.length_replicate]; exact h
  same := rfl
  now := by intro s hs; rw [(List.mem_replicate.1 hs).2]; exact zeroSec_length
  safe := by intro s hs; rw [(List.mem_replicate.1 hs).2]; exact zeroSec_length
  waits := by intro x hx; cases hx
  fuse0 := Int.le_refl _
  fuse1 := by show (0 : Int) ≤ _; omega
  keep0 := Int.le_refl _
  keep1 := by show (0 : Int) < _; omega
theorem DiskM.WF.off {D : DiskM} (h : D.WF) (k : Int) : (D.off k).WF := by
  unfold DiskM.off
  split
  · exact h
  · have hk : ∀ x ∈ D.kept k, x.length = 256 := keptFrom_all k _ _ _ (fun x hx => (h.waits x hx).2) h.safe
    have hl : (D.kept k).length = D.now.length := by rw [DiskM.kept, keptFrom_length, h.same]
    exact ⟨by rw [hl]; exact h.most, rfl, hk, hk, by intro x hx; simp at hx, by simp, by simp, h.keep0, h.keep1⟩
theorem DiskM.WF.act {D : DiskM} (h : D.WF) : D.act.WF := by
  unfold DiskM.act
  split
  · exact h
  · have := h.fuse0; have := h.fuse1
    refine ⟨h.most, h.same, h.now, h.safe, h.waits, ?_, ?_, h.keep0, h.keep1⟩ <;> (show _ ≤ _; dsimp only; split <;> omega)
theorem DiskM.WF.put {D : DiskM} (h : D.WF) (i : Nat) (s : Sec) (hi : i < D.now.length) (hs : s.length = 256) : (D.put i s).WF := by
  refine ⟨by simpa [DiskM.put] using h.most, by simpa [DiskM.put] using h.same, ?_, h.safe, ?_, h.fuse0, h.fuse1, h.keep0, h.keep1⟩
  · intro x hx
    rcases List.mem_or_eq_of_mem_set hx with h' | h'
    · exact h.now x h'
    · rw [h']; exact hs
  · intro x hx
    simp only [DiskM.put, List.mem_append, List.mem_singleton, List.length_set] at hx ⊢
    rcases hx with hx | rfl
    · exact h.waits x hx
    · exact ⟨hi, hs⟩
theorem DiskM.WF.on {D : DiskM} (h : D.WF) : D.on.WF := ⟨h.most, h.same, h.now, h.safe, h.waits, h.fuse0, h.fuse1, h.keep0, h.keep1⟩
theorem DiskM.WF.arm {D : DiskM} (h : D.WF) {n k : Int} (h1 : n ≤ 9223372036854775807) (h2 : 0 ≤ k) (h3 : k < 18446744073709551616) : (D.arm n k).WF := by
  refine ⟨h.most, h.same, h.now, h.safe, h.waits, ?_, ?_, h2, h3⟩ <;> simp only [DiskM.arm] <;> omega
theorem secs_length {l : List Sec} (h : ∀ s ∈ l, s.length = 256) : (secs l).length = l.length * 256 := by
  induction l with
  | nil => rfl
  | cons a l ih =>
    have h1 := h a List.mem_cons_self
    have h2 := ih fun s hs => h s (List.mem_cons_of_mem _ hs)
    simp only [secs, bvs, List.length_map, List.flatten_cons, List.length_append, List.length_cons] at h2 ⊢
    rw [h2, h1]; omega
/-- A waiting write's cells. -/
def wcell (x : Nat × Sec) : List Value := .int .i64 (x.1 : Int) :: bvs x.2
theorem wcells_cons (x : Nat × Sec) (l : List (Nat × Sec)) : wcells (x :: l) = wcell x ++ wcells l := rfl
theorem wcells_append (l m : List (Nat × Sec)) : wcells (l ++ m) = wcells l ++ wcells m := by simp [wcells]
theorem wcell_length {x : Nat × Sec} (h : x.2.length = 256) : (wcell x).length = 257 := by simp [wcell, bvs, h]
theorem wcells_length : ∀ {l : List (Nat × Sec)}, (∀ x ∈ l, x.2.length = 256) → (wcells l).length = l.length * 257
  | [], _ => rfl
  | x :: l, h => by
    rw [wcells_cons, List.length_append, wcell_length (h x List.mem_cons_self), wcells_length fun y hy => h y (List.mem_cons_of_mem _ hy), List.length_cons]; omega
/-- The j-th element's cells out of a row of elements. -/
theorem wcells_at : ∀ {l : List (Nat × Sec)} (_ : ∀ x ∈ l, x.2.length = 256) (j : Nat) (hj : j < l.length), ((wcells l).drop (j * 257)).take 257 = wcell l[j]
  | x :: l, h, 0, _ => by
    rw [Nat.zero_mul, List.drop_zero, wcells_cons]
    exact List.take_left' (wcell_length (h x List.mem_cons_self))
  | x :: l, h, j + 1, hj => by
    rw [wcells_cons, show (j + 1) * 257 = (wcell x).length + j * 257 by rw [wcell_length (h x List.mem_cons_self)]; omega, drop_past]
    exact wcells_at (fun y hy => h y (List.mem_cons_of_mem _ hy)) j (by simpa using hj)
theorem keptFrom_snoc (k : Int) : ∀ (l : List (Nat × Sec)) (i : Nat) (x : Nat × Sec) (s : List Sec), keptFrom k i (l ++ [x]) s = if bitAt k (i + l.length) then (keptFrom k i l s).set x.1 x.2 else keptFrom k i l s
  | [], i, x, s => by simp [keptFrom]
  | y :: l, i, x, s => by
    rw [List.cons_append, keptFrom, keptFrom_snoc k l, keptFrom, List.length_cons]
    rw [show i + 1 + l.length = i + (l.length + 1) by omega]
/-- A sector out of the sectors' row. -/
theorem secs_at : ∀ {l : List Sec} (_ : ∀ s ∈ l, s.length = 256) (j : Nat) (hj : j < l.length), ((secs l).drop (j * 256)).take 256 = bvs l[j]
  | x :: l, h, 0, _ => by
    rw [Nat.zero_mul, List.drop_zero]
    simp only [secs, bvs, List.flatten_cons, List.map_append, List.getElem_cons_zero]
    exact List.take_left' (by rw [List.length_map]; exact h x List.mem_cons_self)
  | x :: l, h, j + 1, hj => by
    have hx := h x List.mem_cons_self
    have e : secs (x :: l) = bvs x ++ secs l := by simp [secs, bvs]
    rw [e, show (j + 1) * 256 = (bvs x).length + j * 256 by rw [bvs, List.length_map, hx]; omega, drop_past]
    exact secs_at (fun y hy => h y (List.mem_cons_of_mem _ hy)) j (by simpa using hj)
/-- A sector laid over the sectors' row. -/
theorem secs_set : ∀ {l : List Sec} (_ : ∀ s ∈ l, s.length = 256) (j : Nat) (_ : j < l.length) {s : Sec} (_ : s.length = 256), secs (l.set j s) = splice (secs l) (j * 256) (bvs s)
  | x :: l, h, 0, _, s, hs => by
    have e : ∀ y, secs (y :: l) = bvs y ++ secs l := by intro y; simp [secs, bvs]
    have hx : (bvs x).length = 256 := by rw [bvs, List.length_map]; exact h x List.mem_cons_self
    have hs' : (bvs s).length = 256 := by rw [bvs, List.length_map]; exact hs
    rw [List.set_cons_zero, e, e, splice, Nat.zero_mul, List.take_zero, List.nil_append, Nat.zero_add, hs', ← hx, List.drop_left]
  | x :: l, h, j + 1, hj, s, hs => by
    have e : ∀ (y : Sec) (l : List Sec), secs (y :: l) = bvs y ++ secs l := by intro y l; simp [secs, bvs]
    have hx : (bvs x).length = 256 := by rw [bvs, List.length_map]; exact h x List.mem_cons_self
    rw [List.set_cons_succ, e, e, secs_set (fun y hy => h y (List.mem_cons_of_mem _ hy)) j (by simpa using hj) hs]
    simp only [splice]
    rw [show (j + 1) * 256 = (bvs x).length + j * 256 by omega, take_past, Nat.add_assoc, drop_past]
    simp only [List.append_assoc]
theorem DiskM.ready_zero {D : DiskM} {i : Int} (h : D.ready i = 0) : D.down = false ∧ 0 ≤ i ∧ i < D.now.length := by
  unfold DiskM.ready at h
  split at h
  · omega
  · rename_i hd
    split at h
    · omega
    · refine ⟨by simpa using hd, by omega, by omega⟩
theorem bit_test (k : Int) (j : Nat) (h0 : 0 ≤ k) (h1 : k < 18446744073709551616) : (bits BinOp.and IntKind.u64 (k / 2 ^ (j % 64)) 1 == 1) = bitAt k j := by
  have hp : (0 : Int) < 2 ^ (j % 64) := Int.pow_pos (by omega)
  have h2 : 0 ≤ k / 2 ^ (j % 64) := Int.ediv_nonneg h0 (by omega)
  have h3 : k / 2 ^ (j % 64) ≤ k := Int.ediv_le_self _ h0
  rw [and_one_u64 _ h2 (by omega)]
  rfl
end Go.Proofs.Ytakeilefbcpabaa
