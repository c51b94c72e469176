/- A new disk; all sectors at once. -/
import Derived.Test.YtakeilefbcpabaaDr
namespace Go.Proofs.Ytakeilefbcpabaa
open Go.RowKit

def clip (n : Int) : Nat := (min (max n 0) 4096).toNat
theorem sector_zero : (Try.prog.info? 109).map (fun i => (i.zero, i.size, i.bytes)) = some (some (.agg (bvs zeroSec).toArray), 256, 256) := by kernel_rfl
theorem made_all (z : Array Value) (x : Value) (hz : 0 < z.size) (h : ∀ v ∈ z, v = x) (n : Nat) : madeCells z n = Array.replicate n x := by
  apply Array.ext_getElem?
  intro j
  unfold madeCells
  rw [Array.getElem?_map, Array.getElem?_range, Array.getElem?_replicate]
  split
  · rw [Option.map_some]
    congr 1
    have hm : j % z.size < z.size := Nat.mod_lt _ hz
    rw [getElem!_pos z _ hm]
    exact h _ (Array.getElem_mem hm)
  · rfl
theorem made_secs (k : Nat) : madeCells (bvs zeroSec).toArray (k * 256) = (secs (List.replicate k zeroSec)).toArray := by
  have h256 : (bvs zeroSec).toArray.size = 256 := by rw [List.size_toArray, bvs, List.length_map, zeroSec_length]
  have hlen : (secs (List.replicate k zeroSec)).length = k * 256 := by
    rw [secs_length (fun s hs => by rw [(List.mem_replicate.1 hs).2]; exact zeroSec_length), List.length_replicate]
  rw [made_all _ (.int .u8 0) (by rw [h256]; omega)]
  · apply Array.ext'
    rw [Array.toList_replicate, List.toList_toArray]
    refine (List.eq_replicate_iff.2 ⟨hlen, fun v hv => ?_⟩).symm
    obtain ⟨b, hb, rfl⟩ := List.mem_map.1 hv
    obtain ⟨s, hs, hbs⟩ := List.mem_flatten.1 hb
    rw [(List.mem_replicate.1 hs).2] at hbs
    rw [(List.mem_replicate.1 hbs).2]; rfl
  · intro v hv
    obtain ⟨b, hb, rfl⟩ := List.mem_map.1 (List.mem_toArray.1 hv)
    rw [(List.mem_replicate.1 hb).2]; rfl

section
variable {c : Con} {F : List HP} {w : World} {p : Nat} {D : DiskM}

set_option maxRecDepth 100000 in
set_option maxHeartbeats 1000000 in
theorem disk_new (H : St c F w) (n : Int) (h1 : -9223372036854775808 ≤ n) (h2 : n ≤ 9223372036854775807) :
    Calls Try.prog 21 #[.int .i64 n] w fun e w' => ∃ p, e = .returned (.pointer (some ⟨p, 0, none⟩)) ∧ St c (DiskAt p (DiskM.new (clip n)) :: F) w' := by
  have hmk : ∀ (W : World) (q : Nat), q ≤ 4096 → (Instr.makeSlice 104 (.int .i64 q) (.int .i64 q)).run Try.prog W = .ok (.slice (some ⟨W.heap.size, 0, none⟩) q q) (W.alloc (.cells (secs (List.replicate q zeroSec)).toArray 109)) := by
    intro W q hq
    cases hi : Try.prog.info? 109 with
    | none => have := sector_zero; rw [hi] at this; cases this
    | some i =>
      have e := sector_zero
      rw [hi] at e
      simp only [Option.map_some, Option.some.injEq, Prod.mk.injEq] at e
      have := run_make (P := Try.prog) W 104 109 i _ Try.underlying104 hi e.1 .i64 .i64 q q (by omega) (by omega) (by rw [e.2.2]; omega) (by omega)
      rw [this]
      simp only [Int.toNat_natCast, e.2.1, Value.cells, made_secs]
  obtain ⟨k, hk, hk'⟩ : ∃ k : Nat, k ≤ 4096 ∧ k = clip n := ⟨clip n, by unfold clip; omega, rfl⟩
  rw [← hk']
  have Hk' := Lib.hid hk'
  have Hmk := Lib.hid hmk
  clear hmk hk'
  go_enter Try.func21, Try.ntmps21
  go_upto_region 2 with (fail)
  have e : (if 4096 < (if n < 0 then 0 else n) then 4096 else if n < 0 then 0 else n) = (k : Int) := by
    have := Hk'.out; unfold clip at this; split <;> split <;> omega
  rw [e]
  clear e
  have hmk := fun W => Hmk.out W k hk
  go_region
  · have HF : St c (DiskAt (w.heap.size + 1 + 1) (DiskM.new k) :: F) (((w.alloc (.cells (secs (List.replicate k zeroSec)).toArray 109)).alloc (.cells (secs (List.replicate k zeroSec)).toArray 109)).alloc
        (.cells #[.slice (some ⟨w.heap.size, 0, none⟩) k k, .slice (some ⟨w.heap.size + 1, 0, none⟩) k k, .slice none 0 0, .bool false, .int .i64 0, .int .i64 0, .int .u64 0] 107)).drew := by
      refine St.shutDisk (n := w.heap.size) (s := w.heap.size + 1) (wv := .slice none 0 0) (DiskM.WF.new k hk) ?_
      have h := ((((H.allocPt (.cells (secs (List.replicate k zeroSec)).toArray 109)).allocPt (.cells (secs (List.replicate k zeroSec)).toArray 109)).swap.allocPt
        (.cells #[.slice (some ⟨w.heap.size, 0, none⟩) k k, .slice (some ⟨w.heap.size + 1, 0, none⟩) k k, .slice none 0 0, .bool false, .int .i64 0, .int .i64 0, .int .u64 0] 107)).addNil 111 257).push3.drew
      simp only [World.size_alloc] at h
      simp only [DiskParts, diskCells, DiskM.new, List.length_replicate]
      exact h
    go_wp2
    all_goals go_returns
    all_goals exact ⟨_, rfl, HF⟩
  · have HF : St c (DiskAt (w.heap.size + 1 + 1) (DiskM.new k) :: F) (((w.alloc (.cells (secs (List.replicate k zeroSec)).toArray 109)).alloc (.cells (secs (List.replicate k zeroSec)).toArray 109)).alloc
        (.cells #[.slice (some ⟨w.heap.size + 1, 0, none⟩) k k, .slice (some ⟨w.heap.size, 0, none⟩) k k, .slice none 0 0, .bool false, .int .i64 0, .int .i64 0, .int .u64 0] 107)).drew := by
      refine St.shutDisk (n := w.heap.size + 1) (s := w.heap.size) (wv := .slice none 0 0) (DiskM.WF.new k hk) ?_
      have h := ((((H.allocPt (.cells (secs (List.replicate k zeroSec)).toArray 109)).allocPt (.cells (secs (List.replicate k zeroSec)).toArray 109)).allocPt
        (.cells #[.slice (some ⟨w.heap.size + 1, 0, none⟩) k k, .slice (some ⟨w.heap.size, 0, none⟩) k k, .slice none 0 0, .bool false, .int .i64 0, .int .i64 0, .int .u64 0] 107)).addNil 111 257).push3.drew
      simp only [World.size_alloc] at h
      simp only [DiskParts, diskCells, DiskM.new, List.length_replicate]
      exact h
    go_wp2
    all_goals go_returns
    all_goals exact ⟨_, rfl, HF⟩
end
end Go.Proofs.Ytakeilefbcpabaa
