/- Bytes of a block. -/
import Derived.Test.YtakeilefbcpabaaRf
namespace Go.Proofs.Ytakeilefbcpabaa
open Go.RowKit
attribute [local irreducible] Y OW YK OWK W WL WP X CV Ev Evs HasCell HasCells Has Met Again Kept

theorem bvs_set (l : List UInt8) (j : Nat) (b : UInt8) : (bvs l).set j (bv b) = bvs (l.set j b) := by simp [bvs, List.map_set]
theorem bvs_get {l : List UInt8} {j : Nat} (hj : j < l.length) : (bvs l)[j]? = some (.int .u8 (l[j].toNat : Int)) := by simp [bvs, bv, hj]
/-- A byte out of a block that begins with bytes. -/
theorem hasByte {H : World → Prop} {g T o : Nat} {fr : Nat × Nat} {l : List UInt8} {rest : List Value} {j : Nat} (h : Has H g (.cells (bvs l ++ rest).toArray T fr)) (hj : j < l.length) (ho : o = j) : HasCell H ⟨g, o, none⟩ (.int .u8 (l[j].toNat : Int)) := by
  subst ho
  refine hasCell_bl h ?_
  rw [List.toList_toArray, List.getElem?_append_left (by rw [bvs_length]; exact hj)]
  exact bvs_get hj
theorem keeps_set {l : List UInt8} {rest : List Value} {j o : Nat} (hj : j < l.length) (ho : o = j) (x : Int) : (bvs l ++ rest).set o (.int .u8 (IntKind.u8.wrap x)) = bvs (l.set j (byteOf x)) ++ rest := by
  subst ho
  rw [← bv_byteOf, List.set_append_left _ _ (by rw [bvs_length]; exact hj), bvs_set]
/-- A store into such a block. -/
theorem ow_storeByte {P : Program} {N : Nat} {c : Con} {E : Env} {L L' : List HP} {d : Option Nat} {ty : TypeId} {pos : String} {aft : Array Edge} {g : Option (Nat × Bool)} {x y : Operand} {t T b o j : Nat} {z : Value} {l : List UInt8} {rest : List Value} {n : Int} [ht : TOne P t z]
    (hx : Ev E x (.pointer (some ⟨b, o, none⟩))) (hy : Ev E y (.int .u8 (IntKind.u8.wrap n))) (hj : j < l.length) (ho : o = j) (hu : Upd L b T (bvs l ++ rest) (bvs (l.set j (byteOf n)) ++ rest) L') :
    OW P N c E L (Oper.mk d (.store t x y) ty pos aft g) (fun _ : Unit => undef) fun _ => L' :=
  ow_store hx hy rfl (by rw [keeps_set hj ho]; exact hu) (by rw [List.length_append, bvs_length]; omega)

end Go.Proofs.Ytakeilefbcpabaa
