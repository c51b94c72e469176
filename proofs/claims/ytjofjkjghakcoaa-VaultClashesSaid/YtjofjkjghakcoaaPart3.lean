/- Part 3 of what the statement rests on: each piece below begins with its own remark. -/
import Derived.Test.YtjofjkjghakcoaaPart2
import Derived.RangeFuncLeaves
import Derived.RangeFuncSeq
import Derived.RangeFuncRecord
import Derived.OrdersIn
import Derived.TacticsIn
/- The ideal world (package ideal): Seal, Open, Mac, Hash, Derive. -/
namespace Go.Proofs.Ytjofjkjghakcoaa
open Go.RowKit
section
variable {P : Program} {H : World → Prop} {E : Env} {d : Option Nat} {ty : TypeId} {pos : String} {aft : Array Edge} {g : Option (Nat × Bool)}
theorem y_sliceArrPtr {x : Operand} {t len e s : Nat} {A : Option Addr} {n cap : Nat} [ht : TArr P t len e s] (hx : Ev E x (.slice A n cap)) (h : len ≤ n) : Y P H E (Oper.mk d (.sliceToArrayPointer t x) ty pos aft g) (.pointer A) := fun N a w hf _ => by
  have h0 : ¬ n < len := by omega
  unfold execOp; simp [hx N a hf, Instr.arrayAt, run_underlying ht.u, h0]
end
theorem ps_own1 {c : Con} {b T e k cap : Nat} {A : Option Addr} {x : Bs} {L : List HP} (hk : x.length = k) : Ps (St c (Bl b T (List.flatMap vcells [Value.slice A k cap]) :: OwnP e 1 (.slice A k cap) k (bvs x) :: L)) (.slice (some ⟨b, 0, none⟩) 1 1) [x] := Ps.one has_hd (hasR_tl hasR_own) hk (by decide)
theorem ps_keyOwn {c : Con} {b T e k cap n1 k1 : Nat} {A A1 : Option Addr} {x p1 : Bs} {L : List HP} (h1 : HasR (St c L) (.slice A1 n1 k1) n1 (bvs p1)) (hn : p1.length = n1) (hk : x.length = k) : Ps (St c (Bl b T (List.flatMap vcells [Value.slice A1 n1 k1, .slice A k cap]) :: OwnP e 1 (.slice A k cap) k (bvs x) :: L)) (.slice (some ⟨b, 0, none⟩) 2 2) [p1, x] := Ps.two has_hd (hasR_tl (hasR_tl h1)) (hasR_tl hasR_own) hn hk (by decide)
def IdealM.mac (I : IdealM) (key x : Bs) : Bs := I.make 77 32 [key, x]
def IdealM.maced (I : IdealM) (key x : Bs) : IdealM := I.made' 77 [key, x]
def IdealM.hash (I : IdealM) (x : Bs) : Bs := I.make 72 32 [x]
def IdealM.hashed (I : IdealM) (x : Bs) : IdealM := I.made' 72 [x]
def IdealM.derive (I : IdealM) (key x : Bs) : Bs := I.make 68 32 [key, x]
def IdealM.derived (I : IdealM) (key x : Bs) : IdealM := I.made' 68 [key, x]
theorem name1 (kd : UInt8) (a : Bs) : (nameOf kd [a]).length = a.length + 9 := by simp [nameOf, part8_length]
theorem name2 (kd : UInt8) (a b : Bs) : (nameOf kd [a, b]).length = a.length + b.length + 17 := by simp [nameOf, part8_length]; omega
theorem name4 (kd : UInt8) (a b d e : Bs) : (nameOf kd [a, b, d, e]).length = a.length + b.length + d.length + e.length + 33 := by simp [nameOf, part8_length]; omega
attribute [local irreducible] Y OW YK OWK W WL WP X CV GvL GvP Ev Evs HasCell HasCells Has Met Again Kept
section
variable {c : Con} {F : List HP} {w : World} {q : Nat} {I : IdealM}
set_option maxRecDepth 100000 in
theorem i_hash {ps : List Bs} {x : Bs} {A : Option Addr} {m cap : Nat} {B : Bs} {I' : IdealM} (hp : Ps (St c F) (.slice A m cap) ps) (hx : ps.flatMap id = x) (hs : x.length ≤ 1099511627000) (hB : I.hash x = B) (hI : I.hashed x = I')
    (H : St c (IdealAt q I :: F) w) : Calls Try.prog 69 #[.pointer (some ⟨q, 0, none⟩), .slice A m cap] w fun e w' => e = .returned (.agg (bvs B).toArray) ∧ St c (IdealAt q I' :: F) w' := by
  have hBl : (bvs B).length = 32 := by rw [bvs_length, ← hB]; exact markB_length (by decide)
  have hB1 := bvs_oneCell B
  have hz : (List.replicate 32 (Value.int .u8 0)).length = 32 := rfl
  obtain ⟨k, hk⟩ : ∃ k, x.length = k := ⟨_, rfl⟩
  have hB' : I.make 72 32 [x] = B := hB
  have hI' : I.made' 72 [x] = I' := hI
  have hkd : (72 : Int) = ((72 : UInt8).toNat : Int) := rfl
  have h32 : (32 : Int) = ((32 : Nat) : Int) := rfl
  have h9 : 9 ≤ 32 ∧ 32 ≤ 1099511627776 := by decide
  have hns : (nameOf 72 [x]).length ≤ 1099511627776 := by rw [name1]; omega
  refine calls_w (vs := [.pointer (some ⟨q, 0, none⟩), .slice A m cap]) Try.func69 rfl rfl rfl ?_ w H
  (repeat' (first
      | ((with_reducible refine at_fn 75 ?_); with_reducible refine owk_c0x evs_auto (by kernel_rfl) (fun w H => i_joined (hp.tl (A := IdealAt q I)).tl hx hk (by omega) H) (fun s => ?_))
      | ((with_reducible refine at_fn 74 ?_); with_reducible refine owk_c1x evs_auto (by kernel_rfl) pick_auto (fun w H => i_make (kd := 72) (n := 32) hkd h32 h9 (ps_own1 hk) hns hB' hI' H) (fun r => ?_))
      | ((with_reducible refine at_storeO ?_); with_reducible refine owk0 (ow_storeAll (ev_tmp rfl) (ev_tmp rfl) hB1 hBl upd_auto hz) ?_)
      | (with_reducible refine is_yk ?_; first | refine yk (y_sliceArrPtr (ev_tmp rfl) (by decide)) ?_)
      | (with_reducible refine is_yk ?_; refine yk_auto (k := ?_))
      | (with_reducible refine is_owk0 ?_; refine owk0_auto (k := ?_))
      | (with_reducible refine is_owkc ?_; refine owk_auto (k := fun _ => ?_))
      | refine go1 (k := ?_)
      | (refine go2 (ka := ?_) (kb := ?_) <;> intro _)
      | fail))
  exact x_retC rfl rfl has_auto hBl (fun w H => ⟨rfl, Sel.st sel_auto H⟩)
set_option maxRecDepth 100000 in
theorem i_mac {ps : List Bs} {x key : Bs} {A A1 : Option Addr} {m cap n1 k1 : Nat} {B : Bs} {I' : IdealM} (hkey : HasR (St c F) (.slice A1 n1 k1) n1 (bvs key)) (hp : Ps (St c F) (.slice A m cap) ps) (hx : ps.flatMap id = x) (hs : key.length + x.length ≤ 1099511627000) (hB : I.mac key x = B) (hI : I.maced key x = I')
    (H : St c (IdealAt q I :: F) w) : Calls Try.prog 70 #[.pointer (some ⟨q, 0, none⟩), .slice A1 n1 k1, .slice A m cap] w fun e w' => e = .returned (.agg (bvs B).toArray) ∧ St c (IdealAt q I' :: F) w' := by
  have hBl : (bvs B).length = 32 := by rw [bvs_length, ← hB]; exact markB_length (by decide)
  have hB1 := bvs_oneCell B
  have hz : (List.replicate 32 (Value.int .u8 0)).length = 32 := rfl
  have hkn : key.length = n1 := by obtain ⟨h1, -⟩ := hkey w H.tail; rw [bvs_length] at h1; omega
  obtain ⟨k, hk⟩ : ∃ k, x.length = k := ⟨_, rfl⟩
  have hB' : I.make 77 32 [key, x] = B := hB
  have hI' : I.made' 77 [key, x] = I' := hI
  have hkd : (77 : Int) = ((77 : UInt8).toNat : Int) := rfl
  have h32 : (32 : Int) = ((32 : Nat) : Int) := rfl
  have h9 : 9 ≤ 32 ∧ 32 ≤ 1099511627776 := by decide
  have hns : (nameOf 77 [key, x]).length ≤ 1099511627776 := by rw [name2]; omega
  refine calls_w (vs := [.pointer (some ⟨q, 0, none⟩), .slice A1 n1 k1, .slice A m cap]) Try.func70 rfl rfl rfl ?_ w H
  (repeat' (first
      | ((with_reducible refine at_fn 75 ?_); with_reducible refine owk_c0x evs_auto (by kernel_rfl) (fun w H => i_joined (hp.tl (A := IdealAt q I)).tl hx hk (by omega) H) (fun s => ?_))
      | ((with_reducible refine at_fn 74 ?_); with_reducible refine owk_c1x evs_auto (by kernel_rfl) pick_auto (fun w H => i_make (kd := 77) (n := 32) hkd h32 h9 (ps_keyOwn (hasR_tl hkey) hkn hk) hns hB' hI' H) (fun r => ?_))
      | ((with_reducible refine at_storeO ?_); with_reducible refine owk0 (ow_storeAll (ev_tmp rfl) (ev_tmp rfl) hB1 hBl upd_auto hz) ?_)
      | (with_reducible refine is_yk ?_; first | refine yk (y_sliceArrPtr (ev_tmp rfl) (by decide)) ?_)
      | (with_reducible refine is_yk ?_; refine yk_auto (k := ?_))
      | (with_reducible refine is_owk0 ?_; refine owk0_auto (k := ?_))
      | (with_reducible refine is_owkc ?_; refine owk_auto (k := fun _ => ?_))
      | refine go1 (k := ?_)
      | (refine go2 (ka := ?_) (kb := ?_) <;> intro _)
      | fail))
  exact x_retC rfl rfl has_auto hBl (fun w H => ⟨rfl, Sel.st sel_auto H⟩)
set_option maxRecDepth 100000 in
theorem i_derive {ps : List Bs} {x key : Bs} {A A1 : Option Addr} {m cap n1 k1 : Nat} {B : Bs} {I' : IdealM} (hkey : HasR (St c F) (.slice A1 n1 k1) n1 (bvs key)) (hp : Ps (St c F) (.slice A m cap) ps) (hx : ps.flatMap id = x) (hs : key.length + x.length ≤ 1099511627000) (hB : I.derive key x = B) (hI : I.derived key x = I')
    (H : St c (IdealAt q I :: F) w) : Calls Try.prog 68 #[.pointer (some ⟨q, 0, none⟩), .slice A1 n1 k1, .slice A m cap] w fun e w' => e = .returned (.agg (bvs B).toArray) ∧ St c (IdealAt q I' :: F) w' := by
  have hBl : (bvs B).length = 32 := by rw [bvs_length, ← hB]; exact markB_length (by decide)
  have hB1 := bvs_oneCell B
  have hz : (List.replicate 32 (Value.int .u8 0)).length = 32 := rfl
  have hkn : key.length = n1 := by obtain ⟨h1, -⟩ := hkey w H.tail; rw [bvs_length] at h1; omega
  obtain ⟨k, hk⟩ : ∃ k, x.length = k := ⟨_, rfl⟩
  have hB' : I.make 68 32 [key, x] = B := hB
  have hI' : I.made' 68 [key, x] = I' := hI
  have hkd : (68 : Int) = ((68 : UInt8).toNat : Int) := rfl
  have h32 : (32 : Int) = ((32 : Nat) : Int) := rfl
  have h9 : 9 ≤ 32 ∧ 32 ≤ 1099511627776 := by decide
  have hns : (nameOf 68 [key, x]).length ≤ 1099511627776 := by rw [name2]; omega
  refine calls_w (vs := [.pointer (some ⟨q, 0, none⟩), .slice A1 n1 k1, .slice A m cap]) Try.func68 rfl rfl rfl ?_ w H
  (repeat' (first
      | ((with_reducible refine at_fn 75 ?_); with_reducible refine owk_c0x evs_auto (by kernel_rfl) (fun w H => i_joined (hp.tl (A := IdealAt q I)).tl hx hk (by omega) H) (fun s => ?_))
      | ((with_reducible refine at_fn 74 ?_); with_reducible refine owk_c1x evs_auto (by kernel_rfl) pick_auto (fun w H => i_make (kd := 68) (n := 32) hkd h32 h9 (ps_keyOwn (hasR_tl hkey) hkn hk) hns hB' hI' H) (fun r => ?_))
      | ((with_reducible refine at_storeO ?_); with_reducible refine owk0 (ow_storeAll (ev_tmp rfl) (ev_tmp rfl) hB1 hBl upd_auto hz) ?_)
      | (with_reducible refine is_yk ?_; first | refine yk (y_sliceArrPtr (ev_tmp rfl) (by decide)) ?_)
      | (with_reducible refine is_yk ?_; refine yk_auto (k := ?_))
      | (with_reducible refine is_owk0 ?_; refine owk0_auto (k := ?_))
      | (with_reducible refine is_owkc ?_; refine owk_auto (k := fun _ => ?_))
      | refine go1 (k := ?_)
      | (refine go2 (ka := ?_) (kb := ?_) <;> intro _)
      | fail))
  exact x_retC rfl rfl has_auto hBl (fun w H => ⟨rfl, Sel.st sel_auto H⟩)
end
end Go.Proofs.Ytjofjkjghakcoaa

/- The ideal world (package ideal): Seal, Open. -/
namespace Go.Proofs.Ytjofjkjghakcoaa
open Go.RowKit
theorem Ps.four' {H : World → Prop} {b T cap : Nat} {A1 A2 A3 A4 : Option Addr} {n1 k1 n2 k2 n3 k3 n4 k4 : Nat} {p1 p2 p3 p4 : Bs} (hc : Has H b (.cells (List.flatMap vcells [Value.slice A1 n1 k1, .slice A2 n2 k2, .slice A3 n3 k3, .slice A4 n4 k4]).toArray T (0, 0))) (h1 : HasR H (.slice A1 n1 k1) n1 (bvs p1)) (h2 : HasR H (.slice A2 n2 k2) n2 (bvs p2)) (h3 : HasR H (.slice A3 n3 k3) n3 (bvs p3)) (h4 : HasR H (.slice A4 n4 k4) n4 (bvs p4)) (hn1 : p1.length = n1) (hn2 : p2.length = n2) (hn3 : p3.length = n3) (hn4 : p4.length = n4) (hcap : 4 ≤ cap ∧ cap ≤ 9223372036854775807) : Ps H (.slice (some ⟨b, 0, none⟩) 4 cap) [p1, p2, p3, p4] := Ps.four hc h1 h2 h3 h4 hn1 hn2 hn3 hn4 hcap
theorem HasR.len {c : Con} {F : List HP} {w : World} {v : Value} {n : Nat} {l : Bs} (h : HasR (St c F) v n (bvs l)) (H : St c F w) : l.length = n := by
  obtain ⟨h1, -⟩ := h w H; rw [bvs_length] at h1; omega
theorem w_openI {c : Con} {q : Nat} {I : IdealM} {P : Program} {N : Nat} {Q : Exit → Act → World → Prop} {x : Code} {E : Env} {L F : List HP} (hp : Pick L (IdealAt q I) F) (h : ∀ a b, W P N c Q x E (Bl q 58 [.map (some a), .map (some b)] :: Mp str encI a I.made :: Mp str str b I.texts :: F)) : W P N c Q x E L := fun a w hf H => by
  obtain ⟨m, t, H'⟩ := (hp.st H).openI
  exact h m t a w hf H'
attribute [local irreducible] Y OW YK OWK W WL WP X CV GvL GvP Ev Evs HasCell HasCells Has Met Again Kept
section
variable {c : Con} {F : List HP} {w : World} {q : Nat} {I : IdealM}
set_option maxRecDepth 100000 in
theorem i_seal {ps : List Bs} {x key nonce text : Bs} {A A1 A2 A3 : Option Addr} {m cap n1 k1 n2 k2 n3 k3 k : Nat} {B : Bs} {I' : IdealM} (hkey : HasR (St c F) (.slice A1 n1 k1) n1 (bvs key)) (hnonce : HasR (St c F) (.slice A2 n2 k2) n2 (bvs nonce)) (htext : HasR (St c F) (.slice A3 n3 k3) n3 (bvs text)) (hp : Ps (St c F) (.slice A m cap) ps) (hx : ps.flatMap id = x)
    (hs : key.length + nonce.length ≤ 1099500000000) (hs1 : text.length ≤ 1048576) (hs2 : x.length ≤ 1048576) (hB : I.sealB key nonce text x = B) (hI : I.sealed key nonce text x = I') (hk : n3 + 16 = k)
    (H : St c (IdealAt q I :: F) w) : Calls Try.prog 72 #[.pointer (some ⟨q, 0, none⟩), .slice A1 n1 k1, .slice A2 n2 k2, .slice A3 n3 k3, .slice A m cap] w fun e w' =>
    ∃ r : Nat, e = .returned (.tuple #[.slice (some ⟨r, 0, none⟩) k k, .int .i64 0]) ∧ St c (Bl r 5 (bvs B) :: IdealAt q I' :: F) w' := by
  subst hk
  have e1 := hkey.len H.tail
  have e2 := hnonce.len H.tail
  have e3 := htext.len H.tail
  have hBl : B.length = n3 + 16 := by rw [← hB, seal_length, e3]
  have hBv : (bvs B).length = n3 + 16 := by rw [bvs_length, hBl]
  have hpt := (hp.tl (A := IdealAt q I))
  obtain ⟨kx, hkx⟩ : ∃ kx, x.length = kx := ⟨_, rfl⟩
  have hB' : I.make 83 (n3 + 16) [key, nonce, x, text] = B := by rw [← e3]; exact hB
  obtain ⟨I1, hI1⟩ : ∃ I1, I.made' 83 [key, nonce, x, text] = I1 := ⟨_, rfl⟩
  have htx : I1.texts = I.texts := by rw [← hI1]; exact made'_texts _ _ _
  have hI2 : I' = { made := I1.made, texts := setM I.texts (nameOf 83 [key, nonce, x, B]) text } := by rw [← hI, ← hI1, ← hB]; rfl
  have hkd : (83 : Int) = ((83 : UInt8).toNat : Int) := rfl
  have hnv : (n3 : Int) + 16 = ((n3 + 16 : Nat) : Int) := by omega
  have h9 : 9 ≤ n3 + 16 ∧ n3 + 16 ≤ 1099511627776 := by omega
  have h4 : 4 ≤ 4 ∧ 4 ≤ 9223372036854775807 := by decide
  have hns : (nameOf 83 [key, nonce, x, text]).length ≤ 1099511627776 := by rw [name4]; omega
  have hns2 : (nameOf 83 [key, nonce, x, B]).length ≤ 1099511627776 := by rw [name4]; omega
  refine calls_w (vs := [.pointer (some ⟨q, 0, none⟩), .slice A1 n1 k1, .slice A2 n2 k2, .slice A3 n3 k3, .slice A m cap]) Try.func72 rfl rfl rfl ?_ w H
  (repeat' (first
      | ((with_reducible refine at_fn 75 ?_); with_reducible refine owk_c0x evs_auto (by kernel_rfl) (fun w H => i_joined hpt hx hkx (by omega) H) (fun s => ?_))
      | ((with_reducible refine at_fn 74 ?_); with_reducible refine owk_c1x evs_auto (by kernel_rfl) pick_auto (fun w H => i_make (kd := 83) (n := n3 + 16) hkd hnv h9 (Ps.four' has_auto rds_auto rds_auto rds_auto rds_auto e1 e2 hkx e3 h4) hns hB' hI1 H) (fun r => ?_))
      | (with_reducible refine is_w ?_; first | refine w_stopR (id := 7) ?_)
      | (with_reducible refine is_yk ?_; refine yk_auto (k := ?_))
      | (with_reducible refine is_owk0 ?_; refine owk0_auto (k := ?_))
      | (with_reducible refine is_owkc ?_; refine owk_auto (k := fun _ => ?_))
      | refine go1 (k := ?_)
      | (refine go2 (ka := ?_) (kb := ?_) <;> intro _)
      | fail))
  unfold Stop
  refine w_openI pick_auto (fun ma mb => ?_)
  rw [htx]
  (repeat' (first
      | ((with_reducible refine at_fn 76 ?_); with_reducible refine owk_c0s evs_auto (by kernel_rfl) (fun w H => i_name (kd := 83) (ps := [key, nonce, x, B]) hkd (Ps.four' has_auto rds_auto rds_auto rds_auto rds_auto e1 e2 hkx hBl h4) hns2 H) ?_)
      | ((with_reducible refine at_mapUpdateO ?_); with_reducible refine owk0 (ow_mapUpdate (encK := str) (encV := str) (k := nameOf 83 [key, nonce, x, B]) (v := text) (l := I.texts) (ev_tmp rfl) (ev_tmp rfl) (ev_tmp rfl) pick_auto rfl rfl) ?_)
      | (with_reducible refine at_conv ?_; first | refine yk (y_str (n := n3) (l := text) (ev_tmp rfl) rds_auto) ?_)
      | (with_reducible refine is_w ?_; first | refine w_plan (id := 7) [(0, true), (1, true), (2, true), (3, true), (4, true), (5, true), (6, true), (7, true), (10, true), (11, true), (8, false), (9, false), (12, false)] _ (by kernel_rfl) (by kernel_rfl) sel_all ?_)
      | (with_reducible refine is_yk ?_; refine yk_auto (k := ?_))
      | (with_reducible refine is_owk0 ?_; refine owk0_auto (k := ?_))
      | (with_reducible refine is_owkc ?_; refine owk_auto (k := fun _ => ?_))
      | refine go1 (k := ?_)
      | (refine go2 (ka := ?_) (kb := ?_) <;> intro _)
      | fail))
  exact x_ret2 rfl rfl rfl (fun w H => ⟨r, rfl, by rw [hI2]; exact (St.shutI (F := Bl r _ _ :: F) (I := ⟨_, _⟩) (Sel.st sel_auto H)).swap⟩)
set_option maxRecDepth 100000 in
theorem i_open {ps : List Bs} {x key nonce b : Bs} {A A1 A2 A3 : Option Addr} {m cap n1 k1 n2 k2 n3 k3 : Nat} {t : Bs} (hkey : HasR (St c F) (.slice A1 n1 k1) n1 (bvs key)) (hnonce : HasR (St c F) (.slice A2 n2 k2) n2 (bvs nonce)) (hb : HasR (St c F) (.slice A3 n3 k3) n3 (bvs b)) (hp : Ps (St c F) (.slice A m cap) ps) (hx : ps.flatMap id = x)
    (hs : key.length + nonce.length + b.length + x.length ≤ 1099500000000) (ht : I.opened key nonce b x = some t) (htl : t.length ≤ 9223372036854775807)
    (H : St c (IdealAt q I :: F) w) : Calls Try.prog 71 #[.pointer (some ⟨q, 0, none⟩), .slice A1 n1 k1, .slice A2 n2 k2, .slice A3 n3 k3, .slice A m cap] w fun e w' =>
    ∃ r : { r : Nat × Nat // t.length ≤ r.2 ∧ r.2 ≤ 9223372036854775807 }, e = .returned (.tuple #[.slice (some ⟨r.1.1, 0, none⟩) t.length r.1.2, .int .i64 0]) ∧ St c (BytesP r.1.1 r.1.2 5 t :: IdealAt q I :: F) w' := by
  have e1 := hkey.len H.tail
  have e2 := hnonce.len H.tail
  have e3 := hb.len H.tail
  obtain ⟨kx, hkx⟩ : ∃ kx, x.length = kx := ⟨_, rfl⟩
  have hkd : (83 : Int) = ((83 : UInt8).toNat : Int) := rfl
  have h4 : 4 ≤ 4 ∧ 4 ≤ 9223372036854775807 := by decide
  have hns : (nameOf 83 [key, nonce, x, b]).length ≤ 1099511627776 := by rw [name4]; omega
  have hl0 : (Value.tuple #[((getM I.texts (nameOf 83 [key, nonce, x, b])).map str).getD (str []), .bool (getM I.texts (nameOf 83 [key, nonce, x, b])).isSome]) = .tuple #[str t, .bool true] := by
    have : getM I.texts (nameOf 83 [key, nonce, x, b]) = some t := ht
    rw [this]; rfl
  obtain ⟨ma, mb, H⟩ := H.openI
  have HM : ∀ {L : List HP}, HasM str str (St c (Bl q 58 [.map (some ma), .map (some mb)] :: Mp str encI ma I.made :: Mp str str mb I.texts :: L)) mb I.texts := hasM_tl (hasM_tl hasM_hd)
  have hpt : Ps (St c (Bl q 58 [.map (some ma), .map (some mb)] :: Mp str encI ma I.made :: Mp str str mb I.texts :: F)) (.slice A m cap) ps := hp.tl.tl.tl
  refine calls_w (vs := [.pointer (some ⟨q, 0, none⟩), .slice A1 n1 k1, .slice A2 n2 k2, .slice A3 n3 k3, .slice A m cap]) Try.func71 rfl rfl rfl ?_ w H
  (repeat' (first
      | ((with_reducible refine at_fn 75 ?_); with_reducible refine owk_c0x evs_auto (by kernel_rfl) (fun w H => i_joined hpt hx hkx (by omega) H) (fun s => ?_))
      | ((with_reducible refine at_fn 76 ?_); with_reducible refine owk_c0s evs_auto (by kernel_rfl) (fun w H => i_name (kd := 83) (ps := [key, nonce, x, b]) hkd (Ps.four' has_auto rds_auto rds_auto rds_auto rds_auto e1 e2 hkx e3 h4) hns H) ?_)
      | (with_reducible refine at_lookup ?_; first | refine yk_eq (y_lookup2 (encK := str) (encV := str) (k := nameOf 83 [key, nonce, x, b]) (l := I.texts) (ev_tmp rfl) (ev_tmp rfl) rfl (by (repeat (first | exact hasM_hd | refine hasM_tl ?_)); (first | done | fail))) hl0 ?_)
      | (with_reducible refine is_w ?_; first | refine w_plan (id := 3) [(0, true), (1, true), (2, true), (3, true), (4, true), (5, true), (6, true), (8, true), (7, false), (9, false), (10, false), (11, false), (12, false), (13, true), (14, true), (15, false), (16, false)] _ (by kernel_rfl) (by kernel_rfl) sel_all ?_)
      | (with_reducible refine is_yk ?_; refine yk_auto (k := ?_))
      | (with_reducible refine is_owk0 ?_; refine owk0_auto (k := ?_))
      | (with_reducible refine is_owkc ?_; refine owk_auto (k := fun _ => ?_))
      | refine go1 (k := ?_)
      | (refine go2 (ka := ?_) (kb := ?_) <;> intro _)
      | fail))
  exact x_ret2 rfl rfl rfl (fun w H => ⟨_, rfl, (St.shutI (F := BytesP _ _ _ _ :: F) (Sel.st sel_auto H)).swap⟩)
set_option maxRecDepth 100000 in
theorem i_open_none {ps : List Bs} {x key nonce b : Bs} {A A1 A2 A3 : Option Addr} {m cap n1 k1 n2 k2 n3 k3 : Nat} (hkey : HasR (St c F) (.slice A1 n1 k1) n1 (bvs key)) (hnonce : HasR (St c F) (.slice A2 n2 k2) n2 (bvs nonce)) (hb : HasR (St c F) (.slice A3 n3 k3) n3 (bvs b)) (hp : Ps (St c F) (.slice A m cap) ps) (hx : ps.flatMap id = x)
    (hs : key.length + nonce.length + b.length + x.length ≤ 1099500000000) (ht : I.opened key nonce b x = none)
    (H : St c (IdealAt q I :: F) w) : Calls Try.prog 71 #[.pointer (some ⟨q, 0, none⟩), .slice A1 n1 k1, .slice A2 n2 k2, .slice A3 n3 k3, .slice A m cap] w fun e w' =>
    e = .returned (.tuple #[.slice none 0 0, .int .i64 9]) ∧ St c (IdealAt q I :: F) w' := by
  have e1 := hkey.len H.tail
  have e2 := hnonce.len H.tail
  have e3 := hb.len H.tail
  obtain ⟨kx, hkx⟩ : ∃ kx, x.length = kx := ⟨_, rfl⟩
  have hkd : (83 : Int) = ((83 : UInt8).toNat : Int) := rfl
  have h4 : 4 ≤ 4 ∧ 4 ≤ 9223372036854775807 := by decide
  have hns : (nameOf 83 [key, nonce, x, b]).length ≤ 1099511627776 := by rw [name4]; omega
  have hl0 : (Value.tuple #[((getM I.texts (nameOf 83 [key, nonce, x, b])).map str).getD (str []), .bool (getM I.texts (nameOf 83 [key, nonce, x, b])).isSome]) = .tuple #[str [], .bool false] := by
    have : getM I.texts (nameOf 83 [key, nonce, x, b]) = none := ht
    rw [this]; rfl
  obtain ⟨ma, mb, H⟩ := H.openI
  have HM : ∀ {L : List HP}, HasM str str (St c (Bl q 58 [.map (some ma), .map (some mb)] :: Mp str encI ma I.made :: Mp str str mb I.texts :: L)) mb I.texts := hasM_tl (hasM_tl hasM_hd)
  have hpt : Ps (St c (Bl q 58 [.map (some ma), .map (some mb)] :: Mp str encI ma I.made :: Mp str str mb I.texts :: F)) (.slice A m cap) ps := hp.tl.tl.tl
  refine calls_w (vs := [.pointer (some ⟨q, 0, none⟩), .slice A1 n1 k1, .slice A2 n2 k2, .slice A3 n3 k3, .slice A m cap]) Try.func71 rfl rfl rfl ?_ w H
  (repeat' (first
      | ((with_reducible refine at_fn 75 ?_); with_reducible refine owk_c0x evs_auto (by kernel_rfl) (fun w H => i_joined hpt hx hkx (by omega) H) (fun s => ?_))
      | ((with_reducible refine at_fn 76 ?_); with_reducible refine owk_c0s evs_auto (by kernel_rfl) (fun w H => i_name (kd := 83) (ps := [key, nonce, x, b]) hkd (Ps.four' has_auto rds_auto rds_auto rds_auto rds_auto e1 e2 hkx e3 h4) hns H) ?_)
      | (with_reducible refine at_lookup ?_; first | refine yk_eq (y_lookup2 (encK := str) (encV := str) (k := nameOf 83 [key, nonce, x, b]) (l := I.texts) (ev_tmp rfl) (ev_tmp rfl) rfl (by (repeat (first | exact hasM_hd | refine hasM_tl ?_)); (first | done | fail))) hl0 ?_)
      | (with_reducible refine is_w ?_; first | refine w_plan (id := 3) [(0, true), (1, true), (2, true), (3, true), (4, true), (5, true), (6, true), (8, true), (7, false), (9, false), (10, false), (11, false), (12, false), (13, true), (14, true), (15, false), (16, false)] _ (by kernel_rfl) (by kernel_rfl) sel_all ?_)
      | (with_reducible refine is_yk ?_; refine yk_auto (k := ?_))
      | (with_reducible refine is_owk0 ?_; refine owk0_auto (k := ?_))
      | (with_reducible refine is_owkc ?_; refine owk_auto (k := fun _ => ?_))
      | refine go1 (k := ?_)
      | (refine go2 (ka := ?_) (kb := ?_) <;> intro _)
      | fail))
  exact x_ret2 rfl rfl rfl (fun w H => ⟨rfl, St.shutI (Sel.st sel_auto H)⟩)
end
end Go.Proofs.Ytjofjkjghakcoaa

/- The vault (package vault), ideal: Ideal, Limit, Clashes, nonce, may. -/
namespace Go.Proofs.Ytjofjkjghakcoaa
open Go.RowKit
/-- An ideal vault. -/
structure VaultM where
  world : IdealM
  master : Bs
  limit : Int
  used : List (KeyB 44 × Bs)
  clash : Int
def key44 (l : Bs) : KeyB 44 := if h : l.length = 44 then ⟨l, h⟩ else ⟨List.replicate 44 0, rfl⟩
theorem enc44 {l : Bs} (h : l.length = 44) : encB 44 (key44 l) = .agg (bvs l).toArray := by unfold key44; rw [dif_pos h]; rfl
/-- The nonce of an epoch and a number. -/
def nonceB (e s : Int) : Bs := leB 4 e.toNat ++ num8 s
theorem nonceB_length (e s : Int) : (nonceB e s).length = 12 := by simp [nonceB, leB_length, num8_length]
theorem eq32 (d : Nat) : EqB Try.prog (d + 2) 29 32 := eqB_array Try.underlying29 Try.underlying5 (by kernel_rfl) (by kernel_rfl) d
theorem eq12 (d : Nat) : EqB Try.prog (d + 2) 46 12 := eqB_array Try.underlying46 Try.underlying5 (by kernel_rfl) (by kernel_rfl) d
theorem eq32a (d : Nat) : EqB Try.prog (d + 2) 28 32 := eqB_array Try.underlying28 Try.underlying5 (by kernel_rfl) (by kernel_rfl) d
theorem check32 (d : Nat) : CheckB Try.prog (d + 2) 29 32 := checkB_array Try.underlying29 Try.underlying5 (by kernel_rfl) (by kernel_rfl) d
theorem check12 (d : Nat) : CheckB Try.prog (d + 2) 46 12 := checkB_array Try.underlying46 Try.underlying5 (by kernel_rfl) (by kernel_rfl) d
instance : TEqB Try.prog 29 32 := ⟨eq32 9998, by kernel_rfl⟩
instance : TEqB Try.prog 28 32 := ⟨eq32a 9998, by kernel_rfl⟩
theorem eq44 : EqB Try.prog 10000 66 44 := eqB_struct2 (n0 := 32) (n1 := 12) (d := 9999) Try.underlying66 (by kernel_rfl) (by decide) (by decide) ⟨rfl, rfl⟩ ⟨rfl, rfl⟩ Try.underlying29 Try.underlying46 rfl rfl (by kernel_rfl) (by kernel_rfl) rfl (eq32 9997) (eq12 9997)
theorem check44 : CheckB Try.prog 10000 66 44 := checkB_struct2 (n0 := 32) (n1 := 12) (d := 9999) Try.underlying66 ⟨rfl, rfl⟩ ⟨rfl, rfl⟩ (by decide) (by decide) Try.underlying29 Try.underlying46 rfl rfl (by kernel_rfl) (by kernel_rfl) rfl (check32 9997) (check12 9997)
instance : TKey Try.prog 66 (encB 44) := tkey_bytes (by kernel_rfl) eq44 check44
instance : TMap Try.prog 50 66 9 (str []) := ⟨by kernel_rfl, by kernel_rfl⟩
def vcells1 (q um : Nat) (V : VaultM) : List Value := .iface 26 (.pointer (some ⟨q, 0, none⟩)) :: (bvs V.master ++ [.int .i64 V.limit, .map (some um), .int .i64 V.clash])
/-- An ideal vault in memory. -/
def VaultAt (p : Nat) (V : VaultM) : HP := Pure (V.master.length = 32) (Ex fun qu : Nat × Nat => Join [Bl p 54 (vcells1 qu.1 qu.2 V), IdealAt qu.1 V.world, Mp (encB 44) str qu.2 V.used])
section
variable {q um : Nat} {V : VaultM}
theorem vc_length (h : V.master.length = 32) : (vcells1 q um V).length = 36 := by simp [vcells1, bvs_length, h]
theorem vc0 : (vcells1 q um V).toArray.toList[0 + 0]? = some (.iface 26 (.pointer (some ⟨q, 0, none⟩))) := rfl
theorem vc_at (h : V.master.length = 32) (j : Nat) : (vcells1 q um V)[33 + j]? = [Value.int .i64 V.limit, .map (some um), .int .i64 V.clash][j]? := by
  have e : 33 + j = (32 + j) + 1 := by omega
  rw [vcells1, e, List.getElem?_cons_succ, List.getElem?_append_right (by rw [bvs_length, h]; omega), bvs_length, h]; congr 1; omega
theorem vc33 (h : V.master.length = 32) : (vcells1 q um V).toArray.toList[0 + 33]? = some (.int .i64 V.limit) := vc_at h 0
theorem vc34 (h : V.master.length = 32) : (vcells1 q um V).toArray.toList[0 + 34]? = some (.map (some um)) := vc_at h 1
theorem vc35 (h : V.master.length = 32) : (vcells1 q um V).toArray.toList[0 + 35]? = some (.int .i64 V.clash) := vc_at h 2
theorem vc_master (h : V.master.length = 32) : ((vcells1 q um V).toArray.toList.drop (0 + 1)).take (bvs V.master).length = bvs V.master := by
  show (List.drop 1 (vcells1 q um V)).take _ = _
  simp [vcells1]
theorem vc_clash (h : V.master.length = 32) (n : Int) : (vcells1 q um V).set (0 + 35) (.int .i64 n) = vcells1 q um { V with clash := n } := by
  have e : 0 + 35 = 34 + 1 := rfl
  unfold vcells1
  rw [e, List.set_cons_succ, List.set_append_right _ _ (by rw [bvs_length, h]; omega), bvs_length, h]
  rfl
end
attribute [local irreducible] Y OW YK OWK W WL WP X CV GvL GvP Ev Evs HasCell HasCells Has Met Again Kept
section
variable {c : Con} {F : List HP} {w : World} {p : Nat} {V : VaultM}
theorem St.openV (H : St c (VaultAt p V :: F) w) : V.master.length = 32 ∧ ∃ q um, St c (Bl p 54 (vcells1 q um V) :: IdealAt q V.world :: Mp (encB 44) str um V.used :: F) w := by
  obtain ⟨h, H⟩ := H.pure
  obtain ⟨qu, H⟩ := St.ex H
  exact ⟨h, _, _, St.join.1 H⟩
theorem St.shutV {q um : Nat} (h : V.master.length = 32) (H : St c (Bl p 54 (vcells1 q um V) :: IdealAt q V.world :: Mp (encB 44) str um V.used :: F) w) : St c (VaultAt p V :: F) w := St.toPure h (St.toEx (q, um) (St.join.2 H))
theorem v_limit {l : Int} (hl : V.limit = l) (H : St c (VaultAt p V :: F) w) : Calls Try.prog 22 #[.pointer (some ⟨p, 0, none⟩)] w fun e w' => e = .returned (.int .i64 l) ∧ St c (VaultAt p V :: F) w' := by
  subst hl
  obtain ⟨hm, q, um, H⟩ := H.openV
  have h33 := vc33 (q := q) (um := um) hm
  refine calls_w (vs := [.pointer (some ⟨p, 0, none⟩)]) Try.func22 rfl rfl rfl ?_ w H
  (repeat' (first
      | (with_reducible refine at_load ?_; first | refine yk (y_load (ev_tmp rfl) (hasCell_bl has_auto h33)) ?_)
      | (with_reducible refine is_yk ?_; refine yk_auto (k := ?_))
      | (with_reducible refine is_owk0 ?_; refine owk0_auto (k := ?_))
      | (with_reducible refine is_owkc ?_; refine owk_auto (k := fun _ => ?_))
      | refine go1 (k := ?_)
      | (refine go2 (ka := ?_) (kb := ?_) <;> intro _)
      | fail))
  exact x_ret1 rfl rfl (fun w H => ⟨rfl, St.shutV hm H⟩)
theorem v_clashes {l : Int} (hl : V.clash = l) (H : St c (VaultAt p V :: F) w) : Calls Try.prog 14 #[.pointer (some ⟨p, 0, none⟩)] w fun e w' => e = .returned (.int .i64 l) ∧ St c (VaultAt p V :: F) w' := by
  subst hl
  obtain ⟨hm, q, um, H⟩ := H.openV
  have h35 := vc35 (q := q) (um := um) hm
  refine calls_w (vs := [.pointer (some ⟨p, 0, none⟩)]) Try.func14 rfl rfl rfl ?_ w H
  (repeat' (first
      | (with_reducible refine at_load ?_; first | refine yk (y_load (ev_tmp rfl) (hasCell_bl has_auto h35)) ?_)
      | (with_reducible refine is_yk ?_; refine yk_auto (k := ?_))
      | (with_reducible refine is_owk0 ?_; refine owk0_auto (k := ?_))
      | (with_reducible refine is_owkc ?_; refine owk_auto (k := fun _ => ?_))
      | refine go1 (k := ?_)
      | (refine go2 (ka := ?_) (kb := ?_) <;> intro _)
      | fail))
  exact x_ret1 rfl rfl (fun w H => ⟨rfl, St.shutV hm H⟩)
/-- Why there is no such nonce. -/
def VaultM.may (V : VaultM) (e s : Int) : Int := if e < 0 ∨ s < 0 then 1 else if 4294967296 ≤ e ∨ V.limit ≤ s then 10 else 0
theorem v_may {e s r : Int} (hr : V.may e s = r) (H : St c (VaultAt p V :: F) w) : Calls Try.prog 23 #[.pointer (some ⟨p, 0, none⟩), .int .i64 e, .int .i64 s] w fun x w' => x = .returned (.int .i64 r) ∧ St c (VaultAt p V :: F) w' := by
  subst hr
  obtain ⟨hm, q, um, H⟩ := H.openV
  have h33 := vc33 (q := q) (um := um) hm
  unfold VaultM.may
  refine calls_w (vs := [.pointer (some ⟨p, 0, none⟩), .int .i64 e, .int .i64 s]) Try.func23 rfl rfl rfl ?_ w H
  by_cases h1 : e < 0
  · (repeat' (first
      | (with_reducible refine at_load ?_; first | refine yk (y_load (ev_tmp rfl) (hasCell_bl has_auto h33)) ?_)
      | (with_reducible refine is_yk ?_; refine yk_auto (k := ?_))
      | (with_reducible refine is_owk0 ?_; refine owk0_auto (k := ?_))
      | (with_reducible refine is_owkc ?_; refine owk_auto (k := fun _ => ?_))
      | refine go1 (k := ?_)
      | (refine go2 (ka := ?_) (kb := ?_) <;> intro _)
      | fail))
    exact x_ret1 rfl rfl (fun w H => ⟨by rw [if_pos (.inl h1)], St.shutV hm H⟩)
  · by_cases h2 : s < 0
    · (repeat' (first
      | (with_reducible refine at_load ?_; first | refine yk (y_load (ev_tmp rfl) (hasCell_bl has_auto h33)) ?_)
      | (with_reducible refine is_yk ?_; refine yk_auto (k := ?_))
      | (with_reducible refine is_owk0 ?_; refine owk0_auto (k := ?_))
      | (with_reducible refine is_owkc ?_; refine owk_auto (k := fun _ => ?_))
      | refine go1 (k := ?_)
      | (refine go2 (ka := ?_) (kb := ?_) <;> intro _)
      | fail))
      exact x_ret1 rfl rfl (fun w H => ⟨by rw [if_pos (.inr h2)], St.shutV hm H⟩)
    · rw [if_neg (by omega)]
      by_cases h3 : 4294967296 ≤ e
      · (repeat' (first
      | (with_reducible refine at_load ?_; first | refine yk (y_load (ev_tmp rfl) (hasCell_bl has_auto h33)) ?_)
      | (with_reducible refine is_yk ?_; refine yk_auto (k := ?_))
      | (with_reducible refine is_owk0 ?_; refine owk0_auto (k := ?_))
      | (with_reducible refine is_owkc ?_; refine owk_auto (k := fun _ => ?_))
      | refine go1 (k := ?_)
      | (refine go2 (ka := ?_) (kb := ?_) <;> intro _)
      | fail))
        exact x_ret1 rfl rfl (fun w H => ⟨by rw [if_pos (.inl h3)], St.shutV hm H⟩)
      · by_cases h4 : V.limit ≤ s
        · (repeat' (first
      | (with_reducible refine at_load ?_; first | refine yk (y_load (ev_tmp rfl) (hasCell_bl has_auto h33)) ?_)
      | (with_reducible refine is_yk ?_; refine yk_auto (k := ?_))
      | (with_reducible refine is_owk0 ?_; refine owk0_auto (k := ?_))
      | (with_reducible refine is_owkc ?_; refine owk_auto (k := fun _ => ?_))
      | refine go1 (k := ?_)
      | (refine go2 (ka := ?_) (kb := ?_) <;> intro _)
      | fail))
          exact x_ret1 rfl rfl (fun w H => ⟨by rw [if_pos (.inr h4)], St.shutV hm H⟩)
        · (repeat' (first
      | (with_reducible refine at_load ?_; first | refine yk (y_load (ev_tmp rfl) (hasCell_bl has_auto h33)) ?_)
      | (with_reducible refine is_yk ?_; refine yk_auto (k := ?_))
      | (with_reducible refine is_owk0 ?_; refine owk0_auto (k := ?_))
      | (with_reducible refine is_owkc ?_; refine owk_auto (k := fun _ => ?_))
      | refine go1 (k := ?_)
      | (refine go2 (ka := ?_) (kb := ?_) <;> intro _)
      | fail))
          exact x_ret1 rfl rfl (fun w H => ⟨by rw [if_neg (by omega)], St.shutV hm H⟩)
end
end Go.Proofs.Ytjofjkjghakcoaa

/- The vault (package vault): nonce, Ideal, what is built. -/
namespace Go.Proofs.Ytjofjkjghakcoaa
open Go.RowKit
theorem put_setG (pre : Bs) (m j X : Nat) (z : UInt8) (h : j < m) : (pre ++ (leB j X ++ List.replicate (m - j) z)).set (pre.length + j) (UInt8.ofNat (X / 256 ^ j % 256)) = pre ++ (leB (j + 1) X ++ List.replicate (m - (j + 1)) z) := by
  obtain ⟨k, rfl⟩ : ∃ k, m = j + (k + 1) := ⟨m - j - 1, by omega⟩
  rw [show j + (k + 1) - j = k + 1 by omega, show j + (k + 1) - (j + 1) = k by omega, List.set_append_right _ _ (by omega), Nat.add_sub_cancel_left, List.set_append_right _ _ (by rw [leB_length]; omega), leB_length, Nat.sub_self, List.replicate_succ, List.set_cons_zero, leB_snoc, List.append_assoc]
  rfl
theorem splice_mid (pre x post y : List Value) {o : Nat} (ho : o = pre.length) (h : x.length = y.length) : splice (pre ++ (x ++ post)) o y = pre ++ (y ++ post) := by
  subst ho
  unfold splice
  rw [List.take_left, List.append_assoc, ← h, ← List.append_assoc pre x post, show pre.length + x.length = (pre ++ x).length by simp, List.drop_left]
section
variable {H : World → Prop} {E : Env} {d : Option Nat} {ty : TypeId} {pos : String} {aft : Array Edge} {g : Option (Nat × Bool)}
theorem vcells_agg (l : List Value) : vcells (.agg l.toArray) = l := rfl
theorem y_buildVault {x0 x1 x2 x3 : Operand} {q um : Nat} {V : VaultM} (h0 : Ev E x0 (.iface 26 (.pointer (some ⟨q, 0, none⟩)))) (h1 : Ev E x1 (.agg (bvs V.master).toArray)) (h2 : Ev E x2 (.int .i64 V.limit)) (h3 : Ev E x3 (.map (some um))) (hm : V.master.length = 32) (hc : V.clash = 0) :
    Y Try.prog H E (Oper.mk d (.build 54 #[(0, x0), (1, x1), (2, x2), (3, x3), (4, .const (.int .i64 0))]) ty pos aft g) (.agg (vcells1 q um V).toArray) := by
  have hml : (bvs V.master).length = 32 := by rw [bvs_length, hm]
  have hl : Lay E [(0, 1), (1, 32), (33, 1), (34, 1), (35, 1)] ([.nilIface] ++ (List.replicate 32 (.int .u8 0) ++ ([.int .i64 0, .map none, .int .i64 0]))) [(0, x0), (1, x1), (2, x2), (3, x3), (4, .const (.int .i64 0))] (vcells1 q um V) := by
    obtain ⟨I, hI⟩ : ∃ I, Value.iface 26 (.pointer (some ⟨q, 0, none⟩)) = I := ⟨_, rfl⟩
    rw [hI] at h0
    have hIv : vcells I = [I] := by rw [← hI]; rfl
    have e0 : splice ([.nilIface] ++ (List.replicate 32 (.int .u8 0) ++ ([.int .i64 0, .map none, .int .i64 0]))) 0 [I] = [I] ++ (List.replicate 32 (.int .u8 0) ++ [.int .i64 0, .map none, .int .i64 0]) := splice_mid [] [.nilIface] _ _ rfl rfl
    have e1 : splice ([I] ++ (List.replicate 32 (.int .u8 0) ++ [.int .i64 0, .map none, .int .i64 0])) 1 (bvs V.master) = [I] ++ (bvs V.master ++ [.int .i64 0, .map none, .int .i64 0]) := splice_mid [I] _ _ _ rfl (by rw [hml]; rfl)
    have e2 : splice ([I] ++ (bvs V.master ++ [.int .i64 0, .map none, .int .i64 0])) 33 [.int .i64 V.limit] = [I] ++ (bvs V.master ++ [.int .i64 V.limit, .map none, .int .i64 0]) := by
      have := splice_mid ([I] ++ bvs V.master) [.int .i64 0] [.map none, .int .i64 0] [.int .i64 V.limit] (o := 33) (by simp [hml]) rfl
      simpa using this
    have e3 : splice ([I] ++ (bvs V.master ++ [.int .i64 V.limit, .map none, .int .i64 0])) 34 [.map (some um)] = [I] ++ (bvs V.master ++ [.int .i64 V.limit, .map (some um), .int .i64 0]) := by
      have := splice_mid ([I] ++ bvs V.master ++ [.int .i64 V.limit]) [.map none] [.int .i64 0] [.map (some um)] (o := 34) (by simp [hml]) rfl
      simpa using this
    have e4 : splice ([I] ++ (bvs V.master ++ [.int .i64 V.limit, .map (some um), .int .i64 0])) 35 [.int .i64 0] = vcells1 q um V := by
      have := splice_mid ([I] ++ bvs V.master ++ [.int .i64 V.limit, .map (some um)]) [.int .i64 0] [] [.int .i64 0] (o := 35) (by simp [hml]) rfl
      rw [vcells1, hc, hI]
      simpa using this
    refine .cons h0 rfl (by rw [hIv]; rfl) (by simp) ?_
    rw [hIv, e0]
    refine .cons h1 rfl (by rw [vcells_agg, hml]) (by simp) ?_
    rw [vcells_agg, e1]
    refine .cons h2 rfl rfl (by simp [hml]) ?_
    rw [vcells_int, e2]
    refine .cons h3 rfl rfl (by simp [hml]) ?_
    rw [show vcells (.map (some um)) = [.map (some um)] from rfl, e3]
    refine .cons ev_const rfl rfl (by simp [hml]) ?_
    rw [vcells_int, e4]
    exact .nil
  exact y_build (P := Try.prog) (t := 54) hl
theorem y_buildPlace {x0 x1 : Operand} {k n : Bs} (h0 : Ev E x0 (.agg (bvs k).toArray)) (h1 : Ev E x1 (.agg (bvs n).toArray)) (hk : k.length = 32) (hn : n.length = 12) :
    Y Try.prog H E (Oper.mk d (.build 66 #[(0, x0), (1, x1)]) ty pos aft g) (encB 44 (key44 (k ++ n))) := by
  have hkl : (bvs k).length = 32 := by rw [bvs_length, hk]
  have hnl : (bvs n).length = 12 := by rw [bvs_length, hn]
  have hl : Lay E [(0, 32), (32, 12)] (List.replicate 44 (.int .u8 0)) [(0, x0), (1, x1)] (bvs (k ++ n)) := by
    have e1 : splice (List.replicate 44 (Value.int .u8 0)) 0 (bvs k) = bvs k ++ List.replicate 12 (.int .u8 0) := splice_mid [] (List.replicate 32 (.int .u8 0)) (List.replicate 12 (.int .u8 0)) (bvs k) rfl (by rw [hkl]; rfl)
    have e2 : splice (bvs k ++ List.replicate 12 (.int .u8 0)) 32 (bvs n) = bvs (k ++ n) := by
      have := splice_mid (bvs k) (List.replicate 12 (.int .u8 0)) [] (bvs n) hkl.symm (by rw [hnl]; rfl)
      rw [List.append_nil, List.append_nil] at this
      rw [this, bvs_append]
    refine .cons h0 rfl (by rw [vcells_agg, hkl]) (by simp) ?_
    rw [vcells_agg, e1]
    refine .cons h1 rfl (by rw [vcells_agg, hnl]) (by simp [hkl]) ?_
    rw [vcells_agg, e2]
    exact .nil
  rw [enc44 (by simp [hk, hn])]
  exact y_build (P := Try.prog) (t := 66) hl
theorem y_buildKey0 : Y Try.prog H E (Oper.mk d (.build 29 #[]) ty pos aft g) (.agg (bvs (List.replicate 32 0)).toArray) := y_buildZ (z := List.replicate 32 (.int .u8 0)) Try.underlying29 (by kernel_rfl)
end
theorem bvs_zeros (n : Nat) : List.replicate n (Value.int .u8 0) = bvs (List.replicate n 0) := by simp [bvs, bv]
attribute [local irreducible] Y OW YK OWK W WL WP X CV GvL GvP Ev Evs HasCell HasCells Has Met Again Kept
section
variable {c : Con} {F : List HP} {w : World} {p : Nat} {V : VaultM}
set_option maxRecDepth 100000 in
theorem v_nonce (e s : Int) (he : 0 ≤ e ∧ e < 4294967296) (H : St c F w) : Calls Try.prog 24 #[.int .i64 e, .int .i64 s] w fun x w' => x = .returned (.agg (bvs (nonceB e s)).toArray) ∧ St c F w' := by
  obtain ⟨n, rfl⟩ := Int.eq_ofNat_of_zero_le he.1
  obtain ⟨X, hX, hX1, hX2⟩ := u64_of s
  have hnb : nonceB n s = leB 4 n ++ leB 8 X := by unfold nonceB num8; rw [hX1]; rfl
  rw [hnb]
  have hz := bvs_zeros 12
  refine calls_w (vs := [.int .i64 n, .int .i64 s]) Try.func24 rfl rfl rfl ?_ w H
  (repeat' (first
      | (with_reducible refine is_yk ?_; refine yk_auto (k := ?_))
      | (with_reducible refine is_owk0 ?_; refine owk0_auto (k := ?_))
      | (with_reducible refine is_owkc ?_; refine owk_auto (k := fun _ => ?_))
      | refine go1 (k := ?_)
      | (refine go2 (ka := ?_) (kb := ?_) <;> intro _)
      | fail))
  rename_i r1 r2
  refine w_loop (α := Nat) (fun i => i ≤ 4) (fun i => [(8, .int .i64 (i : Int)), (5, .pointer (some ⟨r2, 0, none⟩)), (4, .pointer (some ⟨r1, 0, none⟩)), (0, .int .i64 n), (1, .int .i64 s)])
    (fun i => Bl r2 46 (bvs ([] ++ (leB i n ++ List.replicate (12 - i) 0))) :: Bl r1 46 (List.replicate 12 (.int .u8 0)) :: F) (fun i => 4 - i) 0 (Nat.zero_le _) sub_auto (by show Sel _ (Bl r2 _ (bvs (List.replicate 12 0)) :: _); rw [← hz]; exact sel_auto) (fun i hi => ?_)
  by_cases hi4 : i < 4
  · have h1 := u8_of n i
    have h2 := shr_of n i (m := 8 * (i : Int)) (by omega)
    have h3 := put_setG [] 12 i n 0 (by omega)
    have h4 : (bvs ([] ++ (leB i n ++ List.replicate (12 - i) 0))).set (0 + (i : Int).toNat * 1) (.int .u8 (UInt8.ofNat (n / 256 ^ i % 256)).toNat) = bvs ([] ++ (leB (i + 1) n ++ List.replicate (12 - (i + 1)) 0)) := by
      rw [Nat.mul_one, Int.toNat_natCast, ← h3]; exact bvs_set _ _ _
    have hV : (bvs ([] ++ (leB i n ++ List.replicate (12 - i) 0))).length = 12 := by simp [bvs_length, leB_length]; omega
    generalize bvs ([] ++ (leB i n ++ List.replicate (12 - i) 0)) = W0 at h4 hV ⊢
    generalize n / 256 ^ i = y at h1 h2 h4
    generalize UInt8.ofNat (y % 256) = bb at h1 h4
    (repeat' (first
      | (with_reducible refine at_conv ?_; first | refine yk_eq (y_conv_int (ev_tmp rfl)) (congrArg _ h1) ?_)
      | (with_reducible refine at_bin ?_; first | refine yk_eq (y_shr (ev_tmp rfl) (ev_tmp rfl) (by omega) (by simp [IntKind.bits]; omega)) (congrArg _ h2) ?_)
      | (with_reducible refine is_yk ?_; refine yk_auto (k := ?_))
      | (with_reducible refine is_owk0 ?_; refine owk0_auto (k := ?_))
      | (with_reducible refine is_owkc ?_; refine owk_auto (k := fun _ => ?_))
      | refine go1 (k := ?_)
      | (refine go2 (ka := ?_) (kb := ?_) <;> intro _)
      | fail))
    rw [h4]
    exact x_again (i + 1) (by omega) (by omega) sub_auto sel_auto
  · have : i = 4 := by omega
    subst this
    have e0 : ([] : Bs) ++ (leB 4 n ++ List.replicate (12 - 4) 0) = leB 4 n ++ (leB 0 X ++ List.replicate (8 - 0) 0) := by simp [leB]
    rw [e0]
    have hpl := leB_length 4 n
    generalize leB 4 n = pre at *
    (repeat' (first
      | (with_reducible refine is_yk ?_; refine yk_auto (k := ?_))
      | (with_reducible refine is_owk0 ?_; refine owk0_auto (k := ?_))
      | (with_reducible refine is_owkc ?_; refine owk_auto (k := fun _ => ?_))
      | refine go1 (k := ?_)
      | (refine go2 (ka := ?_) (kb := ?_) <;> intro _)
      | fail))
    refine w_loop (α := Nat) (fun i => i ≤ 8) (fun i => [(19, .int .i64 (i : Int)), (5, .pointer (some ⟨r2, 0, none⟩)), (4, .pointer (some ⟨r1, 0, none⟩)), (1, .int .i64 s)])
      (fun i => Bl r2 46 (bvs (pre ++ (leB i X ++ List.replicate (8 - i) 0))) :: Bl r1 46 (List.replicate 12 (.int .u8 0)) :: F) (fun i => 8 - i) 0 (Nat.zero_le _) sub_auto sel_auto (fun i hi => ?_)
    by_cases hi8 : i < 8
    · have h1 := u8_of X i
      have h2 := shr_of X i (m := 8 * (i : Int)) (by omega)
      have h3 := put_setG pre 8 i X 0 (by omega)
      have hti : (4 + (i : Int)).toNat = 4 + i := by omega
      have h4 : (bvs (pre ++ (leB i X ++ List.replicate (8 - i) 0))).set (0 + (4 + (i : Int)).toNat * 1) (.int .u8 (UInt8.ofNat (X / 256 ^ i % 256)).toNat) = bvs (pre ++ (leB (i + 1) X ++ List.replicate (8 - (i + 1)) 0)) := by
        rw [Nat.mul_one, Nat.zero_add, hti, ← h3, hpl]; exact bvs_set _ _ _
      have hV : (bvs (pre ++ (leB i X ++ List.replicate (8 - i) 0))).length = 12 := by simp [bvs_length, leB_length, hpl]; omega
      generalize bvs (pre ++ (leB i X ++ List.replicate (8 - i) 0)) = W0 at h4 hV ⊢
      generalize X / 256 ^ i = y at h1 h2 h4
      generalize UInt8.ofNat (y % 256) = bb at h1 h4
      (repeat' (first
      | (with_reducible refine at_conv ?_; first | refine yk_eq (y_conv_int (ev_tmp rfl)) (congrArg _ hX2) ?_ | refine yk_eq (y_conv_int (ev_tmp rfl)) (congrArg _ h1) ?_)
      | (with_reducible refine at_bin ?_; first | refine yk_eq (y_shr (ev_tmp rfl) (ev_tmp rfl) (by omega) (by simp [IntKind.bits]; omega)) (congrArg _ h2) ?_)
      | (with_reducible refine is_yk ?_; refine yk_auto (k := ?_))
      | (with_reducible refine is_owk0 ?_; refine owk0_auto (k := ?_))
      | (with_reducible refine is_owkc ?_; refine owk_auto (k := fun _ => ?_))
      | refine go1 (k := ?_)
      | (refine go2 (ka := ?_) (kb := ?_) <;> intro _)
      | fail))
      rw [h4]
      exact x_again (i + 1) (by omega) (by omega) sub_auto sel_auto
    · have : i = 8 := by omega
      subst this
      have e1 : leB 8 X ++ List.replicate (8 - 8) (0 : UInt8) = leB 8 X := by simp
      rw [e1]
      have hVl : (bvs (pre ++ leB 8 X)).length = 12 := by simp [bvs_length, leB_length, hpl]
      have hV1 := bvs_oneCell (pre ++ leB 8 X)
      have hzl : (List.replicate 12 (Value.int .u8 0)).length = 12 := rfl
      generalize bvs (pre ++ leB 8 X) = W0 at hVl hV1 ⊢
      (repeat' (first
      | ((with_reducible refine at_storeO ?_); with_reducible refine owk0 (ow_storeAll (ev_tmp rfl) (ev_tmp rfl) hV1 hVl upd_auto hzl) ?_)
      | (with_reducible refine is_yk ?_; refine yk_auto (k := ?_))
      | (with_reducible refine is_owk0 ?_; refine owk0_auto (k := ?_))
      | (with_reducible refine is_owkc ?_; refine owk_auto (k := fun _ => ?_))
      | refine go1 (k := ?_)
      | (refine go2 (ka := ?_) (kb := ?_) <;> intro _)
      | fail))
      exact x_retC rfl rfl has_auto hVl (fun w H => ⟨rfl, Sel.st sel_auto H⟩)
end
end Go.Proofs.Ytjofjkjghakcoaa

/- The vault (package vault): Ideal, Key, Hash, Mac. -/
namespace Go.Proofs.Ytjofjkjghakcoaa
open Go.RowKit
section
variable {P : Program} {N : Nat} {c : Con} {E : Env} {L F F' : List HP} {A A' B : HP} {d : Option Nat} {ty : TypeId} {pos : String} {aft : Array Edge} {g : Option (Nat × Bool)} {K : Value → List HP → Prop}
theorem owk_i1 {r : Value} {f : FuncId} {ro : Operand} {name : String} {xs : Array Operand} {ts : Array TypeId} {vs : List Value} {t : TypeId} {v rv : Value} (hro : Ev E ro (.iface t v)) (hx : Evs E xs vs)
    (hm : ∀ w, (method (P.types.size + Made.depth) t v name).run P w = .ok (f, rv) w) (he : entersB P f = true) (hp : Pick L A F)
    (pre : ∀ w, St c (A :: F) w → Calls P f (rv :: vs).toArray w fun e w' => e = .returned r ∧ St c (A' :: F) w') (k : K r (A' :: F)) :
    OWK P N c E L (Oper.mk d (.call { callee := .invoke ro name, args := xs, argTypes := ts }) ty pos aft g) K :=
  owk0 (ow_invoke (L' := fun _ => A' :: F) hro hx hm he fun w H => (pre w (hp.st H)).mono fun e w' h => ⟨(), h⟩) k
theorem owk_i1x {β : Type} {r : β → Value} {L' : β → List HP} {f : FuncId} {ro : Operand} {name : String} {xs : Array Operand} {ts : Array TypeId} {vs : List Value} {t : TypeId} {v rv : Value} (hro : Ev E ro (.iface t v)) (hx : Evs E xs vs)
    (hm : ∀ w, (method (P.types.size + Made.depth) t v name).run P w = .ok (f, rv) w) (he : entersB P f = true) (hp : Pick L A F)
    (pre : ∀ w, St c (A :: F) w → Calls P f (rv :: vs).toArray w fun e w' => ∃ x, e = .returned (r x) ∧ St c (L' x) w') (k : ∀ x, K (r x) (L' x)) :
    OWK P N c E L (Oper.mk d (.call { callee := .invoke ro name, args := xs, argTypes := ts }) ty pos aft g) K :=
  owk (ow_invoke hro hx hm he fun w H => pre w (hp.st H)) k
end
theorem meth_Derive (q : Nat) (w : World) : (method (Try.prog.types.size + Made.depth) 26 (.pointer (some ⟨q, 0, none⟩)) "Derive").run Try.prog w = .ok (68, .pointer (some ⟨q, 0, none⟩)) w := by kernel_rfl
theorem meth_Hash (q : Nat) (w : World) : (method (Try.prog.types.size + Made.depth) 26 (.pointer (some ⟨q, 0, none⟩)) "Hash").run Try.prog w = .ok (69, .pointer (some ⟨q, 0, none⟩)) w := by kernel_rfl
theorem meth_Mac (q : Nat) (w : World) : (method (Try.prog.types.size + Made.depth) 26 (.pointer (some ⟨q, 0, none⟩)) "Mac").run Try.prog w = .ok (70, .pointer (some ⟨q, 0, none⟩)) w := by kernel_rfl
theorem meth_Seal (q : Nat) (w : World) : (method (Try.prog.types.size + Made.depth) 26 (.pointer (some ⟨q, 0, none⟩)) "Seal").run Try.prog w = .ok (72, .pointer (some ⟨q, 0, none⟩)) w := by kernel_rfl
theorem meth_Open (q : Nat) (w : World) : (method (Try.prog.types.size + Made.depth) 26 (.pointer (some ⟨q, 0, none⟩)) "Open").run Try.prog w = .ok (71, .pointer (some ⟨q, 0, none⟩)) w := by kernel_rfl
theorem not_iface {e : TypeId} : ∀ ms, TypeDesc.pointer e ≠ .interface ms := fun _ h => by cases h
theorem hasR_master {c : Con} {L : List HP} {p T q um : Nat} {V : VaultM} (h : V.master.length = 32) : HasR (St c (Bl p T (vcells1 q um V) :: L)) (.slice (some ⟨p, 0 + 1, none⟩) 32 32) 32 (bvs V.master) :=
  reads_has (hasCells_bl has_hd (vc_master h)) (by rw [bvs_length, h]) (by decide) (by decide)
namespace VaultM
def keyIn (purpose : Bs) (ns : List Int) : Bs := text3 purpose ++ ns.flatMap num8
def key (V : VaultM) (purpose : Bs) (ns : List Int) : Bs := V.world.derive V.master (keyIn purpose ns)
def keyed (V : VaultM) (purpose : Bs) (ns : List Int) : VaultM := { V with world := V.world.derived V.master (keyIn purpose ns) }
def hash (V : VaultM) (x : Bs) : Bs := V.world.hash x
def hashed (V : VaultM) (x : Bs) : VaultM := { V with world := V.world.hashed x }
def mac (V : VaultM) (k x : Bs) : Bs := V.world.mac k x
def maced (V : VaultM) (k x : Bs) : VaultM := { V with world := V.world.maced k x }
end VaultM
theorem make32 (I : IdealM) (kd : UInt8) (ps : List Bs) : (I.make kd 32 ps).length = 32 := markB_length (by decide)
attribute [local irreducible] Y OW YK OWK W WL WP X CV GvL GvP Ev Evs HasCell HasCells Has Met Again Kept
section
variable {c : Con} {F : List HP} {w : World} {p : Nat} {V : VaultM}
set_option maxRecDepth 100000 in
theorem v_ideal {q : Nat} {I : IdealM} {m : Bs} {limit : Int} {V : VaultM} (hm : m.length = 32) (hV : (⟨I, m, max limit 0, [], 0⟩ : VaultM) = V) (H : St c (IdealAt q I :: F) w) : Calls Try.prog 8 #[.pointer (some ⟨q, 0, none⟩), .agg (bvs m).toArray, .int .i64 limit] w fun e w' =>
    ∃ p : Nat, e = .returned (.pointer (some ⟨p, 0, none⟩)) ∧ St c (VaultAt p V :: F) w' := by
  have hml : (bvs m).length = 32 := by rw [bvs_length, hm]
  subst hV
  refine calls_w (vs := [.pointer (some ⟨q, 0, none⟩), .agg (bvs m).toArray, .int .i64 limit]) Try.func8 rfl rfl rfl ?_ w H
  (repeat' (first
      | ((with_reducible refine at_makeMapO ?_); with_reducible refine owk (ow_makeMap (t := 50) (encB 44) str) (fun um => ?_))
      | (with_reducible refine at_load ?_; first | refine yk (y_loadN (ev_tmp rfl) (hasCells_all has_auto) hml) ?_)
      | (with_reducible refine at_build ?_; first | refine yk (y_buildVault (V := ⟨I, m, max limit 0, [], 0⟩) (ev_tmp rfl) (ev_tmp rfl) (ev_tmp rfl) (ev_tmp rfl) hm rfl) ?_)
      | (with_reducible refine is_yk ?_; first | refine yk (y_makeIface (ev_tmp rfl) Try.underlying26 not_iface) ?_)
      | (with_reducible refine is_yk ?_; refine yk_auto (k := ?_))
      | (with_reducible refine is_owk0 ?_; refine owk0_auto (k := ?_))
      | (with_reducible refine is_owkc ?_; refine owk_auto (k := fun _ => ?_))
      | refine go1 (k := ?_)
      | (refine go2 (ka := ?_) (kb := ?_) <;> intro _)
      | fail))
  exact x_ret1 rfl rfl (fun w H => ⟨_, rfl, St.shutV (V := ⟨I, m, max limit 0, [], 0⟩) hm (Sel.st sel_auto H)⟩)
set_option maxRecDepth 100000 in
theorem v_hash {ps : List Bs} {x : Bs} {A : Option Addr} {m cap : Nat} {B : Bs} {V' : VaultM} (hp : Ps (St c F) (.slice A m cap) ps) (hx : ps.flatMap id = x) (hs : x.length ≤ 1099511627000) (hB : V.hash x = B) (hV : V.hashed x = V')
    (H : St c (VaultAt p V :: F) w) : Calls Try.prog 16 #[.pointer (some ⟨p, 0, none⟩), .slice A m cap] w fun e w' => e = .returned (.agg (bvs B).toArray) ∧ St c (VaultAt p V' :: F) w' := by
  obtain ⟨hm, q, um, H⟩ := H.openV
  have h0 := vc0 (q := q) (um := um) (V := V)
  have hBl : (bvs B).length = 32 := by rw [bvs_length, ← hB]; exact make32 _ _ _
  have hB1 := bvs_oneCell B
  have hz : (List.replicate 32 (Value.int .u8 0)).length = 32 := rfl
  have hpt : ∀ {X Y Z : HP}, Ps (St c (X :: Y :: Z :: F)) (.slice A m cap) ps := hp.tl.tl.tl
  have hB' : V.world.hash x = B := hB
  obtain ⟨I', hI'⟩ : ∃ I', V.world.hashed x = I' := ⟨_, rfl⟩
  subst hV
  refine calls_w (vs := [.pointer (some ⟨p, 0, none⟩), .slice A m cap]) Try.func16 rfl rfl rfl ?_ w H
  (repeat' (first
      | ((with_reducible refine at_storeO ?_); with_reducible refine owk0 (ow_storeAll (ev_tmp rfl) (ev_tmp rfl) hB1 hBl upd_auto hz) ?_)
      | (with_reducible refine is_owkc ?_; first | refine owk_i1 (ev_tmp rfl) evs_auto (meth_Hash _) (by kernel_rfl) pick_auto (fun w H => i_hash hpt hx hs hB' hI' H) ?_)
      | (with_reducible refine at_load ?_; first | refine yk (y_load (ev_tmp rfl) (hasCell_bl has_auto h0)) ?_)
      | (with_reducible refine is_yk ?_; refine yk_auto (k := ?_))
      | (with_reducible refine is_owk0 ?_; refine owk0_auto (k := ?_))
      | (with_reducible refine is_owkc ?_; refine owk_auto (k := fun _ => ?_))
      | refine go1 (k := ?_)
      | (refine go2 (ka := ?_) (kb := ?_) <;> intro _)
      | fail))
  exact x_retC rfl rfl has_auto hBl (fun w H => ⟨rfl, St.shutV (V := V.hashed x) (q := q) (um := um) hm (by rw [show (V.hashed x).world = I' from hI']; exact Sel.st sel_auto H)⟩)
end
end Go.Proofs.Ytjofjkjghakcoaa

/- The vault (package vault): Key, Mac. -/
namespace Go.Proofs.Ytjofjkjghakcoaa
open Go.RowKit
theorem keyed_master (V : VaultM) (a : Bs) (ns : List Int) : (V.keyed a ns).master = V.master := rfl
theorem hasR_oneS {c : Con} {L : List HP} {b T : Nat} (s : Bs) : HasR (St c (Bl b T (List.flatMap vcells [str s]) :: L)) (.slice (some ⟨b, 0, none⟩) 1 1) 1 (strs [s]) := reads_has (hasCells_bl has_hd rfl) rfl (by decide) (by decide)
attribute [local irreducible] Y OW YK OWK W WL WP X CV GvL GvP Ev Evs HasCell HasCells Has Met Again Kept
section
variable {c : Con} {F : List HP} {w : World} {p : Nat} {V : VaultM}
set_option maxRecDepth 100000 in
theorem v_mac {ps : List Bs} {x k : Bs} {A : Option Addr} {m cap : Nat} {B : Bs} {V' : VaultM} (hp : Ps (St c F) (.slice A m cap) ps) (hx : ps.flatMap id = x) (hk : k.length = 32) (hs : x.length ≤ 1099511620000) (hB : V.mac k x = B) (hV : V.maced k x = V')
    (H : St c (VaultAt p V :: F) w) : Calls Try.prog 18 #[.pointer (some ⟨p, 0, none⟩), .agg (bvs k).toArray, .slice A m cap] w fun e w' => e = .returned (.agg (bvs B).toArray) ∧ St c (VaultAt p V' :: F) w' := by
  obtain ⟨hm, q, um, H⟩ := H.openV
  have h0 := vc0 (q := q) (um := um) (V := V)
  have hBl : (bvs B).length = 32 := by rw [bvs_length, ← hB]; exact make32 _ _ _
  have hB1 := bvs_oneCell B
  have hkl : (bvs k).length = 32 := by rw [bvs_length, hk]
  have hz : (List.replicate 32 (Value.int .u8 0)).length = 32 := rfl
  have hpt : ∀ {X Y Z U : HP}, Ps (St c (X :: Y :: Z :: U :: F)) (.slice A m cap) ps := hp.tl.tl.tl.tl
  have hB' : V.world.mac k x = B := hB
  obtain ⟨I', hI'⟩ : ∃ I', V.world.maced k x = I' := ⟨_, rfl⟩
  have hsk : k.length + x.length ≤ 1099511627000 := by omega
  subst hV
  refine calls_w (vs := [.pointer (some ⟨p, 0, none⟩), .agg (bvs k).toArray, .slice A m cap]) Try.func18 rfl rfl rfl ?_ w H
  (repeat' (first
      | ((with_reducible refine at_storeO ?_); with_reducible refine owk0 (ow_storeAll (ev_tmp rfl) (ev_tmp rfl) hB1 hBl upd_auto hz) ?_)
      | (with_reducible refine is_owkc ?_; first | refine owk_i1 (ev_tmp rfl) evs_auto (meth_Mac _) (by kernel_rfl) pick_auto (fun w H => i_mac rds_auto hpt hx hsk hB' hI' H) ?_)
      | (with_reducible refine at_load ?_; first | refine yk (y_load (ev_tmp rfl) (hasCell_bl has_auto h0)) ?_)
      | (with_reducible refine at_nilCheck ?_; first | refine yk (y_nilCheckI (ev_tmp rfl)) ?_)
      | (with_reducible refine is_w ?_; first | refine w_plan (id := 3) [(0, true), (1, true), (2, true), (3, true), (4, true), (5, true), (6, true), (7, true), (8, false), (9, false)] [Bl p _ _] (by kernel_rfl) (by kernel_rfl) sel_auto ?_)
      | (with_reducible refine is_yk ?_; refine yk_auto (k := ?_))
      | (with_reducible refine is_owk0 ?_; refine owk0_auto (k := ?_))
      | (with_reducible refine is_owkc ?_; refine owk_auto (k := fun _ => ?_))
      | refine go1 (k := ?_)
      | (refine go2 (ka := ?_) (kb := ?_) <;> intro _)
      | fail))
  exact x_retC rfl rfl has_auto hBl (fun w H => ⟨rfl, St.shutV (V := V.maced k x) (q := q) (um := um) hm (by rw [show (V.maced k x).world = I' from hI']; exact Sel.st sel_auto H)⟩)
set_option maxRecDepth 100000 in
theorem v_key {a : Bs} {ns : List Int} {A : Option Addr} {m cap : Nat} {B : Bs} {V' : VaultM} {sv : Value} (hsv : sv = str a) (hr : HasR (St c F) (.slice A m cap) m (i64s ns)) (ha : a.length ≤ 1048576) (hn : ns.length ≤ 1048576) (hB : V.key a ns = B) (hV : V.keyed a ns = V')
    (H : St c (VaultAt p V :: F) w) : Calls Try.prog 13 #[.pointer (some ⟨p, 0, none⟩), sv, .slice A m cap] w fun e w' => e = .returned (.agg (bvs B).toArray) ∧ St c (VaultAt p V' :: F) w' := by
  obtain ⟨hm, q, um, H⟩ := H.openV
  have h0 := vc0 (q := q) (um := um) (V := V)
  have hBl : (bvs B).length = 32 := by rw [bvs_length, ← hB]; exact make32 _ _ _
  have hB1 := bvs_oneCell B
  have hz : (List.replicate 32 (Value.int .u8 0)).length = 32 := rfl
  obtain ⟨x1, hx1⟩ : ∃ x1, [] ++ [a].flatMap text3 = x1 := ⟨_, rfl⟩
  obtain ⟨x, hx⟩ : ∃ x, x1 ++ ns.flatMap num8 = x := ⟨_, rfl⟩
  have hxk : VaultM.keyIn a ns = x := by rw [← hx, ← hx1]; simp [VaultM.keyIn]
  have hl1 : x1.length = a.length + 3 := by rw [← hx1]; simp [text3_length]
  have hfl : ∀ l : List Int, (l.flatMap num8).length = l.length * 8 := fun l => by
    induction l with
    | nil => rfl
    | cons n l ih => simp [num8_length, ih]; omega
  have hl : x.length = a.length + 3 + ns.length * 8 := by rw [← hx, List.length_append, hl1, hfl]
  have hs1 : x1.length ≤ 1099511627776 := by omega
  have hs2 : x.length ≤ 1099511627776 := by omega
  have hs3 : ∀ s ∈ [a], s.length < 16777216 := fun s hs => by rw [List.mem_singleton.1 hs]; omega
  obtain ⟨k, hk⟩ : ∃ k, x.length = k := ⟨_, rfl⟩
  have hk2 : k ≤ 1099511627776 := by omega
  have hxx : [x].flatMap id = x := by simp
  have hsk : V.master.length + x.length ≤ 1099511627000 := by omega
  have hB' : V.world.derive V.master x = B := by rw [← hxk]; exact hB
  obtain ⟨I', hI'⟩ : ∃ I', V.world.derived V.master x = I' := ⟨_, rfl⟩
  have hw' : (V.keyed a ns).world = I' := by rw [← hI', ← hxk]; rfl
  have hrt : ∀ {X Y Z U : HP}, HasR (St c (X :: Y :: Z :: U :: F)) (.slice A m cap) m (i64s ns) := hasR_tl (hasR_tl (hasR_tl (hasR_tl hr)))
  subst hV hsv
  refine calls_w (vs := [.pointer (some ⟨p, 0, none⟩), str a, .slice A m cap]) Try.func13 rfl rfl rfl ?_ w H
  (repeat' (first
      | ((with_reducible refine at_fn 25 ?_); with_reducible refine owk_c1 (A := Bl _ 69 _) evs_auto (by kernel_rfl) pick_auto (fun w H => w_text (hasR_oneS a) hx1 hs1 hs3 H.newWr) ?_)
      | ((with_reducible refine at_fn 26 ?_); with_reducible refine owk_c1 evs_auto (by kernel_rfl) pick_auto (fun w H => w_num rds_auto hx hs2 H) ?_)
      | ((with_reducible refine at_fn 27 ?_); with_reducible refine owk_c1x evs_auto (by kernel_rfl) pick_auto (fun w H => w_bytes hk hk2 H) (fun s => ?_))
      | ((with_reducible refine at_storeO ?_); with_reducible refine owk0 (ow_storeAll (ev_tmp rfl) (ev_tmp rfl) hB1 hBl upd_auto hz) ?_)
      | (with_reducible refine is_owkc ?_; first | refine owk_i1 (ev_tmp rfl) evs_auto (meth_Derive _) (by kernel_rfl) pick_auto (fun w H => i_derive (by (repeat (first | exact hasR_master hm | refine hasR_tl ?_)); (first | done | fail)) (ps_own1 hk) hxx hsk hB' hI' H) ?_)
      | (with_reducible refine at_load ?_; first | refine yk (y_load (ev_tmp rfl) (hasCell_bl has_auto h0)) ?_)
      | (with_reducible refine at_nilCheck ?_; first | refine yk (y_nilCheckI (ev_tmp rfl)) ?_)
      | (with_reducible refine is_w ?_; first | refine w_plan (id := 6) [(0, true), (1, true), (2, true), (3, true), (4, true), (5, true), (6, true), (7, true), (8, true), (11, true), (12, true), (9, false), (10, false), (13, false), (14, false)] [Bl p _ _] (by kernel_rfl) (by kernel_rfl) sel_auto ?_)
      | (with_reducible refine is_yk ?_; refine yk_auto (k := ?_))
      | (with_reducible refine is_owk0 ?_; refine owk0_auto (k := ?_))
      | (with_reducible refine is_owkc ?_; refine owk_auto (k := fun _ => ?_))
      | refine go1 (k := ?_)
      | (refine go2 (ka := ?_) (kb := ?_) <;> intro _)
      | fail))
  exact x_retC rfl rfl has_auto hBl (fun w H => ⟨rfl, St.shutV (V := V.keyed a ns) (q := q) (um := um) hm (by rw [hw']; exact Sel.st sel_auto H)⟩)
end
end Go.Proofs.Ytjofjkjghakcoaa

/- The vault (package vault): Seal. -/
namespace Go.Proofs.Ytjofjkjghakcoaa
open Go.RowKit
namespace VaultM
def sealB (V : VaultM) (k : Bs) (e s : Int) (text x : Bs) : Bs := V.world.sealB k (nonceB e s) text x
def clash' (V : VaultM) (k : Bs) (e s : Int) (text : Bs) : Int := match getM V.used (key44 (k ++ nonceB e s)) with
  | some t => if t = text then V.clash else IntKind.i64.wrap (V.clash + 1)
  | none => V.clash
def sealed (V : VaultM) (k : Bs) (e s : Int) (text x : Bs) : VaultM := { world := V.world.sealed k (nonceB e s) text x, master := V.master, limit := V.limit, used := setM V.used (key44 (k ++ nonceB e s)) text, clash := V.clash' k e s text }
def opened (V : VaultM) (k : Bs) (e s : Int) (b x : Bs) : Option Bs := V.world.opened k (nonceB e s) b x
end VaultM
theorem look_used (V : VaultM) (k : Bs) (e s : Int) (text : Bs) : ∃ (t : Bs) (b : Bool), (Value.tuple #[((getM V.used (key44 (k ++ nonceB e s))).map str).getD (str []), .bool (getM V.used (key44 (k ++ nonceB e s))).isSome]) = .tuple #[str t, .bool b] ∧
    (b = false → V.clash' k e s text = V.clash) ∧ (b = true → V.clash' k e s text = if t = text then V.clash else IntKind.i64.wrap (V.clash + 1)) := by
  unfold VaultM.clash'
  cases h : getM V.used (key44 (k ++ nonceB e s)) with
  | none => exact ⟨[], false, rfl, fun _ => rfl, fun e => (by cases e)⟩
  | some v => exact ⟨v, true, rfl, fun e => (by cases e), fun _ => rfl⟩
theorem w_openV {c : Con} {p : Nat} {V : VaultM} {P : Program} {N : Nat} {Q : Exit → Act → World → Prop} {x : Code} {E : Env} {L F : List HP} (hp : Pick L (VaultAt p V) F) (h : V.master.length = 32 → ∀ q um, W P N c Q x E (Bl p 54 (vcells1 q um V) :: IdealAt q V.world :: Mp (encB 44) str um V.used :: F)) : W P N c Q x E L := fun a w hf H => by
  obtain ⟨hm, m, t, H'⟩ := (hp.st H).openV
  exact h hm m t a w hf H'
attribute [local irreducible] Y OW YK OWK W WL WP X CV GvL GvP Ev Evs HasCell HasCells Has Met Again Kept
section
variable {c : Con} {F : List HP} {w : World} {p : Nat} {V : VaultM}
set_option maxRecDepth 100000 in
theorem v_seal_bad {k : Bs} {e s r : Int} {A3 A : Option Addr} {n3 k3 m cap : Nat} (hr : V.may e s = r) (h0 : r ≠ 0) (H : St c (VaultAt p V :: F) w) : Calls Try.prog 11 #[.pointer (some ⟨p, 0, none⟩), .agg (bvs k).toArray, .int .i64 e, .int .i64 s, .slice A3 n3 k3, .slice A m cap] w fun x w' =>
    x = .returned (.tuple #[.slice none 0 0, .int .i64 r]) ∧ St c (VaultAt p V :: F) w' := by
  refine calls_w (vs := [.pointer (some ⟨p, 0, none⟩), .agg (bvs k).toArray, .int .i64 e, .int .i64 s, .slice A3 n3 k3, .slice A m cap]) Try.func11 rfl rfl rfl ?_ w H
  (repeat' (first
      | ((with_reducible refine at_fn 23 ?_); with_reducible refine owk_c1 evs_auto (by kernel_rfl) pick_auto (fun w H => v_may hr H) ?_)
      | (with_reducible refine is_yk ?_; refine yk_auto (k := ?_))
      | (with_reducible refine is_owk0 ?_; refine owk0_auto (k := ?_))
      | (with_reducible refine is_owkc ?_; refine owk_auto (k := fun _ => ?_))
      | refine go1 (k := ?_)
      | (refine go2 (ka := ?_) (kb := ?_) <;> intro _)
      | fail))
  exact x_ret2 rfl rfl rfl (fun w H => ⟨rfl, Sel.st sel_auto H⟩)
set_option maxRecDepth 100000 in
theorem v_open_bad {k : Bs} {e s r : Int} {A3 A : Option Addr} {n3 k3 m cap : Nat} (hr : V.may e s = r) (h0 : r ≠ 0) (H : St c (VaultAt p V :: F) w) : Calls Try.prog 12 #[.pointer (some ⟨p, 0, none⟩), .agg (bvs k).toArray, .int .i64 e, .int .i64 s, .slice A3 n3 k3, .slice A m cap] w fun x w' =>
    x = .returned (.tuple #[.slice none 0 0, .int .i64 r]) ∧ St c (VaultAt p V :: F) w' := by
  refine calls_w (vs := [.pointer (some ⟨p, 0, none⟩), .agg (bvs k).toArray, .int .i64 e, .int .i64 s, .slice A3 n3 k3, .slice A m cap]) Try.func12 rfl rfl rfl ?_ w H
  (repeat' (first
      | ((with_reducible refine at_fn 23 ?_); with_reducible refine owk_c1 evs_auto (by kernel_rfl) pick_auto (fun w H => v_may hr H) ?_)
      | (with_reducible refine is_yk ?_; refine yk_auto (k := ?_))
      | (with_reducible refine is_owk0 ?_; refine owk0_auto (k := ?_))
      | (with_reducible refine is_owkc ?_; refine owk_auto (k := fun _ => ?_))
      | refine go1 (k := ?_)
      | (refine go2 (ka := ?_) (kb := ?_) <;> intro _)
      | fail))
  exact x_ret2 rfl rfl rfl (fun w H => ⟨rfl, Sel.st sel_auto H⟩)
theorem may_range {e s : Int} (h : V.may e s = 0) : 0 ≤ e ∧ e < 4294967296 ∧ 0 ≤ s ∧ s < V.limit := by
  unfold VaultM.may at h
  split at h
  · cases h
  · split at h
    · cases h
    · omega
set_option maxRecDepth 100000 in
theorem v_seal {k text x : Bs} {e s : Int} {ps : List Bs} {A3 A : Option Addr} {n3 k3 m cap j : Nat} {B : Bs} {V' : VaultM} (hr : V.may e s = 0) (hk : k.length = 32) (htext : HasR (St c F) (.slice A3 n3 k3) n3 (bvs text)) (hp : Ps (St c F) (.slice A m cap) ps) (hx : ps.flatMap id = x)
    (hs1 : text.length ≤ 1048576) (hs2 : x.length ≤ 1048576) (hB : V.sealB k e s text x = B) (hV : V.sealed k e s text x = V') (hj : n3 + 16 = j) (H : St c (VaultAt p V :: F) w) :
    Calls Try.prog 11 #[.pointer (some ⟨p, 0, none⟩), .agg (bvs k).toArray, .int .i64 e, .int .i64 s, .slice A3 n3 k3, .slice A m cap] w fun y w' =>
    ∃ r : Nat, y = .returned (.tuple #[.slice (some ⟨r, 0, none⟩) j j, .int .i64 0]) ∧ St c (Bl r 5 (bvs B) :: VaultAt p V' :: F) w' := by
  obtain ⟨he0, he1, -, -⟩ := may_range hr
  have hkl : (bvs k).length = 32 := by rw [bvs_length, hk]
  obtain ⟨n, hn⟩ : ∃ n, nonceB e s = n := ⟨_, rfl⟩
  have hnl : n.length = 12 := by rw [← hn]; exact nonceB_length _ _
  have hnv : (bvs n).length = 12 := by rw [bvs_length, hnl]
  have hn1 := bvs_oneCell n
  have hz : ([Value.int .u8 0, Value.int .u8 0, Value.int .u8 0, Value.int .u8 0, Value.int .u8 0, Value.int .u8 0, Value.int .u8 0, Value.int .u8 0, Value.int .u8 0, Value.int .u8 0, Value.int .u8 0, Value.int .u8 0]).length = 12 := rfl
  have hB' : V.world.sealB k n text x = B := by rw [← hn]; exact hB
  obtain ⟨I', hI'⟩ : ∃ I', V.world.sealed k n text x = I' := ⟨_, rfl⟩
  have hkn : k.length + n.length ≤ 1099500000000 := by omega
  obtain ⟨t0, b0, hl0, hc1, hc2⟩ := look_used V k e s text
  have hV' : V' = { world := I', master := V.master, limit := V.limit, used := setM V.used (key44 (k ++ n)) text, clash := V.clash' k e s text } := by rw [← hV, ← hI', ← hn]; rfl
  rw [hn] at hl0
  have hnn : ∀ {c : Con} {F : List HP} {w : World}, St c F w → Calls Try.prog 24 #[.int .i64 e, .int .i64 s] w fun x w' => x = .returned (.agg (bvs n).toArray) ∧ St c F w' := fun H => by rw [← hn]; exact v_nonce e s ⟨he0, he1⟩ H
  refine calls_w (vs := [.pointer (some ⟨p, 0, none⟩), .agg (bvs k).toArray, .int .i64 e, .int .i64 s, .slice A3 n3 k3, .slice A m cap]) Try.func11 rfl rfl rfl ?_ w H
  (repeat' (first
      | ((with_reducible refine at_fn 23 ?_); with_reducible refine owk_c1 evs_auto (by kernel_rfl) pick_auto (fun w H => v_may hr H) ?_)
      | ((with_reducible refine at_fn 24 ?_); with_reducible refine owk_c0s evs_auto (by kernel_rfl) (fun w H => hnn H) ?_)
      | ((with_reducible refine at_storeO ?_); with_reducible refine owk0 (ow_storeAll (ev_tmp rfl) (ev_tmp rfl) hn1 hnv upd_auto hz) ?_)
      | (with_reducible refine is_w ?_; first | refine w_stopR (id := 5) ?_)
      | (with_reducible refine is_yk ?_; refine yk_auto (k := ?_))
      | (with_reducible refine is_owk0 ?_; refine owk0_auto (k := ?_))
      | (with_reducible refine is_owkc ?_; refine owk_auto (k := fun _ => ?_))
      | refine go1 (k := ?_)
      | (refine go2 (ka := ?_) (kb := ?_) <;> intro _)
      | fail))
  unfold Stop
  refine w_openV pick_auto (fun hm q um => ?_)
  have h0 := vc0 (q := q) (um := um) (V := V)
  have h34 := vc34 (q := q) (um := um) hm
  have h35 := vc35 (q := q) (um := um) hm
  (repeat' (first
      | (with_reducible refine is_owkc ?_; first | refine owk_i1x (ev_tmp rfl) evs_auto (meth_Seal _) (by kernel_rfl) pick_auto (fun w H => i_seal rds_auto rds_auto rds_auto (by (repeat (first | exact hp | refine Ps.tl ?_)); (first | done | fail)) hx hkn hs1 hs2 hB' hI' hj H) (fun r => ?_))
      | (with_reducible refine at_load ?_; first | refine yk (y_load (ev_tmp rfl) (hasCell_bl has_auto h0)) ?_ | refine yk (y_load (ev_tmp rfl) (hasCell_bl has_auto h34)) ?_ | refine yk (y_loadN (ev_tmp rfl) (hasCells_all has_auto) hkl) ?_ | refine yk (y_loadN (ev_tmp rfl) (hasCells_all has_auto) hnv) ?_)
      | (with_reducible refine at_nilCheck ?_; first | refine yk (y_nilCheckI (ev_tmp rfl)) ?_)
      | (with_reducible refine at_conv ?_; first | refine yk (y_str (n := n3) (l := text) (ev_tmp rfl) rds_auto) ?_)
      | (with_reducible refine at_build ?_; first | refine yk (y_buildPlace (ev_tmp rfl) (ev_tmp rfl) hk hnl) ?_)
      | (with_reducible refine at_lookup ?_; first | refine yk_eq (y_lookup2 (encK := encB 44) (encV := str) (k := key44 (k ++ n)) (l := V.used) (ev_tmp rfl) (ev_tmp rfl) rfl (by (repeat (first | exact hasM_hd | refine hasM_tl ?_)); (first | done | fail))) hl0 ?_)
      | (with_reducible refine is_w ?_; first | refine w_plan (id := 5) [(0, true), (1, true), (2, true), (3, true), (4, true), (5, true), (6, true), (7, true), (8, true), (9, true), (10, false), (11, false), (12, true), (13, true), (14, false), (15, false)] [Bl p _ _] (by kernel_rfl) (by kernel_rfl) sel_auto ?_ | refine w_plan (id := 9) [(0, true), (1, true), (2, true), (3, true), (4, true), (5, true), (6, true), (7, false), (8, false), (9, true), (10, true), (11, false), (12, false)] _ (by kernel_rfl) (by kernel_rfl) sel_all ?_ | refine w_stopR (id := 10) ?_)
      | (with_reducible refine is_yk ?_; refine yk_auto (k := ?_))
      | (with_reducible refine is_owk0 ?_; refine owk0_auto (k := ?_))
      | (with_reducible refine is_owkc ?_; refine owk_auto (k := fun _ => ?_))
      | refine go1 (k := ?_)
      | (refine go2 (ka := ?_) (kb := ?_) <;> intro _)
      | fail))
  unfold Stop
  by_cases hsame : b0 = false ∨ t0 = text
  · have hcl : V.clash' k e s text = V.clash := by
      cases b0 with
      | false => exact hc1 rfl
      | true => rw [hc2 rfl, if_pos (hsame.resolve_left (by decide))]
    have hvc : vcells1 q um V = vcells1 q um ⟨I', V.master, V.limit, setM V.used (key44 (k ++ n)) text, V.clash⟩ := rfl
    have hgo : b0 = false ∨ (b0 = true ∧ t0 = text) := by
      cases b0 with
      | false => exact .inl rfl
      | true => exact .inr ⟨rfl, hsame.resolve_left (by decide)⟩
    rcases hgo with hb | ⟨hb, ht⟩
    · subst hb
      (repeat' (first
      | ((with_reducible refine at_mapUpdateO ?_); with_reducible refine owk0 (ow_mapUpdate (encK := encB 44) (encV := str) (k := key44 (k ++ n)) (v := text) (l := V.used) (ev_tmp rfl) (ev_tmp rfl) (ev_tmp rfl) pick_auto rfl rfl) ?_)
      | (with_reducible refine at_load ?_; first | refine yk (y_load (ev_tmp rfl) (hasCell_bl has_auto h34)) ?_ | refine yk (y_loadN (ev_tmp rfl) (hasCells_all has_auto) hkl) ?_ | refine yk (y_loadN (ev_tmp rfl) (hasCells_all has_auto) hnv) ?_)
      | (with_reducible refine at_build ?_; first | refine yk (y_buildPlace (ev_tmp rfl) (ev_tmp rfl) hk hnl) ?_)
      | (with_reducible refine is_w ?_; first | refine w_plan (id := 12) [(0, true), (1, true), (2, true), (3, true), (4, true), (5, true), (6, true), (7, true), (8, false)] _ (by kernel_rfl) (by kernel_rfl) sel_all ?_)
      | (with_reducible refine is_yk ?_; refine yk_auto (k := ?_))
      | (with_reducible refine is_owk0 ?_; refine owk0_auto (k := ?_))
      | (with_reducible refine is_owkc ?_; refine owk_auto (k := fun _ => ?_))
      | refine go1 (k := ?_)
      | (refine go2 (ka := ?_) (kb := ?_) <;> intro _)
      | fail))
      exact x_ret2 rfl rfl rfl (fun w H => ⟨_, rfl, by rw [hV', hcl]; exact (St.shutV (F := Bl _ _ _ :: F) (V := ⟨I', V.master, V.limit, setM V.used (key44 (k ++ n)) text, V.clash⟩) (q := q) (um := um) hm (Sel.st sel_auto H)).swap⟩)
    · subst hb ht
      (repeat' (first
      | ((with_reducible refine at_mapUpdateO ?_); with_reducible refine owk0 (ow_mapUpdate (encK := encB 44) (encV := str) (k := key44 (k ++ n)) (v := t0) (l := V.used) (ev_tmp rfl) (ev_tmp rfl) (ev_tmp rfl) pick_auto rfl rfl) ?_)
      | (with_reducible refine at_load ?_; first | refine yk (y_load (ev_tmp rfl) (hasCell_bl has_auto h34)) ?_ | refine yk (y_loadN (ev_tmp rfl) (hasCells_all has_auto) hkl) ?_ | refine yk (y_loadN (ev_tmp rfl) (hasCells_all has_auto) hnv) ?_)
      | (with_reducible refine at_build ?_; first | refine yk (y_buildPlace (ev_tmp rfl) (ev_tmp rfl) hk hnl) ?_)
      | (with_reducible refine is_w ?_; first | refine w_plan (id := 12) [(0, true), (1, true), (2, true), (3, true), (4, true), (5, true), (6, true), (7, true), (8, false)] _ (by kernel_rfl) (by kernel_rfl) sel_all ?_)
      | (with_reducible refine is_yk ?_; refine yk_auto (k := ?_))
      | (with_reducible refine is_owk0 ?_; refine owk0_auto (k := ?_))
      | (with_reducible refine is_owkc ?_; refine owk_auto (k := fun _ => ?_))
      | refine go1 (k := ?_)
      | (refine go2 (ka := ?_) (kb := ?_) <;> intro _)
      | fail))
      exact x_ret2 rfl rfl rfl (fun w H => ⟨_, rfl, by rw [hV', hcl]; exact (St.shutV (F := Bl _ _ _ :: F) (V := ⟨I', V.master, V.limit, setM V.used (key44 (k ++ n)) t0, V.clash⟩) (q := q) (um := um) hm (Sel.st sel_auto H)).swap⟩)
  · have hb : b0 = true := by cases b0 with | false => exact absurd (.inl rfl) hsame | true => rfl
    have ht : ¬ t0 = text := fun h => hsame (.inr h)
    have hcl : V.clash' k e s text = IntKind.i64.wrap (V.clash + 1) := by rw [hc2 hb, if_neg ht]
    subst hb
    have h34' := vc34 (q := q) (um := um) (V := { V with clash := IntKind.i64.wrap (V.clash + 1) }) hm
    have hvl := vc_length (q := q) (um := um) hm
    (repeat' (first
      | (with_reducible refine at_load ?_; first | refine yk (y_load (ev_tmp rfl) (hasCell_bl has_auto h35)) ?_)
      | (with_reducible refine at_bin ?_; first | refine yk (y_add (ev_tmp rfl) ev_const) ?_)
      | (with_reducible refine is_w ?_; first | refine w_stopR (id := 12) ?_)
      | (with_reducible refine is_yk ?_; refine yk_auto (k := ?_))
      | (with_reducible refine is_owk0 ?_; refine owk0_auto (k := ?_))
      | (with_reducible refine is_owkc ?_; refine owk_auto (k := fun _ => ?_))
      | refine go1 (k := ?_)
      | (refine go2 (ka := ?_) (kb := ?_) <;> intro _)
      | fail))
    unfold Stop
    rw [vc_clash hm]
    (repeat' (first
      | ((with_reducible refine at_mapUpdateO ?_); with_reducible refine owk0 (ow_mapUpdate (encK := encB 44) (encV := str) (k := key44 (k ++ n)) (v := text) (l := V.used) (ev_tmp rfl) (ev_tmp rfl) (ev_tmp rfl) pick_auto rfl rfl) ?_)
      | (with_reducible refine at_load ?_; first | refine yk (y_load (ev_tmp rfl) (hasCell_bl has_auto h34')) ?_ | refine yk (y_loadN (ev_tmp rfl) (hasCells_all has_auto) hkl) ?_ | refine yk (y_loadN (ev_tmp rfl) (hasCells_all has_auto) hnv) ?_)
      | (with_reducible refine at_build ?_; first | refine yk (y_buildPlace (ev_tmp rfl) (ev_tmp rfl) hk hnl) ?_)
      | (with_reducible refine is_w ?_; first | refine w_plan (id := 12) [(0, true), (1, true), (2, true), (3, true), (4, true), (5, true), (6, true), (7, true), (8, false)] _ (by kernel_rfl) (by kernel_rfl) sel_all ?_)
      | (with_reducible refine is_yk ?_; refine yk_auto (k := ?_))
      | (with_reducible refine is_owk0 ?_; refine owk0_auto (k := ?_))
      | (with_reducible refine is_owkc ?_; refine owk_auto (k := fun _ => ?_))
      | refine go1 (k := ?_)
      | (refine go2 (ka := ?_) (kb := ?_) <;> intro _)
      | fail))
    exact x_ret2 rfl rfl rfl (fun w H => ⟨_, rfl, by rw [hV', hcl]; exact (St.shutV (F := Bl _ _ _ :: F) (V := ⟨I', V.master, V.limit, setM V.used (key44 (k ++ n)) text, IntKind.i64.wrap (V.clash + 1)⟩) (q := q) (um := um) hm (Sel.st sel_auto H)).swap⟩)
end
end Go.Proofs.Ytjofjkjghakcoaa

/- The vault (package vault): Open. -/
namespace Go.Proofs.Ytjofjkjghakcoaa
open Go.RowKit
attribute [local irreducible] Y OW YK OWK W WL WP X CV GvL GvP Ev Evs HasCell HasCells Has Met Again Kept
section
variable {c : Con} {F : List HP} {w : World} {p : Nat} {V : VaultM}
set_option maxRecDepth 100000 in
theorem v_open {k b x : Bs} {e s : Int} {ps : List Bs} {A3 A : Option Addr} {n3 k3 m cap : Nat} {t : Bs} (hr : V.may e s = 0) (hk : k.length = 32) (hb : HasR (St c F) (.slice A3 n3 k3) n3 (bvs b)) (hp : Ps (St c F) (.slice A m cap) ps) (hx : ps.flatMap id = x)
    (hs : b.length + x.length ≤ 1099490000000) (ht : V.opened k e s b x = some t) (htl : t.length ≤ 9223372036854775807) (H : St c (VaultAt p V :: F) w) :
    Calls Try.prog 12 #[.pointer (some ⟨p, 0, none⟩), .agg (bvs k).toArray, .int .i64 e, .int .i64 s, .slice A3 n3 k3, .slice A m cap] w fun y w' =>
    ∃ r : { r : Nat × Nat // t.length ≤ r.2 ∧ r.2 ≤ 9223372036854775807 }, y = .returned (.tuple #[.slice (some ⟨r.1.1, 0, none⟩) t.length r.1.2, .int .i64 0]) ∧ St c (BytesP r.1.1 r.1.2 5 t :: VaultAt p V :: F) w' := by
  obtain ⟨he0, he1, -, -⟩ := may_range hr
  have hkl : (bvs k).length = 32 := by rw [bvs_length, hk]
  obtain ⟨n, hn⟩ : ∃ n, nonceB e s = n := ⟨_, rfl⟩
  have hnl : n.length = 12 := by rw [← hn]; exact nonceB_length _ _
  have hnv : (bvs n).length = 12 := by rw [bvs_length, hnl]
  have hn1 := bvs_oneCell n
  have hz : ([Value.int .u8 0, Value.int .u8 0, Value.int .u8 0, Value.int .u8 0, Value.int .u8 0, Value.int .u8 0, Value.int .u8 0, Value.int .u8 0, Value.int .u8 0, Value.int .u8 0, Value.int .u8 0, Value.int .u8 0]).length = 12 := rfl
  have ht' : V.world.opened k n b x = some t := by rw [← hn]; exact ht
  have hkn : k.length + n.length + b.length + x.length ≤ 1099500000000 := by omega
  have hnn : ∀ {c : Con} {F : List HP} {w : World}, St c F w → Calls Try.prog 24 #[.int .i64 e, .int .i64 s] w fun x w' => x = .returned (.agg (bvs n).toArray) ∧ St c F w' := fun H => by rw [← hn]; exact v_nonce e s ⟨he0, he1⟩ H
  refine calls_w (vs := [.pointer (some ⟨p, 0, none⟩), .agg (bvs k).toArray, .int .i64 e, .int .i64 s, .slice A3 n3 k3, .slice A m cap]) Try.func12 rfl rfl rfl ?_ w H
  (repeat' (first
      | ((with_reducible refine at_fn 23 ?_); with_reducible refine owk_c1 evs_auto (by kernel_rfl) pick_auto (fun w H => v_may hr H) ?_)
      | ((with_reducible refine at_fn 24 ?_); with_reducible refine owk_c0s evs_auto (by kernel_rfl) (fun w H => hnn H) ?_)
      | ((with_reducible refine at_storeO ?_); with_reducible refine owk0 (ow_storeAll (ev_tmp rfl) (ev_tmp rfl) hn1 hnv upd_auto hz) ?_)
      | (with_reducible refine is_w ?_; first | refine w_stopR (id := 5) ?_)
      | (with_reducible refine is_yk ?_; refine yk_auto (k := ?_))
      | (with_reducible refine is_owk0 ?_; refine owk0_auto (k := ?_))
      | (with_reducible refine is_owkc ?_; refine owk_auto (k := fun _ => ?_))
      | refine go1 (k := ?_)
      | (refine go2 (ka := ?_) (kb := ?_) <;> intro _)
      | fail))
  unfold Stop
  refine w_openV pick_auto (fun hm q um => ?_)
  have h0 := vc0 (q := q) (um := um) (V := V)
  (repeat' (first
      | (with_reducible refine is_owkc ?_; first | refine owk_i1x (ev_tmp rfl) evs_auto (meth_Open _) (by kernel_rfl) pick_auto (fun w H => i_open rds_auto rds_auto rds_auto (by (repeat (first | exact hp | refine Ps.tl ?_)); (first | done | fail)) hx hkn ht' htl H) (fun r => ?_))
      | (with_reducible refine at_load ?_; first | refine yk (y_load (ev_tmp rfl) (hasCell_bl has_auto h0)) ?_)
      | (with_reducible refine at_nilCheck ?_; first | refine yk (y_nilCheckI (ev_tmp rfl)) ?_)
      | (with_reducible refine is_w ?_; first | refine w_plan (id := 5) [(0, true), (1, true), (2, true), (3, true), (4, true), (5, true), (6, true), (7, true), (8, true), (9, true), (10, false), (11, false), (12, true), (13, true), (14, false), (15, false)] [Bl p _ _] (by kernel_rfl) (by kernel_rfl) sel_auto ?_)
      | (with_reducible refine is_yk ?_; refine yk_auto (k := ?_))
      | (with_reducible refine is_owk0 ?_; refine owk0_auto (k := ?_))
      | (with_reducible refine is_owkc ?_; refine owk_auto (k := fun _ => ?_))
      | refine go1 (k := ?_)
      | (refine go2 (ka := ?_) (kb := ?_) <;> intro _)
      | fail))
  exact x_ret2 rfl rfl rfl (fun w H => ⟨_, rfl, (St.shutV (F := BytesP _ _ _ _ :: F) (q := q) (um := um) hm (Sel.st sel_auto H)).swap⟩)
set_option maxRecDepth 100000 in
theorem v_open_none {k b x : Bs} {e s : Int} {ps : List Bs} {A3 A : Option Addr} {n3 k3 m cap : Nat} (hr : V.may e s = 0) (hk : k.length = 32) (hb : HasR (St c F) (.slice A3 n3 k3) n3 (bvs b)) (hp : Ps (St c F) (.slice A m cap) ps) (hx : ps.flatMap id = x)
    (hs : b.length + x.length ≤ 1099490000000) (ht : V.opened k e s b x = none) (H : St c (VaultAt p V :: F) w) :
    Calls Try.prog 12 #[.pointer (some ⟨p, 0, none⟩), .agg (bvs k).toArray, .int .i64 e, .int .i64 s, .slice A3 n3 k3, .slice A m cap] w fun y w' =>
    y = .returned (.tuple #[.slice none 0 0, .int .i64 9]) ∧ St c (VaultAt p V :: F) w' := by
  obtain ⟨he0, he1, -, -⟩ := may_range hr
  have hkl : (bvs k).length = 32 := by rw [bvs_length, hk]
  obtain ⟨n, hn⟩ : ∃ n, nonceB e s = n := ⟨_, rfl⟩
  have hnl : n.length = 12 := by rw [← hn]; exact nonceB_length _ _
  have hnv : (bvs n).length = 12 := by rw [bvs_length, hnl]
  have hn1 := bvs_oneCell n
  have hz : ([Value.int .u8 0, Value.int .u8 0, Value.int .u8 0, Value.int .u8 0, Value.int .u8 0, Value.int .u8 0, Value.int .u8 0, Value.int .u8 0, Value.int .u8 0, Value.int .u8 0, Value.int .u8 0, Value.int .u8 0]).length = 12 := rfl
  have ht' : V.world.opened k n b x = none := by rw [← hn]; exact ht
  have hkn : k.length + n.length + b.length + x.length ≤ 1099500000000 := by omega
  have hnn : ∀ {c : Con} {F : List HP} {w : World}, St c F w → Calls Try.prog 24 #[.int .i64 e, .int .i64 s] w fun x w' => x = .returned (.agg (bvs n).toArray) ∧ St c F w' := fun H => by rw [← hn]; exact v_nonce e s ⟨he0, he1⟩ H
  refine calls_w (vs := [.pointer (some ⟨p, 0, none⟩), .agg (bvs k).toArray, .int .i64 e, .int .i64 s, .slice A3 n3 k3, .slice A m cap]) Try.func12 rfl rfl rfl ?_ w H
  (repeat' (first
      | ((with_reducible refine at_fn 23 ?_); with_reducible refine owk_c1 evs_auto (by kernel_rfl) pick_auto (fun w H => v_may hr H) ?_)
      | ((with_reducible refine at_fn 24 ?_); with_reducible refine owk_c0s evs_auto (by kernel_rfl) (fun w H => hnn H) ?_)
      | ((with_reducible refine at_storeO ?_); with_reducible refine owk0 (ow_storeAll (ev_tmp rfl) (ev_tmp rfl) hn1 hnv upd_auto hz) ?_)
      | (with_reducible refine is_w ?_; first | refine w_stopR (id := 5) ?_)
      | (with_reducible refine is_yk ?_; refine yk_auto (k := ?_))
      | (with_reducible refine is_owk0 ?_; refine owk0_auto (k := ?_))
      | (with_reducible refine is_owkc ?_; refine owk_auto (k := fun _ => ?_))
      | refine go1 (k := ?_)
      | (refine go2 (ka := ?_) (kb := ?_) <;> intro _)
      | fail))
  unfold Stop
  refine w_openV pick_auto (fun hm q um => ?_)
  have h0 := vc0 (q := q) (um := um) (V := V)
  (repeat' (first
      | (with_reducible refine is_owkc ?_; first | refine owk_i1 (ev_tmp rfl) evs_auto (meth_Open _) (by kernel_rfl) pick_auto (fun w H => i_open_none rds_auto rds_auto rds_auto (by (repeat (first | exact hp | refine Ps.tl ?_)); (first | done | fail)) hx hkn ht' H) ?_)
      | (with_reducible refine at_load ?_; first | refine yk (y_load (ev_tmp rfl) (hasCell_bl has_auto h0)) ?_)
      | (with_reducible refine at_nilCheck ?_; first | refine yk (y_nilCheckI (ev_tmp rfl)) ?_)
      | (with_reducible refine is_w ?_; first | refine w_plan (id := 5) [(0, true), (1, true), (2, true), (3, true), (4, true), (5, true), (6, true), (7, true), (8, true), (9, true), (10, false), (11, false), (12, true), (13, true), (14, false), (15, false)] [Bl p _ _] (by kernel_rfl) (by kernel_rfl) sel_auto ?_)
      | (with_reducible refine is_yk ?_; refine yk_auto (k := ?_))
      | (with_reducible refine is_owk0 ?_; refine owk0_auto (k := ?_))
      | (with_reducible refine is_owkc ?_; refine owk_auto (k := fun _ => ?_))
      | refine go1 (k := ?_)
      | (refine go2 (ka := ?_) (kb := ?_) <;> intro _)
      | fail))
  exact x_ret2 rfl rfl rfl (fun w H => ⟨rfl, St.shutV (q := q) (um := um) hm (Sel.st sel_auto H)⟩)
end
end Go.Proofs.Ytjofjkjghakcoaa

/- VaultClashes, the plain law: what a vault's world and its memory of seals hold behind some seals. No program in sight. -/
namespace Go.Proofs.Ytjofjkjghakcoaa
open Go.RowKit
theorem wrap_id {n : Int} (h : -9223372036854775808 ≤ n ∧ n ≤ 9223372036854775807) : IntKind.i64.wrap n = n := by
  have e : IntKind.i64.wrap n = wrap64 n := by rw [IntWalk.i64_left]
  rw [e]; unfold wrap64; omega
/-- The numbers of a world's things are their places. -/
def Placed (l : List (Bs × Int)) : Prop := ∀ (j : Nat) (nm : Bs) (v : Int), l[j]? = some (nm, v) → v = (j : Int) + 1
theorem placed_nil : Placed [] := fun j nm v h => by cases h
theorem placed_snoc {l : List (Bs × Int)} (h : Placed l) (nm : Bs) : Placed (l ++ [(nm, (l.length : Int) + 1)]) := fun j nm' v hj => by
  rcases Nat.lt_or_ge j l.length with k | k
  · rw [List.getElem?_append_left k] at hj; exact h j nm' v hj
  · rw [List.getElem?_append_right k] at hj
    rcases Nat.eq_or_lt_of_le k with e | e
    · rw [← e, Nat.sub_self] at hj; cases hj; omega
    · rw [List.getElem?_eq_none (by simp; omega)] at hj; cases hj
theorem getM_at {l : List (Bs × Int)} {a : Bs} {v : Int} (h : getM l a = some v) : ∃ j : Nat, l[j]? = some (a, v) := by
  obtain ⟨j, -, h2, -⟩ := placeM_some (i := 0) h
  exact ⟨j, h2⟩
theorem placed_inj {l : List (Bs × Int)} (h : Placed l) {a b : Bs} {v : Int} (ha : getM l a = some v) (hb : getM l b = some v) : a = b := by
  obtain ⟨i, hi⟩ := getM_at ha
  obtain ⟨j, hj⟩ := getM_at hb
  have h1 := h _ _ _ hi
  have h2 := h _ _ _ hj
  obtain rfl : i = j := by omega
  rw [hi] at hj; cases hj; rfl
theorem placed_le {l : List (Bs × Int)} (h : Placed l) {a : Bs} {v : Int} (ha : getM l a = some v) : 1 ≤ v ∧ v ≤ (l.length : Int) := by
  obtain ⟨i, hi⟩ := getM_at ha
  have h1 := h _ _ _ hi
  have := (List.getElem?_eq_some_iff.1 hi).1
  omega
/-- A thing more: what was made stays as it is. -/
theorem note_facts {I : IdealM} (hp : Placed I.made) (hl : I.made.length < 9223372036854775807) (nm : Bs) : Placed (I.note nm).made ∧ (I.note nm).made.length ≤ I.made.length + 1 ∧ getM (I.note nm).made nm = some (I.num nm) ∧ (∀ a v, getM I.made a = some v → getM (I.note nm).made a = some v) ∧ (I.note nm).texts = I.texts := by
  unfold IdealM.note IdealM.num
  cases h : getM I.made nm with
  | some v => exact ⟨hp, by show I.made.length ≤ _; omega, h, fun _ _ k => k, rfl⟩
  | none =>
    have hw : IntKind.i64.wrap ((I.made.length : Int) + 1) = (I.made.length : Int) + 1 := wrap_id (by omega)
    refine ⟨?_, ?_, ?_, fun a v ha => ?_, rfl⟩
    · show Placed (setM I.made nm _)
      rw [setM_new h, hw]; exact placed_snoc hp nm
    · show (setM I.made nm _).length ≤ _
      rw [setM_new h]; simp
    · show getM (setM I.made nm _) nm = _
      rw [getM_setM, if_pos rfl]; rfl
    · show getM (setM I.made nm _) a = _
      rw [getM_setM, if_neg (fun e => by rw [e, ha] at h; cases h)]; exact ha
/-- The key of a number, and the name of what it is made of. -/
def kname (m : Bs) (k : Int) : Bs := nameOf 68 [m, VaultM.keyIn [107] [k]]
theorem kname_inj {m : Bs} (hm : m.length = 32) {k k' : Int} (h1 : -9223372036854775808 ≤ k ∧ k ≤ 9223372036854775807) (h2 : -9223372036854775808 ≤ k' ∧ k' ≤ 9223372036854775807) (h : kname m k = kname m k') : k = k' := by
  unfold kname nameOf at h
  have h := (List.cons.inj h).2
  rw [List.flatMap_cons, List.flatMap_cons, List.flatMap_cons, List.flatMap_cons] at h
  have hkl : ∀ k : Int, (VaultM.keyIn [107] [k]).length ≤ 9223372036854775807 := fun k => by simp [VaultM.keyIn, text3_length, num8_length]
  have h := (part8_inj (by omega) (by omega) h).2
  have h := (part8_inj (hkl _) (hkl _) h).1
  unfold VaultM.keyIn at h
  have h := List.append_cancel_left h
  rw [List.flatMap_cons, List.flatMap_cons, List.flatMap_nil, List.append_nil, List.append_nil] at h
  exact num8_inj h1 h2 h
theorem place_inj {n n' s s' : Int} (h1 : 0 ≤ n ∧ n ≤ 9223372036854775807) (h2 : 0 ≤ n' ∧ n' ≤ 9223372036854775807) (h3 : 0 ≤ s ∧ s < 100) (h4 : 0 ≤ s' ∧ s' < 100) (h : key44 (markB 68 n 32 ++ nonceB 1 s) = key44 (markB 68 n' 32 ++ nonceB 1 s')) : n = n' ∧ s = s' := by
  have hl : ∀ n s : Int, (markB 68 n 32 ++ nonceB 1 s).length = 44 := fun n s => by rw [List.length_append, markB_length (by decide), nonceB_length]
  have h := congrArg Subtype.val h
  rw [show (key44 (markB 68 n 32 ++ nonceB 1 s)).1 = markB 68 n 32 ++ nonceB 1 s by unfold key44; rw [dif_pos (hl n s)], show (key44 (markB 68 n' 32 ++ nonceB 1 s')).1 = markB 68 n' 32 ++ nonceB 1 s' by unfold key44; rw [dif_pos (hl n' s')]] at h
  obtain ⟨ha, hb⟩ := List.append_inj h (by rw [markB_length (by decide), markB_length (by decide)])
  unfold markB at ha
  obtain ⟨ha, -⟩ := List.append_inj ha (by rw [num8_length, num8_length])
  unfold nonceB at hb
  have hb := List.append_cancel_left hb
  exact ⟨num8_inj (by omega) (by omega) ha, num8_inj (by omega) (by omega) hb⟩
/-- The last text that was sealed with a key's number and a nonce's, among the first i. -/
def lastT (ks ss : List Int) (ts : List Bs) (k s : Int) : Nat → Option Bs
  | 0 => none
  | j + 1 => if ks[j]? = some k ∧ ss[j]? = some s then ts[j]? else lastT ks ss ts k s j
theorem lastT_same {ks ks' ss : List Int} {ts : List Bs} {k k' s : Int} : ∀ {i : Nat}, (∀ j, j < i → (ks[j]? = some k ↔ ks'[j]? = some k')) → lastT ks ss ts k s i = lastT ks' ss ts k' s i
  | 0, _ => rfl
  | j + 1, h => by
    unfold lastT
    rw [lastT_same (i := j) fun m hm => h m (by omega)]
    by_cases hc : ks[j]? = some k ∧ ss[j]? = some s
    · rw [if_pos hc, if_pos ⟨(h j (by omega)).1 hc.1, hc.2⟩]
    · rw [if_neg hc, if_neg fun e => hc ⟨(h j (by omega)).2 e.1, e.2⟩]
/-- How many clashes there are when a text is sealed. -/
def bump (o : Option Bs) (t : Bs) (n : Int) : Int := match o with
  | some t' => if t' = t then n else n + 1
  | none => n
structure Clash (ks ss : List Int) (ts : List Bs) (i : Nat) (V : VaultM) (want : Int) (nums : List Int) : Prop where
  mas : V.master = List.replicate 32 0
  lim : V.limit = 100
  pl : Placed V.world.made
  few : V.world.made.length ≤ 2 * i
  nl : nums.length = i
  num : ∀ (j : Nat) k n, j < i → ks[j]? = some k → nums[j]? = some n → getM V.world.made (kname V.master k) = some n
  use : ∀ n s, 0 ≤ n → n ≤ 9223372036854775807 → 0 ≤ s → s < 100 → getM V.used (key44 (markB 68 n 32 ++ nonceB 1 s)) = lastT nums ss ts n s i
  cl : V.clash = want
  w0 : 0 ≤ want ∧ want ≤ i
theorem clash_step {ks ss : List Int} {ts : List Bs} {i : Nat} {V : VaultM} {want : Int} {nums : List Int} (h : Clash ks ss ts i V want nums) (hi : i ≤ 60) {k s : Int} {t : Bs} (hks : ∀ (j : Nat) k, ks[j]? = some k → -9223372036854775808 ≤ k ∧ k ≤ 9223372036854775807) (hk : ks[i]? = some k) (hs : ss[i]? = some s) (ht : ts[i]? = some t) (hs0 : 0 ≤ s ∧ s < 100) :
    ∃ nums', Clash ks ss ts (i + 1) ((V.keyed [107] [k]).sealed (V.key [107] [k]) 1 s t []) (bump (lastT ks ss ts k s i) t want) nums' := by
  have hm32 : V.master.length = 32 := by rw [h.mas]; rfl
  have hfew := h.few
  obtain ⟨p1, p2, p3, p4, p5⟩ := note_facts h.pl (by omega) (kname V.master k)
  obtain ⟨n, hn⟩ : ∃ n, V.world.num (kname V.master k) = n := ⟨_, rfl⟩
  rw [hn] at p3
  have hkey : V.key [107] [k] = markB 68 n 32 := by
    show markB 68 (V.world.num (kname V.master k)) 32 = _
    rw [hn]
  obtain ⟨I1, hI1⟩ : ∃ I1, V.world.note (kname V.master k) = I1 := ⟨_, rfl⟩
  have hkd : V.keyed [107] [k] = { V with world := I1 } := by rw [← hI1]; rfl
  rw [hI1] at p1 p2 p3 p4
  rw [hkey, hkd]
  have hnr := placed_le p1 p3
  -- the seal's own thing
  obtain ⟨q1, q2, q3, q4, q5⟩ := note_facts p1 (by omega) (nameOf 83 [markB 68 n 32, nonceB 1 s, [], t])
  have hsd : ({ V with world := I1 } : VaultM).sealed (markB 68 n 32) 1 s t [] = { world := { made := (I1.note (nameOf 83 [markB 68 n 32, nonceB 1 s, [], t])).made, texts := setM I1.texts (nameOf 83 [markB 68 n 32, nonceB 1 s, [], I1.sealB (markB 68 n 32) (nonceB 1 s) t []]) t }, master := V.master, limit := V.limit, used := setM V.used (key44 (markB 68 n 32 ++ nonceB 1 s)) t, clash := ({ V with world := I1 } : VaultM).clash' (markB 68 n 32) 1 s t } := rfl
  rw [hsd]
  have hnl := h.nl
  have hget : ∀ j, j < i → ((nums ++ [n])[j]? = some n ↔ ks[j]? = some k) := fun j hj => by
    rw [List.getElem?_append_left (by omega)]
    constructor
    · intro e
      cases e2 : ks[j]? with
      | none => have := (List.getElem?_eq_some_iff.1 hk).1; rw [List.getElem?_eq_none_iff] at e2; omega
      | some k' =>
        have e3 := p4 _ _ (h.num j k' n hj e2 e)
        have e4 := placed_inj p1 e3 p3
        rw [kname_inj hm32 (hks j k' e2) (hks i k hk) e4]
    · intro e
      have hj' : j < nums.length := by omega
      rw [List.getElem?_eq_getElem hj']
      have e3 := p4 _ _ (h.num j k nums[j] hj e (List.getElem?_eq_getElem hj'))
      rw [p3] at e3; rw [Option.some.inj e3]
  have hlast : lastT nums ss ts n s i = lastT ks ss ts k s i := lastT_same fun j hj => by
    have := hget j hj
    rwa [List.getElem?_append_left (by omega)] at this
  have huse := h.use n s (by omega) (by omega) hs0.1 hs0.2
  have hw0 := h.w0
  refine ⟨nums ++ [n], h.mas, h.lim, q1, by show (IdealM.note _ _).made.length ≤ _; omega, by simp [hnl], fun j k' n' hj hk' hn' => ?_, fun n' s' a1 a2 a3 a4 => ?_, ?_, ?_⟩
  · show getM (I1.note _).made (kname V.master k') = _
    refine q4 _ _ ?_
    rcases Nat.lt_or_ge j i with hji | hji
    · rw [List.getElem?_append_left (by omega)] at hn'
      exact p4 _ _ (h.num j k' n' hji hk' hn')
    · obtain rfl : j = i := by omega
      rw [List.getElem?_append_right (by omega), hnl, Nat.sub_self] at hn'
      cases hn'
      rw [hk] at hk'; cases hk'
      exact p3
  · show getM (setM V.used _ t) _ = _
    rw [getM_setM]
    unfold lastT
    rw [List.getElem?_append_right (by omega), hnl, Nat.sub_self, hs, ht]
    have hrest : lastT (nums ++ [n]) ss ts n' s' i = lastT nums ss ts n' s' i := lastT_same fun j hj => by rw [List.getElem?_append_left (by omega)]
    by_cases hc : n = n' ∧ s = s'
    · obtain ⟨rfl, rfl⟩ := hc
      rw [if_pos rfl, if_pos ⟨rfl, rfl⟩]
    · rw [if_neg fun e => hc (place_inj (by omega) ⟨a1, a2⟩ hs0 ⟨a3, a4⟩ e), if_neg fun e => hc ⟨by simpa using e.1, by simpa using e.2⟩, hrest]
      exact h.use n' s' a1 a2 a3 a4
  · show VaultM.clash' _ _ _ _ _ = _
    unfold VaultM.clash'
    show (match getM V.used (key44 (markB 68 n 32 ++ nonceB 1 s)) with | some t' => if t' = t then V.clash else IntKind.i64.wrap (V.clash + 1) | none => V.clash) = _
    rw [huse, hlast, h.cl, wrap_id (by omega)]
    rfl
  · unfold bump
    split
    · split <;> omega
    · omega
theorem clash_new {ks ss : List Int} {ts : List Bs} : Clash ks ss ts 0 ⟨⟨[], []⟩, List.replicate 32 0, 100, [], 0⟩ 0 [] :=
  ⟨rfl, rfl, placed_nil, Nat.le_refl _, rfl, fun j k n hj => absurd hj (by omega), fun _ _ _ _ _ _ => rfl, rfl, by decide⟩
end Go.Proofs.Ytjofjkjghakcoaa

/- The vault (package vault): a nil one; what the law of chapter 10 asks first. -/
namespace Go.Proofs.Ytjofjkjghakcoaa
open Go.RowKit
section
variable {H : World → Prop} {E : Env} {d : Option Nat} {ty : TypeId} {pos : String} {aft : Array Edge} {g : Option (Nat × Bool)}
theorem y_buildArr0 : Y Try.prog H E (Oper.mk d (.build 28 #[]) ty pos aft g) (.agg (bvs (List.replicate 32 0)).toArray) := y_buildZ (z := List.replicate 32 (.int .u8 0)) Try.underlying28 (by kernel_rfl)
end
abbrev zero32 : Bs := List.replicate 32 0
theorem zero32_length : zero32.length = 32 := rfl
attribute [local irreducible] Y OW YK OWK W WL WP X CV GvL GvP Ev Evs HasCell HasCells Has Met Again Kept
section
variable {c : Con} {F : List HP} {w : World} {p : Nat}
theorem vn_may {e s : Int} (H : St c F w) : Calls Try.prog 23 #[.pointer none, .int .i64 e, .int .i64 s] w fun x w' => x = .returned (.int .i64 2) ∧ St c F w' := by
  refine calls_w (vs := [.pointer none, .int .i64 e, .int .i64 s]) Try.func23 rfl rfl rfl ?_ w H
  (repeat' (first
      | (with_reducible refine is_yk ?_; refine yk_auto (k := ?_))
      | (with_reducible refine is_owk0 ?_; refine owk0_auto (k := ?_))
      | (with_reducible refine is_owkc ?_; refine owk_auto (k := fun _ => ?_))
      | refine go1 (k := ?_)
      | (refine go2 (ka := ?_) (kb := ?_) <;> intro _)
      | fail))
  exact x_ret1 rfl rfl (fun w H => ⟨rfl, H⟩)
theorem vn_limit (H : St c F w) : Calls Try.prog 22 #[.pointer none] w fun x w' => x = .returned (.int .i64 0) ∧ St c F w' := by
  refine calls_w (vs := [.pointer none]) Try.func22 rfl rfl rfl ?_ w H
  (repeat' (first
      | (with_reducible refine is_yk ?_; refine yk_auto (k := ?_))
      | (with_reducible refine is_owk0 ?_; refine owk0_auto (k := ?_))
      | (with_reducible refine is_owkc ?_; refine owk_auto (k := fun _ => ?_))
      | refine go1 (k := ?_)
      | (refine go2 (ka := ?_) (kb := ?_) <;> intro _)
      | fail))
  exact x_ret1 rfl rfl (fun w H => ⟨rfl, H⟩)
theorem vn_clashes (H : St c F w) : Calls Try.prog 14 #[.pointer none] w fun x w' => x = .returned (.int .i64 0) ∧ St c F w' := by
  refine calls_w (vs := [.pointer none]) Try.func14 rfl rfl rfl ?_ w H
  (repeat' (first
      | (with_reducible refine is_yk ?_; refine yk_auto (k := ?_))
      | (with_reducible refine is_owk0 ?_; refine owk0_auto (k := ?_))
      | (with_reducible refine is_owkc ?_; refine owk_auto (k := fun _ => ?_))
      | refine go1 (k := ?_)
      | (refine go2 (ka := ?_) (kb := ?_) <;> intro _)
      | fail))
  exact x_ret1 rfl rfl (fun w H => ⟨rfl, H⟩)
set_option maxRecDepth 100000 in
theorem vn_seal {k x t : Value} {b : Bs} (hk : k = .agg (bvs b).toArray) {e s : Int} (H : St c F w) : Calls Try.prog 11 #[.pointer none, k, .int .i64 e, .int .i64 s, t, x] w fun x w' => x = .returned (.tuple #[.slice none 0 0, .int .i64 2]) ∧ St c F w' := by
  subst hk
  refine calls_w (vs := [.pointer none, .agg (bvs b).toArray, .int .i64 e, .int .i64 s, t, x]) Try.func11 rfl rfl rfl ?_ w H
  (repeat' (first
      | ((with_reducible refine at_fn 23 ?_); with_reducible refine owk_c0s evs_auto (by kernel_rfl) (fun w H => vn_may H) ?_)
      | (with_reducible refine is_yk ?_; refine yk_auto (k := ?_))
      | (with_reducible refine is_owk0 ?_; refine owk0_auto (k := ?_))
      | (with_reducible refine is_owkc ?_; refine owk_auto (k := fun _ => ?_))
      | refine go1 (k := ?_)
      | (refine go2 (ka := ?_) (kb := ?_) <;> intro _)
      | fail))
  exact x_ret2 rfl rfl rfl (fun w H => ⟨rfl, Sel.st sel_auto H⟩)
set_option maxRecDepth 100000 in
theorem vn_open {k x t : Value} {b : Bs} (hk : k = .agg (bvs b).toArray) {e s : Int} (H : St c F w) : Calls Try.prog 12 #[.pointer none, k, .int .i64 e, .int .i64 s, t, x] w fun x w' => x = .returned (.tuple #[.slice none 0 0, .int .i64 2]) ∧ St c F w' := by
  subst hk
  refine calls_w (vs := [.pointer none, .agg (bvs b).toArray, .int .i64 e, .int .i64 s, t, x]) Try.func12 rfl rfl rfl ?_ w H
  (repeat' (first
      | ((with_reducible refine at_fn 23 ?_); with_reducible refine owk_c0s evs_auto (by kernel_rfl) (fun w H => vn_may H) ?_)
      | (with_reducible refine is_yk ?_; refine yk_auto (k := ?_))
      | (with_reducible refine is_owk0 ?_; refine owk0_auto (k := ?_))
      | (with_reducible refine is_owkc ?_; refine owk_auto (k := fun _ => ?_))
      | refine go1 (k := ?_)
      | (refine go2 (ka := ?_) (kb := ?_) <;> intro _)
      | fail))
  exact x_ret2 rfl rfl rfl (fun w H => ⟨rfl, Sel.st sel_auto H⟩)
set_option maxRecDepth 100000 in
theorem vn_key {a n : Value} (H : St c F w) : Calls Try.prog 13 #[.pointer none, a, n] w fun x w' => x = .returned (.agg (bvs zero32).toArray) ∧ St c F w' := by
  have hz : (bvs zero32).length = 32 := rfl
  have h1 := bvs_oneCell zero32
  have hz2 : (List.replicate 32 (Value.int .u8 0)).length = 32 := rfl
  refine calls_w (vs := [.pointer none, a, n]) Try.func13 rfl rfl rfl ?_ w H
  (repeat' (first
      | ((with_reducible refine at_storeO ?_); with_reducible refine owk0 (ow_storeAll (ev_tmp rfl) (ev_tmp rfl) h1 hz upd_auto hz2) ?_)
      | (with_reducible refine at_build ?_; first | refine yk y_buildKey0 ?_)
      | (with_reducible refine is_yk ?_; refine yk_auto (k := ?_))
      | (with_reducible refine is_owk0 ?_; refine owk0_auto (k := ?_))
      | (with_reducible refine is_owkc ?_; refine owk_auto (k := fun _ => ?_))
      | refine go1 (k := ?_)
      | (refine go2 (ka := ?_) (kb := ?_) <;> intro _)
      | fail))
  exact x_retC rfl rfl has_auto hz (fun w H => ⟨rfl, Sel.st sel_auto H⟩)
set_option maxRecDepth 100000 in
theorem vn_hash {a : Value} (H : St c F w) : Calls Try.prog 16 #[.pointer none, a] w fun x w' => x = .returned (.agg (bvs zero32).toArray) ∧ St c F w' := by
  have hz : (bvs zero32).length = 32 := rfl
  have h1 := bvs_oneCell zero32
  have hz2 : (List.replicate 32 (Value.int .u8 0)).length = 32 := rfl
  refine calls_w (vs := [.pointer none, a]) Try.func16 rfl rfl rfl ?_ w H
  (repeat' (first
      | ((with_reducible refine at_storeO ?_); with_reducible refine owk0 (ow_storeAll (ev_tmp rfl) (ev_tmp rfl) h1 hz upd_auto hz2) ?_)
      | (with_reducible refine at_build ?_; first | refine yk y_buildArr0 ?_)
      | (with_reducible refine is_yk ?_; refine yk_auto (k := ?_))
      | (with_reducible refine is_owk0 ?_; refine owk0_auto (k := ?_))
      | (with_reducible refine is_owkc ?_; refine owk_auto (k := fun _ => ?_))
      | refine go1 (k := ?_)
      | (refine go2 (ka := ?_) (kb := ?_) <;> intro _)
      | fail))
  exact x_retC rfl rfl has_auto hz (fun w H => ⟨rfl, Sel.st sel_auto H⟩)
set_option maxRecDepth 100000 in
theorem vn_mac {a k : Value} {b : Bs} (hk : k = .agg (bvs b).toArray) (H : St c F w) : Calls Try.prog 18 #[.pointer none, k, a] w fun x w' => x = .returned (.agg (bvs zero32).toArray) ∧ St c F w' := by
  subst hk
  have hz : (bvs zero32).length = 32 := rfl
  have h1 := bvs_oneCell zero32
  have hz2 : (List.replicate 32 (Value.int .u8 0)).length = 32 := rfl
  refine calls_w (vs := [.pointer none, .agg (bvs b).toArray, a]) Try.func18 rfl rfl rfl ?_ w H
  (repeat' (first
      | ((with_reducible refine at_storeO ?_); with_reducible refine owk0 (ow_storeAll (ev_tmp rfl) (ev_tmp rfl) h1 hz upd_auto hz2) ?_)
      | (with_reducible refine at_build ?_; first | refine yk y_buildArr0 ?_)
      | (with_reducible refine is_yk ?_; refine yk_auto (k := ?_))
      | (with_reducible refine is_owk0 ?_; refine owk0_auto (k := ?_))
      | (with_reducible refine is_owkc ?_; refine owk_auto (k := fun _ => ?_))
      | refine go1 (k := ?_)
      | (refine go2 (ka := ?_) (kb := ?_) <;> intro _)
      | fail))
  exact x_retC rfl rfl has_auto hz (fun w H => ⟨rfl, Sel.st sel_auto H⟩)
set_option maxRecDepth 100000 in
theorem alive10 (H : St c F w) : Calls Try.prog 7 #[] w fun x w' => x = .returned (.bool true) ∧ St c F w' := by
  have hm3 : max (3 : Int) 0 = 3 := by decide
  have hx1 : HasR (St c F) (.slice none 0 0) 0 (bvs []) := fun _ _ => ⟨rfl, .inl ⟨rfl, rfl⟩⟩
  have hpn : ∀ {H : World → Prop}, Ps H (.slice none 0 0) [] := Ps.nil
  have hV : ∀ I, (⟨I, zero32, max 3 0, [], 0⟩ : VaultM) = ⟨I, zero32, 3, [], 0⟩ := fun I => by rw [hm3]
  have hr1 : ∀ I, (⟨I, zero32, 3, [], 0⟩ : VaultM).may 0 3 = 10 := fun _ => rfl
  have hr2 : ∀ I, (⟨I, zero32, 3, [], 0⟩ : VaultM).may 0 2 = 0 := fun _ => rfl
  have h17 : 1 + 16 = 17 := rfl
  refine calls_w (vs := []) Try.func7 rfl rfl rfl ?_ w H
  (repeat' (first
      | ((with_reducible refine at_fn 9 ?_); with_reducible refine owk_c0x evs_auto (by kernel_rfl) (fun w H => i_new H) (fun q => ?_))
      | ((with_reducible refine at_fn 8 ?_); with_reducible refine owk_c1x evs_auto (by kernel_rfl) pick_auto (fun w H => v_ideal zero32_length (hV _) H) (fun p => ?_))
      | (with_reducible refine at_build ?_; first | refine yk y_buildKey0 ?_)
      | (with_reducible refine is_w ?_; first | refine w_stopR (id := 2) ?_)
      | (with_reducible refine is_yk ?_; refine yk_auto (k := ?_))
      | (with_reducible refine is_owk0 ?_; refine owk0_auto (k := ?_))
      | (with_reducible refine is_owkc ?_; refine owk_auto (k := fun _ => ?_))
      | refine go1 (k := ?_)
      | (refine go2 (ka := ?_) (kb := ?_) <;> intro _)
      | fail))
  unfold Stop
  generalize hVe : (⟨⟨[], []⟩, zero32, 3, [], 0⟩ : VaultM) = V
  have hm1 : V.may 0 3 = 10 := by rw [← hVe]; exact hr1 _
  have hm2 : V.may 0 2 = 0 := by rw [← hVe]; exact hr2 _
  obtain ⟨B, hB⟩ : ∃ B, V.sealB zero32 0 2 [120] [] = B := ⟨_, rfl⟩
  obtain ⟨V1, hV1⟩ : ∃ V1, V.sealed zero32 0 2 [120] [] = V1 := ⟨_, rfl⟩
  have hlim : V1.limit = 3 := by rw [← hV1, ← hVe]; rfl
  have hl1 : ([120] : Bs).length ≤ 1048576 := by decide
  have hl2 : ([] : Bs).length ≤ 1048576 := by decide
  have hne : (10 : Int) ≠ 0 := by decide
  have hR : ∀ (b T : Nat) (fr : Nat × Nat) (L : List HP), HasR (St c (Pt b (.cells (List.flatMap vcells [Value.int .u8 120]).toArray T fr) :: L)) (.slice (some ⟨b, 0, none⟩) 1 1) 1 (bvs [120]) := fun _ _ _ _ => reads_has (hasCells_bl has_hd rfl) rfl (by decide) (by decide)
  have hxn : ([] : List Bs).flatMap id = [] := rfl
  (repeat' (first
      | ((with_reducible refine at_fn 11 ?_); with_reducible refine owk_c1 evs_auto (by kernel_rfl) pick_auto (fun w H => v_seal_bad hm1 hne H) ?_)
      | (with_reducible refine at_build ?_; first | refine yk y_buildKey0 ?_)
      | (with_reducible refine is_w ?_; first | refine w_stopR (id := 3) ?_)
      | (with_reducible refine is_yk ?_; refine yk_auto (k := ?_))
      | (with_reducible refine is_owk0 ?_; refine owk0_auto (k := ?_))
      | (with_reducible refine is_owkc ?_; refine owk_auto (k := fun _ => ?_))
      | refine go1 (k := ?_)
      | (refine go2 (ka := ?_) (kb := ?_) <;> intro _)
      | fail))
  unfold Stop
  (repeat' (first
      | ((with_reducible refine at_fn 11 ?_); with_reducible refine owk_c1x evs_auto (by kernel_rfl) pick_auto (fun w H => v_seal hm2 zero32_length (hR _ _ _ _) hpn hxn hl1 hl2 hB hV1 h17 H) (fun r => ?_))
      | ((with_reducible refine at_fn 22 ?_); with_reducible refine owk_c1 evs_auto (by kernel_rfl) pick_auto (fun w H => v_limit hlim H) ?_)
      | (with_reducible refine at_build ?_; first | refine yk y_buildKey0 ?_)
      | (with_reducible refine is_yk ?_; refine yk_auto (k := ?_))
      | (with_reducible refine is_owk0 ?_; refine owk0_auto (k := ?_))
      | (with_reducible refine is_owkc ?_; refine owk_auto (k := fun _ => ?_))
      | refine go1 (k := ?_)
      | (refine go2 (ka := ?_) (kb := ?_) <;> intro _)
      | fail))
  exact x_ret1 rfl rfl (fun w H => ⟨rfl, Sel.st sel_auto H⟩)
end
end Go.Proofs.Ytjofjkjghakcoaa

/- Ranges over a function, walked by what is known: what asks nothing of a fence goes in a round as anywhere; the statement; a call of yield; a function that leaves with a mark. No program in sight. -/
namespace Go.Proofs.Ytjofjkjghakcoaa
open Go.RowKit

def isDefer : Op → Bool
  | .defer _ => true
  | _ => false
def noDefer (ops : List Oper) : Bool := ops.all fun o => !isDefer o.op
/-- A fence that asks nothing. -/
structure Wide (F : Fence) : Prop where
  fn : ∀ f, F.fn f
  depth : F.depth = none
  calls : ∀ (n : Nat) (P : Program) (f : FuncId) (args : Array Value) (w : World) (R : Ending → World → Prop), Calls P f args w R → CallsIn F n P f args w R
  rows : ∀ (n : Nat) (P : Program) (row : String) (args : Array Value) (w : World) (R : Value → World → Prop), Rows P row args w R → RowsIn F n P row args w R
theorem wide_dep {n : Nat} : Fence.wide.depth.isSome = true → 1 ≤ n := fun k => by cases k
theorem wide0 : Wide Fence.wide :=
  ⟨fun _ => trivial, rfl, fun _ _ _ _ _ _ h => callsIn_wide.2 h, fun _ _ _ _ _ _ h c cs _ => let ⟨v, w', r, s⟩ := h c cs; ⟨v, w', r, stepsIn_wide.2 s⟩⟩
theorem wideR (l : Nat) : Wide (Fence.wide.inRound l) :=
  ⟨fun _ => trivial, rfl, fun n P f args w R h => wide0.calls n P f args w R h, fun n P row args w R h => wide0.rows n P row args w R h⟩

/-- The frame, with calls deferred behind its own. -/
def wd (ds : List Deferred) (a : Act) : Act := { a with defers := a.defers ++ ds }
theorem wd_eval (ds : List Deferred) (a : Act) : (wd ds a).eval = a.eval := funext fun x => by cases x <;> rfl
theorem wd_put (ds : List Deferred) (a : Act) (d : Option Tmp) (v : Value) : (wd ds a).put d v = wd ds (a.put d v) := by cases d <;> rfl
theorem wd_nil (a : Act) : wd [] a = a := by simp [wd]

def Calm (Q : Exit → Act → World → Prop) : Prop := ∀ e a w, Q e a w → e = .normal
def NQ (Z : Act → World → Prop) : Exit → Act → World → Prop := fun e a w => e = .normal ∧ Z a w
theorem calm_nq {Z : Act → World → Prop} : Calm (NQ Z) := fun _ _ _ h => h.1
theorem calm_np {Q : Exit → Act → World → Prop} (h : Calm Q) : Calm (NoPanic Q) := fun e a w k => h e a w (NoPanic.imp e a w k)

section
variable {P : Program} {F : Fence} {n : Nat} {ops : Array Oper} {Q Q0 : Exit → Act → World → Prop} {ds : List Deferred} {a : Act} {w : World}

theorem wpIn_op (hF : Wide F) (hc : Calm Q0) {o : Oper} {K K' : Act → World → Prop} (hd : isDefer o.op = false) (hk : ∀ a w, K a w → K' (wd ds a) w)
    (h : o.wp P a w K Q0 ∨ (o.asks P a w ∧ LetsOut Q0)) : o.wpIn F n P (wd ds a) w K' Q := by
  have out : ¬ LetsOut Q0 := fun ⟨a, w, q⟩ => by cases hc _ a w q
  replace h := h.resolve_right fun k => out k.2
  refine ⟨fun f _ => hF.fn f, ?_⟩
  have e : o.semAt F.round (wd ds a).eval = execOp a.eval o := by
    rw [wd_eval]; exact Oper.semAt_eq _ _ _ fun c e => by rw [e] at hd; cases hd
  rw [e]
  unfold Oper.wp at h
  have dep : F.depth.isSome = true → 1 ≤ n := fun k => by rw [hF.depth] at k; cases k
  generalize (execOp a.eval o).run P w = r at h
  cases r with
  | ok x w' =>
    cases x <;> simp only [Oper.upon, Oper.uponIn] at h ⊢
    case value v => rw [wd_put]; exact hk _ _ h
    case skip => rw [wd_put]; exact hk _ _ h
    case «defer» d =>
      have := hk _ _ h
      rw [← wd_put] at this
      exact this
    case enter f args =>
      refine ⟨dep, hF.calls _ _ _ _ _ _ (Calls.mono h fun e w'' he => ?_)⟩
      cases e with
      | returned v =>
        show K' ((wd ds a).put o.dst v) w''
        rw [wd_put]; exact hk _ _ he
      | panicked ch => cases hc _ _ _ he
      | outgrown => exact absurd he out
    case row row args =>
      exact ⟨dep, hF.rows _ _ _ _ _ _ fun c cs => let ⟨v, w', r, s⟩ := h c cs; ⟨v, w', by rw [wd_put]; exact hk _ _ r, s⟩⟩
  | halt x w' =>
    cases x <;> simp only [Oper.upon, Oper.uponIn] at h ⊢
    case panic v => cases hc _ _ _ h

theorem wpListIn_split (hF : Wide F) {post : List Oper} {Z : Act → World → Prop} (hz : ∀ a w, Z a w → wpListIn F n P ops Q post (wd ds a) w) : ∀ (pre : List Oper) (a : Act) (w : World), noDefer pre = true →
    wpList P ops (NQ Z) pre a w → wpListIn F n P ops Q (pre ++ post) (wd ds a) w
  | [], _, _, _, h => hz _ _ h.2
  | o :: r, a, w, hn, h => by
    simp only [noDefer, List.all_cons, Bool.and_eq_true] at hn
    unfold wpList at h
    show wpListIn F n P ops Q (o :: (r ++ post)) (wd ds a) w
    unfold wpListIn
    show if Region.wanted o (yielded ops a.tmps) = true then _ else _
    split at h
    · rename_i hw
      rw [if_pos hw]
      exact wpIn_op hF calm_nq (by simpa using hn.1) (fun a w k => wpListIn_split hF hz r a w hn.2 k) h
    · rename_i hw
      rw [if_neg hw]
      exact ⟨fun f _ => hF.fn f, by have := wpListIn_split hF hz r _ w hn.2 h; rwa [← wd_put] at this⟩

theorem wpAnyIn_of (hF : Wide F) (hc : Calm Q0) (hnd : noDefer ops.toList = true) (hz : ∀ a w, Q0 .normal a w → Q .normal (wd ds a) w) : ∀ (fuel : Nat) (listed : Array Bool) (a : Act) (w : World),
    wpAny P .any ops Q0 fuel listed a w → wpAnyIn F n P .any ops Q fuel listed (wd ds a) w
  | 0, _, _, _, h => ⟨h.1, hz _ _ h.2⟩
  | fuel + 1, listed, a, w, h => by
    refine ⟨fun k => hz _ _ (h.1 k), fun i hi => ?_⟩
    have h2 := h.2 i hi
    unfold wpOp at h2
    unfold wpOpIn
    split at h2
    · rename_i ho; simp only [ho]; exact wpAnyIn_of hF hc hnd hz fuel _ a w h2
    · rename_i o ho
      simp only [ho]
      have hd : isDefer o.op = false := by
        have := List.all_eq_true.1 hnd o (by
          have := Array.mem_of_getElem? ho
          exact Array.mem_toList_iff.2 this)
        simpa using this
      show if Region.wanted o (yielded ops a.tmps) = true then _ else _
      split at h2
      · rename_i hw
        rw [if_pos hw]
        exact wpIn_op hF hc hd (fun a w k => wpAnyIn_of hF hc hnd hz fuel _ a w k) h2
      · rename_i hw
        rw [if_neg hw]
        exact ⟨fun f _ => hF.fn f, by have := wpAnyIn_of hF hc hnd hz fuel _ _ w h2; rwa [← wd_put] at this⟩

theorem region_planIn (hF : Wide F) (hc : Calm Q0) {id : Nat} (p : Plan) (S : World → Prop) (hm : P.follows .mixedOrders = true) (hB : planB .any ops p = true) (hnd : noDefer ops.toList = true)
    (hz : ∀ a w, Q0 .normal a w → Q .normal (wd ds a) w) (hS : p.any (·.2) = true → S w.drew) (h : wpPlan P ops (NoPanic Q0) (earlyB .any ops p.looks) p S a w.drew) : (Code.region id ops true).wpIn F n P Q (wd ds a) w := by
  have hQ : ∀ c (d : Option Tmp) (v : Value) a w, NoPanic Q0 (.panic c) (a.put d v) w → NoPanic Q0 (.panic c) a w := fun _ _ _ _ _ h => h
  simp only [planB, Bool.and_eq_true, decide_eq_true_eq] at hB
  obtain ⟨⟨hsel, hn⟩, hp⟩ := hB
  refine wpIn_region_any hm ?_
  have H := wpAnyR_plan (md := .any) hsel hQ p S _ a w.drew (fun i hi j hji he => by
    have h0 := List.any_eq_false.1 he i (List.mem_map.2 ⟨(i, true), List.mem_filter.2 ⟨hi, rfl⟩, rfl⟩)
    cases hw : Region.waitsFor .any ops j i with
    | true => rfl
    | false => rw [hw] at h0; simp at h0; exact absurd h0.symm hji) hp hS h
  rw [hn] at H
  exact wpAnyIn_of hF (calm_np hc) hnd hz _ _ _ _ (wpAny_of_R _ _ _ _ H)
end

/-! ### Code in a fence, with calls deferred -/
def WG (P : Program) (N : Nat) (c : Con) (F : Fence) (ds : List Deferred) (Q : Exit → Act → World → Prop) (code : Code) (E : Env) (L : List HP) : Prop := ∀ a w, Fr N E a → St c L w → code.wpIn F 0 P Q (wd ds a) w
def XG (N : Nat) (c : Con) (ds : List Deferred) (Q : Exit → Act → World → Prop) (e : Exit) (E : Env) (L : List HP) : Prop := ∀ a w, Fr N E a → St c L w → Q e (wd ds a) w
def NG (ds : List Deferred) (Q : Exit → Act → World → Prop) : Exit → Act → World → Prop := NQ fun a w => Q .normal (wd ds a) w
section
variable {P : Program} {N : Nat} {c : Con} {F : Fence} {ds : List Deferred} {Q : Exit → Act → World → Prop} {E : Env} {L : List HP}
theorem w_of_g {code : Code} (h : WG P N c Fence.wide [] Q code E L) : W P N c Q code E L := fun a w hf H => wpIn_wide.1 (by have := h a w hf H; rwa [wd_nil] at this)
theorem wg_region (hF : Wide F) {id : Nat} {l : List Oper} (hd : noDefer l = true) (h : WL P N c l.toArray (NG ds Q) l E L) : WG P N c F ds Q (.region id l.toArray false) E L := fun a w hf H => by
  have := wpListIn_split (n := 0) (Q := Q) (ds := ds) hF (ops := l.toArray) (post := []) (fun a w k => k) l a w hd (h a w hf H)
  rw [List.append_nil] at this
  exact wpIn_region_lit this
theorem wg_plan (hF : Wide F) {id : Nat} {ops : Array Oper} (p : Plan) (R : List HP) (hm : P.follows .mixedOrders = true) (hB : planB .any ops p = true) (hd : noDefer ops.toList = true) (hR : Sel L R)
    (h : WP P N c ops (NoPanic (NG ds Q)) R (earlyB .any ops p.looks) p E L) : WG P N c F ds Q (.region id ops true) E L := fun a _ hf H =>
  region_planIn hF calm_nq p (St c R) hm hB hd (fun _ _ k => k.2) (fun _ => (hR.st H).drew) (h a _ hf H.drew)
theorem wg_seq {x y : Code} (h : WG P N c F ds (Exit.then (fun a w => y.wpIn F 0 P Q a w) Q) x E L) : WG P N c F ds Q (x.seq y) E L := fun a w hf H => wpIn_seq (h a w hf H)
theorem wg_skip (h : XG N c ds Q .normal E L) : WG P N c F ds Q .skip E L := fun a w hf H => wpIn_skip (h a w hf H)
theorem wg_ret (h : XG N c ds Q .ret E L) : WG P N c F ds Q .ret E L := fun a w hf H => wpIn_ret (h a w hf H)
theorem wg_block {id : Nat} {x : Code} (h : WG P N c F ds (Exit.inBlock id Q) x E L) : WG P N c F ds Q (.block id x) E L := fun a w hf H => wpIn_block (h a w hf H)
theorem wg_true {t : Nat} {x y : Code} (hl : look E t = some (.bool true)) (h : WG P N c F ds Q x E L) : WG P N c F ds Q (.cond (.tmp t) x y) E L := fun a w hf H =>
  wpIn_cond_true (by rw [wd_eval]; exact ev_tmp hl N a hf) (h a w hf H)
theorem wg_false {t : Nat} {x y : Code} (hl : look E t = some (.bool false)) (h : WG P N c F ds Q y E L) : WG P N c F ds Q (.cond (.tmp t) x y) E L := fun a w hf H =>
  wpIn_cond_false (by rw [wd_eval]; exact ev_tmp hl N a hf) (h a w hf H)
theorem wg_cond {t : Nat} {x y : Code} {p : Prop} [Decidable p] (hl : look E t = some (.bool (decide p))) (h1 : p → WG P N c F ds Q x E L) (h2 : ¬ p → WG P N c F ds Q y E L) : WG P N c F ds Q (.cond (.tmp t) x y) E L := fun a w hf H => by
  by_cases hp : p
  · exact wpIn_cond_true (by rw [wd_eval, ev_tmp hl N a hf]; simp [hp]) (h1 hp a w hf H)
  · exact wpIn_cond_false (by rw [wd_eval, ev_tmp hl N a hf]; simp [hp]) (h2 hp a w hf H)
def CVG (P : Program) (N : Nat) (c : Con) (F : Fence) (ds : List Deferred) (Q : Exit → Act → World → Prop) (x y : Code) (E : Env) (L : List HP) (v : Value) : Prop := ∀ t, look E t = some v → WG P N c F ds Q (.cond (.tmp t) x y) E L
theorem wg_cv {t : Nat} {x y : Code} {v : Value} (hl : look E t = some v) (h : CVG P N c F ds Q x y E L v) : WG P N c F ds Q (.cond (.tmp t) x y) E L := h t hl
theorem cvg_true {x y : Code} (h : WG P N c F ds Q x E L) : CVG P N c F ds Q x y E L (.bool true) := fun _ hl => wg_true hl h
theorem cvg_false {x y : Code} (h : WG P N c F ds Q y E L) : CVG P N c F ds Q x y E L (.bool false) := fun _ hl => wg_false hl h
theorem cvg_dec {x y : Code} {p : Prop} [Decidable p] (h1 : p → WG P N c F ds Q x E L) (h2 : ¬ p → WG P N c F ds Q y E L) : CVG P N c F ds Q x y E L (.bool (decide p)) := fun _ hl => wg_cond hl h1 h2
theorem cvg_dec_t {x y : Code} {p : Prop} [Decidable p] (h : p) (h1 : WG P N c F ds Q x E L) : CVG P N c F ds Q x y E L (.bool (decide p)) := cvg_dec (fun _ => h1) fun k => absurd h k
theorem cvg_dec_f {x y : Code} {p : Prop} [Decidable p] (h : ¬ p) (h1 : WG P N c F ds Q y E L) : CVG P N c F ds Q x y E L (.bool (decide p)) := cvg_dec (fun k => absurd k h) fun _ => h1
theorem cvg_bool_t {x y : Code} {b : Bool} (h : b = true) (h1 : WG P N c F ds Q x E L) : CVG P N c F ds Q x y E L (.bool b) := by subst h; exact cvg_true h1
theorem cvg_bool_f {x y : Code} {b : Bool} (h : b = false) (h1 : WG P N c F ds Q y E L) : CVG P N c F ds Q x y E L (.bool b) := by subst h; exact cvg_false h1
theorem cvg_bool {x y : Code} {b : Bool} (h1 : b = true → WG P N c F ds Q x E L) (h2 : b = false → WG P N c F ds Q y E L) : CVG P N c F ds Q x y E L (.bool b) := by
  cases b
  · exact cvg_false (h2 rfl)
  · exact cvg_true (h1 rfl)
theorem wg_pure {code : Code} {p : Prop} {A : HP} {G : List HP} (hp : Pick L (Pure p A) G) (h : p → WG P N c F ds Q code E (A :: G)) : WG P N c F ds Q code E L := fun a w hf H => by
  obtain ⟨k, H⟩ := St.pure (hp.st H)
  exact h k a w hf H
theorem xg_pure {e : Exit} {p : Prop} {A : HP} {G : List HP} (hp : Pick L (Pure p A) G) (h : p → XG N c ds Q e E (A :: G)) : XG N c ds Q e E L := fun a w hf H => by
  obtain ⟨k, H⟩ := St.pure (hp.st H)
  exact h k a w hf H
theorem xg_sel {e : Exit} {L' : List HP} (s : Sel L L') (h : XG N c ds Q e E L') : XG N c ds Q e E L := fun a w hf H => h a w hf (s.st H)
theorem is_wg {x : Code} (h : WG P N c F ds Q x E L) : WG P N c F ds Q x E L := h
theorem is_xg {e : Exit} (h : XG N c ds Q e E L) : XG N c ds Q e E L := h
theorem is_cvg {x y : Code} {v : Value} (h : CVG P N c F ds Q x y E L v) : CVG P N c F ds Q x y E L v := h
theorem x_ng (h : XG N c ds Q .normal E L) : X N c (NG ds Q) .normal E L := fun a w hf H => ⟨rfl, h a w hf H⟩
theorem xg_then {y : Code} (h : WG P N c F ds Q y E L) : XG N c ds (Exit.then (fun a w => y.wpIn F 0 P Q a w) Q) .normal E L := h
theorem xg_thenW {y : Code} (h : WG P N c Fence.wide ds Q y E L) : XG N c ds (Exit.then (fun a w => y.wp P Q a w) Q) .normal E L := fun a w hf H => wpIn_wide.1 (h a w hf H)
theorem xg_thenR {K : Act → World → Prop} (h : XG N c ds Q .ret E L) : XG N c ds (Exit.then K Q) .ret E L := h
theorem xg_block {id : Nat} (h : XG N c ds Q .normal E L) : XG N c ds (Exit.inBlock id Q) .normal E L := h
theorem xg_blockR {id : Nat} (h : XG N c ds Q .ret E L) : XG N c ds (Exit.inBlock id Q) .ret E L := h

/-! ### Parties -/
theorem Stars.comm {A B : List HP} {S : Nat → Prop} {w : World} (h : Stars (A ++ B) S w) : Stars (B ++ A) S w := by
  have h1 : Stars (Join A :: (B ++ [])) S w := by rw [List.append_nil]; exact Stars.join.2 h
  have h2 : Stars (Join A :: Join B :: []) S w := h1.under fun _ k => Stars.join.2 k
  have h3 : Stars (Join B :: (A ++ [])) S w := h2.swap.under fun _ k => Stars.join.1 k
  rw [List.append_nil] at h3
  exact Stars.join.1 h3
theorem Stars.append {A B : List HP} {w : World} (k : ∀ S, Stars A S w → Stars B S w) : ∀ (X : List HP) {S : Nat → Prop}, Stars (X ++ A) S w → Stars (X ++ B) S w
  | [], _, h => k _ h
  | _ :: X, _, h => Stars.under (L := X ++ A) (fun _ h => Stars.append k X h) h
theorem St.regroup {A B G : List HP} {w : World} (H : St c (Join (A ++ B) :: G) w) : St c (Join (A ++ G) :: B) w := by
  refine St.join.2 ⟨H.con, ?_⟩
  have h := (St.join.1 H).stars
  rw [List.append_assoc] at h ⊢
  exact Stars.append (fun _ k => k.comm) A h
theorem St.toJoin {w : World} (Ls : List HP) (H : St c (Ls ++ L) w) : St c (Join Ls :: L) w := St.join.2 H
theorem St.putPt {b : Nat} {o o' : Obj} {w : World} (H : St c (Pt b o :: L) w) : St c (Pt b o' :: L) (w.putObj b o') := by
  obtain ⟨h, a, l, u⟩ := H.upd
  have hb := l b _ a
  have hlt : b < w.heap.size := (Array.getElem?_eq_some_iff.1 hb).1
  refine u _ _ rfl (fun k _ hn => World.putObj_heap_other ?_) ?_
  · rintro rfl; rw [a] at hn; cases hn
  · simp only [Pt]
    rw [if_pos (.inl (by rw [a]; rfl))]
    exact World.putObj_heap_same hlt

/-! ### A call of yield -/
theorem w_yield {id : Nat} {l : List Oper} (k : Nat) (hd : noDefer (l.take k) = true) (h : WL P N c l.toArray (NQ fun a w => wpListIn Fence.wide 0 P l.toArray Q (l.drop k) a w) (l.take k) E L) : W P N c Q (.region id l.toArray false) E L := fun a w hf H => by
  have := wpListIn_split (n := 0) (Q := Q) (ds := []) wide0 (ops := l.toArray) (post := l.drop k) (fun a w k => by rw [wd_nil]; exact k) (l.take k) a w hd (h a w hf H)
  rw [List.take_append_drop, wd_nil] at this
  exact wpIn_wide.1 (wpIn_region_lit this)
theorem x_rest {ops : Array Oper} {l : List Oper} (hd : noDefer l = true) (h : WL P N c ops (NQ fun a w => Q .normal a w) l E L) : X N c (NQ fun a w => wpListIn Fence.wide 0 P ops Q l a w) .normal E L := fun a w hf H => by
  have := wpListIn_split (n := 0) (Q := Q) (ds := []) wide0 (ops := ops) (post := []) (fun a w k => by rw [wd_nil]; exact k) l a w hd (h a w hf H)
  rw [List.append_nil, wd_nil] at this
  exact ⟨rfl, this⟩
theorem x_nq (h : X N c Q .normal E L) : X N c (NQ fun a w => Q .normal a w) .normal E L := fun a w hf H => ⟨rfl, h a w hf H⟩
theorem x_yield {ops : Array Oper} {d l : Nat} {fo x : Operand} {v : Value} {ts : Array TypeId} {ty : TypeId} {pos : String} {aft : Array Edge} {rest : List Oper} {L1 L2 : List HP} (hdN : Nat.blt d N = true)
    (ho : Ev E fo (.func (.yield l) #[] #[])) (hx : Ev E x v)
    (hy : ∀ w, St c L w → YieldAt Fence.wide 0 P l #[v] w fun e w' => (e = .returned (.bool true) ∧ St c L1 w') ∨ (e = .returned (.bool false) ∧ St c L2 w'))
    (h1 : X N c (NQ fun a w => wpListIn Fence.wide 0 P ops Q rest a w) .normal ((d, .bool true) :: E) L1)
    (h2 : X N c (NQ fun a w => wpListIn Fence.wide 0 P ops Q rest a w) .normal ((d, .bool false) :: E) L2) :
    X N c (NQ fun a w => wpListIn Fence.wide 0 P ops Q (Oper.mk (some d) (.call { callee := .value fo, args := #[x], argTypes := ts }) ty pos aft none :: rest) a w) .normal E L := fun a w hf H => by
  refine ⟨rfl, ?_⟩
  show wpListIn _ _ _ _ _ _ _ _
  unfold wpListIn
  rw [if_pos (by simp [Region.wanted])]
  refine ⟨fun _ _ => trivial, ?_⟩
  obtain ⟨fn, tmps, assign, body, hr, hR⟩ := hy w H
  have e : (Oper.semAt Fence.wide.round a.eval (Oper.mk (some d) (.call { callee := .value fo, args := #[x], argTypes := ts }) ty pos aft none)).run P w = .ok (.round l fn tmps assign body) w := by
    rw [Fence.wide_round, Oper.semAt_none]
    unfold execOp
    simp only [resolve, ho N a hf, Deferred.ofValue, Sem.run_bind, Sem.run_pure, Result.andThen_ok, invoke, Array.empty_append, List.map_toArray, List.map_cons, List.map_nil, hx N a hf]
    exact hr
  rw [e, Oper.uponIn_round]
  refine ⟨wide_dep, hR.mono ?_⟩
  rintro e w' (⟨rfl, H'⟩ | ⟨rfl, H'⟩)
  · exact (h1 _ w' (hf.put hdN) H').2
  · exact (h2 _ w' (hf.put hdN) H').2

/-! ### The statement -/
def PA (N : Nat) (c : Con) (E1 : Env) (L1 : List HP) : Exit → Act → World → Prop := fun e a w => e = .normal ∧ Fr N E1 a ∧ St c L1 w
def PB (c : Con) (L1 L2 : List HP) : Exit → Act → World → Prop := fun e _ w => (e = .normal ∧ St c L1 w) ∨ (e = .ret ∧ St c L2 w)
theorem xg_pa {E1 : Env} {L1 : List HP} (hE : Sub E1 E) (hL : Sel L L1) : XG N c [] (PA N c E1 L1) .normal E L := fun a w hf H => by rw [wd_nil]; exact ⟨rfl, hf.sub hE, hL.st H⟩
theorem xg_pb {L1 L2 : List HP} (hL : Sel L L1) : XG N c ds (PB c L1 L2) .normal E L := fun _ _ _ H => .inl ⟨rfl, hL.st H⟩
theorem xg_pbR {L1 L2 : List HP} (hL : Sel L L2) : XG N c ds (PB c L1 L2) .ret E L := fun _ _ _ H => .inr ⟨rfl, hL.st H⟩
abbrev markOf (D : Nat) : List Deferred := [{ target := .collected D, args := #[] }]
theorem w_range {g : Operand} {t : Nat} {assign body : Code} {gf : FuncId} {lb : List Value} {m : Nat} {K : List HP} (B : Nat → List HP) (Jr : List HP) (xs : Nat → Value) (E1 : Nat → Env)
    (ht : Nat.blt t N = true) (hg : Ev E g (.func (.func gf) #[] lb.toArray)) (he : entersB P gf = true)
    (hit : ∀ (l : Nat) (B' : Nat → HP) (J' : HP), (∀ i, i < m → ∀ (G : List HP) (w : World), St c (B' i :: G) w → YieldAt Fence.wide 0 P l #[xs i] w fun e w' => (e = .returned (.bool true) ∧ St c (B' (i + 1) :: G) w') ∨ (e = .returned (.bool false) ∧ St c (J' :: G) w')) →
      ∀ w, St c (B' 0 :: K) w → Calls P gf (.func (.yield l) #[] #[] :: lb).toArray w fun e w' => (∃ v, e = .returned v) ∧ (St c (B' m :: K) w' ∨ St c (J' :: K) w'))
    (h0 : Sel L (B 0 ++ K))
    (hassign : ∀ l i Rr, i < m → WG P N c (Fence.wide.inRound l) [] (PA N c (E1 i) (Rr :: B i)) assign ((t, xs i) :: E) (Rr :: B i))
    (hbody : ∀ l i Rr, i < m → WG P N c (Fence.wide.inRound l) [] (PB c (Rr :: B (i + 1)) (Rr :: Jr)) body (E1 i) (Rr :: B i))
    (hdone : ∀ D, XG N c (markOf D) Q .normal E (Pt D (.deferred (some [])) :: (B m ++ K)))
    (hret : ∀ D, XG N c (markOf D) Q .ret E (Pt D (.deferred (some [])) :: (Jr ++ K))) :
    W P N c Q (.rangeFunc g #[t] assign body) E L := fun a w hf H => by
  refine (wpIn_wide (n := 0)).1 (wpIn_rangeFunc fun fn _ => ?_)
  obtain ⟨rec, hrec⟩ : ∃ rec : LoopState → Option Code → Loop, rec = fun st pe => { state := st, pending := pe, fn, tmps := a.tmps, params := #[t], assign, body, defers := w.heap.size } := ⟨_, rfl⟩
  obtain ⟨l, hl⟩ : ∃ l, l = w.heap.size + 1 := ⟨_, rfl⟩
  obtain ⟨D, hD⟩ : ∃ D, D = w.heap.size := ⟨_, rfl⟩
  have H1 : St c (Pt l (.loop (rec .ready none)) :: Pt D (.deferred (some [])) :: (B 0 ++ K)) ((w.alloc (.deferred (some []))).alloc (.loop (rec .ready none))) := by
    have := ((h0.st H).allocPt (.deferred (some []))).allocPt (.loop (rec .ready none))
    rw [World.size_alloc] at this
    rw [hl, hD]; exact this
  obtain ⟨B', hB'⟩ : ∃ B' : Nat → HP, B' = fun i => Join ([Pt l (.loop (rec .ready none)), Pt D (.deferred (some []))] ++ B i) := ⟨_, rfl⟩
  obtain ⟨J', hJ'⟩ : ∃ J' : HP, J' = Join ([Pt l (.loop (rec .done (some .ret))), Pt D (.deferred (some []))] ++ Jr) := ⟨_, rfl⟩
  have H2 : St c (B' 0 :: K) ((w.alloc (.deferred (some []))).alloc (.loop (rec .ready none))) := by
    rw [hB']; refine St.join.2 ?_; rw [List.append_assoc]; exact H1
  have hrun := run_enterLoop_outer (P := P) (w := w) fn a.tmps #[t] assign body
  rw [← hl] at hrun
  have hw2 : (.loop { state := .ready, pending := none, fn, tmps := a.tmps, params := #[t], assign, body, defers := w.heap.size } : Obj) = .loop (rec .ready none) := by rw [hrec]
  rw [hw2, ← hD] at hrun
  have hds : markOf D ++ a.defers = (wd (markOf D) a).defers := by simp [wd, hf.defers]
  have hact : ({ a with defers := markOf D ++ a.defers } : Act) = wd (markOf D) a := by rw [hds]; rfl
  refine ⟨l, markOf D, ((w.alloc (.deferred (some []))).alloc (.loop (rec .ready none))), ⟨.fn (.func gf) lb.toArray, #[.func (.yield l) #[] #[]]⟩, ((w.alloc (.deferred (some []))).alloc (.loop (rec .ready none))), gf, (.func (.yield l) #[] #[] :: lb).toArray, ((w.alloc (.deferred (some []))).alloc (.loop (rec .ready none))), hrun, ?_, fun f' _ => wide0.fn f', ?_, wide_dep, ?_⟩
  · simp only [resolve, hg N a hf, Deferred.ofValue, Sem.run_pure, List.map_toArray, List.map_cons]
    simp [go_sem]
  · simp only [invoke]
    rw [show (#[Value.func (.yield l) #[] #[]] ++ lb.toArray) = (.func (.yield l) #[] #[] :: lb).toArray by simp]
    exact run_enters he _ _
  · rw [hact]
    refine callsIn_wide.2 ((hit l B' J' ?_ _ H2).mono ?_)
    · -- one round
      intro i hi G w1 K1
      rw [hB'] at K1
      have KR := St.regroup K1
      have hl1 := St.pt (St.join.1 K1)
      have hy := run_yield (P := P) (args := #[xs i]) hl1 (by rw [hrec]; rfl)
      refine ⟨_, _, _, _, hy, roundIn_of_wpIn trivial ?_⟩
      have ea : ({ tmps := ((rec .ready none).params.zip #[xs i]).foldl (fun tmps (t, a) => tmps.setIfInBounds t a) (rec .ready none).tmps, defers := [] } : Act) = wd [] (a.put (some t) (xs i)) := by
        rw [wd_nil, hrec]
        simp [Act.put, hf.defers]
      rw [ea]
      have eas : (rec .ready none).assign = assign := by rw [hrec]
      have ebo : (rec .ready none).body = body := by rw [hrec]
      rw [eas, ebo]
      refine wpIn_mono (hassign l i _ hi _ w1 (hf.put ht) KR) ?_
      rintro e a2 w2 ⟨rfl, hf2, K2⟩
      have K2' := St.join.1 K2
      have hl2 := St.pt K2'
      refine ⟨_, run_beginRound hl2 (by rw [hrec]), ?_⟩
      have K3 := St.toJoin ([Pt l (.loop { rec .ready none with state := .busy }), Pt D (.deferred (some []))] ++ G) (St.putPt (o' := .loop { rec .ready none with state := .busy }) K2')
      have hb := hbody l i _ hi a2 _ hf2 K3
      rw [wd_nil] at hb
      refine wpIn_mono hb ?_
      rintro e a4 w4 (⟨rfl, K4⟩ | ⟨rfl, K4⟩)
      · have K4' := St.join.1 K4
        have hl4 := St.pt K4'
        refine ⟨_, _, run_endRound none hl4, .inl ⟨rfl, ?_⟩⟩
        have K5 := St.putPt (o' := .loop (rec .ready none)) K4'
        rw [hB']
        have e5 : (.loop { { rec .ready none with state := .busy } with state := if (none : Option Code).isNone then .ready else .done, pending := none } : Obj) = .loop (rec .ready none) := by rw [hrec]; rfl
        rw [e5]
        exact St.regroup (St.toJoin ([Pt l (.loop (rec .ready none)), Pt D (.deferred (some []))] ++ G) K5)
      · have K4' := St.join.1 K4
        have hl4 := St.pt K4'
        refine ⟨_, _, run_endRound (some .ret) hl4, .inr ⟨rfl, ?_⟩⟩
        have K5 := St.putPt (o' := .loop (rec .done (some .ret))) K4'
        rw [hJ']
        have e5 : (.loop { { rec .ready none with state := .busy } with state := if (some Code.ret : Option Code).isNone then .ready else .done, pending := some .ret } : Obj) = .loop (rec .done (some .ret)) := by rw [hrec]; rfl
        rw [e5]
        exact St.regroup (St.toJoin ([Pt l (.loop (rec .done (some .ret))), Pt D (.deferred (some []))] ++ G) K5)
    · rintro e w3 ⟨⟨v, rfl⟩, H3 | H3⟩
      · rw [hB'] at H3
        have H3' := St.join.1 H3
        rw [List.append_assoc] at H3'
        have hl3 := St.pt H3'
        have hr := run_endLoop (P := P) hl3 (by rw [hrec]; simp)
        rw [show (rec .ready none).pending = none by rw [hrec]] at hr
        exact ⟨none, _, hr, hdone D a _ hf (St.putPt H3').tail⟩
      · rw [hJ'] at H3
        have H3' := St.join.1 H3
        rw [List.append_assoc] at H3'
        have hl3 := St.pt H3'
        have hr := run_endLoop (P := P) hl3 (by rw [hrec]; simp)
        rw [show (rec .done (some .ret)).pending = some .ret by rw [hrec]] at hr
        exact ⟨some .ret, _, hr, wpIn_ret (hret D a _ hf (St.putPt H3').tail)⟩

/-! ### A function that leaves with a mark -/
theorem calls_wM {f : FuncId} {fn : Func} {code : Code} {vs : List Value} {R : Ending → World → Prop} (hf : P.funcs[f]? = some fn) (hb : fn.body = some code) (hN : fn.ntmps = N) (hv : Nat.ble vs.length N = true)
    (h : W P N c (bodyPostM Fence.wide 0 P fn R) code (args0 0 vs) L) : ∀ w, St c L w → Calls P f vs.toArray w R := fun w H => by
  have hv' : vs.length ≤ N := by simpa using hv
  refine (callsIn_wide (n := 0)).1 (callsIn_of_wp_marks hf hb trivial (wpIn_wide.2 (h _ w ⟨rfl, by simp [hN]; omega, fun t v hl => ?_⟩ H)))
  obtain ⟨k, h1, h2⟩ := look_args vs 0 t v hl
  have hk : k < vs.length := (List.getElem?_eq_some_iff.1 h2).1
  have : t = k := by omega
  subst this
  have h3 : (vs.toArray ++ Array.replicate (fn.ntmps - vs.toArray.size) undef)[t]? = some v := by
    rw [Array.getElem?_append_left (by simpa using hk)]; simpa using h2
  rw [Array.getD_eq_getD_getElem?, h3]; rfl
theorem x_retM {fn : Func} {R : Ending → World → Prop} (h : X N c (bodyPost P fn R) .ret E L) : X N c (bodyPostM F 0 P fn R) .ret E L := fun a w hf H => by
  show LeavesInM F 0 P fn a.tmps R a.defers .returning w
  rw [hf.defers]
  exact (h a w hf H).2
theorem results_c1 {fn : Func} {p : Tmp} {ty : TypeId} {z v : Value} [ht : TOne P ty z] (h : fn.results = #[.cell p ty]) (tmps : Array Value) (w : World) (ad : Addr)
    (hp : tmps.getD p undef = .pointer (some ad)) (hc : w.cell? ad = some v) : (results fn tmps).run P w = .ok v w := by
  have hu := ht.u
  cases hd : P.underlying ty with
  | none => simp [hd] at hu
  | some ds =>
    have ha : (isAgg ty).run P w = .ok false w := by
      unfold isAgg
      rw [Sem.run_bind, run_underlying hd w]
      rw [hd] at hu
      cases ds <;> simp_all [TypeDesc.isRow]
    have hp' : tmps[p]?.getD undef = .pointer (some ad) := by simpa using hp
    simp [results, h, hp', asAddr, loadVar, ha, load, Sem.run, hc]
theorem x_retC1 {fn : Func} {R : Ending → World → Prop} {p : Tmp} {ty : TypeId} {z v : Value} {ad : Addr} [ht : TOne P ty z] (hr : fn.results = #[.cell p ty]) (hl : look E p = some (.pointer (some ad))) (hc : HasCell (St c L) ad v)
    (h : ∀ w, St c L w → R (.returned v) w) : X N c (bodyPost P fn R) .ret E L := fun a w hf H =>
  bodyPost_ret (v := v) (results_c1 hr a.tmps w ad (hf.get p _ hl) (hc w H)) hf.defers (h w H)
theorem xg_retC1 {fn : Func} {R : Ending → World → Prop} {p : Tmp} {ty : TypeId} {z v : Value} {ad : Addr} {D : Nat} [ht : TOne P ty z] (hr : fn.results = #[.cell p ty]) (hl : look E p = some (.pointer (some ad))) (hc : HasCell (St c L) ad v)
    (h : ∀ w, St c L w → R (.returned v) w) : XG N c (markOf D) (bodyPostM F 0 P fn R) .ret E (Pt D (.deferred (some [])) :: L) := fun a w hf H => by
  show LeavesInM F 0 P fn a.tmps R (a.defers ++ markOf D) .returning w
  rw [hf.defers]
  have H' := (St.putPt (o' := .deferred none) H).tail
  exact ⟨by simp, .inl ⟨D, _, rfl, run_takeDeferred H.pt, v, results_c1 hr a.tmps _ ad (hf.get p _ hl) (hc _ H'), h _ H'⟩⟩
end
section
variable {P : Program} {N : Nat} {c : Con} {F : Fence} {ds : List Deferred} {Q : Exit → Act → World → Prop} {E : Env} {L : List HP} {G : Prop}
theorem im_wg {x : Code} (h : G → WG P N c F ds Q x E L) : G → WG P N c F ds Q x E L := h
theorem im_xg {e : Exit} (h : G → XG N c ds Q e E L) : G → XG N c ds Q e E L := h
theorem im_cvg {x y : Code} {v : Value} (h : G → CVG P N c F ds Q x y E L v) : G → CVG P N c F ds Q x y E L v := h
end
theorem gg1 {G G' : Prop} (h : G' → G := by (first | (with_reducible apply im_wg; first | exact fun h => wg_seq h | exact fun h => wg_region (by first | exact wide0 | exact wideR _) rfl h | exact fun h => wg_cv rfl h | exact fun h => wg_skip h | exact fun h => wg_ret h | exact fun h => wg_block h) | (with_reducible apply im_xg; first | exact fun h => xg_then h | exact fun h => xg_thenW h | exact fun h => xg_thenR h | exact fun h => xg_block h | exact fun h => xg_blockR h) | (with_reducible apply im_cvg; first | exact fun h => cvg_true h | exact fun h => cvg_false h | exact fun h => cvg_dec_t (by first | assumption | exact rfl | exact ne_self | decide | omega) h | exact fun h => cvg_dec_f (by first | assumption | exact rfl | exact ne_self | decide | omega) h | exact fun h => cvg_bool_t (by assumption) h | exact fun h => cvg_bool_f (by assumption) h) | (with_reducible apply im_x; first | exact fun h => x_nq h | exact fun h => x_ng h))) (k : G') : G := h k
theorem gg2 {G A B : Prop} (h : A → B → G := by (first | exact fun h k => cvg_dec h k | exact fun h k => cvg_bool h k)) (ka : A) (kb : B) : G := h ka kb
end Go.Proofs.Ytjofjkjghakcoaa

/- A region that draws its order, where two acts may come in either order: first what only looks, then a choice. No program in sight. -/
namespace Go.Proofs.Ytjofjkjghakcoaa
open Go.RowKit

/-- The operations that are done, the last one first. -/
def listedOf (n : Nat) : List Nat → Array Bool
  | [] => Array.replicate n false
  | i :: r => (listedOf n r).setIfInBounds i true
def planPre (ops : Array Oper) : Plan → List Nat → Bool
  | [], _ => true
  | (i, b) :: r, l => b && (Region.ready .any ops (listedOf ops.size l)).contains i && Region.free .any ops (listedOf ops.size l) i && planPre ops r (i :: l)
def doneOf : Plan → List Nat → List Nat
  | [], l => l
  | (i, _) :: r, l => doneOf r (i :: l)

section
variable {P : Program} {ops : Array Oper} {Q : Exit → Act → World → Prop} {S : World → Prop} {q : List Nat}
theorem looks_late {i : Nat} (hi : i ∈ q) : ∀ j, j ≠ i → earlyB .any ops q j = false → Region.waitsFor .any ops j i = true := fun j hji he => by
  have h0 := List.any_eq_false.1 he i hi
  cases hw : Region.waitsFor .any ops j i with
  | true => rfl
  | false => rw [hw] at h0; simp at h0; exact absurd h0.symm hji
theorem looks_any (hsel : Region.noSelect ops = true) (hQ : ∀ c (d : Option Tmp) (v : Value) a w, Q (.panic c) (a.put d v) w → Q (.panic c) a w) {n : Nat} :
    ∀ (p : Plan) (l : List Nat) (a : Act) (w : World), (∀ i ∈ p.map (·.1), i ∈ q) → planPre ops p l = true → S w →
      wpPlan P ops (NQ fun a w => wpAnyR P .any ops Q S (earlyB .any ops q) n (listedOf ops.size (doneOf p l)) a w) (earlyB .any ops q) p S a w → wpAnyR P .any ops Q S (earlyB .any ops q) (p.length + n) (listedOf ops.size l) a w
  | [], l, a, w, _, _, _, h => by rw [List.length_nil, Nat.zero_add]; exact h.2
  | (i, false) :: r, l, a, w, _, hB, _, _ => by simp [planPre] at hB
  | (i, true) :: r, l, a, w, hq, hB, hS, h => by
    obtain ⟨o, v, ho, hy, h⟩ := h
    simp only [planPre, Bool.and_eq_true, true_and] at hB
    obtain ⟨⟨hr, hf⟩, hB⟩ := hB
    have H := looks_any hsel hQ r (i :: l) (a.put o.dst v) w (fun k hk => hq k (List.mem_cons_of_mem _ hk)) hB hS h
    have H2 := wpAnyR_first (md := .any) ho (Region.noSelect_spec hsel) (fun c a w => hQ c _ _ a w) (fun j oj hj hji he => by
      obtain ⟨o', ho', e, he', hb, hon⟩ := Region.waitsFor_spec (looks_late (hq i List.mem_cons_self) j hji he)
      obtain rfl : o' = oj := Option.some.inj (ho'.symm.trans hj)
      exact ⟨e, he', hb, hon⟩) _ (listedOf ops.size l) a w (Region.free_spec ho hf) (by simpa using hr) hy hS H
    rw [show ((i, true) :: r).length + n = (r.length + n) + 1 by simp; omega]
    exact H2
end

/-- What is left of a region, from a state on. -/
abbrev Rest (P : Program) (c : Con) (ops : Array Oper) (Q : Exit → Act → World → Prop) (R : List HP) (q : List Nat) (n : Nat) (l : List Nat) : Exit → Act → World → Prop :=
  NQ fun a w => wpAnyR P .any ops (NoPanic Q) (St c R) (earlyB .any ops q) n (listedOf ops.size l) a w
section
variable {P : Program} {N : Nat} {c : Con} {Q : Exit → Act → World → Prop} {E : Env} {L R : List HP} {ops : Array Oper} {q : List Nat}
theorem np_panic : ∀ c (d : Option Tmp) (v : Value) a w, NoPanic Q (.panic c) (a.put d v) w → NoPanic Q (.panic c) a w := fun _ _ _ _ _ h => h
/-- First the looks of p; q: all that looks. -/
theorem w_looks {id : Nat} (p : Plan) (q : List Nat) (R : List HP) (hm : P.follows .mixedOrders = true) (hsel : Region.noSelect ops = true) (hq : (p.map (·.1)).all (q.contains ·) = true) (hB : planPre ops p [] = true) (hl : Nat.ble p.length ops.size = true) (hR : Sel L R)
    (h : WP P N c ops (Rest P c ops Q R q (ops.size - p.length) (doneOf p [])) R (earlyB .any ops q) p E L) : W P N c Q (.region id ops true) E L := fun a w hf H => by
  refine wp_region_noPanic (wp_region_any hm ?_)
  have h1 := looks_any (S := St c R) hsel np_panic p [] a w.drew (fun i hi => by have := List.all_eq_true.1 hq i hi; simpa using this) hB (hR.st H).drew (h a _ hf H.drew)
  rw [show p.length + (ops.size - p.length) = ops.size by have := Nat.le_of_ble_eq_true hl; omega] at h1
  exact wpAny_of_R _ _ _ _ h1
theorem x_tail {n : Nat} {l : List Nat} (R' : List HP) (p : Plan) (hRR : Sel R' R) (hsel : Region.noSelect ops = true) (hq : p.looks.all (q.contains ·) = true) (hn : p.length = n) (hB : planOk .any ops (earlyB .any ops q) p (listedOf ops.size l) = true) (hR : Sel L R')
    (h : WP P N c ops (NoPanic Q) R' (earlyB .any ops q) p E L) : X N c (Rest P c ops Q R q n l) .normal E L := fun a w hf H => by
  refine ⟨rfl, ?_⟩
  subst hn
  exact wpAnyR_mono (fun w k => hRR.st k) _ _ _ _ (wpAnyR_plan hsel np_panic p (St c R') _ a w (fun i hi => looks_late (by
    have := List.all_eq_true.1 hq i (List.mem_map.2 ⟨(i, true), List.mem_filter.2 ⟨hi, rfl⟩, rfl⟩)
    simpa using this)) hB (fun _ => hR.st H) (h a w hf H))
/-- Two acts may come. -/
theorem x_two {m n i j d1 d2 : Nat} {l : List Nat} {op1 op2 : Op} {ty1 ty2 : TypeId} {pos1 pos2 : String} {aft1 aft2 : Array Edge} (hr : Region.ready .any ops (listedOf ops.size l) = [i, j])
    (h1 : ops[i]? = some ⟨some d1, op1, ty1, pos1, aft1, none⟩) (h2 : ops[j]? = some ⟨some d2, op2, ty2, pos2, aft2, none⟩) (b1 : Nat.blt d1 N = true) (b2 : Nat.blt d2 N = true) (hm : m = n + 1)
    (k1 : OWK P N c E L ⟨some d1, op1, ty1, pos1, aft1, none⟩ fun v L' => (Sel L' R ∧ X N c (Rest P c ops Q R q n (i :: l)) .normal ((d1, v) :: E) L'))
    (k2 : OWK P N c E L ⟨some d2, op2, ty2, pos2, aft2, none⟩ fun v L' => (Sel L' R ∧ X N c (Rest P c ops Q R q n (j :: l)) .normal ((d2, v) :: E) L')) : X N c (Rest P c ops Q R q m l) .normal E L := fun a w hf H => by
  subst hm
  refine ⟨rfl, ⟨fun e => (by rw [hr] at e; cases e), fun k hk => ?_⟩⟩
  rw [hr] at hk
  rcases List.mem_cons.1 hk with rfl | hk
  · obtain ⟨β, s, L', g1, g2⟩ := k1
    unfold wpOp
    simp only [h1]
    rw [if_pos (by simp [Region.wanted])]
    exact .inl (g1 _ _ a w hf H fun x w' H' => ⟨fun _ => (g2 x).1.st H', ((g2 x).2 _ w' (hf.put b1) H').2⟩)
  · obtain rfl := List.mem_singleton.1 hk
    obtain ⟨β, s, L', g1, g2⟩ := k2
    unfold wpOp
    simp only [h2]
    rw [if_pos (by simp [Region.wanted])]
    exact .inl (g1 _ _ a w hf H fun x w' H' => ⟨fun _ => (g2 x).1.st H', ((g2 x).2 _ w' (hf.put b2) H').2⟩)
end
end Go.Proofs.Ytjofjkjghakcoaa

/- A slice of bytes among the arguments, and inside a struct's cells. -/
namespace Go.Proofs.Ytjofjkjghakcoaa
open Go.RowKit
section
variable {H : Type} {enc : TypeId × Value → H} {W : World}
theorem elem_slice_bytes {P : Program} {t e : TypeId} (ht : P.underlying t = some (.slice e)) (he : P.underlying e = some (.int .u8)) (hs : P.cellsOf e = 1) {n : Nat} {cs : List Value} {x : DataW H × List MemPlace}
    (h : DataW.trod enc P W 0 (fun _ => true) true n t cs = some x) : ∃ a len cap, ∃ l : List UInt8, cs = [.slice a len cap] ∧ l.length = len ∧ Reads W (.slice a len cap) len 1 (bvs l) := by
  obtain ⟨a, len, cap, rfl, h0, h1, h2, ys, hy⟩ := open_elems (R := IsByte) ht hs (fun n cs x _ hh => elem_byte he hh) h
  exact ⟨a, len, cap, ys, rfl, reads_of_elems hy h0 h1 h2⟩
theorem open_bytes {P : Program} {t e : TypeId} (ht : P.underlying t = some (.slice e)) (he : P.underlying e = some (.int .u8)) (hs : P.cellsOf e = 1) {a : Option Addr} {len cap : Nat} {d : DataW H} {ps : List MemPlace}
    (h : DataW.Trod enc P W 0 (fun _ => true) true t (.slice a len cap) d ps) : ∃ l : List UInt8, l.length = len ∧ Reads W (.slice a len cap) len 1 (bvs l) := by
  obtain ⟨fuel, hf⟩ := h
  obtain ⟨a', len', cap', l, hcs, h1, h2⟩ := elem_slice_bytes ht he hs hf
  simp [Value.cells] at hcs
  obtain ⟨rfl, rfl, rfl⟩ := hcs
  exact ⟨l, h1, h2⟩
end
end Go.Proofs.Ytjofjkjghakcoaa

/- Slices that came in: of integers, truth values, texts, rows of bytes. No program in sight. -/
namespace Go.Proofs.Ytjofjkjghakcoaa
open Go.ChangeShapes Go.WideShapes Go.ChangeAt Go.RowKit Go.Deep
section
variable {H : Type} {enc : TypeId × Value → H} {W : World}
def IsInt (_ : World) (z : Int) (cs : List Value) : Prop := cs = [.int .i64 z] ∧ -9223372036854775808 ≤ z ∧ z ≤ 9223372036854775807
def IsTruth (_ : World) (b : Bool) (cs : List Value) : Prop := cs = [.bool b]
structure BRow where
  A : Option Addr
  len : Nat
  cap : Nat
  b : List UInt8
def IsBRow (w : World) (y : BRow) (cs : List Value) : Prop := cs = [.slice y.A y.len y.cap] ∧ y.b.length = y.len ∧ Reads w (.slice y.A y.len y.cap) y.len 1 (bvs y.b)
theorem elem_truth {P : Program} {t : TypeId} (ht : P.underlying t = some .bool) {n : Nat} {cs : List Value} {x : DataW H × List MemPlace} (h : DataW.trod enc P W 0 (fun _ => true) true n t cs = some x) : ∃ b : Bool, cs = [.bool b] := by
  obtain ⟨b, h1, _⟩ := DataW.trod_bool ht h
  exact ⟨b, h1⟩
theorem open_rowOf {α : Type} {P : Program} {t e : TypeId} {size : Nat} {R : World → α → List Value → Prop} (ht : P.underlying t = some (.slice e)) (hs : P.cellsOf e = size)
    (hR : ∀ (n : Nat) (cs : List Value) (x : DataW H × List MemPlace), cs.length = size → DataW.trod enc P W 0 (fun _ => true) true n e cs = some x → ∃ y : α, R W y cs)
    {a : Option Addr} {len cap : Nat} {d : DataW H} {ps : List MemPlace} (h : DataW.Trod enc P W 0 (fun _ => true) true t (.slice a len cap) d ps) : ∃ zs, ElemsOf R size W a len zs := by
  obtain ⟨fuel, hf⟩ := h
  obtain ⟨a', len', cap', hcs, _, _, _, ys, hy⟩ := open_elems ht hs hR hf
  simp [Value.cells] at hcs
  obtain ⟨rfl, rfl, rfl⟩ := hcs
  exact ⟨ys, hy⟩
theorem open_ints {P : Program} {t e : TypeId} (ht : P.underlying t = some (.slice e)) (he : P.underlying e = some (.int .i64)) (hs : P.cellsOf e = 1) {a : Option Addr} {len cap : Nat} {d : DataW H} {ps : List MemPlace}
    (h : DataW.Trod enc P W 0 (fun _ => true) true t (.slice a len cap) d ps) : ∃ zs, ElemsOf IsInt 1 W a len zs :=
  open_rowOf ht hs (fun _ _ _ _ hh => by obtain ⟨z, h1, h2⟩ := elem_int he hh; exact ⟨z, h1, h2⟩) h
theorem open_truths {P : Program} {t e : TypeId} (ht : P.underlying t = some (.slice e)) (he : P.underlying e = some .bool) (hs : P.cellsOf e = 1) {a : Option Addr} {len cap : Nat} {d : DataW H} {ps : List MemPlace}
    (h : DataW.Trod enc P W 0 (fun _ => true) true t (.slice a len cap) d ps) : ∃ zs, ElemsOf IsTruth 1 W a len zs :=
  open_rowOf ht hs (fun _ _ _ _ hh => elem_truth he hh) h
theorem open_brows {P : Program} {t e q : TypeId} (ht : P.underlying t = some (.slice e)) (he : P.underlying e = some (.slice q)) (hq : P.underlying q = some (.int .u8)) (hs : P.cellsOf e = 1) (hs' : P.cellsOf q = 1) {a : Option Addr} {len cap : Nat} {d : DataW H} {ps : List MemPlace}
    (h : DataW.Trod enc P W 0 (fun _ => true) true t (.slice a len cap) d ps) : ∃ zs, ElemsOf IsBRow 1 W a len zs :=
  open_rowOf ht hs (fun _ _ _ _ hh => by obtain ⟨a, len, cap, l, h1, h2, h3⟩ := elem_slice_bytes he hq hs' hh; exact ⟨⟨a, len, cap, l⟩, h1, h2, h3⟩) h
def IsText (_ : World) (s : List UInt8) (cs : List Value) : Prop := cs = [str s]
theorem elem_text {P : Program} {t : TypeId} (ht : P.underlying t = some .string) {n : Nat} {cs : List Value} {x : DataW H × List MemPlace} (h : DataW.trod enc P W 0 (fun _ => true) true n t cs = some x) : ∃ s : List UInt8, cs = [str s] := by
  obtain ⟨s, h1, _⟩ := DataW.trod_string ht h
  exact ⟨s.data.toList, by rw [h1]; simp [str]⟩
theorem open_texts {P : Program} {t e : TypeId} (ht : P.underlying t = some (.slice e)) (he : P.underlying e = some .string) (hs : P.cellsOf e = 1) {a : Option Addr} {len cap : Nat} {d : DataW H} {ps : List MemPlace}
    (h : DataW.Trod enc P W 0 (fun _ => true) true t (.slice a len cap) d ps) : ∃ zs, ElemsOf IsText 1 W a len zs := by
  obtain ⟨fuel, hf⟩ := h
  obtain ⟨a', len', cap', hcs, _, _, _, ys, hy⟩ := open_elems ht hs (R := IsText) (fun _ _ _ _ hh => by obtain ⟨s, h1⟩ := elem_text he hh; exact ⟨s, h1⟩) hf
  simp [Value.cells] at hcs
  obtain ⟨rfl, rfl, rfl⟩ := hcs
  exact ⟨ys, hy⟩
end
end Go.Proofs.Ytjofjkjghakcoaa

/- VaultClashes: the walk. -/
namespace Go.Proofs.Ytjofjkjghakcoaa
open Go.ChangeShapes Go.WideShapes Go.ChangeAt Go.RowKit Go.Deep
theorem ints_cell {w : World} {A : Option Addr} {len : Nat} {l : List Int} (h : ElemsOf IsInt 1 w A len l) {j : Nat} {x : Int} (hx : l[j]? = some x) : (∃ a, A = some a) ∧ (-9223372036854775808 ≤ x ∧ x ≤ 9223372036854775807) ∧ ∀ a, A = some a → w.cell? (a.add (j * 1)) = some (.int .i64 x) := by
  obtain ⟨a, cs, rfl, ⟨hcs, hr⟩, -, hc⟩ := h.2.2 j x hx
  refine ⟨⟨a, rfl⟩, hr, fun a' e => ?_⟩
  cases e
  have := hc 0 (.int .i64 x) (by rw [hcs]; rfl)
  simpa [Addr.add] using this
theorem texts_cell {w : World} {A : Option Addr} {len : Nat} {l : List Bs} (h : ElemsOf IsText 1 w A len l) {j : Nat} {x : Bs} (hx : l[j]? = some x) : (∃ a, A = some a) ∧ ∀ a, A = some a → w.cell? (a.add (j * 1)) = some (str x) := by
  obtain ⟨a, cs, rfl, hcs, -, hc⟩ := h.2.2 j x hx
  refine ⟨⟨a, rfl⟩, fun a' e => ?_⟩
  cases e
  have := hc 0 (str x) (by rw [hcs]; rfl)
  simpa [Addr.add] using this
theorem look_in {α : Type} {l : List α} {j : Nat} (h : j < l.length) : ∃ x, l[j]? = some x := ⟨_, List.getElem?_eq_getElem h⟩
attribute [local irreducible] Y OW YK OWK W WL WP X CV GvL GvP Ev Evs HasCell HasCells Has Met Again Kept
set_option maxRecDepth 100000 in
set_option maxHeartbeats 4000000 in
theorem vaultClashes_walk (A1 : Option Addr) (l1 c1 : Nat) (ks : List Int) (A2 : Option Addr) (l2 c2 : Nat) (ss : List Int) (A3 : Option Addr) (l3 c3 : Nat) (ts : List Bs) (w : World) (hk : ElemsOf IsInt 1 w A1 l1 ks) (hs : ElemsOf IsInt 1 w A2 l2 ss) (ht : ElemsOf IsText 1 w A3 l3 ts) :
    Calls Try.prog 4 #[.slice A1 l1 c1, .slice A2 l2 c2, .slice A3 l3 c3] w fun e w' => e = .returned (.bool true) ∧ Below w.heap.size w w' := by
  have hkl := hk.1
  have hsl := hs.1
  have htl := ht.1
  have hV0 : ∀ I, (⟨I, zero32, max 100 0, [], 0⟩ : VaultM) = ⟨I, zero32, 100, [], 0⟩ := fun I => rfl
  refine calls_w (vs := [.slice A1 l1 c1, .slice A2 l2 c2, .slice A3 l3 c3]) Try.func4 rfl rfl rfl ?_ w (St.start w)
  by_cases hg : l1 ≤ 60 ∧ l1 ≤ l2 ∧ l1 ≤ l3
  · obtain ⟨g1, g2, g3⟩ := hg
    (repeat' (first
      | ((with_reducible refine at_fn 7 ?_); with_reducible refine owk_c0s evs_auto (by kernel_rfl) (fun w H => alive10 H) ?_)
      | ((with_reducible refine at_fn 9 ?_); with_reducible refine owk_c0x evs_auto (by kernel_rfl) (fun w H => i_new H) (fun q => ?_))
      | ((with_reducible refine at_fn 8 ?_); with_reducible refine owk_c1x evs_auto (by kernel_rfl) pick_auto (fun w H => v_ideal zero32_length (hV0 _) H) (fun p => ?_))
      | (with_reducible refine at_build ?_; first | refine yk y_buildKey0 ?_)
      | (with_reducible refine is_yk ?_; refine yk_auto (k := ?_))
      | (with_reducible refine is_owk0 ?_; refine owk0_auto (k := ?_))
      | (with_reducible refine is_owkc ?_; refine owk_auto (k := fun _ => ?_))
      | refine go1 (k := ?_)
      | (refine go2 (ka := ?_) (kb := ?_) <;> intro _)
      | fail))
    refine w_loop (α := Nat × VaultM × Int × List Int) (fun x => x.1 ≤ l1 ∧ Clash ks ss ts x.1 x.2.1 x.2.2.1 x.2.2.2)
      (fun x => [(38, .int .i64 (x.1 : Int)), (37, .int .i64 (l1 : Int)), (36, .slice A1 l1 c1), (8, .int .i64 x.2.2.1), (7, .pointer (some ⟨p, 0, none⟩)), (0, .slice A1 l1 c1), (1, .slice A2 l2 c2), (2, .slice A3 l3 c3)])
      (fun x => [VaultAt p x.2.1, Old w]) (fun x => l1 - x.1) (0, ⟨⟨[], []⟩, List.replicate 32 0, 100, [], 0⟩, 0, []) ⟨Nat.zero_le _, clash_new⟩ sub_auto sel_auto (fun x hx => ?_)
    obtain ⟨i, V, want, nums⟩ := x
    obtain ⟨hi, hI⟩ := hx
    dsimp only at hi hI ⊢
    by_cases hlt : i < l1
    · obtain ⟨k, hki⟩ := look_in (l := ks) (j := i) (by omega)
      obtain ⟨s, hsi⟩ := look_in (l := ss) (j := i) (by omega)
      obtain ⟨t, hti⟩ := look_in (l := ts) (j := i) (by omega)
      obtain ⟨⟨a1, rfl⟩, hkr, hkc⟩ := ints_cell hk hki
      obtain ⟨⟨a2, rfl⟩, hsr, hsc⟩ := ints_cell hs hsi
      obtain ⟨⟨a3, rfl⟩, htc⟩ := texts_cell ht hti
      have ck := hkc _ rfl
      have cs := hsc _ rfl
      have ct := htc _ rfl
      by_cases hbad : 1024 < t.length ∨ s < 0 ∨ 100 ≤ s
      · by_cases b1 : 1024 < t.length
        · (repeat' (first
      | (with_reducible refine at_load ?_; first | refine yk (y_load (ev_tmp rfl) old_auto) ?_)
      | (with_reducible refine is_yk ?_; refine yk_auto (k := ?_))
      | (with_reducible refine is_owk0 ?_; refine owk0_auto (k := ?_))
      | (with_reducible refine is_owkc ?_; refine owk_auto (k := fun _ => ?_))
      | refine go1 (k := ?_)
      | (refine go2 (ka := ?_) (kb := ?_) <;> intro _)
      | fail))
          exact x_ret1 rfl rfl (fun w H => ⟨rfl, (Sel.st (T := [Old _]) sel_auto H).toBelow'⟩)
        · by_cases b2 : s < 0
          · (repeat' (first
      | (with_reducible refine at_load ?_; first | refine yk (y_load (ev_tmp rfl) old_auto) ?_)
      | (with_reducible refine is_yk ?_; refine yk_auto (k := ?_))
      | (with_reducible refine is_owk0 ?_; refine owk0_auto (k := ?_))
      | (with_reducible refine is_owkc ?_; refine owk_auto (k := fun _ => ?_))
      | refine go1 (k := ?_)
      | (refine go2 (ka := ?_) (kb := ?_) <;> intro _)
      | fail))
            exact x_ret1 rfl rfl (fun w H => ⟨rfl, (Sel.st (T := [Old _]) sel_auto H).toBelow'⟩)
          · have b3 : 100 ≤ s := by omega
            (repeat' (first
      | (with_reducible refine at_load ?_; first | refine yk (y_load (ev_tmp rfl) old_auto) ?_)
      | (with_reducible refine is_yk ?_; refine yk_auto (k := ?_))
      | (with_reducible refine is_owk0 ?_; refine owk0_auto (k := ?_))
      | (with_reducible refine is_owkc ?_; refine owk_auto (k := fun _ => ?_))
      | refine go1 (k := ?_)
      | (refine go2 (ka := ?_) (kb := ?_) <;> intro _)
      | fail))
            exact x_ret1 rfl rfl (fun w H => ⟨rfl, (Sel.st (T := [Old _]) sel_auto H).toBelow'⟩)
      · have b1 : ¬ 1024 < t.length := fun h => hbad (.inl h)
        have b2 : ¬ s < 0 := fun h => hbad (.inr (.inl h))
        have b3 : ¬ 100 ≤ s := fun h => hbad (.inr (.inr h))
        clear hbad
        obtain ⟨want', hw'⟩ : ∃ want', bump (lastT ks ss ts k s i) t want = want' := ⟨_, rfl⟩
        have hw0 := hI.w0
        (repeat' (first
      | (with_reducible refine at_load ?_; first | refine yk (y_load (ev_tmp rfl) old_auto) ?_)
      | (with_reducible refine is_w ?_; first | refine w_meetS (id := 12) (α := Unit) (fun _ => True) (fun _ => [(8, .int .i64 want'), (9, .int .i64 (i : Int)), (10, .int .i64 k), (38, .int .i64 (i : Int)), (37, .int .i64 (l1 : Int)), (36, .slice (some a1) l1 c1), (7, .pointer (some ⟨p, 0, none⟩)), (0, .slice (some a1) l1 c1), (1, .slice (some a2) l2 c2), (2, .slice (some a3) l3 c3)]) (fun _ => [VaultAt p V, Old w]) ?_ ?_)
      | (with_reducible refine is_yk ?_; refine yk_auto (k := ?_))
      | (with_reducible refine is_owk0 ?_; refine owk0_auto (k := ?_))
      | (with_reducible refine is_owkc ?_; refine owk_auto (k := fun _ => ?_))
      | refine go1 (k := ?_)
      | (refine go2 (ka := ?_) (kb := ?_) <;> intro _)
      | fail))
        · unfold Stop
          (repeat' (first
      | (with_reducible refine is_yk ?_; refine yk_auto (k := ?_))
      | (with_reducible refine is_owk0 ?_; refine owk0_auto (k := ?_))
      | (with_reducible refine is_owkc ?_; refine owk_auto (k := fun _ => ?_))
      | refine go1 (k := ?_)
      | (refine go2 (ka := ?_) (kb := ?_) <;> intro _)
      | fail))
          refine w_loop (α := Nat) (fun m => m ≤ i ∧ lastT ks ss ts k s i = lastT ks ss ts k s m) (fun m => [(11, .int .i64 ((m : Int) - 1)), (8, .int .i64 want), (9, .int .i64 (i : Int)), (10, .int .i64 k), (38, .int .i64 (i : Int)), (37, .int .i64 (l1 : Int)), (36, .slice (some a1) l1 c1), (7, .pointer (some ⟨p, 0, none⟩)), (0, .slice (some a1) l1 c1), (1, .slice (some a2) l2 c2), (2, .slice (some a3) l3 c3)])
            (fun _ => [VaultAt p V, Old w]) (fun m => m) i ⟨Nat.le_refl _, rfl⟩ sub_auto sel_auto (fun m hm => ?_)
          obtain ⟨hm, hlast⟩ := hm
          cases m with
          | zero =>
            have hwe : want' = want := by rw [← hw', hlast]; rfl
            rw [show (((0 : Nat) : Int) - 1) = -1 from rfl, hwe]
            (repeat' (first
      | (with_reducible refine is_yk ?_; refine yk_auto (k := ?_))
      | (with_reducible refine is_owk0 ?_; refine owk0_auto (k := ?_))
      | (with_reducible refine is_owkc ?_; refine owk_auto (k := fun _ => ?_))
      | refine go1 (k := ?_)
      | (refine go2 (ka := ?_) (kb := ?_) <;> intro _)
      | fail))
            exact x_met () trivial sub_auto sel_auto
          | succ m =>
            rw [show ((((m + 1 : Nat)) : Int) - 1) = (m : Int) by omega]
            obtain ⟨kj, hkj⟩ := look_in (l := ks) (j := m) (by omega)
            obtain ⟨sj, hsj⟩ := look_in (l := ss) (j := m) (by omega)
            obtain ⟨tj, htj⟩ := look_in (l := ts) (j := m) (by omega)
            have ckj := (ints_cell hk hkj).2.2 _ rfl
            have csj := (ints_cell hs hsj).2.2 _ rfl
            have ctj := (texts_cell ht htj).2 _ rfl
            by_cases e1 : kj = k
            · by_cases e2 : sj = s
              · have hl1 : lastT ks ss ts k s i = some tj := by rw [hlast]; unfold lastT; rw [if_pos ⟨by rw [hkj, e1], by rw [hsj, e2]⟩, htj]
                by_cases e3 : tj = t
                · have hwe : want' = want := by rw [← hw', hl1]; exact if_pos e3
                  have e4 : ¬ (tj ≠ t) := fun h => h e3
                  rw [hwe]
                  (repeat' (first
      | (with_reducible refine at_load ?_; first | refine yk (y_load (ev_tmp rfl) old_auto) ?_)
      | (with_reducible refine is_w ?_; first | refine w_plan (id := 15) [(0, true), (1, true), (2, true), (3, true), (4, true), (5, true), (6, true), (7, true), (8, true), (9, true), (10, true), (11, true), (12, true), (13, true), (14, true), (15, true), (16, true)] _ (by kernel_rfl) (by kernel_rfl) sel_all ?_ | refine w_plan (id := 16) [(0, true), (1, true), (2, true), (3, true), (4, true), (5, true), (6, true), (7, true), (8, true)] _ (by kernel_rfl) (by kernel_rfl) sel_all ?_)
      | (with_reducible refine is_yk ?_; refine yk_auto (k := ?_))
      | (with_reducible refine is_owk0 ?_; refine owk0_auto (k := ?_))
      | (with_reducible refine is_owkc ?_; refine owk_auto (k := fun _ => ?_))
      | refine go1 (k := ?_)
      | (refine go2 (ka := ?_) (kb := ?_) <;> intro _)
      | fail))
                  exact x_met () trivial sub_auto sel_auto
                · have hwe : want' = want + 1 := by rw [← hw', hl1]; exact if_neg e3
                  rw [hwe]
                  (repeat' (first
      | (with_reducible refine at_load ?_; first | refine yk (y_load (ev_tmp rfl) old_auto) ?_)
      | (with_reducible refine is_w ?_; first | refine w_plan (id := 15) [(0, true), (1, true), (2, true), (3, true), (4, true), (5, true), (6, true), (7, true), (8, true), (9, true), (10, true), (11, true), (12, true), (13, true), (14, true), (15, true), (16, true)] _ (by kernel_rfl) (by kernel_rfl) sel_all ?_ | refine w_plan (id := 16) [(0, true), (1, true), (2, true), (3, true), (4, true), (5, true), (6, true), (7, true), (8, true)] _ (by kernel_rfl) (by kernel_rfl) sel_all ?_)
      | (with_reducible refine is_yk ?_; refine yk_auto (k := ?_))
      | (with_reducible refine is_owk0 ?_; refine owk0_auto (k := ?_))
      | (with_reducible refine is_owkc ?_; refine owk_auto (k := fun _ => ?_))
      | refine go1 (k := ?_)
      | (refine go2 (ka := ?_) (kb := ?_) <;> intro _)
      | fail))
                  exact x_met () trivial sub_auto sel_auto
              · (repeat' (first
      | (with_reducible refine at_load ?_; first | refine yk (y_load (ev_tmp rfl) old_auto) ?_)
      | (with_reducible refine is_w ?_; first | refine w_plan (id := 15) [(0, true), (1, true), (2, true), (3, true), (4, true), (5, true), (6, true), (7, true), (8, true), (9, true), (10, true), (11, true), (12, true), (13, true), (14, true), (15, true), (16, true)] _ (by kernel_rfl) (by kernel_rfl) sel_all ?_)
      | (with_reducible refine is_yk ?_; refine yk_auto (k := ?_))
      | (with_reducible refine is_owk0 ?_; refine owk0_auto (k := ?_))
      | (with_reducible refine is_owkc ?_; refine owk_auto (k := fun _ => ?_))
      | refine go1 (k := ?_)
      | (refine go2 (ka := ?_) (kb := ?_) <;> intro _)
      | fail))
                exact x_again m ⟨by omega, by rw [hlast, lastT, if_neg fun e => e2 (by have := e.2; rw [hsj] at this; exact Option.some.inj this)]⟩ (Nat.lt_succ_self m) sub_auto sel_auto
            · (repeat' (first
      | (with_reducible refine at_load ?_; first | refine yk (y_load (ev_tmp rfl) old_auto) ?_)
      | (with_reducible refine is_w ?_; first | refine w_plan (id := 15) [(0, true), (1, true), (2, true), (3, true), (4, true), (5, true), (6, true), (7, true), (8, true), (9, true), (10, true), (11, true), (12, true), (13, true), (14, true), (15, true), (16, true)] _ (by kernel_rfl) (by kernel_rfl) sel_all ?_)
      | (with_reducible refine is_yk ?_; refine yk_auto (k := ?_))
      | (with_reducible refine is_owk0 ?_; refine owk0_auto (k := ?_))
      | (with_reducible refine is_owkc ?_; refine owk_auto (k := fun _ => ?_))
      | refine go1 (k := ?_)
      | (refine go2 (ka := ?_) (kb := ?_) <;> intro _)
      | fail))
              exact x_again m ⟨by omega, by rw [hlast, lastT, if_neg fun e => e1 (by have := e.1; rw [hkj] at this; exact Option.some.inj this)]⟩ (Nat.lt_succ_self m) sub_auto sel_auto
        · intro _ _
          obtain ⟨B1, hB1⟩ : ∃ B1, V.key [107] [k] = B1 := ⟨_, rfl⟩
          obtain ⟨V1, hV1⟩ : ∃ V1, V.keyed [107] [k] = V1 := ⟨_, rfl⟩
          obtain ⟨B2, hB2⟩ : ∃ B2, V1.sealB B1 1 s t [] = B2 := ⟨_, rfl⟩
          obtain ⟨V2, hV2⟩ : ∃ V2, V1.sealed B1 1 s t [] = V2 := ⟨_, rfl⟩
          obtain ⟨nums', hI2⟩ := clash_step hI (by omega) (fun j k' e => (ints_cell hk e).2.1) hki hsi hti (by omega)
          rw [hw', hB1, hV1, hV2] at hI2
          have hcl := hI2.cl
          have hmay : V1.may 1 s = 0 := by
            rw [← hV1]; unfold VaultM.may
            rw [if_neg (by omega), if_neg (by show ¬ ((4294967296 : Int) ≤ 1 ∨ V.limit ≤ s); rw [hI.lim]; omega)]
          have hB32 : B1.length = 32 := by rw [← hB1]; exact make32 _ _ _
          have hsv : Value.string ⟨#[107]⟩ = str [107] := rfl
          have ha1 : ([107] : Bs).length ≤ 1048576 := by decide
          have hn1 : [k].length ≤ 1048576 := by show 1 ≤ 1048576; decide
          have hpn : ∀ {H : World → Prop}, Ps H (.slice none 0 0) [] := Ps.nil
          have hxn : ([] : List Bs).flatMap id = [] := rfl
          have hl2 : ([] : Bs).length ≤ 1048576 := by decide
          have ht20 : t.length ≤ 1048576 := by omega
          have ht63 : t.length ≤ 9223372036854775807 := by omega
          obtain ⟨j, hj⟩ : ∃ j, t.length + 16 = j := ⟨_, rfl⟩
          (repeat' (first
      | (with_reducible refine at_load ?_; first | refine yk (y_load (ev_tmp rfl) old_auto) ?_)
      | (with_reducible refine is_w ?_; first | refine w_looks [(0, true), (1, true), (2, true), (5, true), (6, true), (7, true), (8, true), (9, true), (10, true), (11, true), (12, true)] [0, 1, 2, 5, 6, 7, 8, 9, 10, 11, 12, 16, 17] [Old w] (by kernel_rfl) (by kernel_rfl) (by kernel_rfl) (by kernel_rfl) (by kernel_rfl) sel_auto ?_)
      | (with_reducible refine is_yk ?_; refine yk_auto (k := ?_))
      | (with_reducible refine is_owk0 ?_; refine owk0_auto (k := ?_))
      | (with_reducible refine is_owkc ?_; refine owk_auto (k := fun _ => ?_))
      | refine go1 (k := ?_)
      | (refine go2 (ka := ?_) (kb := ?_) <;> intro _)
      | fail))
          refine x_two (i := 3) (j := 13) (n := 8) (by kernel_rfl) rfl rfl rfl rfl rfl ?_ ?_
          · refine owk_auto (k := fun _ => ⟨by exact sel_auto, ?_⟩)
            refine x_two (i := 4) (j := 13) (n := 7) (by kernel_rfl) rfl rfl rfl rfl rfl ?_ ?_
            · refine owk_c1 evs_auto (by kernel_rfl) pick_auto (fun w H => v_key hsv (hasR_oneI k) ha1 hn1 hB1 hV1 H) ⟨by exact sel_auto, ?_⟩
              refine x_tail [Old w] [(13, false), (14, false), (15, false), (16, true), (17, true), (18, false), (19, false)] sel_auto (by kernel_rfl) (by kernel_rfl) rfl (by kernel_rfl) sel_auto ?_
              (repeat' (first
      | ((with_reducible refine at_fn 13 ?_); with_reducible refine owk_c1 evs_auto (by kernel_rfl) pick_auto (fun w H => v_key hsv (by first | exact hasR_oneI k | exact hasR_tl (hasR_oneI k)) ha1 hn1 hB1 hV1 H) ?_)
      | ((with_reducible refine at_fn 11 ?_); with_reducible refine owk_c1x evs_auto (by kernel_rfl) pick_auto (fun w H => v_seal hmay hB32 rds_auto hpn hxn ht20 hl2 hB2 hV2 hj H) (fun r => ?_))
      | ((with_reducible refine at_fn 14 ?_); with_reducible refine owk_c1 evs_auto (by kernel_rfl) pick_auto (fun w H => v_clashes hcl H) ?_)
      | (with_reducible refine is_yk ?_; refine yk_auto (k := ?_))
      | (with_reducible refine is_owk0 ?_; refine owk0_auto (k := ?_))
      | (with_reducible refine is_owkc ?_; refine owk_auto (k := fun _ => ?_))
      | refine go1 (k := ?_)
      | (refine go2 (ka := ?_) (kb := ?_) <;> intro _)
      | fail))
              exact x_again (i + 1, V2, want', nums') ⟨hlt, hI2⟩ (show l1 - (i + 1) < l1 - i by omega) sub_auto sel_auto
            · refine owk (ow_toBytes (ev_tmp rfl) ht63) (fun _ => ⟨by exact sel_auto, ?_⟩)
              refine x_tail [Old w] [(4, false), (14, false), (15, false), (16, true), (17, true), (18, false), (19, false)] sel_auto (by kernel_rfl) (by kernel_rfl) rfl (by kernel_rfl) sel_auto ?_
              (repeat' (first
      | ((with_reducible refine at_fn 13 ?_); with_reducible refine owk_c1 evs_auto (by kernel_rfl) pick_auto (fun w H => v_key hsv (by first | exact hasR_oneI k | exact hasR_tl (hasR_oneI k)) ha1 hn1 hB1 hV1 H) ?_)
      | ((with_reducible refine at_fn 11 ?_); with_reducible refine owk_c1x evs_auto (by kernel_rfl) pick_auto (fun w H => v_seal hmay hB32 rds_auto hpn hxn ht20 hl2 hB2 hV2 hj H) (fun r => ?_))
      | ((with_reducible refine at_fn 14 ?_); with_reducible refine owk_c1 evs_auto (by kernel_rfl) pick_auto (fun w H => v_clashes hcl H) ?_)
      | (with_reducible refine is_yk ?_; refine yk_auto (k := ?_))
      | (with_reducible refine is_owk0 ?_; refine owk0_auto (k := ?_))
      | (with_reducible refine is_owkc ?_; refine owk_auto (k := fun _ => ?_))
      | refine go1 (k := ?_)
      | (refine go2 (ka := ?_) (kb := ?_) <;> intro _)
      | fail))
              exact x_again (i + 1, V2, want', nums') ⟨hlt, hI2⟩ (show l1 - (i + 1) < l1 - i by omega) sub_auto sel_auto
          · refine owk (ow_toBytes (ev_tmp rfl) ht63) (fun _ => ⟨by exact sel_auto, ?_⟩)
            refine x_tail [Old w] [(3, false), (4, false), (14, false), (15, false), (16, true), (17, true), (18, false), (19, false)] sel_auto (by kernel_rfl) (by kernel_rfl) rfl (by kernel_rfl) sel_auto ?_
            (repeat' (first
      | ((with_reducible refine at_fn 13 ?_); with_reducible refine owk_c1 evs_auto (by kernel_rfl) pick_auto (fun w H => v_key hsv (by first | exact hasR_oneI k | exact hasR_tl (hasR_oneI k)) ha1 hn1 hB1 hV1 H) ?_)
      | ((with_reducible refine at_fn 11 ?_); with_reducible refine owk_c1x evs_auto (by kernel_rfl) pick_auto (fun w H => v_seal hmay hB32 rds_auto hpn hxn ht20 hl2 hB2 hV2 hj H) (fun r => ?_))
      | ((with_reducible refine at_fn 14 ?_); with_reducible refine owk_c1 evs_auto (by kernel_rfl) pick_auto (fun w H => v_clashes hcl H) ?_)
      | (with_reducible refine is_yk ?_; refine yk_auto (k := ?_))
      | (with_reducible refine is_owk0 ?_; refine owk0_auto (k := ?_))
      | (with_reducible refine is_owkc ?_; refine owk_auto (k := fun _ => ?_))
      | refine go1 (k := ?_)
      | (refine go2 (ka := ?_) (kb := ?_) <;> intro _)
      | fail))
            exact x_again (i + 1, V2, want', nums') ⟨hlt, hI2⟩ (show l1 - (i + 1) < l1 - i by omega) sub_auto sel_auto
    · have : i = l1 := by omega
      subst this
      (repeat' (first
      | (with_reducible refine is_yk ?_; refine yk_auto (k := ?_))
      | (with_reducible refine is_owk0 ?_; refine owk0_auto (k := ?_))
      | (with_reducible refine is_owkc ?_; refine owk_auto (k := fun _ => ?_))
      | refine go1 (k := ?_)
      | (refine go2 (ka := ?_) (kb := ?_) <;> intro _)
      | fail))
      exact x_ret1 rfl rfl (fun w H => ⟨rfl, (Sel.st (T := [Old _]) sel_auto H).toBelow'⟩)
  · by_cases g1 : l1 ≤ 60
    · by_cases g2 : l1 ≤ l2
      · have g3 : ¬ l1 ≤ l3 := fun e => hg ⟨g1, g2, e⟩
        (repeat' (first
      | ((with_reducible refine at_fn 7 ?_); with_reducible refine owk_c0s evs_auto (by kernel_rfl) (fun w H => alive10 H) ?_)
      | (with_reducible refine is_yk ?_; refine yk_auto (k := ?_))
      | (with_reducible refine is_owk0 ?_; refine owk0_auto (k := ?_))
      | (with_reducible refine is_owkc ?_; refine owk_auto (k := fun _ => ?_))
      | refine go1 (k := ?_)
      | (refine go2 (ka := ?_) (kb := ?_) <;> intro _)
      | fail))
        exact x_ret1 rfl rfl (fun w H => ⟨rfl, (Sel.st (T := [Old _]) sel_auto H).toBelow'⟩)
      · (repeat' (first
      | ((with_reducible refine at_fn 7 ?_); with_reducible refine owk_c0s evs_auto (by kernel_rfl) (fun w H => alive10 H) ?_)
      | (with_reducible refine is_yk ?_; refine yk_auto (k := ?_))
      | (with_reducible refine is_owk0 ?_; refine owk0_auto (k := ?_))
      | (with_reducible refine is_owkc ?_; refine owk_auto (k := fun _ => ?_))
      | refine go1 (k := ?_)
      | (refine go2 (ka := ?_) (kb := ?_) <;> intro _)
      | fail))
        exact x_ret1 rfl rfl (fun w H => ⟨rfl, (Sel.st (T := [Old _]) sel_auto H).toBelow'⟩)
    · (repeat' (first
      | ((with_reducible refine at_fn 7 ?_); with_reducible refine owk_c0s evs_auto (by kernel_rfl) (fun w H => alive10 H) ?_)
      | (with_reducible refine is_yk ?_; refine yk_auto (k := ?_))
      | (with_reducible refine is_owk0 ?_; refine owk0_auto (k := ?_))
      | (with_reducible refine is_owkc ?_; refine owk_auto (k := fun _ => ?_))
      | refine go1 (k := ?_)
      | (refine go2 (ka := ?_) (kb := ?_) <;> intro _)
      | fail))
      exact x_ret1 rfl rfl (fun w H => ⟨rfl, (Sel.st (T := [Old _]) sel_auto H).toBelow'⟩)
end Go.Proofs.Ytjofjkjghakcoaa
