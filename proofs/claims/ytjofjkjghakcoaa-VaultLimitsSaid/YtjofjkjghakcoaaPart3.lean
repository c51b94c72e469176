/- Part 3 of what the statement rests on: each piece below begins with its own remark. -/
import Derived.Test.YtjofjkjghakcoaaPart2
/- The ideal world (package ideal): Seal, Open, Mac, Hash, Derive. -/
namespace Go.Proofs.Ytjofjkjghakcoaa
open Go.RowKit
section
variable {P : Program} {H : World → Prop} {E : Env} {d : Option Nat} {ty : TypeId} {pos : String} {aft : Array Edge} {g : Option (Nat × Bool)}
theorem y_sliceArrPtr {x : Operand} {t len e s : Nat} {A : Option Addr} {n cap : Nat} [ht : TArr P t len e s] (hx : Ev E x (.slice A n cap)) (h : len ≤ n) : Y P H E (Oper.mk d (.sliceToArrayPointer t x) ty pos aft g) (.pointer A) := fun N a w hf _ => by
  have h0 : ¬ n < len := by omega
  unfold execOp; simp [hx N a hf, Instr.arrayAt, run_underlying ht.u, h0]
end
theorem ps_own1 {c : Con} {b T e k cap : Nat} {A : Option Addr} {x : Bs} {L : List HP} (hk : x.length = k) : Ps (St c (Bl b T (List.flatMap vcells [Value.slice A k cap]) :: OwnP e 1 (.slice A k cap) k (bvs x) :: L)) (.slice (some ⟨b, 0, none⟩) 1 1) [x] := Ps.one has_hd (hasR_tl hasR_own) hk (by decide)
theorem ps_keyOwn {c : Con} {b T e k cap n1 k1 : Nat} {A A1 : Option Addr} {x p1 : Bs} {L : List HP} (h1 : HasR (St c L) (.slice A1 n1 k1) n1 (bvs p1)) (hn : p1.length = n1) (hk : x.length = k) : Ps (St c (Bl b T (List.flatMap vcells [Value.slice A1 n1 k1, .slice A k cap]) :: OwnP e 1 (.slice A k cap) k (bvs x) :: L)) (.slice (some ⟨b, 0, none⟩) 2 2) [p1, x] := Ps.two has_hd (hasR_tl (hasR_tl h1)) (hasR_tl hasR_own) hn hk (by decide)
def IdealM.mac (I : IdealM) (key x : Bs) : Bs := I.make 77 32 [key, x]
def IdealM.maced (I : IdealM) (key x : Bs) : IdealM := I.made' 77 [key, x]
def IdealM.hash (I : IdealM) (x : Bs) : Bs := I.make 72 32 [x]
def IdealM.hashed (I : IdealM) (x : Bs) : IdealM := I.made' 72 [x]
def IdealM.derive (I : IdealM) (key x : Bs) : Bs := I.make 68 32 [key, x]
def IdealM.derived (I : IdealM) (key x : Bs) : IdealM := I.made' 68 [key, x]
theorem name1 (kd : UInt8) (a : Bs) : (nameOf kd [a]).length = a.length + 9 := by simp [nameOf, part8_length]
theorem name2 (kd : UInt8) (a b : Bs) : (nameOf kd [a, b]).length = a.length + b.length + 17 := by simp [nameOf, part8_length]; omega
theorem name4 (kd : UInt8) (a b d e : Bs) : (nameOf kd [a, b, d, e]).length = a.length + b.length + d.length + e.length + 33 := by simp [nameOf, part8_length]; omega
attribute [local irreducible] Y OW YK OWK W WL WP X CV GvL GvP Ev Evs HasCell HasCells Has Met Again Kept
section
variable {c : Con} {F : List HP} {w : World} {q : Nat} {I : IdealM}
set_option maxRecDepth 100000 in
theorem i_hash {ps : List Bs} {x : Bs} {A : Option Addr} {m cap : Nat} {B : Bs} {I' : IdealM} (hp : Ps (St c F) (.slice A m cap) ps) (hx : ps.flatMap id = x) (hs : x.length ≤ 1099511627000) (hB : I.hash x = B) (hI : I.hashed x = I')
    (H : St c (IdealAt q I :: F) w) : Calls Try.prog 69 #[.pointer (some ⟨q, 0, none⟩), .slice A m cap] w fun e w' => e = .returned (.agg (bvs B).toArray) ∧ St c (IdealAt q I' :: F) w' := by
  have hBl : (bvs B).length = 32 := by rw [bvs_length, ← hB]; exact markB_length (by decide)
  have hB1 := bvs_oneCell B
  have hz : (List.replicate 32 (Value.int .u8 0)).length = 32 := rfl
  obtain ⟨k, hk⟩ : ∃ k, x.length = k := ⟨_, rfl⟩
  have hB' : I.make 72 32 [x] = B := hB
  have hI' : I.made' 72 [x] = I' := hI
  have hkd : (72 : Int) = ((72 : UInt8).toNat : Int) := rfl
  have h32 : (32 : Int) = ((32 : Nat) : Int) := rfl
  have h9 : 9 ≤ 32 ∧ 32 ≤ 1099511627776 := by decide
  have hns : (nameOf 72 [x]).length ≤ 1099511627776 := by rw [name1]; omega
  refine calls_w (vs := [.pointer (some ⟨q, 0, none⟩), .slice A m cap]) Try.func69 rfl rfl rfl ?_ w H
  (repeat' (first
      | ((with_reducible refine at_fn 75 ?_); with_reducible refine owk_c0x evs_auto (by kernel_rfl) (fun w H => i_joined (hp.tl (A := IdealAt q I)).tl hx hk (by omega) H) (fun s => ?_))
      | ((with_reducible refine at_fn 74 ?_); with_reducible refine owk_c1x evs_auto (by kernel_rfl) pick_auto (fun w H => i_make (kd := 72) (n := 32) hkd h32 h9 (ps_own1 hk) hns hB' hI' H) (fun r => ?_))
      | ((with_reducible refine at_storeO ?_); with_reducible refine owk0 (ow_storeAll (ev_tmp rfl) (ev_tmp rfl) hB1 hBl upd_auto hz) ?_)
      | (with_reducible refine is_yk ?_; first | refine yk (y_sliceArrPtr (ev_tmp rfl) (by decide)) ?_)
      | (with_reducible refine is_yk ?_; refine yk_auto (k := ?_))
      | (with_reducible refine is_owk0 ?_; refine owk0_auto (k := ?_))
      | (with_reducible refine is_owkc ?_; refine owk_auto (k := fun _ => ?_))
      | refine go1 (k := ?_)
      | (refine go2 (ka := ?_) (kb := ?_) <;> intro _)
      | fail))
  exact x_retC rfl rfl has_auto hBl (fun w H => ⟨rfl, Sel.st sel_auto H⟩)
set_option maxRecDepth 100000 in
theorem i_mac {ps : List Bs} {x key : Bs} {A A1 : Option Addr} {m cap n1 k1 : Nat} {B : Bs} {I' : IdealM} (hkey : HasR (St c F) (.slice A1 n1 k1) n1 (bvs key)) (hp : Ps (St c F) (.slice A m cap) ps) (hx : ps.flatMap id = x) (hs : key.length + x.length ≤ 1099511627000) (hB : I.mac key x = B) (hI : I.maced key x = I')
    (H : St c (IdealAt q I :: F) w) : Calls Try.prog 70 #[.pointer (some ⟨q, 0, none⟩), .slice A1 n1 k1, .slice A m cap] w fun e w' => e = .returned (.agg (bvs B).toArray) ∧ St c (IdealAt q I' :: F) w' := by
  have hBl : (bvs B).length = 32 := by rw [bvs_length, ← hB]; exact markB_length (by decide)
  have hB1 := bvs_oneCell B
  have hz : (List.replicate 32 (Value.int .u8 0)).length = 32 := rfl
  have hkn : key.length = n1 := by obtain ⟨h1, -⟩ := hkey w H.tail; rw [bvs_length] at h1; omega
  obtain ⟨k, hk⟩ : ∃ k, x.length = k := ⟨_, rfl⟩
  have hB' : I.make 77 32 [key, x] = B := hB
  have hI' : I.made' 77 [key, x] = I' := hI
  have hkd : (77 : Int) = ((77 : UInt8).toNat : Int) := rfl
  have h32 : (32 : Int) = ((32 : Nat) : Int) := rfl
  have h9 : 9 ≤ 32 ∧ 32 ≤ 1099511627776 := by decide
  have hns : (nameOf 77 [key, x]).length ≤ 1099511627776 := by rw [name2]; omega
  refine calls_w (vs := [.pointer (some ⟨q, 0, none⟩), .slice A1 n1 k1, .slice A m cap]) Try.func70 rfl rfl rfl ?_ w H
  (repeat' (first
      | ((with_reducible refine at_fn 75 ?_); with_reducible refine owk_c0x evs_auto (by kernel_rfl) (fun w H => i_joined (hp.tl (A := IdealAt q I)).tl hx hk (by omega) H) (fun s => ?_))
      | ((with_reducible refine at_fn 74 ?_); with_reducible refine owk_c1x evs_auto (by kernel_rfl) pick_auto (fun w H => i_make (kd := 77) (n := 32) hkd h32 h9 (ps_keyOwn (hasR_tl hkey) hkn hk) hns hB' hI' H) (fun r => ?_))
      | ((with_reducible refine at_storeO ?_); with_reducible refine owk0 (ow_storeAll (ev_tmp rfl) (ev_tmp rfl) hB1 hBl upd_auto hz) ?_)
      | (with_reducible refine is_yk ?_; first | refine yk (y_sliceArrPtr (ev_tmp rfl) (by decide)) ?_)
      | (with_reducible refine is_yk ?_; refine yk_auto (k := ?_))
      | (with_reducible refine is_owk0 ?_; refine owk0_auto (k := ?_))
      | (with_reducible refine is_owkc ?_; refine owk_auto (k := fun _ => ?_))
      | refine go1 (k := ?_)
      | (refine go2 (ka := ?_) (kb := ?_) <;> intro _)
      | fail))
  exact x_retC rfl rfl has_auto hBl (fun w H => ⟨rfl, Sel.st sel_auto H⟩)
set_option maxRecDepth 100000 in
theorem i_derive {ps : List Bs} {x key : Bs} {A A1 : Option Addr} {m cap n1 k1 : Nat} {B : Bs} {I' : IdealM} (hkey : HasR (St c F) (.slice A1 n1 k1) n1 (bvs key)) (hp : Ps (St c F) (.slice A m cap) ps) (hx : ps.flatMap id = x) (hs : key.length + x.length ≤ 1099511627000) (hB : I.derive key x = B) (hI : I.derived key x = I')
    (H : St c (IdealAt q I :: F) w) : Calls Try.prog 68 #[.pointer (some ⟨q, 0, none⟩), .slice A1 n1 k1, .slice A m cap] w fun e w' => e = .returned (.agg (bvs B).toArray) ∧ St c (IdealAt q I' :: F) w' := by
  have hBl : (bvs B).length = 32 := by rw [bvs_length, ← hB]; exact markB_length (by decide)
  have hB1 := bvs_oneCell B
  have hz : (List.replicate 32 (Value.int .u8 0)).length = 32 := rfl
  have hkn : key.length = n1 := by obtain ⟨h1, -⟩ := hkey w H.tail; rw [bvs_length] at h1; omega
  obtain ⟨k, hk⟩ : ∃ k, x.length = k := ⟨_, rfl⟩
  have hB' : I.make 68 32 [key, x] = B := hB
  have hI' : I.made' 68 [key, x] = I' := hI
  have hkd : (68 : Int) = ((68 : UInt8).toNat : Int) := rfl
  have h32 : (32 : Int) = ((32 : Nat) : Int) := rfl
  have h9 : 9 ≤ 32 ∧ 32 ≤ 1099511627776 := by decide
  have hns : (nameOf 68 [key, x]).length ≤ 1099511627776 := by rw [name2]; omega
  refine calls_w (vs := [.pointer (some ⟨q, 0, none⟩), .slice A1 n1 k1, .slice A m cap]) Try.func68 rfl rfl rfl ?_ w H
  (repeat' (first
      | ((with_reducible refine at_fn 75 ?_); with_reducible refine owk_c0x evs_auto (by kernel_rfl) (fun w H => i_joined (hp.tl (A := IdealAt q I)).tl hx hk (by omega) H) (fun s => ?_))
      | ((with_reducible refine at_fn 74 ?_); with_reducible refine owk_c1x evs_auto (by kernel_rfl) pick_auto (fun w H => i_make (kd := 68) (n := 32) hkd h32 h9 (ps_keyOwn (hasR_tl hkey) hkn hk) hns hB' hI' H) (fun r => ?_))
      | ((with_reducible refine at_storeO ?_); with_reducible refine owk0 (ow_storeAll (ev_tmp rfl) (ev_tmp rfl) hB1 hBl upd_auto hz) ?_)
      | (with_reducible refine is_yk ?_; first | refine yk (y_sliceArrPtr (ev_tmp rfl) (by decide)) ?_)
      | (with_reducible refine is_yk ?_; refine yk_auto (k := ?_))
      | (with_reducible refine is_owk0 ?_; refine owk0_auto (k := ?_))
      | (with_reducible refine is_owkc ?_; refine owk_auto (k := fun _ => ?_))
      | refine go1 (k := ?_)
      | (refine go2 (ka := ?_) (kb := ?_) <;> intro _)
      | fail))
  exact x_retC rfl rfl has_auto hBl (fun w H => ⟨rfl, Sel.st sel_auto H⟩)
end
end Go.Proofs.Ytjofjkjghakcoaa

/- The ideal world (package ideal): Seal, Open. -/
namespace Go.Proofs.Ytjofjkjghakcoaa
open Go.RowKit
theorem Ps.four' {H : World → Prop} {b T cap : Nat} {A1 A2 A3 A4 : Option Addr} {n1 k1 n2 k2 n3 k3 n4 k4 : Nat} {p1 p2 p3 p4 : Bs} (hc : Has H b (.cells (List.flatMap vcells [Value.slice A1 n1 k1, .slice A2 n2 k2, .slice A3 n3 k3, .slice A4 n4 k4]).toArray T (0, 0))) (h1 : HasR H (.slice A1 n1 k1) n1 (bvs p1)) (h2 : HasR H (.slice A2 n2 k2) n2 (bvs p2)) (h3 : HasR H (.slice A3 n3 k3) n3 (bvs p3)) (h4 : HasR H (.slice A4 n4 k4) n4 (bvs p4)) (hn1 : p1.length = n1) (hn2 : p2.length = n2) (hn3 : p3.length = n3) (hn4 : p4.length = n4) (hcap : 4 ≤ cap ∧ cap ≤ 9223372036854775807) : Ps H (.slice (some ⟨b, 0, none⟩) 4 cap) [p1, p2, p3, p4] := Ps.four hc h1 h2 h3 h4 hn1 hn2 hn3 hn4 hcap
theorem HasR.len {c : Con} {F : List HP} {w : World} {v : Value} {n : Nat} {l : Bs} (h : HasR (St c F) v n (bvs l)) (H : St c F w) : l.length = n := by
  obtain ⟨h1, -⟩ := h w H; rw [bvs_length] at h1; omega
theorem w_openI {c : Con} {q : Nat} {I : IdealM} {P : Program} {N : Nat} {Q : Exit → Act → World → Prop} {x : Code} {E : Env} {L F : List HP} (hp : Pick L (IdealAt q I) F) (h : ∀ a b, W P N c Q x E (Bl q 58 [.map (some a), .map (some b)] :: Mp str encI a I.made :: Mp str str b I.texts :: F)) : W P N c Q x E L := fun a w hf H => by
  obtain ⟨m, t, H'⟩ := (hp.st H).openI
  exact h m t a w hf H'
attribute [local irreducible] Y OW YK OWK W WL WP X CV GvL GvP Ev Evs HasCell HasCells Has Met Again Kept
section
variable {c : Con} {F : List HP} {w : World} {q : Nat} {I : IdealM}
set_option maxRecDepth 100000 in
theorem i_seal {ps : List Bs} {x key nonce text : Bs} {A A1 A2 A3 : Option Addr} {m cap n1 k1 n2 k2 n3 k3 k : Nat} {B : Bs} {I' : IdealM} (hkey : HasR (St c F) (.slice A1 n1 k1) n1 (bvs key)) (hnonce : HasR (St c F) (.slice A2 n2 k2) n2 (bvs nonce)) (htext : HasR (St c F) (.slice A3 n3 k3) n3 (bvs text)) (hp : Ps (St c F) (.slice A m cap) ps) (hx : ps.flatMap id = x)
    (hs : key.length + nonce.length ≤ 1099500000000) (hs1 : text.length ≤ 1048576) (hs2 : x.length ≤ 1048576) (hB : I.sealB key nonce text x = B) (hI : I.sealed key nonce text x = I') (hk : n3 + 16 = k)
    (H : St c (IdealAt q I :: F) w) : Calls Try.prog 72 #[.pointer (some ⟨q, 0, none⟩), .slice A1 n1 k1, .slice A2 n2 k2, .slice A3 n3 k3, .slice A m cap] w fun e w' =>
    ∃ r : Nat, e = .returned (.tuple #[.slice (some ⟨r, 0, none⟩) k k, .int .i64 0]) ∧ St c (Bl r 5 (bvs B) :: IdealAt q I' :: F) w' := by
  subst hk
  have e1 := hkey.len H.tail
  have e2 := hnonce.len H.tail
  have e3 := htext.len H.tail
  have hBl : B.length = n3 + 16 := by rw [← hB, seal_length, e3]
  have hBv : (bvs B).length = n3 + 16 := by rw [bvs_length, hBl]
  have hpt := (hp.tl (A := IdealAt q I))
  obtain ⟨kx, hkx⟩ : ∃ kx, x.length = kx := ⟨_, rfl⟩
  have hB' : I.make 83 (n3 + 16) [key, nonce, x, text] = B := by rw [← e3]; exact hB
  obtain ⟨I1, hI1⟩ : ∃ I1, I.made' 83 [key, nonce, x, text] = I1 := ⟨_, rfl⟩
  have htx : I1.texts = I.texts := by rw [← hI1]; exact made'_texts _ _ _
  have hI2 : I' = { made := I1.made, texts := setM I.texts (nameOf 83 [key, nonce, x, B]) text } := by rw [← hI, ← hI1, ← hB]; rfl
  have hkd : (83 : Int) = ((83 : UInt8).toNat : Int) := rfl
  have hnv : (n3 : Int) + 16 = ((n3 + 16 : Nat) : Int) := by omega
  have h9 : 9 ≤ n3 + 16 ∧ n3 + 16 ≤ 1099511627776 := by omega
  have h4 : 4 ≤ 4 ∧ 4 ≤ 9223372036854775807 := by decide
  have hns : (nameOf 83 [key, nonce, x, text]).length ≤ 1099511627776 := by rw [name4]; omega
  have hns2 : (nameOf 83 [key, nonce, x, B]).length ≤ 1099511627776 := by rw [name4]; omega
  refine calls_w (vs := [.pointer (some ⟨q, 0, none⟩), .slice A1 n1 k1, .slice A2 n2 k2, .slice A3 n3 k3, .slice A m cap]) Try.func72 rfl rfl rfl ?_ w H
  (repeat' (first
      | ((with_reducible refine at_fn 75 ?_); with_reducible refine owk_c0x evs_auto (by kernel_rfl) (fun w H => i_joined hpt hx hkx (by omega) H) (fun s => ?_))
      | ((with_reducible refine at_fn 74 ?_); with_reducible refine owk_c1x evs_auto (by kernel_rfl) pick_auto (fun w H => i_make (kd := 83) (n := n3 + 16) hkd hnv h9 (Ps.four' has_auto rds_auto rds_auto rds_auto rds_auto e1 e2 hkx e3 h4) hns hB' hI1 H) (fun r => ?_))
      | (with_reducible refine is_w ?_; first | refine w_stopR (id := 7) ?_)
      | (with_reducible refine is_yk ?_; refine yk_auto (k := ?_))
      | (with_reducible refine is_owk0 ?_; refine owk0_auto (k := ?_))
      | (with_reducible refine is_owkc ?_; refine owk_auto (k := fun _ => ?_))
      | refine go1 (k := ?_)
      | (refine go2 (ka := ?_) (kb := ?_) <;> intro _)
      | fail))
  unfold Stop
  refine w_openI pick_auto (fun ma mb => ?_)
  rw [htx]
  (repeat' (first
      | ((with_reducible refine at_fn 76 ?_); with_reducible refine owk_c0s evs_auto (by kernel_rfl) (fun w H => i_name (kd := 83) (ps := [key, nonce, x, B]) hkd (Ps.four' has_auto rds_auto rds_auto rds_auto rds_auto e1 e2 hkx hBl h4) hns2 H) ?_)
      | ((with_reducible refine at_mapUpdateO ?_); with_reducible refine owk0 (ow_mapUpdate (encK := str) (encV := str) (k := nameOf 83 [key, nonce, x, B]) (v := text) (l := I.texts) (ev_tmp rfl) (ev_tmp rfl) (ev_tmp rfl) pick_auto rfl rfl) ?_)
      | (with_reducible refine at_conv ?_; first | refine yk (y_str (n := n3) (l := text) (ev_tmp rfl) rds_auto) ?_)
      | (with_reducible refine is_w ?_; first | refine w_plan (id := 7) [(0, true), (1, true), (2, true), (3, true), (4, true), (5, true), (6, true), (7, true), (10, true), (11, true), (8, false), (9, false), (12, false)] _ (by kernel_rfl) (by kernel_rfl) sel_all ?_)
      | (with_reducible refine is_yk ?_; refine yk_auto (k := ?_))
      | (with_reducible refine is_owk0 ?_; refine owk0_auto (k := ?_))
      | (with_reducible refine is_owkc ?_; refine owk_auto (k := fun _ => ?_))
      | refine go1 (k := ?_)
      | (refine go2 (ka := ?_) (kb := ?_) <;> intro _)
      | fail))
  exact x_ret2 rfl rfl rfl (fun w H => ⟨r, rfl, by rw [hI2]; exact (St.shutI (F := Bl r _ _ :: F) (I := ⟨_, _⟩) (Sel.st sel_auto H)).swap⟩)
set_option maxRecDepth 100000 in
theorem i_open {ps : List Bs} {x key nonce b : Bs} {A A1 A2 A3 : Option Addr} {m cap n1 k1 n2 k2 n3 k3 : Nat} {t : Bs} (hkey : HasR (St c F) (.slice A1 n1 k1) n1 (bvs key)) (hnonce : HasR (St c F) (.slice A2 n2 k2) n2 (bvs nonce)) (hb : HasR (St c F) (.slice A3 n3 k3) n3 (bvs b)) (hp : Ps (St c F) (.slice A m cap) ps) (hx : ps.flatMap id = x)
    (hs : key.length + nonce.length + b.length + x.length ≤ 1099500000000) (ht : I.opened key nonce b x = some t) (htl : t.length ≤ 9223372036854775807)
    (H : St c (IdealAt q I :: F) w) : Calls Try.prog 71 #[.pointer (some ⟨q, 0, none⟩), .slice A1 n1 k1, .slice A2 n2 k2, .slice A3 n3 k3, .slice A m cap] w fun e w' =>
    ∃ r : { r : Nat × Nat // t.length ≤ r.2 ∧ r.2 ≤ 9223372036854775807 }, e = .returned (.tuple #[.slice (some ⟨r.1.1, 0, none⟩) t.length r.1.2, .int .i64 0]) ∧ St c (BytesP r.1.1 r.1.2 5 t :: IdealAt q I :: F) w' := by
  have e1 := hkey.len H.tail
  have e2 := hnonce.len H.tail
  have e3 := hb.len H.tail
  obtain ⟨kx, hkx⟩ : ∃ kx, x.length = kx := ⟨_, rfl⟩
  have hkd : (83 : Int) = ((83 : UInt8).toNat : Int) := rfl
  have h4 : 4 ≤ 4 ∧ 4 ≤ 9223372036854775807 := by decide
  have hns : (nameOf 83 [key, nonce, x, b]).length ≤ 1099511627776 := by rw [name4]; omega
  have hl0 : (Value.tuple #[((getM I.texts (nameOf 83 [key, nonce, x, b])).map str).getD (str []), .bool (getM I.texts (nameOf 83 [key, nonce, x, b])).isSome]) = .tuple #[str t, .bool true] := by
    have : getM I.texts (nameOf 83 [key, nonce, x, b]) = some t := ht
    rw [this]; rfl
  obtain ⟨ma, mb, H⟩ := H.openI
  have HM : ∀ {L : List HP}, HasM str str (St c (Bl q 58 [.map (some ma), .map (some mb)] :: Mp str encI ma I.made :: Mp str str mb I.texts :: L)) mb I.texts := hasM_tl (hasM_tl hasM_hd)
  have hpt : Ps (St c (Bl q 58 [.map (some ma), .map (some mb)] :: Mp str encI ma I.made :: Mp str str mb I.texts :: F)) (.slice A m cap) ps := hp.tl.tl.tl
  refine calls_w (vs := [.pointer (some ⟨q, 0, none⟩), .slice A1 n1 k1, .slice A2 n2 k2, .slice A3 n3 k3, .slice A m cap]) Try.func71 rfl rfl rfl ?_ w H
  (repeat' (first
      | ((with_reducible refine at_fn 75 ?_); with_reducible refine owk_c0x evs_auto (by kernel_rfl) (fun w H => i_joined hpt hx hkx (by omega) H) (fun s => ?_))
      | ((with_reducible refine at_fn 76 ?_); with_reducible refine owk_c0s evs_auto (by kernel_rfl) (fun w H => i_name (kd := 83) (ps := [key, nonce, x, b]) hkd (Ps.four' has_auto rds_auto rds_auto rds_auto rds_auto e1 e2 hkx e3 h4) hns H) ?_)
      | (with_reducible refine at_lookup ?_; first | refine yk_eq (y_lookup2 (encK := str) (encV := str) (k := nameOf 83 [key, nonce, x, b]) (l := I.texts) (ev_tmp rfl) (ev_tmp rfl) rfl (by (repeat (first | exact hasM_hd | refine hasM_tl ?_)); (first | done | fail))) hl0 ?_)
      | (with_reducible refine is_w ?_; first | refine w_plan (id := 3) [(0, true), (1, true), (2, true), (3, true), (4, true), (5, true), (6, true), (8, true), (7, false), (9, false), (10, false), (11, false), (12, false), (13, true), (14, true), (15, false), (16, false)] _ (by kernel_rfl) (by kernel_rfl) sel_all ?_)
      | (with_reducible refine is_yk ?_; refine yk_auto (k := ?_))
      | (with_reducible refine is_owk0 ?_; refine owk0_auto (k := ?_))
      | (with_reducible refine is_owkc ?_; refine owk_auto (k := fun _ => ?_))
      | refine go1 (k := ?_)
      | (refine go2 (ka := ?_) (kb := ?_) <;> intro _)
      | fail))
  exact x_ret2 rfl rfl rfl (fun w H => ⟨_, rfl, (St.shutI (F := BytesP _ _ _ _ :: F) (Sel.st sel_auto H)).swap⟩)
set_option maxRecDepth 100000 in
theorem i_open_none {ps : List Bs} {x key nonce b : Bs} {A A1 A2 A3 : Option Addr} {m cap n1 k1 n2 k2 n3 k3 : Nat} (hkey : HasR (St c F) (.slice A1 n1 k1) n1 (bvs key)) (hnonce : HasR (St c F) (.slice A2 n2 k2) n2 (bvs nonce)) (hb : HasR (St c F) (.slice A3 n3 k3) n3 (bvs b)) (hp : Ps (St c F) (.slice A m cap) ps) (hx : ps.flatMap id = x)
    (hs : key.length + nonce.length + b.length + x.length ≤ 1099500000000) (ht : I.opened key nonce b x = none)
    (H : St c (IdealAt q I :: F) w) : Calls Try.prog 71 #[.pointer (some ⟨q, 0, none⟩), .slice A1 n1 k1, .slice A2 n2 k2, .slice A3 n3 k3, .slice A m cap] w fun e w' =>
    e = .returned (.tuple #[.slice none 0 0, .int .i64 9]) ∧ St c (IdealAt q I :: F) w' := by
  have e1 := hkey.len H.tail
  have e2 := hnonce.len H.tail
  have e3 := hb.len H.tail
  obtain ⟨kx, hkx⟩ : ∃ kx, x.length = kx := ⟨_, rfl⟩
  have hkd : (83 : Int) = ((83 : UInt8).toNat : Int) := rfl
  have h4 : 4 ≤ 4 ∧ 4 ≤ 9223372036854775807 := by decide
  have hns : (nameOf 83 [key, nonce, x, b]).length ≤ 1099511627776 := by rw [name4]; omega
  have hl0 : (Value.tuple #[((getM I.texts (nameOf 83 [key, nonce, x, b])).map str).getD (str []), .bool (getM I.texts (nameOf 83 [key, nonce, x, b])).isSome]) = .tuple #[str [], .bool false] := by
    have : getM I.texts (nameOf 83 [key, nonce, x, b]) = none := ht
    rw [this]; rfl
  obtain ⟨ma, mb, H⟩ := H.openI
  have HM : ∀ {L : List HP}, HasM str str (St c (Bl q 58 [.map (some ma), .map (some mb)] :: Mp str encI ma I.made :: Mp str str mb I.texts :: L)) mb I.texts := hasM_tl (hasM_tl hasM_hd)
  have hpt : Ps (St c (Bl q 58 [.map (some ma), .map (some mb)] :: Mp str encI ma I.made :: Mp str str mb I.texts :: F)) (.slice A m cap) ps := hp.tl.tl.tl
  refine calls_w (vs := [.pointer (some ⟨q, 0, none⟩), .slice A1 n1 k1, .slice A2 n2 k2, .slice A3 n3 k3, .slice A m cap]) Try.func71 rfl rfl rfl ?_ w H
  (repeat' (first
      | ((with_reducible refine at_fn 75 ?_); with_reducible refine owk_c0x evs_auto (by kernel_rfl) (fun w H => i_joined hpt hx hkx (by omega) H) (fun s => ?_))
      | ((with_reducible refine at_fn 76 ?_); with_reducible refine owk_c0s evs_auto (by kernel_rfl) (fun w H => i_name (kd := 83) (ps := [key, nonce, x, b]) hkd (Ps.four' has_auto rds_auto rds_auto rds_auto rds_auto e1 e2 hkx e3 h4) hns H) ?_)
      | (with_reducible refine at_lookup ?_; first | refine yk_eq (y_lookup2 (encK := str) (encV := str) (k := nameOf 83 [key, nonce, x, b]) (l := I.texts) (ev_tmp rfl) (ev_tmp rfl) rfl (by (repeat (first | exact hasM_hd | refine hasM_tl ?_)); (first | done | fail))) hl0 ?_)
      | (with_reducible refine is_w ?_; first | refine w_plan (id := 3) [(0, true), (1, true), (2, true), (3, true), (4, true), (5, true), (6, true), (8, true), (7, false), (9, false), (10, false), (11, false), (12, false), (13, true), (14, true), (15, false), (16, false)] _ (by kernel_rfl) (by kernel_rfl) sel_all ?_)
      | (with_reducible refine is_yk ?_; refine yk_auto (k := ?_))
      | (with_reducible refine is_owk0 ?_; refine owk0_auto (k := ?_))
      | (with_reducible refine is_owkc ?_; refine owk_auto (k := fun _ => ?_))
      | refine go1 (k := ?_)
      | (refine go2 (ka := ?_) (kb := ?_) <;> intro _)
      | fail))
  exact x_ret2 rfl rfl rfl (fun w H => ⟨rfl, St.shutI (Sel.st sel_auto H)⟩)
end
end Go.Proofs.Ytjofjkjghakcoaa

/- The vault (package vault), ideal: Ideal, Limit, Clashes, nonce, may. -/
namespace Go.Proofs.Ytjofjkjghakcoaa
open Go.RowKit
/-- An ideal vault. -/
structure VaultM where
  world : IdealM
  master : Bs
  limit : Int
  used : List (KeyB 44 × Bs)
  clash : Int
def key44 (l : Bs) : KeyB 44 := if h : l.length = 44 then ⟨l, h⟩ else ⟨List.replicate 44 0, rfl⟩
theorem enc44 {l : Bs} (h : l.length = 44) : encB 44 (key44 l) = .agg (bvs l).toArray := by unfold key44; rw [dif_pos h]; rfl
/-- The nonce of an epoch and a number. -/
def nonceB (e s : Int) : Bs := leB 4 e.toNat ++ num8 s
theorem nonceB_length (e s : Int) : (nonceB e s).length = 12 := by simp [nonceB, leB_length, num8_length]
theorem eq32 (d : Nat) : EqB Try.prog (d + 2) 29 32 := eqB_array Try.underlying29 Try.underlying5 (by kernel_rfl) (by kernel_rfl) d
theorem eq12 (d : Nat) : EqB Try.prog (d + 2) 46 12 := eqB_array Try.underlying46 Try.underlying5 (by kernel_rfl) (by kernel_rfl) d
theorem eq32a (d : Nat) : EqB Try.prog (d + 2) 28 32 := eqB_array Try.underlying28 Try.underlying5 (by kernel_rfl) (by kernel_rfl) d
theorem check32 (d : Nat) : CheckB Try.prog (d + 2) 29 32 := checkB_array Try.underlying29 Try.underlying5 (by kernel_rfl) (by kernel_rfl) d
theorem check12 (d : Nat) : CheckB Try.prog (d + 2) 46 12 := checkB_array Try.underlying46 Try.underlying5 (by kernel_rfl) (by kernel_rfl) d
instance : TEqB Try.prog 29 32 := ⟨eq32 9998, by kernel_rfl⟩
instance : TEqB Try.prog 28 32 := ⟨eq32a 9998, by kernel_rfl⟩
theorem eq44 : EqB Try.prog 10000 66 44 := eqB_struct2 (n0 := 32) (n1 := 12) (d := 9999) Try.underlying66 (by kernel_rfl) (by decide) (by decide) ⟨rfl, rfl⟩ ⟨rfl, rfl⟩ Try.underlying29 Try.underlying46 rfl rfl (by kernel_rfl) (by kernel_rfl) rfl (eq32 9997) (eq12 9997)
theorem check44 : CheckB Try.prog 10000 66 44 := checkB_struct2 (n0 := 32) (n1 := 12) (d := 9999) Try.underlying66 ⟨rfl, rfl⟩ ⟨rfl, rfl⟩ (by decide) (by decide) Try.underlying29 Try.underlying46 rfl rfl (by kernel_rfl) (by kernel_rfl) rfl (check32 9997) (check12 9997)
instance : TKey Try.prog 66 (encB 44) := tkey_bytes (by kernel_rfl) eq44 check44
instance : TMap Try.prog 50 66 9 (str []) := ⟨by kernel_rfl, by kernel_rfl⟩
def vcells1 (q um : Nat) (V : VaultM) : List Value := .iface 26 (.pointer (some ⟨q, 0, none⟩)) :: (bvs V.master ++ [.int .i64 V.limit, .map (some um), .int .i64 V.clash])
/-- An ideal vault in memory. -/
def VaultAt (p : Nat) (V : VaultM) : HP := Pure (V.master.length = 32) (Ex fun qu : Nat × Nat => Join [Bl p 54 (vcells1 qu.1 qu.2 V), IdealAt qu.1 V.world, Mp (encB 44) str qu.2 V.used])
section
variable {q um : Nat} {V : VaultM}
theorem vc_length (h : V.master.length = 32) : (vcells1 q um V).length = 36 := by simp [vcells1, bvs_length, h]
theorem vc0 : (vcells1 q um V).toArray.toList[0 + 0]? = some (.iface 26 (.pointer (some ⟨q, 0, none⟩))) := rfl
theorem vc_at (h : V.master.length = 32) (j : Nat) : (vcells1 q um V)[33 + j]? = [Value.int .i64 V.limit, .map (some um), .int .i64 V.clash][j]? := by
  have e : 33 + j = (32 + j) + 1 := by omega
  rw [vcells1, e, List.getElem?_cons_succ, List.getElem?_append_right (by rw [bvs_length, h]; omega), bvs_length, h]; congr 1; omega
theorem vc33 (h : V.master.length = 32) : (vcells1 q um V).toArray.toList[0 + 33]? = some (.int .i64 V.limit) := vc_at h 0
theorem vc34 (h : V.master.length = 32) : (vcells1 q um V).toArray.toList[0 + 34]? = some (.map (some um)) := vc_at h 1
theorem vc35 (h : V.master.length = 32) : (vcells1 q um V).toArray.toList[0 + 35]? = some (.int .i64 V.clash) := vc_at h 2
theorem vc_master (h : V.master.length = 32) : ((vcells1 q um V).toArray.toList.drop (0 + 1)).take (bvs V.master).length = bvs V.master := by
  show (List.drop 1 (vcells1 q um V)).take _ = _
  simp [vcells1]
theorem vc_clash (h : V.master.length = 32) (n : Int) : (vcells1 q um V).set (0 + 35) (.int .i64 n) = vcells1 q um { V with clash := n } := by
  have e : 0 + 35 = 34 + 1 := rfl
  unfold vcells1
  rw [e, List.set_cons_succ, List.set_append_right _ _ (by rw [bvs_length, h]; omega), bvs_length, h]
  rfl
end
attribute [local irreducible] Y OW YK OWK W WL WP X CV GvL GvP Ev Evs HasCell HasCells Has Met Again Kept
section
variable {c : Con} {F : List HP} {w : World} {p : Nat} {V : VaultM}
theorem St.openV (H : St c (VaultAt p V :: F) w) : V.master.length = 32 ∧ ∃ q um, St c (Bl p 54 (vcells1 q um V) :: IdealAt q V.world :: Mp (encB 44) str um V.used :: F) w := by
  obtain ⟨h, H⟩ := H.pure
  obtain ⟨qu, H⟩ := St.ex H
  exact ⟨h, _, _, St.join.1 H⟩
theorem St.shutV {q um : Nat} (h : V.master.length = 32) (H : St c (Bl p 54 (vcells1 q um V) :: IdealAt q V.world :: Mp (encB 44) str um V.used :: F) w) : St c (VaultAt p V :: F) w := St.toPure h (St.toEx (q, um) (St.join.2 H))
theorem v_limit {l : Int} (hl : V.limit = l) (H : St c (VaultAt p V :: F) w) : Calls Try.prog 22 #[.pointer (some ⟨p, 0, none⟩)] w fun e w' => e = .returned (.int .i64 l) ∧ St c (VaultAt p V :: F) w' := by
  subst hl
  obtain ⟨hm, q, um, H⟩ := H.openV
  have h33 := vc33 (q := q) (um := um) hm
  refine calls_w (vs := [.pointer (some ⟨p, 0, none⟩)]) Try.func22 rfl rfl rfl ?_ w H
  (repeat' (first
      | (with_reducible refine at_load ?_; first | refine yk (y_load (ev_tmp rfl) (hasCell_bl has_auto h33)) ?_)
      | (with_reducible refine is_yk ?_; refine yk_auto (k := ?_))
      | (with_reducible refine is_owk0 ?_; refine owk0_auto (k := ?_))
      | (with_reducible refine is_owkc ?_; refine owk_auto (k := fun _ => ?_))
      | refine go1 (k := ?_)
      | (refine go2 (ka := ?_) (kb := ?_) <;> intro _)
      | fail))
  exact x_ret1 rfl rfl (fun w H => ⟨rfl, St.shutV hm H⟩)
theorem v_clashes {l : Int} (hl : V.clash = l) (H : St c (VaultAt p V :: F) w) : Calls Try.prog 14 #[.pointer (some ⟨p, 0, none⟩)] w fun e w' => e = .returned (.int .i64 l) ∧ St c (VaultAt p V :: F) w' := by
  subst hl
  obtain ⟨hm, q, um, H⟩ := H.openV
  have h35 := vc35 (q := q) (um := um) hm
  refine calls_w (vs := [.pointer (some ⟨p, 0, none⟩)]) Try.func14 rfl rfl rfl ?_ w H
  (repeat' (first
      | (with_reducible refine at_load ?_; first | refine yk (y_load (ev_tmp rfl) (hasCell_bl has_auto h35)) ?_)
      | (with_reducible refine is_yk ?_; refine yk_auto (k := ?_))
      | (with_reducible refine is_owk0 ?_; refine owk0_auto (k := ?_))
      | (with_reducible refine is_owkc ?_; refine owk_auto (k := fun _ => ?_))
      | refine go1 (k := ?_)
      | (refine go2 (ka := ?_) (kb := ?_) <;> intro _)
      | fail))
  exact x_ret1 rfl rfl (fun w H => ⟨rfl, St.shutV hm H⟩)
/-- Why there is no such nonce. -/
def VaultM.may (V : VaultM) (e s : Int) : Int := if e < 0 ∨ s < 0 then 1 else if 4294967296 ≤ e ∨ V.limit ≤ s then 10 else 0
theorem v_may {e s r : Int} (hr : V.may e s = r) (H : St c (VaultAt p V :: F) w) : Calls Try.prog 23 #[.pointer (some ⟨p, 0, none⟩), .int .i64 e, .int .i64 s] w fun x w' => x = .returned (.int .i64 r) ∧ St c (VaultAt p V :: F) w' := by
  subst hr
  obtain ⟨hm, q, um, H⟩ := H.openV
  have h33 := vc33 (q := q) (um := um) hm
  unfold VaultM.may
  refine calls_w (vs := [.pointer (some ⟨p, 0, none⟩), .int .i64 e, .int .i64 s]) Try.func23 rfl rfl rfl ?_ w H
  by_cases h1 : e < 0
  · (repeat' (first
      | (with_reducible refine at_load ?_; first | refine yk (y_load (ev_tmp rfl) (hasCell_bl has_auto h33)) ?_)
      | (with_reducible refine is_yk ?_; refine yk_auto (k := ?_))
      | (with_reducible refine is_owk0 ?_; refine owk0_auto (k := ?_))
      | (with_reducible refine is_owkc ?_; refine owk_auto (k := fun _ => ?_))
      | refine go1 (k := ?_)
      | (refine go2 (ka := ?_) (kb := ?_) <;> intro _)
      | fail))
    exact x_ret1 rfl rfl (fun w H => ⟨by rw [if_pos (.inl h1)], St.shutV hm H⟩)
  · by_cases h2 : s < 0
    · (repeat' (first
      | (with_reducible refine at_load ?_; first | refine yk (y_load (ev_tmp rfl) (hasCell_bl has_auto h33)) ?_)
      | (with_reducible refine is_yk ?_; refine yk_auto (k := ?_))
      | (with_reducible refine is_owk0 ?_; refine owk0_auto (k := ?_))
      | (with_reducible refine is_owkc ?_; refine owk_auto (k := fun _ => ?_))
      | refine go1 (k := ?_)
      | (refine go2 (ka := ?_) (kb := ?_) <;> intro _)
      | fail))
      exact x_ret1 rfl rfl (fun w H => ⟨by rw [if_pos (.inr h2)], St.shutV hm H⟩)
    · rw [if_neg (by omega)]
      by_cases h3 : 4294967296 ≤ e
      · (repeat' (first
      | (with_reducible refine at_load ?_; first | refine yk (y_load (ev_tmp rfl) (hasCell_bl has_auto h33)) ?_)
      | (with_reducible refine is_yk ?_; refine yk_auto (k := ?_))
      | (with_reducible refine is_owk0 ?_; refine owk0_auto (k := ?_))
      | (with_reducible refine is_owkc ?_; refine owk_auto (k := fun _ => ?_))
      | refine go1 (k := ?_)
      | (refine go2 (ka := ?_) (kb := ?_) <;> intro _)
      | fail))
        exact x_ret1 rfl rfl (fun w H => ⟨by rw [if_pos (.inl h3)], St.shutV hm H⟩)
      · by_cases h4 : V.limit ≤ s
        · (repeat' (first
      | (with_reducible refine at_load ?_; first | refine yk (y_load (ev_tmp rfl) (hasCell_bl has_auto h33)) ?_)
      | (with_reducible refine is_yk ?_; refine yk_auto (k := ?_))
      | (with_reducible refine is_owk0 ?_; refine owk0_auto (k := ?_))
      | (with_reducible refine is_owkc ?_; refine owk_auto (k := fun _ => ?_))
      | refine go1 (k := ?_)
      | (refine go2 (ka := ?_) (kb := ?_) <;> intro _)
      | fail))
          exact x_ret1 rfl rfl (fun w H => ⟨by rw [if_pos (.inr h4)], St.shutV hm H⟩)
        · (repeat' (first
      | (with_reducible refine at_load ?_; first | refine yk (y_load (ev_tmp rfl) (hasCell_bl has_auto h33)) ?_)
      | (with_reducible refine is_yk ?_; refine yk_auto (k := ?_))
      | (with_reducible refine is_owk0 ?_; refine owk0_auto (k := ?_))
      | (with_reducible refine is_owkc ?_; refine owk_auto (k := fun _ => ?_))
      | refine go1 (k := ?_)
      | (refine go2 (ka := ?_) (kb := ?_) <;> intro _)
      | fail))
          exact x_ret1 rfl rfl (fun w H => ⟨by rw [if_neg (by omega)], St.shutV hm H⟩)
end
end Go.Proofs.Ytjofjkjghakcoaa

/- The vault (package vault): nonce, Ideal, what is built. -/
namespace Go.Proofs.Ytjofjkjghakcoaa
open Go.RowKit
theorem put_setG (pre : Bs) (m j X : Nat) (z : UInt8) (h : j < m) : (pre ++ (leB j X ++ List.replicate (m - j) z)).set (pre.length + j) (UInt8.ofNat (X / 256 ^ j % 256)) = pre ++ (leB (j + 1) X ++ List.replicate (m - (j + 1)) z) := by
  obtain ⟨k, rfl⟩ : ∃ k, m = j + (k + 1) := ⟨m - j - 1, by omega⟩
  rw [show j + (k + 1) - j = k + 1 by omega, show j + (k + 1) - (j + 1) = k by omega, List.set_append_right _ _ (by omega), Nat.add_sub_cancel_left, List.set_append_right _ _ (by rw [leB_length]; omega), leB_length, Nat.sub_self, List.replicate_succ, List.set_cons_zero, leB_snoc, List.append_assoc]
  rfl
theorem splice_mid (pre x post y : List Value) {o : Nat} (ho : o = pre.length) (h : x.length = y.length) : splice (pre ++ (x ++ post)) o y = pre ++ (y ++ post) := by
  subst ho
  unfold splice
  rw [List.take_left, List.append_assoc, ← h, ← List.append_assoc pre x post, show pre.length + x.length = (pre ++ x).length by simp, List.drop_left]
section
variable {H : World → Prop} {E : Env} {d : Option Nat} {ty : TypeId} {pos : String} {aft : Array Edge} {g : Option (Nat × Bool)}
theorem vcells_agg (l : List Value) : vcells (.agg l.toArray) = l := rfl
theorem y_buildVault {x0 x1 x2 x3 : Operand} {q um : Nat} {V : VaultM} (h0 : Ev E x0 (.iface 26 (.pointer (some ⟨q, 0, none⟩)))) (h1 : Ev E x1 (.agg (bvs V.master).toArray)) (h2 : Ev E x2 (.int .i64 V.limit)) (h3 : Ev E x3 (.map (some um))) (hm : V.master.length = 32) (hc : V.clash = 0) :
    Y Try.prog H E (Oper.mk d (.build 54 #[(0, x0), (1, x1), (2, x2), (3, x3), (4, .const (.int .i64 0))]) ty pos aft g) (.agg (vcells1 q um V).toArray) := by
  have hml : (bvs V.master).length = 32 := by rw [bvs_length, hm]
  have hl : Lay E [(0, 1), (1, 32), (33, 1), (34, 1), (35, 1)] ([.nilIface] ++ (List.replicate 32 (.int .u8 0) ++ ([.int .i64 0, .map none, .int .i64 0]))) [(0, x0), (1, x1), (2, x2), (3, x3), (4, .const (.int .i64 0))] (vcells1 q um V) := by
    obtain ⟨I, hI⟩ : ∃ I, Value.iface 26 (.pointer (some ⟨q, 0, none⟩)) = I := ⟨_, rfl⟩
    rw [hI] at h0
    have hIv : vcells I = [I] := by rw [← hI]; rfl
    have e0 : splice ([.nilIface] ++ (List.replicate 32 (.int .u8 0) ++ ([.int .i64 0, .map none, .int .i64 0]))) 0 [I] = [I] ++ (List.replicate 32 (.int .u8 0) ++ [.int .i64 0, .map none, .int .i64 0]) := splice_mid [] [.nilIface] _ _ rfl rfl
    have e1 : splice ([I] ++ (List.replicate 32 (.int .u8 0) ++ [.int .i64 0, .map none, .int .i64 0])) 1 (bvs V.master) = [I] ++ (bvs V.master ++ [.int .i64 0, .map none, .int .i64 0]) := splice_mid [I] _ _ _ rfl (by rw [hml]; rfl)
    have e2 : splice ([I] ++ (bvs V.master ++ [.int .i64 0, .map none, .int .i64 0])) 33 [.int .i64 V.limit] = [I] ++ (bvs V.master ++ [.int .i64 V.limit, .map none, .int .i64 0]) := by
      have := splice_mid ([I] ++ bvs V.master) [.int .i64 0] [.map none, .int .i64 0] [.int .i64 V.limit] (o := 33) (by simp [hml]) rfl
      simpa using this
    have e3 : splice ([I] ++ (bvs V.master ++ [.int .i64 V.limit, .map none, .int .i64 0])) 34 [.map (some um)] = [I] ++ (bvs V.master ++ [.int .i64 V.limit, .map (some um), .int .i64 0]) := by
      have := splice_mid ([I] ++ bvs V.master ++ [.int .i64 V.limit]) [.map none] [.int .i64 0] [.map (some um)] (o := 34) (by simp [hml]) rfl
      simpa using this
    have e4 : splice ([I] ++ (bvs V.master ++ [.int .i64 V.limit, .map (some um), .int .i64 0])) 35 [.int .i64 0] = vcells1 q um V := by
      have := splice_mid ([I] ++ bvs V.master ++ [.int .i64 V.limit, .map (some um)]) [.int .i64 0] [] [.int .i64 0] (o := 35) (by simp [hml]) rfl
      rw [vcells1, hc, hI]
      simpa using this
    refine .cons h0 rfl (by rw [hIv]; rfl) (by simp) ?_
    rw [hIv, e0]
    refine .cons h1 rfl (by rw [vcells_agg, hml]) (by simp) ?_
    rw [vcells_agg, e1]
    refine .cons h2 rfl rfl (by simp [hml]) ?_
    rw [vcells_int, e2]
    refine .cons h3 rfl rfl (by simp [hml]) ?_
    rw [show vcells (.map (some um)) = [.map (some um)] from rfl, e3]
    refine .cons ev_const rfl rfl (by simp [hml]) ?_
    rw [vcells_int, e4]
    exact .nil
  exact y_build (P := Try.prog) (t := 54) hl
theorem y_buildPlace {x0 x1 : Operand} {k n : Bs} (h0 : Ev E x0 (.agg (bvs k).toArray)) (h1 : Ev E x1 (.agg (bvs n).toArray)) (hk : k.length = 32) (hn : n.length = 12) :
    Y Try.prog H E (Oper.mk d (.build 66 #[(0, x0), (1, x1)]) ty pos aft g) (encB 44 (key44 (k ++ n))) := by
  have hkl : (bvs k).length = 32 := by rw [bvs_length, hk]
  have hnl : (bvs n).length = 12 := by rw [bvs_length, hn]
  have hl : Lay E [(0, 32), (32, 12)] (List.replicate 44 (.int .u8 0)) [(0, x0), (1, x1)] (bvs (k ++ n)) := by
    have e1 : splice (List.replicate 44 (Value.int .u8 0)) 0 (bvs k) = bvs k ++ List.replicate 12 (.int .u8 0) := splice_mid [] (List.replicate 32 (.int .u8 0)) (List.replicate 12 (.int .u8 0)) (bvs k) rfl (by rw [hkl]; rfl)
    have e2 : splice (bvs k ++ List.replicate 12 (.int .u8 0)) 32 (bvs n) = bvs (k ++ n) := by
      have := splice_mid (bvs k) (List.replicate 12 (.int .u8 0)) [] (bvs n) hkl.symm (by rw [hnl]; rfl)
      rw [List.append_nil, List.append_nil] at this
      rw [this, bvs_append]
    refine .cons h0 rfl (by rw [vcells_agg, hkl]) (by simp) ?_
    rw [vcells_agg, e1]
    refine .cons h1 rfl (by rw [vcells_agg, hnl]) (by simp [hkl]) ?_
    rw [vcells_agg, e2]
    exact .nil
  rw [enc44 (by simp [hk, hn])]
  exact y_build (P := Try.prog) (t := 66) hl
theorem y_buildKey0 : Y Try.prog H E (Oper.mk d (.build 29 #[]) ty pos aft g) (.agg (bvs (List.replicate 32 0)).toArray) := y_buildZ (z := List.replicate 32 (.int .u8 0)) Try.underlying29 (by kernel_rfl)
end
theorem bvs_zeros (n : Nat) : List.replicate n (Value.int .u8 0) = bvs (List.replicate n 0) := by simp [bvs, bv]
attribute [local irreducible] Y OW YK OWK W WL WP X CV GvL GvP Ev Evs HasCell HasCells Has Met Again Kept
section
variable {c : Con} {F : List HP} {w : World} {p : Nat} {V : VaultM}
set_option maxRecDepth 100000 in
theorem v_nonce (e s : Int) (he : 0 ≤ e ∧ e < 4294967296) (H : St c F w) : Calls Try.prog 24 #[.int .i64 e, .int .i64 s] w fun x w' => x = .returned (.agg (bvs (nonceB e s)).toArray) ∧ St c F w' := by
  obtain ⟨n, rfl⟩ := Int.eq_ofNat_of_zero_le he.1
  obtain ⟨X, hX, hX1, hX2⟩ := u64_of s
  have hnb : nonceB n s = leB 4 n ++ leB 8 X := by unfold nonceB num8; rw [hX1]; rfl
  rw [hnb]
  have hz := bvs_zeros 12
  refine calls_w (vs := [.int .i64 n, .int .i64 s]) Try.func24 rfl rfl rfl ?_ w H
  (repeat' (first
      | (with_reducible refine is_yk ?_; refine yk_auto (k := ?_))
      | (with_reducible refine is_owk0 ?_; refine owk0_auto (k := ?_))
      | (with_reducible refine is_owkc ?_; refine owk_auto (k := fun _ => ?_))
      | refine go1 (k := ?_)
      | (refine go2 (ka := ?_) (kb := ?_) <;> intro _)
      | fail))
  rename_i r1 r2
  refine w_loop (α := Nat) (fun i => i ≤ 4) (fun i => [(8, .int .i64 (i : Int)), (5, .pointer (some ⟨r2, 0, none⟩)), (4, .pointer (some ⟨r1, 0, none⟩)), (0, .int .i64 n), (1, .int .i64 s)])
    (fun i => Bl r2 46 (bvs ([] ++ (leB i n ++ List.replicate (12 - i) 0))) :: Bl r1 46 (List.replicate 12 (.int .u8 0)) :: F) (fun i => 4 - i) 0 (Nat.zero_le _) sub_auto (by show Sel _ (Bl r2 _ (bvs (List.replicate 12 0)) :: _); rw [← hz]; exact sel_auto) (fun i hi => ?_)
  by_cases hi4 : i < 4
  · have h1 := u8_of n i
    have h2 := shr_of n i (m := 8 * (i : Int)) (by omega)
    have h3 := put_setG [] 12 i n 0 (by omega)
    have h4 : (bvs ([] ++ (leB i n ++ List.replicate (12 - i) 0))).set (0 + (i : Int).toNat * 1) (.int .u8 (UInt8.ofNat (n / 256 ^ i % 256)).toNat) = bvs ([] ++ (leB (i + 1) n ++ List.replicate (12 - (i + 1)) 0)) := by
      rw [Nat.mul_one, Int.toNat_natCast, ← h3]; exact bvs_set _ _ _
    have hV : (bvs ([] ++ (leB i n ++ List.replicate (12 - i) 0))).length = 12 := by simp [bvs_length, leB_length]; omega
    generalize bvs ([] ++ (leB i n ++ List.replicate (12 - i) 0)) = W0 at h4 hV ⊢
    generalize n / 256 ^ i = y at h1 h2 h4
    generalize UInt8.ofNat (y % 256) = bb at h1 h4
    (repeat' (first
      | (with_reducible refine at_conv ?_; first | refine yk_eq (y_conv_int (ev_tmp rfl)) (congrArg _ h1) ?_)
      | (with_reducible refine at_bin ?_; first | refine yk_eq (y_shr (ev_tmp rfl) (ev_tmp rfl) (by omega) (by simp [IntKind.bits]; omega)) (congrArg _ h2) ?_)
      | (with_reducible refine is_yk ?_; refine yk_auto (k := ?_))
      | (with_reducible refine is_owk0 ?_; refine owk0_auto (k := ?_))
      | (with_reducible refine is_owkc ?_; refine owk_auto (k := fun _ => ?_))
      | refine go1 (k := ?_)
      | (refine go2 (ka := ?_) (kb := ?_) <;> intro _)
      | fail))
    rw [h4]
    exact x_again (i + 1) (by omega) (by omega) sub_auto sel_auto
  · have : i = 4 := by omega
    subst this
    have e0 : ([] : Bs) ++ (leB 4 n ++ List.replicate (12 - 4) 0) = leB 4 n ++ (leB 0 X ++ List.replicate (8 - 0) 0) := by simp [leB]
    rw [e0]
    have hpl := leB_length 4 n
    generalize leB 4 n = pre at *
    (repeat' (first
      | (with_reducible refine is_yk ?_; refine yk_auto (k := ?_))
      | (with_reducible refine is_owk0 ?_; refine owk0_auto (k := ?_))
      | (with_reducible refine is_owkc ?_; refine owk_auto (k := fun _ => ?_))
      | refine go1 (k := ?_)
      | (refine go2 (ka := ?_) (kb := ?_) <;> intro _)
      | fail))
    refine w_loop (α := Nat) (fun i => i ≤ 8) (fun i => [(19, .int .i64 (i : Int)), (5, .pointer (some ⟨r2, 0, none⟩)), (4, .pointer (some ⟨r1, 0, none⟩)), (1, .int .i64 s)])
      (fun i => Bl r2 46 (bvs (pre ++ (leB i X ++ List.replicate (8 - i) 0))) :: Bl r1 46 (List.replicate 12 (.int .u8 0)) :: F) (fun i => 8 - i) 0 (Nat.zero_le _) sub_auto sel_auto (fun i hi => ?_)
    by_cases hi8 : i < 8
    · have h1 := u8_of X i
      have h2 := shr_of X i (m := 8 * (i : Int)) (by omega)
      have h3 := put_setG pre 8 i X 0 (by omega)
      have hti : (4 + (i : Int)).toNat = 4 + i := by omega
      have h4 : (bvs (pre ++ (leB i X ++ List.replicate (8 - i) 0))).set (0 + (4 + (i : Int)).toNat * 1) (.int .u8 (UInt8.ofNat (X / 256 ^ i % 256)).toNat) = bvs (pre ++ (leB (i + 1) X ++ List.replicate (8 - (i + 1)) 0)) := by
        rw [Nat.mul_one, Nat.zero_add, hti, ← h3, hpl]; exact bvs_set _ _ _
      have hV : (bvs (pre ++ (leB i X ++ List.replicate (8 - i) 0))).length = 12 := by simp [bvs_length, leB_length, hpl]; omega
      generalize bvs (pre ++ (leB i X ++ List.replicate (8 - i) 0)) = W0 at h4 hV ⊢
      generalize X / 256 ^ i = y at h1 h2 h4
      generalize UInt8.ofNat (y % 256) = bb at h1 h4
      (repeat' (first
      | (with_reducible refine at_conv ?_; first | refine yk_eq (y_conv_int (ev_tmp rfl)) (congrArg _ hX2) ?_ | refine yk_eq (y_conv_int (ev_tmp rfl)) (congrArg _ h1) ?_)
      | (with_reducible refine at_bin ?_; first | refine yk_eq (y_shr (ev_tmp rfl) (ev_tmp rfl) (by omega) (by simp [IntKind.bits]; omega)) (congrArg _ h2) ?_)
      | (with_reducible refine is_yk ?_; refine yk_auto (k := ?_))
      | (with_reducible refine is_owk0 ?_; refine owk0_auto (k := ?_))
      | (with_reducible refine is_owkc ?_; refine owk_auto (k := fun _ => ?_))
      | refine go1 (k := ?_)
      | (refine go2 (ka := ?_) (kb := ?_) <;> intro _)
      | fail))
      rw [h4]
      exact x_again (i + 1) (by omega) (by omega) sub_auto sel_auto
    · have : i = 8 := by omega
      subst this
      have e1 : leB 8 X ++ List.replicate (8 - 8) (0 : UInt8) = leB 8 X := by simp
      rw [e1]
      have hVl : (bvs (pre ++ leB 8 X)).length = 12 := by simp [bvs_length, leB_length, hpl]
      have hV1 := bvs_oneCell (pre ++ leB 8 X)
      have hzl : (List.replicate 12 (Value.int .u8 0)).length = 12 := rfl
      generalize bvs (pre ++ leB 8 X) = W0 at hVl hV1 ⊢
      (repeat' (first
      | ((with_reducible refine at_storeO ?_); with_reducible refine owk0 (ow_storeAll (ev_tmp rfl) (ev_tmp rfl) hV1 hVl upd_auto hzl) ?_)
      | (with_reducible refine is_yk ?_; refine yk_auto (k := ?_))
      | (with_reducible refine is_owk0 ?_; refine owk0_auto (k := ?_))
      | (with_reducible refine is_owkc ?_; refine owk_auto (k := fun _ => ?_))
      | refine go1 (k := ?_)
      | (refine go2 (ka := ?_) (kb := ?_) <;> intro _)
      | fail))
      exact x_retC rfl rfl has_auto hVl (fun w H => ⟨rfl, Sel.st sel_auto H⟩)
end
end Go.Proofs.Ytjofjkjghakcoaa

/- The vault (package vault): Ideal, Key, Hash, Mac. -/
namespace Go.Proofs.Ytjofjkjghakcoaa
open Go.RowKit
section
variable {P : Program} {N : Nat} {c : Con} {E : Env} {L F F' : List HP} {A A' B : HP} {d : Option Nat} {ty : TypeId} {pos : String} {aft : Array Edge} {g : Option (Nat × Bool)} {K : Value → List HP → Prop}
theorem owk_i1 {r : Value} {f : FuncId} {ro : Operand} {name : String} {xs : Array Operand} {ts : Array TypeId} {vs : List Value} {t : TypeId} {v rv : Value} (hro : Ev E ro (.iface t v)) (hx : Evs E xs vs)
    (hm : ∀ w, (method (P.types.size + Made.depth) t v name).run P w = .ok (f, rv) w) (he : entersB P f = true) (hp : Pick L A F)
    (pre : ∀ w, St c (A :: F) w → Calls P f (rv :: vs).toArray w fun e w' => e = .returned r ∧ St c (A' :: F) w') (k : K r (A' :: F)) :
    OWK P N c E L (Oper.mk d (.call { callee := .invoke ro name, args := xs, argTypes := ts }) ty pos aft g) K :=
  owk0 (ow_invoke (L' := fun _ => A' :: F) hro hx hm he fun w H => (pre w (hp.st H)).mono fun e w' h => ⟨(), h⟩) k
theorem owk_i1x {β : Type} {r : β → Value} {L' : β → List HP} {f : FuncId} {ro : Operand} {name : String} {xs : Array Operand} {ts : Array TypeId} {vs : List Value} {t : TypeId} {v rv : Value} (hro : Ev E ro (.iface t v)) (hx : Evs E xs vs)
    (hm : ∀ w, (method (P.types.size + Made.depth) t v name).run P w = .ok (f, rv) w) (he : entersB P f = true) (hp : Pick L A F)
    (pre : ∀ w, St c (A :: F) w → Calls P f (rv :: vs).toArray w fun e w' => ∃ x, e = .returned (r x) ∧ St c (L' x) w') (k : ∀ x, K (r x) (L' x)) :
    OWK P N c E L (Oper.mk d (.call { callee := .invoke ro name, args := xs, argTypes := ts }) ty pos aft g) K :=
  owk (ow_invoke hro hx hm he fun w H => pre w (hp.st H)) k
end
theorem meth_Derive (q : Nat) (w : World) : (method (Try.prog.types.size + Made.depth) 26 (.pointer (some ⟨q, 0, none⟩)) "Derive").run Try.prog w = .ok (68, .pointer (some ⟨q, 0, none⟩)) w := by kernel_rfl
theorem meth_Hash (q : Nat) (w : World) : (method (Try.prog.types.size + Made.depth) 26 (.pointer (some ⟨q, 0, none⟩)) "Hash").run Try.prog w = .ok (69, .pointer (some ⟨q, 0, none⟩)) w := by kernel_rfl
theorem meth_Mac (q : Nat) (w : World) : (method (Try.prog.types.size + Made.depth) 26 (.pointer (some ⟨q, 0, none⟩)) "Mac").run Try.prog w = .ok (70, .pointer (some ⟨q, 0, none⟩)) w := by kernel_rfl
theorem meth_Seal (q : Nat) (w : World) : (method (Try.prog.types.size + Made.depth) 26 (.pointer (some ⟨q, 0, none⟩)) "Seal").run Try.prog w = .ok (72, .pointer (some ⟨q, 0, none⟩)) w := by kernel_rfl
theorem meth_Open (q : Nat) (w : World) : (method (Try.prog.types.size + Made.depth) 26 (.pointer (some ⟨q, 0, none⟩)) "Open").run Try.prog w = .ok (71, .pointer (some ⟨q, 0, none⟩)) w := by kernel_rfl
theorem not_iface {e : TypeId} : ∀ ms, TypeDesc.pointer e ≠ .interface ms := fun _ h => by cases h
theorem hasR_master {c : Con} {L : List HP} {p T q um : Nat} {V : VaultM} (h : V.master.length = 32) : HasR (St c (Bl p T (vcells1 q um V) :: L)) (.slice (some ⟨p, 0 + 1, none⟩) 32 32) 32 (bvs V.master) :=
  reads_has (hasCells_bl has_hd (vc_master h)) (by rw [bvs_length, h]) (by decide) (by decide)
namespace VaultM
def keyIn (purpose : Bs) (ns : List Int) : Bs := text3 purpose ++ ns.flatMap num8
def key (V : VaultM) (purpose : Bs) (ns : List Int) : Bs := V.world.derive V.master (keyIn purpose ns)
def keyed (V : VaultM) (purpose : Bs) (ns : List Int) : VaultM := { V with world := V.world.derived V.master (keyIn purpose ns) }
def hash (V : VaultM) (x : Bs) : Bs := V.world.hash x
def hashed (V : VaultM) (x : Bs) : VaultM := { V with world := V.world.hashed x }
def mac (V : VaultM) (k x : Bs) : Bs := V.world.mac k x
def maced (V : VaultM) (k x : Bs) : VaultM := { V with world := V.world.maced k x }
end VaultM
theorem make32 (I : IdealM) (kd : UInt8) (ps : List Bs) : (I.make kd 32 ps).length = 32 := markB_length (by decide)
attribute [local irreducible] Y OW YK OWK W WL WP X CV GvL GvP Ev Evs HasCell HasCells Has Met Again Kept
section
variable {c : Con} {F : List HP} {w : World} {p : Nat} {V : VaultM}
set_option maxRecDepth 100000 in
theorem v_ideal {q : Nat} {I : IdealM} {m : Bs} {limit : Int} {V : VaultM} (hm : m.length = 32) (hV : (⟨I, m, max limit 0, [], 0⟩ : VaultM) = V) (H : St c (IdealAt q I :: F) w) : Calls Try.prog 8 #[.pointer (some ⟨q, 0, none⟩), .agg (bvs m).toArray, .int .i64 limit] w fun e w' =>
    ∃ p : Nat, e = .returned (.pointer (some ⟨p, 0, none⟩)) ∧ St c (VaultAt p V :: F) w' := by
  have hml : (bvs m).length = 32 := by rw [bvs_length, hm]
  subst hV
  refine calls_w (vs := [.pointer (some ⟨q, 0, none⟩), .agg (bvs m).toArray, .int .i64 limit]) Try.func8 rfl rfl rfl ?_ w H
  (repeat' (first
      | ((with_reducible refine at_makeMapO ?_); with_reducible refine owk (ow_makeMap (t := 50) (encB 44) str) (fun um => ?_))
      | (with_reducible refine at_load ?_; first | refine yk (y_loadN (ev_tmp rfl) (hasCells_all has_auto) hml) ?_)
      | (with_reducible refine at_build ?_; first | refine yk (y_buildVault (V := ⟨I, m, max limit 0, [], 0⟩) (ev_tmp rfl) (ev_tmp rfl) (ev_tmp rfl) (ev_tmp rfl) hm rfl) ?_)
      | (with_reducible refine is_yk ?_; first | refine yk (y_makeIface (ev_tmp rfl) Try.underlying26 not_iface) ?_)
      | (with_reducible refine is_yk ?_; refine yk_auto (k := ?_))
      | (with_reducible refine is_owk0 ?_; refine owk0_auto (k := ?_))
      | (with_reducible refine is_owkc ?_; refine owk_auto (k := fun _ => ?_))
      | refine go1 (k := ?_)
      | (refine go2 (ka := ?_) (kb := ?_) <;> intro _)
      | fail))
  exact x_ret1 rfl rfl (fun w H => ⟨_, rfl, St.shutV (V := ⟨I, m, max limit 0, [], 0⟩) hm (Sel.st sel_auto H)⟩)
set_option maxRecDepth 100000 in
theorem v_hash {ps : List Bs} {x : Bs} {A : Option Addr} {m cap : Nat} {B : Bs} {V' : VaultM} (hp : Ps (St c F) (.slice A m cap) ps) (hx : ps.flatMap id = x) (hs : x.length ≤ 1099511627000) (hB : V.hash x = B) (hV : V.hashed x = V')
    (H : St c (VaultAt p V :: F) w) : Calls Try.prog 16 #[.pointer (some ⟨p, 0, none⟩), .slice A m cap] w fun e w' => e = .returned (.agg (bvs B).toArray) ∧ St c (VaultAt p V' :: F) w' := by
  obtain ⟨hm, q, um, H⟩ := H.openV
  have h0 := vc0 (q := q) (um := um) (V := V)
  have hBl : (bvs B).length = 32 := by rw [bvs_length, ← hB]; exact make32 _ _ _
  have hB1 := bvs_oneCell B
  have hz : (List.replicate 32 (Value.int .u8 0)).length = 32 := rfl
  have hpt : ∀ {X Y Z : HP}, Ps (St c (X :: Y :: Z :: F)) (.slice A m cap) ps := hp.tl.tl.tl
  have hB' : V.world.hash x = B := hB
  obtain ⟨I', hI'⟩ : ∃ I', V.world.hashed x = I' := ⟨_, rfl⟩
  subst hV
  refine calls_w (vs := [.pointer (some ⟨p, 0, none⟩), .slice A m cap]) Try.func16 rfl rfl rfl ?_ w H
  (repeat' (first
      | ((with_reducible refine at_storeO ?_); with_reducible refine owk0 (ow_storeAll (ev_tmp rfl) (ev_tmp rfl) hB1 hBl upd_auto hz) ?_)
      | (with_reducible refine is_owkc ?_; first | refine owk_i1 (ev_tmp rfl) evs_auto (meth_Hash _) (by kernel_rfl) pick_auto (fun w H => i_hash hpt hx hs hB' hI' H) ?_)
      | (with_reducible refine at_load ?_; first | refine yk (y_load (ev_tmp rfl) (hasCell_bl has_auto h0)) ?_)
      | (with_reducible refine is_yk ?_; refine yk_auto (k := ?_))
      | (with_reducible refine is_owk0 ?_; refine owk0_auto (k := ?_))
      | (with_reducible refine is_owkc ?_; refine owk_auto (k := fun _ => ?_))
      | refine go1 (k := ?_)
      | (refine go2 (ka := ?_) (kb := ?_) <;> intro _)
      | fail))
  exact x_retC rfl rfl has_auto hBl (fun w H => ⟨rfl, St.shutV (V := V.hashed x) (q := q) (um := um) hm (by rw [show (V.hashed x).world = I' from hI']; exact Sel.st sel_auto H)⟩)
end
end Go.Proofs.Ytjofjkjghakcoaa

/- The vault (package vault): Key, Mac. -/
namespace Go.Proofs.Ytjofjkjghakcoaa
open Go.RowKit
theorem keyed_master (V : VaultM) (a : Bs) (ns : List Int) : (V.keyed a ns).master = V.master := rfl
theorem hasR_oneS {c : Con} {L : List HP} {b T : Nat} (s : Bs) : HasR (St c (Bl b T (List.flatMap vcells [str s]) :: L)) (.slice (some ⟨b, 0, none⟩) 1 1) 1 (strs [s]) := reads_has (hasCells_bl has_hd rfl) rfl (by decide) (by decide)
attribute [local irreducible] Y OW YK OWK W WL WP X CV GvL GvP Ev Evs HasCell HasCells Has Met Again Kept
section
variable {c : Con} {F : List HP} {w : World} {p : Nat} {V : VaultM}
set_option maxRecDepth 100000 in
theorem v_mac {ps : List Bs} {x k : Bs} {A : Option Addr} {m cap : Nat} {B : Bs} {V' : VaultM} (hp : Ps (St c F) (.slice A m cap) ps) (hx : ps.flatMap id = x) (hk : k.length = 32) (hs : x.length ≤ 1099511620000) (hB : V.mac k x = B) (hV : V.maced k x = V')
    (H : St c (VaultAt p V :: F) w) : Calls Try.prog 18 #[.pointer (some ⟨p, 0, none⟩), .agg (bvs k).toArray, .slice A m cap] w fun e w' => e = .returned (.agg (bvs B).toArray) ∧ St c (VaultAt p V' :: F) w' := by
  obtain ⟨hm, q, um, H⟩ := H.openV
  have h0 := vc0 (q := q) (um := um) (V := V)
  have hBl : (bvs B).length = 32 := by rw [bvs_length, ← hB]; exact make32 _ _ _
  have hB1 := bvs_oneCell B
  have hkl : (bvs k).length = 32 := by rw [bvs_length, hk]
  have hz : (List.replicate 32 (Value.int .u8 0)).length = 32 := rfl
  have hpt : ∀ {X Y Z U : HP}, Ps (St c (X :: Y :: Z :: U :: F)) (.slice A m cap) ps := hp.tl.tl.tl.tl
  have hB' : V.world.mac k x = B := hB
  obtain ⟨I', hI'⟩ : ∃ I', V.world.maced k x = I' := ⟨_, rfl⟩
  have hsk : k.length + x.length ≤ 1099511627000 := by omega
  subst hV
  refine calls_w (vs := [.pointer (some ⟨p, 0, none⟩), .agg (bvs k).toArray, .slice A m cap]) Try.func18 rfl rfl rfl ?_ w H
  (repeat' (first
      | ((with_reducible refine at_storeO ?_); with_reducible refine owk0 (ow_storeAll (ev_tmp rfl) (ev_tmp rfl) hB1 hBl upd_auto hz) ?_)
      | (with_reducible refine is_owkc ?_; first | refine owk_i1 (ev_tmp rfl) evs_auto (meth_Mac _) (by kernel_rfl) pick_auto (fun w H => i_mac rds_auto hpt hx hsk hB' hI' H) ?_)
      | (with_reducible refine at_load ?_; first | refine yk (y_load (ev_tmp rfl) (hasCell_bl has_auto h0)) ?_)
      | (with_reducible refine at_nilCheck ?_; first | refine yk (y_nilCheckI (ev_tmp rfl)) ?_)
      | (with_reducible refine is_w ?_; first | refine w_plan (id := 3) [(0, true), (1, true), (2, true), (3, true), (4, true), (5, true), (6, true), (7, true), (8, false), (9, false)] [Bl p _ _] (by kernel_rfl) (by kernel_rfl) sel_auto ?_)
      | (with_reducible refine is_yk ?_; refine yk_auto (k := ?_))
      | (with_reducible refine is_owk0 ?_; refine owk0_auto (k := ?_))
      | (with_reducible refine is_owkc ?_; refine owk_auto (k := fun _ => ?_))
      | refine go1 (k := ?_)
      | (refine go2 (ka := ?_) (kb := ?_) <;> intro _)
      | fail))
  exact x_retC rfl rfl has_auto hBl (fun w H => ⟨rfl, St.shutV (V := V.maced k x) (q := q) (um := um) hm (by rw [show (V.maced k x).world = I' from hI']; exact Sel.st sel_auto H)⟩)
set_option maxRecDepth 100000 in
theorem v_key {a : Bs} {ns : List Int} {A : Option Addr} {m cap : Nat} {B : Bs} {V' : VaultM} {sv : Value} (hsv : sv = str a) (hr : HasR (St c F) (.slice A m cap) m (i64s ns)) (ha : a.length ≤ 1048576) (hn : ns.length ≤ 1048576) (hB : V.key a ns = B) (hV : V.keyed a ns = V')
    (H : St c (VaultAt p V :: F) w) : Calls Try.prog 13 #[.pointer (some ⟨p, 0, none⟩), sv, .slice A m cap] w fun e w' => e = .returned (.agg (bvs B).toArray) ∧ St c (VaultAt p V' :: F) w' := by
  obtain ⟨hm, q, um, H⟩ := H.openV
  have h0 := vc0 (q := q) (um := um) (V := V)
  have hBl : (bvs B).length = 32 := by rw [bvs_length, ← hB]; exact make32 _ _ _
  have hB1 := bvs_oneCell B
  have hz : (List.replicate 32 (Value.int .u8 0)).length = 32 := rfl
  obtain ⟨x1, hx1⟩ : ∃ x1, [] ++ [a].flatMap text3 = x1 := ⟨_, rfl⟩
  obtain ⟨x, hx⟩ : ∃ x, x1 ++ ns.flatMap num8 = x := ⟨_, rfl⟩
  have hxk : VaultM.keyIn a ns = x := by rw [← hx, ← hx1]; simp [VaultM.keyIn]
  have hl1 : x1.length = a.length + 3 := by rw [← hx1]; simp [text3_length]
  have hfl : ∀ l : List Int, (l.flatMap num8).length = l.length * 8 := fun l => by
    induction l with
    | nil => rfl
    | cons n l ih => simp [num8_length, ih]; omega
  have hl : x.length = a.length + 3 + ns.length * 8 := by rw [← hx, List.length_append, hl1, hfl]
  have hs1 : x1.length ≤ 1099511627776 := by omega
  have hs2 : x.length ≤ 1099511627776 := by omega
  have hs3 : ∀ s ∈ [a], s.length < 16777216 := fun s hs => by rw [List.mem_singleton.1 hs]; omega
  obtain ⟨k, hk⟩ : ∃ k, x.length = k := ⟨_, rfl⟩
  have hk2 : k ≤ 1099511627776 := by omega
  have hxx : [x].flatMap id = x := by simp
  have hsk : V.master.length + x.length ≤ 1099511627000 := by omega
  have hB' : V.world.derive V.master x = B := by rw [← hxk]; exact hB
  obtain ⟨I', hI'⟩ : ∃ I', V.world.derived V.master x = I' := ⟨_, rfl⟩
  have hw' : (V.keyed a ns).world = I' := by rw [← hI', ← hxk]; rfl
  have hrt : ∀ {X Y Z U : HP}, HasR (St c (X :: Y :: Z :: U :: F)) (.slice A m cap) m (i64s ns) := hasR_tl (hasR_tl (hasR_tl (hasR_tl hr)))
  subst hV hsv
  refine calls_w (vs := [.pointer (some ⟨p, 0, none⟩), str a, .slice A m cap]) Try.func13 rfl rfl rfl ?_ w H
  (repeat' (first
      | ((with_reducible refine at_fn 25 ?_); with_reducible refine owk_c1 (A := Bl _ 69 _) evs_auto (by kernel_rfl) pick_auto (fun w H => w_text (hasR_oneS a) hx1 hs1 hs3 H.newWr) ?_)
      | ((with_reducible refine at_fn 26 ?_); with_reducible refine owk_c1 evs_auto (by kernel_rfl) pick_auto (fun w H => w_num rds_auto hx hs2 H) ?_)
      | ((with_reducible refine at_fn 27 ?_); with_reducible refine owk_c1x evs_auto (by kernel_rfl) pick_auto (fun w H => w_bytes hk hk2 H) (fun s => ?_))
      | ((with_reducible refine at_storeO ?_); with_reducible refine owk0 (ow_storeAll (ev_tmp rfl) (ev_tmp rfl) hB1 hBl upd_auto hz) ?_)
      | (with_reducible refine is_owkc ?_; first | refine owk_i1 (ev_tmp rfl) evs_auto (meth_Derive _) (by kernel_rfl) pick_auto (fun w H => i_derive (by (repeat (first | exact hasR_master hm | refine hasR_tl ?_)); (first | done | fail)) (ps_own1 hk) hxx hsk hB' hI' H) ?_)
      | (with_reducible refine at_load ?_; first | refine yk (y_load (ev_tmp rfl) (hasCell_bl has_auto h0)) ?_)
      | (with_reducible refine at_nilCheck ?_; first | refine yk (y_nilCheckI (ev_tmp rfl)) ?_)
      | (with_reducible refine is_w ?_; first | refine w_plan (id := 6) [(0, true), (1, true), (2, true), (3, true), (4, true), (5, true), (6, true), (7, true), (8, true), (11, true), (12, true), (9, false), (10, false), (13, false), (14, false)] [Bl p _ _] (by kernel_rfl) (by kernel_rfl) sel_auto ?_)
      | (with_reducible refine is_yk ?_; refine yk_auto (k := ?_))
      | (with_reducible refine is_owk0 ?_; refine owk0_auto (k := ?_))
      | (with_reducible refine is_owkc ?_; refine owk_auto (k := fun _ => ?_))
      | refine go1 (k := ?_)
      | (refine go2 (ka := ?_) (kb := ?_) <;> intro _)
      | fail))
  exact x_retC rfl rfl has_auto hBl (fun w H => ⟨rfl, St.shutV (V := V.keyed a ns) (q := q) (um := um) hm (by rw [hw']; exact Sel.st sel_auto H)⟩)
end
end Go.Proofs.Ytjofjkjghakcoaa

/- The vault (package vault): Seal. -/
namespace Go.Proofs.Ytjofjkjghakcoaa
open Go.RowKit
namespace VaultM
def sealB (V : VaultM) (k : Bs) (e s : Int) (text x : Bs) : Bs := V.world.sealB k (nonceB e s) text x
def clash' (V : VaultM) (k : Bs) (e s : Int) (text : Bs) : Int := match getM V.used (key44 (k ++ nonceB e s)) with
  | some t => if t = text then V.clash else IntKind.i64.wrap (V.clash + 1)
  | none => V.clash
def sealed (V : VaultM) (k : Bs) (e s : Int) (text x : Bs) : VaultM := { world := V.world.sealed k (nonceB e s) text x, master := V.master, limit := V.limit, used := setM V.used (key44 (k ++ nonceB e s)) text, clash := V.clash' k e s text }
def opened (V : VaultM) (k : Bs) (e s : Int) (b x : Bs) : Option Bs := V.world.opened k (nonceB e s) b x
end VaultM
theorem look_used (V : VaultM) (k : Bs) (e s : Int) (text : Bs) : ∃ (t : Bs) (b : Bool), (Value.tuple #[((getM V.used (key44 (k ++ nonceB e s))).map str).getD (str []), .bool (getM V.used (key44 (k ++ nonceB e s))).isSome]) = .tuple #[str t, .bool b] ∧
    (b = false → V.clash' k e s text = V.clash) ∧ (b = true → V.clash' k e s text = if t = text then V.clash else IntKind.i64.wrap (V.clash + 1)) := by
  unfold VaultM.clash'
  cases h : getM V.used (key44 (k ++ nonceB e s)) with
  | none => exact ⟨[], false, rfl, fun _ => rfl, fun e => (by cases e)⟩
  | some v => exact ⟨v, true, rfl, fun e => (by cases e), fun _ => rfl⟩
theorem w_openV {c : Con} {p : Nat} {V : VaultM} {P : Program} {N : Nat} {Q : Exit → Act → World → Prop} {x : Code} {E : Env} {L F : List HP} (hp : Pick L (VaultAt p V) F) (h : V.master.length = 32 → ∀ q um, W P N c Q x E (Bl p 54 (vcells1 q um V) :: IdealAt q V.world :: Mp (encB 44) str um V.used :: F)) : W P N c Q x E L := fun a w hf H => by
  obtain ⟨hm, m, t, H'⟩ := (hp.st H).openV
  exact h hm m t a w hf H'
attribute [local irreducible] Y OW YK OWK W WL WP X CV GvL GvP Ev Evs HasCell HasCells Has Met Again Kept
section
variable {c : Con} {F : List HP} {w : World} {p : Nat} {V : VaultM}
set_option maxRecDepth 100000 in
theorem v_seal_bad {k : Bs} {e s r : Int} {A3 A : Option Addr} {n3 k3 m cap : Nat} (hr : V.may e s = r) (h0 : r ≠ 0) (H : St c (VaultAt p V :: F) w) : Calls Try.prog 11 #[.pointer (some ⟨p, 0, none⟩), .agg (bvs k).toArray, .int .i64 e, .int .i64 s, .slice A3 n3 k3, .slice A m cap] w fun x w' =>
    x = .returned (.tuple #[.slice none 0 0, .int .i64 r]) ∧ St c (VaultAt p V :: F) w' := by
  refine calls_w (vs := [.pointer (some ⟨p, 0, none⟩), .agg (bvs k).toArray, .int .i64 e, .int .i64 s, .slice A3 n3 k3, .slice A m cap]) Try.func11 rfl rfl rfl ?_ w H
  (repeat' (first
      | ((with_reducible refine at_fn 23 ?_); with_reducible refine owk_c1 evs_auto (by kernel_rfl) pick_auto (fun w H => v_may hr H) ?_)
      | (with_reducible refine is_yk ?_; refine yk_auto (k := ?_))
      | (with_reducible refine is_owk0 ?_; refine owk0_auto (k := ?_))
      | (with_reducible refine is_owkc ?_; refine owk_auto (k := fun _ => ?_))
      | refine go1 (k := ?_)
      | (refine go2 (ka := ?_) (kb := ?_) <;> intro _)
      | fail))
  exact x_ret2 rfl rfl rfl (fun w H => ⟨rfl, Sel.st sel_auto H⟩)
set_option maxRecDepth 100000 in
theorem v_open_bad {k : Bs} {e s r : Int} {A3 A : Option Addr} {n3 k3 m cap : Nat} (hr : V.may e s = r) (h0 : r ≠ 0) (H : St c (VaultAt p V :: F) w) : Calls Try.prog 12 #[.pointer (some ⟨p, 0, none⟩), .agg (bvs k).toArray, .int .i64 e, .int .i64 s, .slice A3 n3 k3, .slice A m cap] w fun x w' =>
    x = .returned (.tuple #[.slice none 0 0, .int .i64 r]) ∧ St c (VaultAt p V :: F) w' := by
  refine calls_w (vs := [.pointer (some ⟨p, 0, none⟩), .agg (bvs k).toArray, .int .i64 e, .int .i64 s, .slice A3 n3 k3, .slice A m cap]) Try.func12 rfl rfl rfl ?_ w H
  (repeat' (first
      | ((with_reducible refine at_fn 23 ?_); with_reducible refine owk_c1 evs_auto (by kernel_rfl) pick_auto (fun w H => v_may hr H) ?_)
      | (with_reducible refine is_yk ?_; refine yk_auto (k := ?_))
      | (with_reducible refine is_owk0 ?_; refine owk0_auto (k := ?_))
      | (with_reducible refine is_owkc ?_; refine owk_auto (k := fun _ => ?_))
      | refine go1 (k := ?_)
      | (refine go2 (ka := ?_) (kb := ?_) <;> intro _)
      | fail))
  exact x_ret2 rfl rfl rfl (fun w H => ⟨rfl, Sel.st sel_auto H⟩)
theorem may_range {e s : Int} (h : V.may e s = 0) : 0 ≤ e ∧ e < 4294967296 ∧ 0 ≤ s ∧ s < V.limit := by
  unfold VaultM.may at h
  split at h
  · cases h
  · split at h
    · cases h
    · omega
set_option maxRecDepth 100000 in
theorem v_seal {k text x : Bs} {e s : Int} {ps : List Bs} {A3 A : Option Addr} {n3 k3 m cap j : Nat} {B : Bs} {V' : VaultM} (hr : V.may e s = 0) (hk : k.length = 32) (htext : HasR (St c F) (.slice A3 n3 k3) n3 (bvs text)) (hp : Ps (St c F) (.slice A m cap) ps) (hx : ps.flatMap id = x)
    (hs1 : text.length ≤ 1048576) (hs2 : x.length ≤ 1048576) (hB : V.sealB k e s text x = B) (hV : V.sealed k e s text x = V') (hj : n3 + 16 = j) (H : St c (VaultAt p V :: F) w) :
    Calls Try.prog 11 #[.pointer (some ⟨p, 0, none⟩), .agg (bvs k).toArray, .int .i64 e, .int .i64 s, .slice A3 n3 k3, .slice A m cap] w fun y w' =>
    ∃ r : Nat, y = .returned (.tuple #[.slice (some ⟨r, 0, none⟩) j j, .int .i64 0]) ∧ St c (Bl r 5 (bvs B) :: VaultAt p V' :: F) w' := by
  obtain ⟨he0, he1, -, -⟩ := may_range hr
  have hkl : (bvs k).length = 32 := by rw [bvs_length, hk]
  obtain ⟨n, hn⟩ : ∃ n, nonceB e s = n := ⟨_, rfl⟩
  have hnl : n.length = 12 := by rw [← hn]; exact nonceB_length _ _
  have hnv : (bvs n).length = 12 := by rw [bvs_length, hnl]
  have hn1 := bvs_oneCell n
  have hz : ([Value.int .u8 0, Value.int .u8 0, Value.int .u8 0, Value.int .u8 0, Value.int .u8 0, Value.int .u8 0, Value.int .u8 0, Value.int .u8 0, Value.int .u8 0, Value.int .u8 0, Value.int .u8 0, Value.int .u8 0]).length = 12 := rfl
  have hB' : V.world.sealB k n text x = B := by rw [← hn]; exact hB
  obtain ⟨I', hI'⟩ : ∃ I', V.world.sealed k n text x = I' := ⟨_, rfl⟩
  have hkn : k.length + n.length ≤ 1099500000000 := by omega
  obtain ⟨t0, b0, hl0, hc1, hc2⟩ := look_used V k e s text
  have hV' : V' = { world := I', master := V.master, limit := V.limit, used := setM V.used (key44 (k ++ n)) text, clash := V.clash' k e s text } := by rw [← hV, ← hI', ← hn]; rfl
  rw [hn] at hl0
  have hnn : ∀ {c : Con} {F : List HP} {w : World}, St c F w → Calls Try.prog 24 #[.int .i64 e, .int .i64 s] w fun x w' => x = .returned (.agg (bvs n).toArray) ∧ St c F w' := fun H => by rw [← hn]; exact v_nonce e s ⟨he0, he1⟩ H
  refine calls_w (vs := [.pointer (some ⟨p, 0, none⟩), .agg (bvs k).toArray, .int .i64 e, .int .i64 s, .slice A3 n3 k3, .slice A m cap]) Try.func11 rfl rfl rfl ?_ w H
  (repeat' (first
      | ((with_reducible refine at_fn 23 ?_); with_reducible refine owk_c1 evs_auto (by kernel_rfl) pick_auto (fun w H => v_may hr H) ?_)
      | ((with_reducible refine at_fn 24 ?_); with_reducible refine owk_c0s evs_auto (by kernel_rfl) (fun w H => hnn H) ?_)
      | ((with_reducible refine at_storeO ?_); with_reducible refine owk0 (ow_storeAll (ev_tmp rfl) (ev_tmp rfl) hn1 hnv upd_auto hz) ?_)
      | (with_reducible refine is_w ?_; first | refine w_stopR (id := 5) ?_)
      | (with_reducible refine is_yk ?_; refine yk_auto (k := ?_))
      | (with_reducible refine is_owk0 ?_; refine owk0_auto (k := ?_))
      | (with_reducible refine is_owkc ?_; refine owk_auto (k := fun _ => ?_))
      | refine go1 (k := ?_)
      | (refine go2 (ka := ?_) (kb := ?_) <;> intro _)
      | fail))
  unfold Stop
  refine w_openV pick_auto (fun hm q um => ?_)
  have h0 := vc0 (q := q) (um := um) (V := V)
  have h34 := vc34 (q := q) (um := um) hm
  have h35 := vc35 (q := q) (um := um) hm
  (repeat' (first
      | (with_reducible refine is_owkc ?_; first | refine owk_i1x (ev_tmp rfl) evs_auto (meth_Seal _) (by kernel_rfl) pick_auto (fun w H => i_seal rds_auto rds_auto rds_auto (by (repeat (first | exact hp | refine Ps.tl ?_)); (first | done | fail)) hx hkn hs1 hs2 hB' hI' hj H) (fun r => ?_))
      | (with_reducible refine at_load ?_; first | refine yk (y_load (ev_tmp rfl) (hasCell_bl has_auto h0)) ?_ | refine yk (y_load (ev_tmp rfl) (hasCell_bl has_auto h34)) ?_ | refine yk (y_loadN (ev_tmp rfl) (hasCells_all has_auto) hkl) ?_ | refine yk (y_loadN (ev_tmp rfl) (hasCells_all has_auto) hnv) ?_)
      | (with_reducible refine at_nilCheck ?_; first | refine yk (y_nilCheckI (ev_tmp rfl)) ?_)
      | (with_reducible refine at_conv ?_; first | refine yk (y_str (n := n3) (l := text) (ev_tmp rfl) rds_auto) ?_)
      | (with_reducible refine at_build ?_; first | refine yk (y_buildPlace (ev_tmp rfl) (ev_tmp rfl) hk hnl) ?_)
      | (with_reducible refine at_lookup ?_; first | refine yk_eq (y_lookup2 (encK := encB 44) (encV := str) (k := key44 (k ++ n)) (l := V.used) (ev_tmp rfl) (ev_tmp rfl) rfl (by (repeat (first | exact hasM_hd | refine hasM_tl ?_)); (first | done | fail))) hl0 ?_)
      | (with_reducible refine is_w ?_; first | refine w_plan (id := 5) [(0, true), (1, true), (2, true), (3, true), (4, true), (5, true), (6, true), (7, true), (8, true), (9, true), (10, false), (11, false), (12, true), (13, true), (14, false), (15, false)] [Bl p _ _] (by kernel_rfl) (by kernel_rfl) sel_auto ?_ | refine w_plan (id := 9) [(0, true), (1, true), (2, true), (3, true), (4, true), (5, true), (6, true), (7, false), (8, false), (9, true), (10, true), (11, false), (12, false)] _ (by kernel_rfl) (by kernel_rfl) sel_all ?_ | refine w_stopR (id := 10) ?_)
      | (with_reducible refine is_yk ?_; refine yk_auto (k := ?_))
      | (with_reducible refine is_owk0 ?_; refine owk0_auto (k := ?_))
      | (with_reducible refine is_owkc ?_; refine owk_auto (k := fun _ => ?_))
      | refine go1 (k := ?_)
      | (refine go2 (ka := ?_) (kb := ?_) <;> intro _)
      | fail))
  unfold Stop
  by_cases hsame : b0 = false ∨ t0 = text
  · have hcl : V.clash' k e s text = V.clash := by
      cases b0 with
      | false => exact hc1 rfl
      | true => rw [hc2 rfl, if_pos (hsame.resolve_left (by decide))]
    have hvc : vcells1 q um V = vcells1 q um ⟨I', V.master, V.limit, setM V.used (key44 (k ++ n)) text, V.clash⟩ := rfl
    have hgo : b0 = false ∨ (b0 = true ∧ t0 = text) := by
      cases b0 with
      | false => exact .inl rfl
      | true => exact .inr ⟨rfl, hsame.resolve_left (by decide)⟩
    rcases hgo with hb | ⟨hb, ht⟩
    · subst hb
      (repeat' (first
      | ((with_reducible refine at_mapUpdateO ?_); with_reducible refine owk0 (ow_mapUpdate (encK := encB 44) (encV := str) (k := key44 (k ++ n)) (v := text) (l := V.used) (ev_tmp rfl) (ev_tmp rfl) (ev_tmp rfl) pick_auto rfl rfl) ?_)
      | (with_reducible refine at_load ?_; first | refine yk (y_load (ev_tmp rfl) (hasCell_bl has_auto h34)) ?_ | refine yk (y_loadN (ev_tmp rfl) (hasCells_all has_auto) hkl) ?_ | refine yk (y_loadN (ev_tmp rfl) (hasCells_all has_auto) hnv) ?_)
      | (with_reducible refine at_build ?_; first | refine yk (y_buildPlace (ev_tmp rfl) (ev_tmp rfl) hk hnl) ?_)
      | (with_reducible refine is_w ?_; first | refine w_plan (id := 12) [(0, true), (1, true), (2, true), (3, true), (4, true), (5, true), (6, true), (7, true), (8, false)] _ (by kernel_rfl) (by kernel_rfl) sel_all ?_)
      | (with_reducible refine is_yk ?_; refine yk_auto (k := ?_))
      | (with_reducible refine is_owk0 ?_; refine owk0_auto (k := ?_))
      | (with_reducible refine is_owkc ?_; refine owk_auto (k := fun _ => ?_))
      | refine go1 (k := ?_)
      | (refine go2 (ka := ?_) (kb := ?_) <;> intro _)
      | fail))
      exact x_ret2 rfl rfl rfl (fun w H => ⟨_, rfl, by rw [hV', hcl]; exact (St.shutV (F := Bl _ _ _ :: F) (V := ⟨I', V.master, V.limit, setM V.used (key44 (k ++ n)) text, V.clash⟩) (q := q) (um := um) hm (Sel.st sel_auto H)).swap⟩)
    · subst hb ht
      (repeat' (first
      | ((with_reducible refine at_mapUpdateO ?_); with_reducible refine owk0 (ow_mapUpdate (encK := encB 44) (encV := str) (k := key44 (k ++ n)) (v := t0) (l := V.used) (ev_tmp rfl) (ev_tmp rfl) (ev_tmp rfl) pick_auto rfl rfl) ?_)
      | (with_reducible refine at_load ?_; first | refine yk (y_load (ev_tmp rfl) (hasCell_bl has_auto h34)) ?_ | refine yk (y_loadN (ev_tmp rfl) (hasCells_all has_auto) hkl) ?_ | refine yk (y_loadN (ev_tmp rfl) (hasCells_all has_auto) hnv) ?_)
      | (with_reducible refine at_build ?_; first | refine yk (y_buildPlace (ev_tmp rfl) (ev_tmp rfl) hk hnl) ?_)
      | (with_reducible refine is_w ?_; first | refine w_plan (id := 12) [(0, true), (1, true), (2, true), (3, true), (4, true), (5, true), (6, true), (7, true), (8, false)] _ (by kernel_rfl) (by kernel_rfl) sel_all ?_)
      | (with_reducible refine is_yk ?_; refine yk_auto (k := ?_))
      | (with_reducible refine is_owk0 ?_; refine owk0_auto (k := ?_))
      | (with_reducible refine is_owkc ?_; refine owk_auto (k := fun _ => ?_))
      | refine go1 (k := ?_)
      | (refine go2 (ka := ?_) (kb := ?_) <;> intro _)
      | fail))
      exact x_ret2 rfl rfl rfl (fun w H => ⟨_, rfl, by rw [hV', hcl]; exact (St.shutV (F := Bl _ _ _ :: F) (V := ⟨I', V.master, V.limit, setM V.used (key44 (k ++ n)) t0, V.clash⟩) (q := q) (um := um) hm (Sel.st sel_auto H)).swap⟩)
  · have hb : b0 = true := by cases b0 with | false => exact absurd (.inl rfl) hsame | true => rfl
    have ht : ¬ t0 = text := fun h => hsame (.inr h)
    have hcl : V.clash' k e s text = IntKind.i64.wrap (V.clash + 1) := by rw [hc2 hb, if_neg ht]
    subst hb
    have h34' := vc34 (q := q) (um := um) (V := { V with clash := IntKind.i64.wrap (V.clash + 1) }) hm
    have hvl := vc_length (q := q) (um := um) hm
    (repeat' (first
      | (with_reducible refine at_load ?_; first | refine yk (y_load (ev_tmp rfl) (hasCell_bl has_auto h35)) ?_)
      | (with_reducible refine at_bin ?_; first | refine yk (y_add (ev_tmp rfl) ev_const) ?_)
      | (with_reducible refine is_w ?_; first | refine w_stopR (id := 12) ?_)
      | (with_reducible refine is_yk ?_; refine yk_auto (k := ?_))
      | (with_reducible refine is_owk0 ?_; refine owk0_auto (k := ?_))
      | (with_reducible refine is_owkc ?_; refine owk_auto (k := fun _ => ?_))
      | refine go1 (k := ?_)
      | (refine go2 (ka := ?_) (kb := ?_) <;> intro _)
      | fail))
    unfold Stop
    rw [vc_clash hm]
    (repeat' (first
      | ((with_reducible refine at_mapUpdateO ?_); with_reducible refine owk0 (ow_mapUpdate (encK := encB 44) (encV := str) (k := key44 (k ++ n)) (v := text) (l := V.used) (ev_tmp rfl) (ev_tmp rfl) (ev_tmp rfl) pick_auto rfl rfl) ?_)
      | (with_reducible refine at_load ?_; first | refine yk (y_load (ev_tmp rfl) (hasCell_bl has_auto h34')) ?_ | refine yk (y_loadN (ev_tmp rfl) (hasCells_all has_auto) hkl) ?_ | refine yk (y_loadN (ev_tmp rfl) (hasCells_all has_auto) hnv) ?_)
      | (with_reducible refine at_build ?_; first | refine yk (y_buildPlace (ev_tmp rfl) (ev_tmp rfl) hk hnl) ?_)
      | (with_reducible refine is_w ?_; first | refine w_plan (id := 12) [(0, true), (1, true), (2, true), (3, true), (4, true), (5, true), (6, true), (7, true), (8, false)] _ (by kernel_rfl) (by kernel_rfl) sel_all ?_)
      | (with_reducible refine is_yk ?_; refine yk_auto (k := ?_))
      | (with_reducible refine is_owk0 ?_; refine owk0_auto (k := ?_))
      | (with_reducible refine is_owkc ?_; refine owk_auto (k := fun _ => ?_))
      | refine go1 (k := ?_)
      | (refine go2 (ka := ?_) (kb := ?_) <;> intro _)
      | fail))
    exact x_ret2 rfl rfl rfl (fun w H => ⟨_, rfl, by rw [hV', hcl]; exact (St.shutV (F := Bl _ _ _ :: F) (V := ⟨I', V.master, V.limit, setM V.used (key44 (k ++ n)) text, IntKind.i64.wrap (V.clash + 1)⟩) (q := q) (um := um) hm (Sel.st sel_auto H)).swap⟩)
end
end Go.Proofs.Ytjofjkjghakcoaa

/- The vault (package vault): Open. -/
namespace Go.Proofs.Ytjofjkjghakcoaa
open Go.RowKit
attribute [local irreducible] Y OW YK OWK W WL WP X CV GvL GvP Ev Evs HasCell HasCells Has Met Again Kept
section
variable {c : Con} {F : List HP} {w : World} {p : Nat} {V : VaultM}
set_option maxRecDepth 100000 in
theorem v_open {k b x : Bs} {e s : Int} {ps : List Bs} {A3 A : Option Addr} {n3 k3 m cap : Nat} {t : Bs} (hr : V.may e s = 0) (hk : k.length = 32) (hb : HasR (St c F) (.slice A3 n3 k3) n3 (bvs b)) (hp : Ps (St c F) (.slice A m cap) ps) (hx : ps.flatMap id = x)
    (hs : b.length + x.length ≤ 1099490000000) (ht : V.opened k e s b x = some t) (htl : t.length ≤ 9223372036854775807) (H : St c (VaultAt p V :: F) w) :
    Calls Try.prog 12 #[.pointer (some ⟨p, 0, none⟩), .agg (bvs k).toArray, .int .i64 e, .int .i64 s, .slice A3 n3 k3, .slice A m cap] w fun y w' =>
    ∃ r : { r : Nat × Nat // t.length ≤ r.2 ∧ r.2 ≤ 9223372036854775807 }, y = .returned (.tuple #[.slice (some ⟨r.1.1, 0, none⟩) t.length r.1.2, .int .i64 0]) ∧ St c (BytesP r.1.1 r.1.2 5 t :: VaultAt p V :: F) w' := by
  obtain ⟨he0, he1, -, -⟩ := may_range hr
  have hkl : (bvs k).length = 32 := by rw [bvs_length, hk]
  obtain ⟨n, hn⟩ : ∃ n, nonceB e s = n := ⟨_, rfl⟩
  have hnl : n.length = 12 := by rw [← hn]; exact nonceB_length _ _
  have hnv : (bvs n).length = 12 := by rw [bvs_length, hnl]
  have hn1 := bvs_oneCell n
  have hz : ([Value.int .u8 0, Value.int .u8 0, Value.int .u8 0, Value.int .u8 0, Value.int .u8 0, Value.int .u8 0, Value.int .u8 0, Value.int .u8 0, Value.int .u8 0, Value.int .u8 0, Value.int .u8 0, Value.int .u8 0]).length = 12 := rfl
  have ht' : V.world.opened k n b x = some t := by rw [← hn]; exact ht
  have hkn : k.length + n.length + b.length + x.length ≤ 1099500000000 := by omega
  have hnn : ∀ {c : Con} {F : List HP} {w : World}, St c F w → Calls Try.prog 24 #[.int .i64 e, .int .i64 s] w fun x w' => x = .returned (.agg (bvs n).toArray) ∧ St c F w' := fun H => by rw [← hn]; exact v_nonce e s ⟨he0, he1⟩ H
  refine calls_w (vs := [.pointer (some ⟨p, 0, none⟩), .agg (bvs k).toArray, .int .i64 e, .int .i64 s, .slice A3 n3 k3, .slice A m cap]) Try.func12 rfl rfl rfl ?_ w H
  (repeat' (first
      | ((with_reducible refine at_fn 23 ?_); with_reducible refine owk_c1 evs_auto (by kernel_rfl) pick_auto (fun w H => v_may hr H) ?_)
      | ((with_reducible refine at_fn 24 ?_); with_reducible refine owk_c0s evs_auto (by kernel_rfl) (fun w H => hnn H) ?_)
      | ((with_reducible refine at_storeO ?_); with_reducible refine owk0 (ow_storeAll (ev_tmp rfl) (ev_tmp rfl) hn1 hnv upd_auto hz) ?_)
      | (with_reducible refine is_w ?_; first | refine w_stopR (id := 5) ?_)
      | (with_reducible refine is_yk ?_; refine yk_auto (k := ?_))
      | (with_reducible refine is_owk0 ?_; refine owk0_auto (k := ?_))
      | (with_reducible refine is_owkc ?_; refine owk_auto (k := fun _ => ?_))
      | refine go1 (k := ?_)
      | (refine go2 (ka := ?_) (kb := ?_) <;> intro _)
      | fail))
  unfold Stop
  refine w_openV pick_auto (fun hm q um => ?_)
  have h0 := vc0 (q := q) (um := um) (V := V)
  (repeat' (first
      | (with_reducible refine is_owkc ?_; first | refine owk_i1x (ev_tmp rfl) evs_auto (meth_Open _) (by kernel_rfl) pick_auto (fun w H => i_open rds_auto rds_auto rds_auto (by (repeat (first | exact hp | refine Ps.tl ?_)); (first | done | fail)) hx hkn ht' htl H) (fun r => ?_))
      | (with_reducible refine at_load ?_; first | refine yk (y_load (ev_tmp rfl) (hasCell_bl has_auto h0)) ?_)
      | (with_reducible refine at_nilCheck ?_; first | refine yk (y_nilCheckI (ev_tmp rfl)) ?_)
      | (with_reducible refine is_w ?_; first | refine w_plan (id := 5) [(0, true), (1, true), (2, true), (3, true), (4, true), (5, true), (6, true), (7, true), (8, true), (9, true), (10, false), (11, false), (12, true), (13, true), (14, false), (15, false)] [Bl p _ _] (by kernel_rfl) (by kernel_rfl) sel_auto ?_)
      | (with_reducible refine is_yk ?_; refine yk_auto (k := ?_))
      | (with_reducible refine is_owk0 ?_; refine owk0_auto (k := ?_))
      | (with_reducible refine is_owkc ?_; refine owk_auto (k := fun _ => ?_))
      | refine go1 (k := ?_)
      | (refine go2 (ka := ?_) (kb := ?_) <;> intro _)
      | fail))
  exact x_ret2 rfl rfl rfl (fun w H => ⟨_, rfl, (St.shutV (F := BytesP _ _ _ _ :: F) (q := q) (um := um) hm (Sel.st sel_auto H)).swap⟩)
set_option maxRecDepth 100000 in
theorem v_open_none {k b x : Bs} {e s : Int} {ps : List Bs} {A3 A : Option Addr} {n3 k3 m cap : Nat} (hr : V.may e s = 0) (hk : k.length = 32) (hb : HasR (St c F) (.slice A3 n3 k3) n3 (bvs b)) (hp : Ps (St c F) (.slice A m cap) ps) (hx : ps.flatMap id = x)
    (hs : b.length + x.length ≤ 1099490000000) (ht : V.opened k e s b x = none) (H : St c (VaultAt p V :: F) w) :
    Calls Try.prog 12 #[.pointer (some ⟨p, 0, none⟩), .agg (bvs k).toArray, .int .i64 e, .int .i64 s, .slice A3 n3 k3, .slice A m cap] w fun y w' =>
    y = .returned (.tuple #[.slice none 0 0, .int .i64 9]) ∧ St c (VaultAt p V :: F) w' := by
  obtain ⟨he0, he1, -, -⟩ := may_range hr
  have hkl : (bvs k).length = 32 := by rw [bvs_length, hk]
  obtain ⟨n, hn⟩ : ∃ n, nonceB e s = n := ⟨_, rfl⟩
  have hnl : n.length = 12 := by rw [← hn]; exact nonceB_length _ _
  have hnv : (bvs n).length = 12 := by rw [bvs_length, hnl]
  have hn1 := bvs_oneCell n
  have hz : ([Value.int .u8 0, Value.int .u8 0, Value.int .u8 0, Value.int .u8 0, Value.int .u8 0, Value.int .u8 0, Value.int .u8 0, Value.int .u8 0, Value.int .u8 0, Value.int .u8 0, Value.int .u8 0, Value.int .u8 0]).length = 12 := rfl
  have ht' : V.world.opened k n b x = none := by rw [← hn]; exact ht
  have hkn : k.length + n.length + b.length + x.length ≤ 1099500000000 := by omega
  have hnn : ∀ {c : Con} {F : List HP} {w : World}, St c F w → Calls Try.prog 24 #[.int .i64 e, .int .i64 s] w fun x w' => x = .returned (.agg (bvs n).toArray) ∧ St c F w' := fun H => by rw [← hn]; exact v_nonce e s ⟨he0, he1⟩ H
  refine calls_w (vs := [.pointer (some ⟨p, 0, none⟩), .agg (bvs k).toArray, .int .i64 e, .int .i64 s, .slice A3 n3 k3, .slice A m cap]) Try.func12 rfl rfl rfl ?_ w H
  (repeat' (first
      | ((with_reducible refine at_fn 23 ?_); with_reducible refine owk_c1 evs_auto (by kernel_rfl) pick_auto (fun w H => v_may hr H) ?_)
      | ((with_reducible refine at_fn 24 ?_); with_reducible refine owk_c0s evs_auto (by kernel_rfl) (fun w H => hnn H) ?_)
      | ((with_reducible refine at_storeO ?_); with_reducible refine owk0 (ow_storeAll (ev_tmp rfl) (ev_tmp rfl) hn1 hnv upd_auto hz) ?_)
      | (with_reducible refine is_w ?_; first | refine w_stopR (id := 5) ?_)
      | (with_reducible refine is_yk ?_; refine yk_auto (k := ?_))
      | (with_reducible refine is_owk0 ?_; refine owk0_auto (k := ?_))
      | (with_reducible refine is_owkc ?_; refine owk_auto (k := fun _ => ?_))
      | refine go1 (k := ?_)
      | (refine go2 (ka := ?_) (kb := ?_) <;> intro _)
      | fail))
  unfold Stop
  refine w_openV pick_auto (fun hm q um => ?_)
  have h0 := vc0 (q := q) (um := um) (V := V)
  (repeat' (first
      | (with_reducible refine is_owkc ?_; first | refine owk_i1 (ev_tmp rfl) evs_auto (meth_Open _) (by kernel_rfl) pick_auto (fun w H => i_open_none rds_auto rds_auto rds_auto (by (repeat (first | exact hp | refine Ps.tl ?_)); (first | done | fail)) hx hkn ht' H) ?_)
      | (with_reducible refine at_load ?_; first | refine yk (y_load (ev_tmp rfl) (hasCell_bl has_auto h0)) ?_)
      | (with_reducible refine at_nilCheck ?_; first | refine yk (y_nilCheckI (ev_tmp rfl)) ?_)
      | (with_reducible refine is_w ?_; first | refine w_plan (id := 5) [(0, true), (1, true), (2, true), (3, true), (4, true), (5, true), (6, true), (7, true), (8, true), (9, true), (10, false), (11, false), (12, true), (13, true), (14, false), (15, false)] [Bl p _ _] (by kernel_rfl) (by kernel_rfl) sel_auto ?_)
      | (with_reducible refine is_yk ?_; refine yk_auto (k := ?_))
      | (with_reducible refine is_owk0 ?_; refine owk0_auto (k := ?_))
      | (with_reducible refine is_owkc ?_; refine owk_auto (k := fun _ => ?_))
      | refine go1 (k := ?_)
      | (refine go2 (ka := ?_) (kb := ?_) <;> intro _)
      | fail))
  exact x_ret2 rfl rfl rfl (fun w H => ⟨rfl, St.shutV (q := q) (um := um) hm (Sel.st sel_auto H)⟩)
end
end Go.Proofs.Ytjofjkjghakcoaa

/- The vault (package vault): a nil one; what the law of chapter 10 asks first. -/
namespace Go.Proofs.Ytjofjkjghakcoaa
open Go.RowKit
section
variable {H : World → Prop} {E : Env} {d : Option Nat} {ty : TypeId} {pos : String} {aft : Array Edge} {g : Option (Nat × Bool)}
theorem y_buildArr0 : Y Try.prog H E (Oper.mk d (.build 28 #[]) ty pos aft g) (.agg (bvs (List.replicate 32 0)).toArray) := y_buildZ (z := List.replicate 32 (.int .u8 0)) Try.underlying28 (by kernel_rfl)
end
abbrev zero32 : Bs := List.replicate 32 0
theorem zero32_length : zero32.length = 32 := rfl
attribute [local irreducible] Y OW YK OWK W WL WP X CV GvL GvP Ev Evs HasCell HasCells Has Met Again Kept
section
variable {c : Con} {F : List HP} {w : World} {p : Nat}
theorem vn_may {e s : Int} (H : St c F w) : Calls Try.prog 23 #[.pointer none, .int .i64 e, .int .i64 s] w fun x w' => x = .returned (.int .i64 2) ∧ St c F w' := by
  refine calls_w (vs := [.pointer none, .int .i64 e, .int .i64 s]) Try.func23 rfl rfl rfl ?_ w H
  (repeat' (first
      | (with_reducible refine is_yk ?_; refine yk_auto (k := ?_))
      | (with_reducible refine is_owk0 ?_; refine owk0_auto (k := ?_))
      | (with_reducible refine is_owkc ?_; refine owk_auto (k := fun _ => ?_))
      | refine go1 (k := ?_)
      | (refine go2 (ka := ?_) (kb := ?_) <;> intro _)
      | fail))
  exact x_ret1 rfl rfl (fun w H => ⟨rfl, H⟩)
theorem vn_limit (H : St c F w) : Calls Try.prog 22 #[.pointer none] w fun x w' => x = .returned (.int .i64 0) ∧ St c F w' := by
  refine calls_w (vs := [.pointer none]) Try.func22 rfl rfl rfl ?_ w H
  (repeat' (first
      | (with_reducible refine is_yk ?_; refine yk_auto (k := ?_))
      | (with_reducible refine is_owk0 ?_; refine owk0_auto (k := ?_))
      | (with_reducible refine is_owkc ?_; refine owk_auto (k := fun _ => ?_))
      | refine go1 (k := ?_)
      | (refine go2 (ka := ?_) (kb := ?_) <;> intro _)
      | fail))
  exact x_ret1 rfl rfl (fun w H => ⟨rfl, H⟩)
theorem vn_clashes (H : St c F w) : Calls Try.prog 14 #[.pointer none] w fun x w' => x = .returned (.int .i64 0) ∧ St c F w' := by
  refine calls_w (vs := [.pointer none]) Try.func14 rfl rfl rfl ?_ w H
  (repeat' (first
      | (with_reducible refine is_yk ?_; refine yk_auto (k := ?_))
      | (with_reducible refine is_owk0 ?_; refine owk0_auto (k := ?_))
      | (with_reducible refine is_owkc ?_; refine owk_auto (k := fun _ => ?_))
      | refine go1 (k := ?_)
      | (refine go2 (ka := ?_) (kb := ?_) <;> intro _)
      | fail))
  exact x_ret1 rfl rfl (fun w H => ⟨rfl, H⟩)
set_option maxRecDepth 100000 in
theorem vn_seal {k x t : Value} {b : Bs} (hk : k = .agg (bvs b).toArray) {e s : Int} (H : St c F w) : Calls Try.prog 11 #[.pointer none, k, .int .i64 e, .int .i64 s, t, x] w fun x w' => x = .returned (.tuple #[.slice none 0 0, .int .i64 2]) ∧ St c F w' := by
  subst hk
  refine calls_w (vs := [.pointer none, .agg (bvs b).toArray, .int .i64 e, .int .i64 s, t, x]) Try.func11 rfl rfl rfl ?_ w H
  (repeat' (first
      | ((with_reducible refine at_fn 23 ?_); with_reducible refine owk_c0s evs_auto (by kernel_rfl) (fun w H => vn_may H) ?_)
      | (with_reducible refine is_yk ?_; refine yk_auto (k := ?_))
      | (with_reducible refine is_owk0 ?_; refine owk0_auto (k := ?_))
      | (with_reducible refine is_owkc ?_; refine owk_auto (k := fun _ => ?_))
      | refine go1 (k := ?_)
      | (refine go2 (ka := ?_) (kb := ?_) <;> intro _)
      | fail))
  exact x_ret2 rfl rfl rfl (fun w H => ⟨rfl, Sel.st sel_auto H⟩)
set_option maxRecDepth 100000 in
theorem vn_open {k x t : Value} {b : Bs} (hk : k = .agg (bvs b).toArray) {e s : Int} (H : St c F w) : Calls Try.prog 12 #[.pointer none, k, .int .i64 e, .int .i64 s, t, x] w fun x w' => x = .returned (.tuple #[.slice none 0 0, .int .i64 2]) ∧ St c F w' := by
  subst hk
  refine calls_w (vs := [.pointer none, .agg (bvs b).toArray, .int .i64 e, .int .i64 s, t, x]) Try.func12 rfl rfl rfl ?_ w H
  (repeat' (first
      | ((with_reducible refine at_fn 23 ?_); with_reducible refine owk_c0s evs_auto (by kernel_rfl) (fun w H => vn_may H) ?_)
      | (with_reducible refine is_yk ?_; refine yk_auto (k := ?_))
      | (with_reducible refine is_owk0 ?_; refine owk0_auto (k := ?_))
      | (with_reducible refine is_owkc ?_; refine owk_auto (k := fun _ => ?_))
      | refine go1 (k := ?_)
      | (refine go2 (ka := ?_) (kb := ?_) <;> intro _)
      | fail))
  exact x_ret2 rfl rfl rfl (fun w H => ⟨rfl, Sel.st sel_auto H⟩)
set_option maxRecDepth 100000 in
theorem vn_key {a n : Value} (H : St c F w) : Calls Try.prog 13 #[.pointer none, a, n] w fun x w' => x = .returned (.agg (bvs zero32).toArray) ∧ St c F w' := by
  have hz : (bvs zero32).length = 32 := rfl
  have h1 := bvs_oneCell zero32
  have hz2 : (List.replicate 32 (Value.int .u8 0)).length = 32 := rfl
  refine calls_w (vs := [.pointer none, a, n]) Try.func13 rfl rfl rfl ?_ w H
  (repeat' (first
      | ((with_reducible refine at_storeO ?_); with_reducible refine owk0 (ow_storeAll (ev_tmp rfl) (ev_tmp rfl) h1 hz upd_auto hz2) ?_)
      | (with_reducible refine at_build ?_; first | refine yk y_buildKey0 ?_)
      | (with_reducible refine is_yk ?_; refine yk_auto (k := ?_))
      | (with_reducible refine is_owk0 ?_; refine owk0_auto (k := ?_))
      | (with_reducible refine is_owkc ?_; refine owk_auto (k := fun _ => ?_))
      | refine go1 (k := ?_)
      | (refine go2 (ka := ?_) (kb := ?_) <;> intro _)
      | fail))
  exact x_retC rfl rfl has_auto hz (fun w H => ⟨rfl, Sel.st sel_auto H⟩)
set_option maxRecDepth 100000 in
theorem vn_hash {a : Value} (H : St c F w) : Calls Try.prog 16 #[.pointer none, a] w fun x w' => x = .returned (.agg (bvs zero32).toArray) ∧ St c F w' := by
  have hz : (bvs zero32).length = 32 := rfl
  have h1 := bvs_oneCell zero32
  have hz2 : (List.replicate 32 (Value.int .u8 0)).length = 32 := rfl
  refine calls_w (vs := [.pointer none, a]) Try.func16 rfl rfl rfl ?_ w H
  (repeat' (first
      | ((with_reducible refine at_storeO ?_); with_reducible refine owk0 (ow_storeAll (ev_tmp rfl) (ev_tmp rfl) h1 hz upd_auto hz2) ?_)
      | (with_reducible refine at_build ?_; first | refine yk y_buildArr0 ?_)
      | (with_reducible refine is_yk ?_; refine yk_auto (k := ?_))
      | (with_reducible refine is_owk0 ?_; refine owk0_auto (k := ?_))
      | (with_reducible refine is_owkc ?_; refine owk_auto (k := fun _ => ?_))
      | refine go1 (k := ?_)
      | (refine go2 (ka := ?_) (kb := ?_) <;> intro _)
      | fail))
  exact x_retC rfl rfl has_auto hz (fun w H => ⟨rfl, Sel.st sel_auto H⟩)
set_option maxRecDepth 100000 in
theorem vn_mac {a k : Value} {b : Bs} (hk : k = .agg (bvs b).toArray) (H : St c F w) : Calls Try.prog 18 #[.pointer none, k, a] w fun x w' => x = .returned (.agg (bvs zero32).toArray) ∧ St c F w' := by
  subst hk
  have hz : (bvs zero32).length = 32 := rfl
  have h1 := bvs_oneCell zero32
  have hz2 : (List.replicate 32 (Value.int .u8 0)).length = 32 := rfl
  refine calls_w (vs := [.pointer none, .agg (bvs b).toArray, a]) Try.func18 rfl rfl rfl ?_ w H
  (repeat' (first
      | ((with_reducible refine at_storeO ?_); with_reducible refine owk0 (ow_storeAll (ev_tmp rfl) (ev_tmp rfl) h1 hz upd_auto hz2) ?_)
      | (with_reducible refine at_build ?_; first | refine yk y_buildArr0 ?_)
      | (with_reducible refine is_yk ?_; refine yk_auto (k := ?_))
      | (with_reducible refine is_owk0 ?_; refine owk0_auto (k := ?_))
      | (with_reducible refine is_owkc ?_; refine owk_auto (k := fun _ => ?_))
      | refine go1 (k := ?_)
      | (refine go2 (ka := ?_) (kb := ?_) <;> intro _)
      | fail))
  exact x_retC rfl rfl has_auto hz (fun w H => ⟨rfl, Sel.st sel_auto H⟩)
set_option maxRecDepth 100000 in
theorem alive10 (H : St c F w) : Calls Try.prog 7 #[] w fun x w' => x = .returned (.bool true) ∧ St c F w' := by
  have hm3 : max (3 : Int) 0 = 3 := by decide
  have hx1 : HasR (St c F) (.slice none 0 0) 0 (bvs []) := fun _ _ => ⟨rfl, .inl ⟨rfl, rfl⟩⟩
  have hpn : ∀ {H : World → Prop}, Ps H (.slice none 0 0) [] := Ps.nil
  have hV : ∀ I, (⟨I, zero32, max 3 0, [], 0⟩ : VaultM) = ⟨I, zero32, 3, [], 0⟩ := fun I => by rw [hm3]
  have hr1 : ∀ I, (⟨I, zero32, 3, [], 0⟩ : VaultM).may 0 3 = 10 := fun _ => rfl
  have hr2 : ∀ I, (⟨I, zero32, 3, [], 0⟩ : VaultM).may 0 2 = 0 := fun _ => rfl
  have h17 : 1 + 16 = 17 := rfl
  refine calls_w (vs := []) Try.func7 rfl rfl rfl ?_ w H
  (repeat' (first
      | ((with_reducible refine at_fn 9 ?_); with_reducible refine owk_c0x evs_auto (by kernel_rfl) (fun w H => i_new H) (fun q => ?_))
      | ((with_reducible refine at_fn 8 ?_); with_reducible refine owk_c1x evs_auto (by kernel_rfl) pick_auto (fun w H => v_ideal zero32_length (hV _) H) (fun p => ?_))
      | (with_reducible refine at_build ?_; first | refine yk y_buildKey0 ?_)
      | (with_reducible refine is_w ?_; first | refine w_stopR (id := 2) ?_)
      | (with_reducible refine is_yk ?_; refine yk_auto (k := ?_))
      | (with_reducible refine is_owk0 ?_; refine owk0_auto (k := ?_))
      | (with_reducible refine is_owkc ?_; refine owk_auto (k := fun _ => ?_))
      | refine go1 (k := ?_)
      | (refine go2 (ka := ?_) (kb := ?_) <;> intro _)
      | fail))
  unfold Stop
  generalize hVe : (⟨⟨[], []⟩, zero32, 3, [], 0⟩ : VaultM) = V
  have hm1 : V.may 0 3 = 10 := by rw [← hVe]; exact hr1 _
  have hm2 : V.may 0 2 = 0 := by rw [← hVe]; exact hr2 _
  obtain ⟨B, hB⟩ : ∃ B, V.sealB zero32 0 2 [120] [] = B := ⟨_, rfl⟩
  obtain ⟨V1, hV1⟩ : ∃ V1, V.sealed zero32 0 2 [120] [] = V1 := ⟨_, rfl⟩
  have hlim : V1.limit = 3 := by rw [← hV1, ← hVe]; rfl
  have hl1 : ([120] : Bs).length ≤ 1048576 := by decide
  have hl2 : ([] : Bs).length ≤ 1048576 := by decide
  have hne : (10 : Int) ≠ 0 := by decide
  have hR : ∀ (b T : Nat) (fr : Nat × Nat) (L : List HP), HasR (St c (Pt b (.cells (List.flatMap vcells [Value.int .u8 120]).toArray T fr) :: L)) (.slice (some ⟨b, 0, none⟩) 1 1) 1 (bvs [120]) := fun _ _ _ _ => reads_has (hasCells_bl has_hd rfl) rfl (by decide) (by decide)
  have hxn : ([] : List Bs).flatMap id = [] := rfl
  (repeat' (first
      | ((with_reducible refine at_fn 11 ?_); with_reducible refine owk_c1 evs_auto (by kernel_rfl) pick_auto (fun w H => v_seal_bad hm1 hne H) ?_)
      | (with_reducible refine at_build ?_; first | refine yk y_buildKey0 ?_)
      | (with_reducible refine is_w ?_; first | refine w_stopR (id := 3) ?_)
      | (with_reducible refine is_yk ?_; refine yk_auto (k := ?_))
      | (with_reducible refine is_owk0 ?_; refine owk0_auto (k := ?_))
      | (with_reducible refine is_owkc ?_; refine owk_auto (k := fun _ => ?_))
      | refine go1 (k := ?_)
      | (refine go2 (ka := ?_) (kb := ?_) <;> intro _)
      | fail))
  unfold Stop
  (repeat' (first
      | ((with_reducible refine at_fn 11 ?_); with_reducible refine owk_c1x evs_auto (by kernel_rfl) pick_auto (fun w H => v_seal hm2 zero32_length (hR _ _ _ _) hpn hxn hl1 hl2 hB hV1 h17 H) (fun r => ?_))
      | ((with_reducible refine at_fn 22 ?_); with_reducible refine owk_c1 evs_auto (by kernel_rfl) pick_auto (fun w H => v_limit hlim H) ?_)
      | (with_reducible refine at_build ?_; first | refine yk y_buildKey0 ?_)
      | (with_reducible refine is_yk ?_; refine yk_auto (k := ?_))
      | (with_reducible refine is_owk0 ?_; refine owk0_auto (k := ?_))
      | (with_reducible refine is_owkc ?_; refine owk_auto (k := fun _ => ?_))
      | refine go1 (k := ?_)
      | (refine go2 (ka := ?_) (kb := ?_) <;> intro _)
      | fail))
  exact x_ret1 rfl rfl (fun w H => ⟨rfl, Sel.st sel_auto H⟩)
end
end Go.Proofs.Ytjofjkjghakcoaa

/- VaultLimits: the walk. -/
namespace Go.Proofs.Ytjofjkjghakcoaa
open Go.ChangeShapes Go.WideShapes Go.ChangeAt Go.RowKit
attribute [local irreducible] Y OW YK OWK W WL WP X CV GvL GvP Ev Evs HasCell HasCells Has Met Again Kept
set_option maxRecDepth 100000 in
set_option maxHeartbeats 4000000 in
theorem vaultLimits_walk (limit epoch seq : Int) (w : World) (_h1 : (Lit.int .i64 limit).wf = true) (_h2 : (Lit.int .i64 epoch).wf = true) (_h3 : (Lit.int .i64 seq).wf = true) :
    Calls Try.prog 6 #[.int .i64 limit, .int .i64 epoch, .int .i64 seq] w fun e w' => e = .returned (.bool true) ∧ Below w.heap.size w w' := by
  obtain ⟨V, hVe⟩ : ∃ V, (⟨⟨[], []⟩, zero32, max limit 0, [], 0⟩ : VaultM) = V := ⟨_, rfl⟩
  have hlim : V.limit = max limit 0 := by rw [← hVe]
  have hmay : V.may epoch seq = if epoch < 0 ∨ seq < 0 then 1 else if 4294967296 ≤ epoch ∨ max limit 0 ≤ seq then 10 else 0 := by unfold VaultM.may; rw [hlim]
  have hx1 : ∀ {H : World → Prop}, HasR H (.slice none 0 0) 0 (bvs []) := fun _ _ => ⟨rfl, .inl ⟨rfl, rfl⟩⟩
  have hpn : ∀ {H : World → Prop}, Ps H (.slice none 0 0) [] := Ps.nil
  have hxn : ([] : List Bs).flatMap id = [] := rfl
  have hl2 : ([] : Bs).length ≤ 1048576 := by decide
  have h16 : 0 + 16 = 16 := rfl
  refine calls_w (vs := [.int .i64 limit, .int .i64 epoch, .int .i64 seq]) Try.func6 rfl rfl rfl ?_ w (St.start w)
  by_cases h1 : epoch < 0
  · skip
    have hr : V.may epoch seq = 1 := by rw [hmay, if_pos (.inl h1)]
    have hne : (1 : Int) ≠ 0 := by decide
    (repeat' (first
      | ((with_reducible refine at_fn 7 ?_); with_reducible refine owk_c0s evs_auto (by kernel_rfl) (fun w H => alive10 H) ?_)
      | ((with_reducible refine at_fn 9 ?_); with_reducible refine owk_c0x evs_auto (by kernel_rfl) (fun w H => i_new H) (fun q => ?_))
      | ((with_reducible refine at_fn 8 ?_); with_reducible refine owk_c1x evs_auto (by kernel_rfl) pick_auto (fun w H => v_ideal zero32_length hVe H) (fun p => ?_))
      | ((with_reducible refine at_fn 11 ?_); with_reducible refine owk_c1 evs_auto (by kernel_rfl) pick_auto (fun w H => v_seal_bad hr hne H) ?_)
      | ((with_reducible refine at_fn 11 ?_); with_reducible refine owk_c0s evs_auto (by kernel_rfl) (fun w H => vn_seal rfl H) ?_)
      | ((with_reducible refine at_fn 12 ?_); with_reducible refine owk_c0s evs_auto (by kernel_rfl) (fun w H => vn_open rfl H) ?_)
      | ((with_reducible refine at_fn 22 ?_); with_reducible refine owk_c1 evs_auto (by kernel_rfl) pick_auto (fun w H => v_limit hlim H) ?_)
      | ((with_reducible refine at_fn 22 ?_); with_reducible refine owk_c0s evs_auto (by kernel_rfl) (fun w H => vn_limit H) ?_)
      | ((with_reducible refine at_fn 14 ?_); with_reducible refine owk_c0s evs_auto (by kernel_rfl) (fun w H => vn_clashes H) ?_)
      | ((with_reducible refine at_fn 13 ?_); with_reducible refine owk_c0s evs_auto (by kernel_rfl) (fun w H => vn_key H) ?_)
      | ((with_reducible refine at_fn 16 ?_); with_reducible refine owk_c0s evs_auto (by kernel_rfl) (fun w H => vn_hash H) ?_)
      | ((with_reducible refine at_fn 18 ?_); with_reducible refine owk_c0s evs_auto (by kernel_rfl) (fun w H => vn_mac rfl H) ?_)
      | (with_reducible refine at_build ?_; first | refine yk y_buildKey0 ?_ | refine yk y_buildArr0 ?_)
      | (with_reducible refine at_bin ?_; first | refine yk (y_eql_B (ev_tmp rfl) (ev_tmp rfl) zero32_length zero32_length) ?_)
      | (with_reducible refine is_yk ?_; refine yk_auto (k := ?_))
      | (with_reducible refine is_owk0 ?_; refine owk0_auto (k := ?_))
      | (with_reducible refine is_owkc ?_; refine owk_auto (k := fun _ => ?_))
      | refine go1 (k := ?_)
      | (refine go2 (ka := ?_) (kb := ?_) <;> intro _)
      | fail))
    exact x_ret1 rfl rfl (fun w H => ⟨rfl, (Sel.st (T := [Old _]) sel_auto H).toBelow'⟩)
  · by_cases h2 : seq < 0
    · skip
      have hr : V.may epoch seq = 1 := by rw [hmay, if_pos (.inr h2)]
      have hne : (1 : Int) ≠ 0 := by decide
      (repeat' (first
      | ((with_reducible refine at_fn 7 ?_); with_reducible refine owk_c0s evs_auto (by kernel_rfl) (fun w H => alive10 H) ?_)
      | ((with_reducible refine at_fn 9 ?_); with_reducible refine owk_c0x evs_auto (by kernel_rfl) (fun w H => i_new H) (fun q => ?_))
      | ((with_reducible refine at_fn 8 ?_); with_reducible refine owk_c1x evs_auto (by kernel_rfl) pick_auto (fun w H => v_ideal zero32_length hVe H) (fun p => ?_))
      | ((with_reducible refine at_fn 11 ?_); with_reducible refine owk_c1 evs_auto (by kernel_rfl) pick_auto (fun w H => v_seal_bad hr hne H) ?_)
      | ((with_reducible refine at_fn 11 ?_); with_reducible refine owk_c0s evs_auto (by kernel_rfl) (fun w H => vn_seal rfl H) ?_)
      | ((with_reducible refine at_fn 12 ?_); with_reducible refine owk_c0s evs_auto (by kernel_rfl) (fun w H => vn_open rfl H) ?_)
      | ((with_reducible refine at_fn 22 ?_); with_reducible refine owk_c1 evs_auto (by kernel_rfl) pick_auto (fun w H => v_limit hlim H) ?_)
      | ((with_reducible refine at_fn 22 ?_); with_reducible refine owk_c0s evs_auto (by kernel_rfl) (fun w H => vn_limit H) ?_)
      | ((with_reducible refine at_fn 14 ?_); with_reducible refine owk_c0s evs_auto (by kernel_rfl) (fun w H => vn_clashes H) ?_)
      | ((with_reducible refine at_fn 13 ?_); with_reducible refine owk_c0s evs_auto (by kernel_rfl) (fun w H => vn_key H) ?_)
      | ((with_reducible refine at_fn 16 ?_); with_reducible refine owk_c0s evs_auto (by kernel_rfl) (fun w H => vn_hash H) ?_)
      | ((with_reducible refine at_fn 18 ?_); with_reducible refine owk_c0s evs_auto (by kernel_rfl) (fun w H => vn_mac rfl H) ?_)
      | (with_reducible refine at_build ?_; first | refine yk y_buildKey0 ?_ | refine yk y_buildArr0 ?_)
      | (with_reducible refine at_bin ?_; first | refine yk (y_eql_B (ev_tmp rfl) (ev_tmp rfl) zero32_length zero32_length) ?_)
      | (with_reducible refine is_yk ?_; refine yk_auto (k := ?_))
      | (with_reducible refine is_owk0 ?_; refine owk0_auto (k := ?_))
      | (with_reducible refine is_owkc ?_; refine owk_auto (k := fun _ => ?_))
      | refine go1 (k := ?_)
      | (refine go2 (ka := ?_) (kb := ?_) <;> intro _)
      | fail))
      exact x_ret1 rfl rfl (fun w H => ⟨rfl, (Sel.st (T := [Old _]) sel_auto H).toBelow'⟩)
    · by_cases h3 : 4294967296 ≤ epoch
      · skip
        have hr : V.may epoch seq = 10 := by rw [hmay, if_neg (by omega), if_pos (.inl h3)]
        have hne : (10 : Int) ≠ 0 := by decide
        (repeat' (first
      | ((with_reducible refine at_fn 7 ?_); with_reducible refine owk_c0s evs_auto (by kernel_rfl) (fun w H => alive10 H) ?_)
      | ((with_reducible refine at_fn 9 ?_); with_reducible refine owk_c0x evs_auto (by kernel_rfl) (fun w H => i_new H) (fun q => ?_))
      | ((with_reducible refine at_fn 8 ?_); with_reducible refine owk_c1x evs_auto (by kernel_rfl) pick_auto (fun w H => v_ideal zero32_length hVe H) (fun p => ?_))
      | ((with_reducible refine at_fn 11 ?_); with_reducible refine owk_c1 evs_auto (by kernel_rfl) pick_auto (fun w H => v_seal_bad hr hne H) ?_)
      | ((with_reducible refine at_fn 11 ?_); with_reducible refine owk_c0s evs_auto (by kernel_rfl) (fun w H => vn_seal rfl H) ?_)
      | ((with_reducible refine at_fn 12 ?_); with_reducible refine owk_c0s evs_auto (by kernel_rfl) (fun w H => vn_open rfl H) ?_)
      | ((with_reducible refine at_fn 22 ?_); with_reducible refine owk_c1 evs_auto (by kernel_rfl) pick_auto (fun w H => v_limit hlim H) ?_)
      | ((with_reducible refine at_fn 22 ?_); with_reducible refine owk_c0s evs_auto (by kernel_rfl) (fun w H => vn_limit H) ?_)
      | ((with_reducible refine at_fn 14 ?_); with_reducible refine owk_c0s evs_auto (by kernel_rfl) (fun w H => vn_clashes H) ?_)
      | ((with_reducible refine at_fn 13 ?_); with_reducible refine owk_c0s evs_auto (by kernel_rfl) (fun w H => vn_key H) ?_)
      | ((with_reducible refine at_fn 16 ?_); with_reducible refine owk_c0s evs_auto (by kernel_rfl) (fun w H => vn_hash H) ?_)
      | ((with_reducible refine at_fn 18 ?_); with_reducible refine owk_c0s evs_auto (by kernel_rfl) (fun w H => vn_mac rfl H) ?_)
      | (with_reducible refine at_build ?_; first | refine yk y_buildKey0 ?_ | refine yk y_buildArr0 ?_)
      | (with_reducible refine at_bin ?_; first | refine yk (y_eql_B (ev_tmp rfl) (ev_tmp rfl) zero32_length zero32_length) ?_)
      | (with_reducible refine is_yk ?_; refine yk_auto (k := ?_))
      | (with_reducible refine is_owk0 ?_; refine owk0_auto (k := ?_))
      | (with_reducible refine is_owkc ?_; refine owk_auto (k := fun _ => ?_))
      | refine go1 (k := ?_)
      | (refine go2 (ka := ?_) (kb := ?_) <;> intro _)
      | fail))
        exact x_ret1 rfl rfl (fun w H => ⟨rfl, (Sel.st (T := [Old _]) sel_auto H).toBelow'⟩)
      · by_cases h4 : max limit 0 ≤ seq
        · skip
          have hr : V.may epoch seq = 10 := by rw [hmay, if_neg (by omega), if_pos (.inr h4)]
          have hne : (10 : Int) ≠ 0 := by decide
          (repeat' (first
      | ((with_reducible refine at_fn 7 ?_); with_reducible refine owk_c0s evs_auto (by kernel_rfl) (fun w H => alive10 H) ?_)
      | ((with_reducible refine at_fn 9 ?_); with_reducible refine owk_c0x evs_auto (by kernel_rfl) (fun w H => i_new H) (fun q => ?_))
      | ((with_reducible refine at_fn 8 ?_); with_reducible refine owk_c1x evs_auto (by kernel_rfl) pick_auto (fun w H => v_ideal zero32_length hVe H) (fun p => ?_))
      | ((with_reducible refine at_fn 11 ?_); with_reducible refine owk_c1 evs_auto (by kernel_rfl) pick_auto (fun w H => v_seal_bad hr hne H) ?_)
      | ((with_reducible refine at_fn 11 ?_); with_reducible refine owk_c0s evs_auto (by kernel_rfl) (fun w H => vn_seal rfl H) ?_)
      | ((with_reducible refine at_fn 12 ?_); with_reducible refine owk_c0s evs_auto (by kernel_rfl) (fun w H => vn_open rfl H) ?_)
      | ((with_reducible refine at_fn 22 ?_); with_reducible refine owk_c1 evs_auto (by kernel_rfl) pick_auto (fun w H => v_limit hlim H) ?_)
      | ((with_reducible refine at_fn 22 ?_); with_reducible refine owk_c0s evs_auto (by kernel_rfl) (fun w H => vn_limit H) ?_)
      | ((with_reducible refine at_fn 14 ?_); with_reducible refine owk_c0s evs_auto (by kernel_rfl) (fun w H => vn_clashes H) ?_)
      | ((with_reducible refine at_fn 13 ?_); with_reducible refine owk_c0s evs_auto (by kernel_rfl) (fun w H => vn_key H) ?_)
      | ((with_reducible refine at_fn 16 ?_); with_reducible refine owk_c0s evs_auto (by kernel_rfl) (fun w H => vn_hash H) ?_)
      | ((with_reducible refine at_fn 18 ?_); with_reducible refine owk_c0s evs_auto (by kernel_rfl) (fun w H => vn_mac rfl H) ?_)
      | (with_reducible refine at_build ?_; first | refine yk y_buildKey0 ?_ | refine yk y_buildArr0 ?_)
      | (with_reducible refine at_bin ?_; first | refine yk (y_eql_B (ev_tmp rfl) (ev_tmp rfl) zero32_length zero32_length) ?_)
      | (with_reducible refine is_yk ?_; refine yk_auto (k := ?_))
      | (with_reducible refine is_owk0 ?_; refine owk0_auto (k := ?_))
      | (with_reducible refine is_owkc ?_; refine owk_auto (k := fun _ => ?_))
      | refine go1 (k := ?_)
      | (refine go2 (ka := ?_) (kb := ?_) <;> intro _)
      | fail))
          exact x_ret1 rfl rfl (fun w H => ⟨rfl, (Sel.st (T := [Old _]) sel_auto H).toBelow'⟩)
        · skip
          have hr : V.may epoch seq = 0 := by rw [hmay, if_neg (by omega), if_neg (by omega)]
          obtain ⟨B, hB⟩ : ∃ B, V.sealB zero32 epoch seq [] [] = B := ⟨_, rfl⟩
          obtain ⟨V1, hV1⟩ : ∃ V1, V.sealed zero32 epoch seq [] [] = V1 := ⟨_, rfl⟩
          have hlim1 : V1.limit = max limit 0 := by rw [← hV1]; exact hlim
          (repeat' (first
      | ((with_reducible refine at_fn 7 ?_); with_reducible refine owk_c0s evs_auto (by kernel_rfl) (fun w H => alive10 H) ?_)
      | ((with_reducible refine at_fn 9 ?_); with_reducible refine owk_c0x evs_auto (by kernel_rfl) (fun w H => i_new H) (fun q => ?_))
      | ((with_reducible refine at_fn 8 ?_); with_reducible refine owk_c1x evs_auto (by kernel_rfl) pick_auto (fun w H => v_ideal zero32_length hVe H) (fun p => ?_))
      | ((with_reducible refine at_fn 11 ?_); with_reducible refine owk_c1x evs_auto (by kernel_rfl) pick_auto (fun w H => v_seal hr zero32_length hx1 hpn hxn hl2 hl2 hB hV1 h16 H) (fun r => ?_))
      | ((with_reducible refine at_fn 11 ?_); with_reducible refine owk_c0s evs_auto (by kernel_rfl) (fun w H => vn_seal rfl H) ?_)
      | ((with_reducible refine at_fn 12 ?_); with_reducible refine owk_c0s evs_auto (by kernel_rfl) (fun w H => vn_open rfl H) ?_)
      | ((with_reducible refine at_fn 22 ?_); with_reducible refine owk_c1 evs_auto (by kernel_rfl) pick_auto (fun w H => v_limit hlim1 H) ?_)
      | ((with_reducible refine at_fn 22 ?_); with_reducible refine owk_c0s evs_auto (by kernel_rfl) (fun w H => vn_limit H) ?_)
      | ((with_reducible refine at_fn 14 ?_); with_reducible refine owk_c0s evs_auto (by kernel_rfl) (fun w H => vn_clashes H) ?_)
      | ((with_reducible refine at_fn 13 ?_); with_reducible refine owk_c0s evs_auto (by kernel_rfl) (fun w H => vn_key H) ?_)
      | ((with_reducible refine at_fn 16 ?_); with_reducible refine owk_c0s evs_auto (by kernel_rfl) (fun w H => vn_hash H) ?_)
      | ((with_reducible refine at_fn 18 ?_); with_reducible refine owk_c0s evs_auto (by kernel_rfl) (fun w H => vn_mac rfl H) ?_)
      | (with_reducible refine at_build ?_; first | refine yk y_buildKey0 ?_ | refine yk y_buildArr0 ?_)
      | (with_reducible refine at_bin ?_; first | refine yk (y_eql_B (ev_tmp rfl) (ev_tmp rfl) zero32_length zero32_length) ?_)
      | (with_reducible refine is_yk ?_; refine yk_auto (k := ?_))
      | (with_reducible refine is_owk0 ?_; refine owk0_auto (k := ?_))
      | (with_reducible refine is_owkc ?_; refine owk_auto (k := fun _ => ?_))
      | refine go1 (k := ?_)
      | (refine go2 (ka := ?_) (kb := ?_) <;> intro _)
      | fail))
          exact x_ret1 rfl rfl (fun w H => ⟨rfl, (Sel.st (T := [Old _]) sel_auto H).toBelow'⟩)
end Go.Proofs.Ytjofjkjghakcoaa
