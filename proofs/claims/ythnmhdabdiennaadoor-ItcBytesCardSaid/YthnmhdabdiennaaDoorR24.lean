/- The walks over the reference's encoding: uint, first, second, Bytes. -/
import Derived.Test.YthnmhdabdiennaaDoorR7
import Derived.Test.YthnmhdabdiennaaDoorM9
namespace Go.Proofs.YthnmhdabdiennaaDoor
open Go.RowKit
attribute [local go_sem ↓] Go.wp_at_zero Go.wp_at_succ
attribute [local go_sem ↓] ld36 ld34 ld38 st36 st38 st32 al36 al38 bu36 bu32 bu38 bs23
attribute [local go_sem] run_ld36 run_st36 run_al36 blkOf_drew blkOf_setRow_same blkOf_setRow_other RV_size run_bu36 blkOf_new blkOf_old
theorem own1 {B g n : Nat} {W : World} (hn : n < 256) (hB : B ≤ g) (h : W.heap[g]? = some (.cells #[.int .u8 (n : Int)] 5 (0, 0))) : ByRow W B (.slice (some ⟨g, 0, none⟩) 1 1) [UInt8.ofNat n] := by
  unfold ByRow
  rw [bytesV_one n hn]
  exact ⟨rfl, .inr ⟨g, 1, #[.int .u8 (n : Int)], rfl, hB, h, Nat.le_refl _, by unfold maxLen; omega, rfl, rfl⟩⟩
theorem idBytes_len {o : Nat → Bool} : ∀ {i : IdT} {d low : Nat}, IdOn o i d low → (idBytes i).length + 1 ≤ 2 * 2 ^ d
  | .zero, d, low, _ => by have := pow_pos2 d; simp [idBytes]; omega
  | .node l r, d, low, h => by
    cases hn : IdT.isOne (.node l r) with
    | true => have := pow_pos2 d; rw [isOne_eq hn, idBytes_one]; simp; omega
    | false =>
      obtain ⟨e, rfl, hl, hr, _⟩ := h.of_node hn
      have := idBytes_len hl
      have := idBytes_len hr
      have := pow_half e
      have e1 : idBytes (.node l r) = 2 :: (idBytes l ++ idBytes r) := by rw [idBytes, hn]; rfl
      rw [e1]
      simp only [List.length_cons, List.length_append]
      omega
theorem evBytes_len {s : Nat → Nat} : ∀ {t : EvT} {d low base : Nat}, EvOn s t d low base → t.top < 100 → (evBytes t).length + 2 ≤ 4 * 2 ^ d
  | .leaf n, d, low, base, _, h => by
    have := pow_pos2 d
    simp only [EvT.top] at h
    rw [evBytes, putU_small (by omega)]
    simp; omega
  | .node n l r, d, low, base, hE, h => by
    obtain ⟨e, rfl, hl, hr, _, _⟩ := hE
    simp only [EvT.top] at h
    have := evBytes_len hl (by omega)
    have := evBytes_len hr (by omega)
    have := pow_half e
    rw [evBytes, putU_small (by omega)]
    simp only [List.length_cons, List.length_append, List.length_nil]
    omega
theorem idBytes_pos (i : IdT) : 0 < (idBytes i).length := by
  cases i with
  | zero => simp [idBytes]
  | node l r => rw [idBytes]; split <;> simp
theorem evBytes_pos (t : EvT) : 0 < (evBytes t).length := by cases t <;> simp [evBytes]
section
variable {ops : Array Oper} {o : Oper} {a : Act} {K : Act → World → Prop} {Q : Exit → Act → World → Prop} {E : Prop} {w w5 : World}
/-- An append of bytes onto a row of one's own. -/
theorem bapp (hgd : o.guard = none) (s x : Operand) (ho : o.op = .call { callee := .builtin .append, args := #[s, x], argTypes := #[56, 56] }) {v : Value} {xs ys : List UInt8} (hs : a.eval s = v) (hE : Ext w5 w) (hrow : ByRow w w5.heap.size v xs)
    {A : Option Addr} {c n : Nat} (hx : a.eval x = .slice A n c) (hn : n = ys.length) (hy : BytesAt w A ys) (h0 : 0 < ys.length) (hm : xs.length + ys.length ≤ 1000000)
    (h : ∀ v' w', ByRow w' w5.heap.size v' (xs ++ ys) → Ext w5 w' → w.grownBy w' v.ownBlock → K (a.put o.dst v') w') :
    if Region.wanted o (yielded ops a.tmps) = true then Oper.wp Tryd.prog o a w K Q else E := by
  subst hn
  obtain ⟨i0, hi0, hz0, hz1, hz2⟩ := info_parts Tryd.info5
  obtain ⟨ad, rfl, _, hc⟩ := hy h0
  refine step_append_lies w hgd s x 56 ho w5.heap.size 5 i0 _ 1 1 Tryd.underlying56 hi0 hz0 hz1 hz2 rfl (by decide) _ xs.length (bytesV xs) hs hrow ad ys.length c (bytesV ys) hx (by rw [bytesV_length]; omega)
      (fun j u hu => by
        rw [bytesV_get] at hu
        cases hx : ys[j]? with
        | none => rw [hx] at hu; cases hu
        | some b => rw [hx] at hu; obtain rfl := Option.some.inj hu; exact hc j b hx) (bytesV_plain ys) h0 (by unfold maxLen; omega) (by omega) hE.size _ rfl ?_
  intro g cap w' hown hgrow _ _
  refine h _ w' ?_ (ext_grow hE hgrow (fun k hk => (World.ownsRow.lt hrow k hk).1)) hgrow
  unfold ByRow
  rw [bytesV_append, List.length_append]
  exact hown
/-- The same in a region that is walked in its order. -/
theorem wapp {rest : List Oper} (hgd : o.guard = none) (s x : Operand) (ho : o.op = .call { callee := .builtin .append, args := #[s, x], argTypes := #[56, 56] }) {v : Value} {xs ys : List UInt8} (hs : a.eval s = v) (hE : Ext w5 w) (hrow : ByRow w w5.heap.size v xs)
    {A : Option Addr} {c n : Nat} (hx : a.eval x = .slice A n c) (hn : n = ys.length) (hy : BytesAt w A ys) (h0 : 0 < ys.length) (hm : xs.length + ys.length ≤ 1000000)
    (h : ∀ v' w', ByRow w' w5.heap.size v' (xs ++ ys) → Ext w5 w' → w.grownBy w' v.ownBlock → wpList Tryd.prog ops Q rest (a.put o.dst v') w') :
    wpList Tryd.prog ops Q (o :: rest) a w := by
  subst hn
  obtain ⟨i0, hi0, hz0, hz1, hz2⟩ := info_parts Tryd.info5
  obtain ⟨ad, rfl, _, hc⟩ := hy h0
  refine wpList_append_lies w hgd s x 56 ho w5.heap.size 5 i0 _ 1 1 Tryd.underlying56 hi0 hz0 hz1 hz2 rfl (by decide) _ xs.length (bytesV xs) hs hrow ad ys.length c (bytesV ys) hx (by rw [bytesV_length]; omega)
      (fun j u hu => by
        rw [bytesV_get] at hu
        cases hx : ys[j]? with
        | none => rw [hx] at hu; cases hu
        | some b => rw [hx] at hu; obtain rfl := Option.some.inj hu; exact hc j b hx) (bytesV_plain ys) h0 (by unfold maxLen; omega) (by omega) hE.size _ rfl ?_
  intro g cap w' hown hgrow _ _
  refine h _ w' ?_ (ext_grow hE hgrow (fun k hk => (World.ownsRow.lt hrow k hk).1)) hgrow
  unfold ByRow
  rw [bytesV_append, List.length_append]
  exact hown
end
theorem run_append_b0 (w : World) (ty : TypeId) (A0 A : Option Addr) (n c0 c : Nat) (h : n ≤ c0) (h1 : A0 = none → n = 0) : (Builtin.append_ #[56, 56] ty #[.slice A0 n c0, .slice A 0 c]).run Tryd.prog w = .ok (.slice A0 n c0) w := by
  obtain ⟨i0, hi0, _, hz1, _⟩ := info_parts Tryd.info5
  have h' : ¬ c0 < n := by omega
  cases A0 with
  | none =>
    have := h1 rfl
    subst this
    cases A with
    | none => simp [Builtin.append_, run_underlying Tryd.underlying56, sizeOf, typeInfo, hi0, Builtin.lenOf, Builtin.firstCells]
    | some ad => simp [Builtin.append_, run_underlying Tryd.underlying56, sizeOf, typeInfo, hi0, Builtin.lenOf, Builtin.firstCells, loadCells, loadCellsFrom]
  | some a0 =>
    cases A with
    | none => simp [Builtin.append_, run_underlying Tryd.underlying56, sizeOf, typeInfo, hi0, Builtin.lenOf, Builtin.firstCells, storeCells, h]
    | some ad => simp [Builtin.append_, run_underlying Tryd.underlying56, sizeOf, typeInfo, hi0, Builtin.lenOf, Builtin.firstCells, storeCells, loadCells, loadCellsFrom, h]
theorem ByRow.form {w : World} {B : Nat} {v : Value} {xs : List UInt8} (h : ByRow w B v xs) : ∃ A c, v = .slice A xs.length c ∧ BytesAt w A xs ∧ xs.length ≤ c ∧ c ≤ maxLen ∧ (A = none → xs.length = 0) := by
  have h' : w.ownsRow B 5 1 v xs.length (bytesV xs) := h
  rcases h'.2 with ⟨rfl, h0⟩ | ⟨g, cap, cur, rfl, hb, hc, h1, h2, h3, h4⟩
  · have : xs = [] := List.eq_nil_of_length_eq_zero h0
    subst this
    exact ⟨none, 0, rfl, BytesAt.nil_ _ _, by simp, by unfold maxLen; omega, fun _ => rfl⟩
  · refine ⟨some ⟨g, 0, none⟩, cap, rfl, fun h0 => ⟨⟨g, 0, none⟩, rfl, typ_lt (typ_row hc), fun j b hj => ?_⟩, h1, h2, fun h => by cases h⟩
    exact World.ownsRow.cells h rfl j _ (by rw [bytesV_get, hj]; rfl)
theorem own0b {B g : Nat} {W : World} (hB : B ≤ g) (h : W.heap[g]? = some (.cells #[] 5 (0, 0))) : ByRow W B (.slice (some ⟨g, 0, none⟩) 0 0) [] :=
  ⟨rfl, .inr ⟨g, 0, #[], rfl, hB, h, Nat.le_refl _, by unfold maxLen; omega, rfl, rfl⟩⟩
section
variable {ops : Array Oper} {o : Oper} {a : Act} {K : Act → World → Prop} {Q : Exit → Act → World → Prop} {E : Prop} {w w5 : World}
/-- As bapp, where nothing may be appended. -/
theorem bappE (hgd : o.guard = none) (s x : Operand) (ho : o.op = .call { callee := .builtin .append, args := #[s, x], argTypes := #[56, 56] }) {v : Value} {xs ys : List UInt8} (hs : a.eval s = v) (hE : Ext w5 w) (hrow : ByRow w w5.heap.size v xs)
    {A : Option Addr} {c n : Nat} (hx : a.eval x = .slice A n c) (hn : n = ys.length) (hy : BytesAt w A ys) (hm : xs.length + ys.length ≤ 1000000)
    (h : ∀ v' w', ByRow w' w5.heap.size v' (xs ++ ys) → Ext w5 w' → w.grownBy w' v.ownBlock → K (a.put o.dst v') w') :
    if Region.wanted o (yielded ops a.tmps) = true then Oper.wp Tryd.prog o a w K Q else E := by
  rcases Nat.eq_zero_or_pos ys.length with h0 | h0
  · have he : ys = [] := List.eq_nil_of_length_eq_zero h0
    subst he
    subst hn
    have hw : Region.wanted o (yielded ops a.tmps) = true := by simp [Region.wanted, hgd]
    rw [if_pos hw]
    obtain ⟨A0, c0, rfl, _, h1, _, h2⟩ := hrow.form
    have hr := run_append_b0 w o.type A0 A xs.length c0 c h1 h2
    have hx' : a.eval x = .slice A 0 c := hx
    unfold Oper.wp execOp
    simp only [ho, resolve, invoke, builtin, Sem.run_bind, Sem.run_pure, Result.andThen_ok, List.map_toArray, List.map_cons, List.map_nil, hs, hx', hr]
    exact h _ w (by rw [List.append_nil]; exact hrow) hE (World.grownBy.refl w _)
  · exact bapp hgd s x ho hs hE hrow hx hn hy h0 hm h
theorem wappE {rest : List Oper} (hgd : o.guard = none) (s x : Operand) (ho : o.op = .call { callee := .builtin .append, args := #[s, x], argTypes := #[56, 56] }) {v : Value} {xs ys : List UInt8} (hs : a.eval s = v) (hE : Ext w5 w) (hrow : ByRow w w5.heap.size v xs)
    {A : Option Addr} {c n : Nat} (hx : a.eval x = .slice A n c) (hn : n = ys.length) (hy : BytesAt w A ys) (hm : xs.length + ys.length ≤ 1000000)
    (h : ∀ v' w', ByRow w' w5.heap.size v' (xs ++ ys) → Ext w5 w' → w.grownBy w' v.ownBlock → wpList Tryd.prog ops Q rest (a.put o.dst v') w') :
    wpList Tryd.prog ops Q (o :: rest) a w := by
  rcases Nat.eq_zero_or_pos ys.length with h0 | h0
  · have he : ys = [] := List.eq_nil_of_length_eq_zero h0
    subst he
    subst hn
    refine wpList_plain hgd fun _ hK => ?_
    obtain ⟨A0, c0, rfl, _, h1, _, h2⟩ := hrow.form
    have hr := run_append_b0 w o.type A0 A xs.length c0 c h1 h2
    have hx' : a.eval x = .slice A 0 c := hx
    unfold Oper.wp execOp
    simp only [ho, resolve, invoke, builtin, Sem.run_bind, Sem.run_pure, Result.andThen_ok, List.map_toArray, List.map_cons, List.map_nil, hs, hx', hr]
    exact hK _ _ (h _ w (by rw [List.append_nil]; exact hrow) hE (World.grownBy.refl w _))
  · exact wapp hgd s x ho hs hE hrow hx hn hy h0 hm h
end
theorem bytes1 {W : World} {g n : Nat} (hn : n < 256) (h : W.heap[g]? = some (.cells #[.int .u8 (n : Int)] 5 (0, 0))) : BytesAt W (some ⟨g, 0, none⟩) [UInt8.ofNat n] := by
  obtain ⟨A, c, e, hb, _⟩ := (own1 hn (Nat.le_refl g) h).bytes
  cases e
  exact hb
set_option maxRecDepth 100000 in
set_option maxHeartbeats 4000000 in
theorem ruint_any (n : Nat) (i : Int) (w : World) (hi : i = (n : Int)) (hn : n < 128) : Calls Tryd.prog 73 #[.int .u64 i] w (RetNew (putU n) w) := by
  subst hi
  have PS := Lib.hid (putU_small hn)
  have wr8 : IntKind.u8.wrap (n : Int) = (n : Int) := by rw [IntKind.wrap]; simp [IntKind.signed, IntKind.bits]; omega
  go_enter Tryd.func73, Tryd.ntmps73
  go_wp2_with fail
  go_loop [0, 3] (fun u v => u = .int .u64 (n : Int) ∧ v = .slice none 0 0) (fun _ _ => 0)
  case atStart => exact ⟨rfl, rfl⟩
  case round =>
    obtain ⟨rfl, rfl⟩ := hrel
    go_wp2_with (at_builtin; refine wapp rfl (.tmp 15) (.tmp 18) rfl (v := .slice none 0 0) (xs := []) (w5 := w) rfl ((Ext.refl w).alloc _) (ByRow.none_ _ _) rfl (ys := [UInt8.ofNat n]) rfl (bytes1 (by omega) (heap_alloc_new _ _)) (by simp) (by simp) ?_; intro v1 w1 hr1 hE1 hg1)
    go_ret
    refine ⟨_, rfl, ?_, hE1⟩
    rw [PS.out]
    exact hr1
theorem ruint_of {n : Nat} (w : World) (i : Int) (hi : i = (n : Int)) (hn : n < 100) : Calls Tryd.prog 73 #[.int .u64 i] w (RetNew (putU n) w) := ruint_any n i w hi (by omega)
set_option maxRecDepth 100000 in
set_option maxHeartbeats 4000000 in
theorem second_any (o : Nat → Bool) (s : Nat → Nat) (hs : Big s) (t : EvT) : ∀ (d low n base : Nat) (w : World), EvOn s t d low base → n = 2 ^ d → low + n ≤ 256 → base + t.top < 100 → (evBytes t).length ≤ 100000 → Calls Tryd.prog 49 #[.agg (RV o s), .int .i64 (low : Int), .int .i64 (n : Int), .int .u64 (base : Int)] w (RetNew (evBytes t) w) := by
  induction t with
  | leaf k =>
    intro d low n base w ht hn hle htop hlen
    have hq := pow_pos2 d
    rw [← hn] at hq
    have BD := Lib.hid (fun w => bounds_any o s low n w hle hq hs.u)
    have e1 := ht.lst_
    have e2 := ht.mst_
    rw [← hn] at e1 e2
    rw [e1, e2] at BD
    simp only [EvT.n, EvT.top] at BD htop
    have NU := Lib.hid (fun (i : Int) w (hi : i = ((k : Nat) : Int)) => ruint_of w i hi (by omega))
    have H : Hid (evBytes (.leaf k) = [UInt8.ofNat 0] ++ putU k) := Lib.hid rfl
    have PP : Hid ((putU k).length = 1) := Lib.hid (by rw [putU_small (by omega)]; rfl)
    clear ht hn e1 e2 hs hlen
    generalize hL : base + k = L at *
    have hL1 : L ≤ base + k := by omega
    have hL2 : base + k ≤ L := by omega
    clear hL
    go_enter Tryd.func49, Tryd.ntmps49
    go_upto_region 1 with (fail)
    generalize hW : w.alloc (.cells (RV o s) 36) = w0
    obtain ⟨E, hb, hg⟩ := letterR hW
    clear hW
    go_wp2_with fail
    refine (BD.out _).mono ?_
    rintro e1 w1 ⟨rfl, hE1⟩
    have z1 := hE1.size
    go_wp2_with fail
    refine (NU.out _ _ (by omega)).mono ?_
    rintro e2 w2 ⟨v2, rfl, hr2, hE2⟩
    have hK : w2.heap[w1.heap.size]? = some (.cells #[.int .u8 ((0 : Nat) : Int)] 5 (0, 0)) := by
      rw [hE2.block _ (by simp)]; exact heap_alloc_new _ _
    have E12 : Ext w1 w2 := ((Ext.refl w1).alloc _).trans hE2
    obtain ⟨A2, c2, rfl, hy2, -⟩ := hr2.bytes
    have R1 := Lib.hid (own1 (B := w1.heap.size) (n := 0) (by decide) (Nat.le_refl _) hK)
    have R2 := Lib.hid hy2
    clear hr2 hy2 hK
    go_wp2_with (at_builtin; refine wapp rfl (.tmp 22) (.tmp 26) rfl (w5 := w1) rfl E12 R1.out rfl rfl R2.out (by rw [PP.out]; decide) (by rw [PP.out]; decide) ?_; intro v3 w3 hr3 hE3 hg3)
    go_ret
    refine ⟨_, rfl, ?_, E.trans (hE1.trans hE3)⟩
    rw [H.out]
    exact hr3.base (by omega)
  | node k l r ihl ihr =>
    intro d low n base w ht hn hle htop hlen
    have hq := pow_pos2 d
    rw [← hn] at hq
    have BD := Lib.hid (fun w => bounds_any o s low n w hle hq hs.u)
    have e1 := ht.lst_
    have e2 := ht.mst_
    have e3 := (nf_top ht.nf)
    rw [← hn] at e1 e2
    rw [e1, e2] at BD
    have tne : base + (EvT.node k l r).n ≠ base + (EvT.node k l r).top := fun h => by have := e3.1 (by omega); simp [EvT.isLeaf] at this
    obtain ⟨e, rfl, hl, hr, -, -⟩ := ht
    have H : Hid (evBytes (.node k l r) = [UInt8.ofNat 1] ++ putU k ++ evBytes l ++ evBytes r) := Lib.hid (by simp [evBytes])
    rw [H.out] at hlen
    simp only [List.length_append] at hlen
    simp only [EvT.n] at BD tne
    have htop' := htop
    simp only [EvT.top] at htop'
    have hL3 : base + k < 100 := by omega
    have hp := pow_half e
    have hm0 := pow_pos2 e
    have IL := Lib.hid (fun w => ihl e low (2 ^ e) (base + k) w hl rfl (by omega) (by omega) (by omega))
    have IR := Lib.hid (fun w => show Calls Tryd.prog 49 #[.agg (RV o s), .int .i64 ((low : Int) + ((2 ^ e : Nat) : Int)), .int .i64 ((2 ^ e : Nat) : Int), .int .u64 ((base + k : Nat) : Int)] w (RetNew (evBytes r) w) from by
      have := ihr e (low + 2 ^ e) (2 ^ e) (base + k) w hr rfl (by omega) (by omega) (by omega)
      rwa [Int.natCast_add low] at this)
    have NU := Lib.hid (fun (i : Int) w (hi : i = ((k : Nat) : Int)) => ruint_of w i hi (by omega))
    have PP : Hid ((putU k).length = 1) := Lib.hid (by rw [putU_small (by omega)]; rfl)
    have lp := evBytes_pos l
    have rp := evBytes_pos r
    have hnm : n = 2 ^ e + 2 ^ e := by omega
    clear ihl ihr hn hl hr hp e1 e2 e3 hs htop'
    generalize base + (EvT.node k l r).top = M at *
    generalize hL : base + k = L at *
    have hL1 : L ≤ base + k := by omega
    have hL2 : base + k ≤ L := by omega
    clear hL
    have tlm := beqF tne
    clear tne
    generalize 2 ^ e = m at *
    have hdiv : ((n : Nat) : Int) / 2 = ((m : Nat) : Int) := by omega
    have hmm : n ≤ m + m := by omega
    have hmm' : m + m ≤ n := by omega
    clear hnm
    generalize evBytes l = x at *
    generalize evBytes r = y at *
    generalize putU k = z at *
    have HL := Lib.hid hlen
    clear hlen
    go_enter Tryd.func49, Tryd.ntmps49
    go_upto_region 1 with (fail)
    generalize hW : w.alloc (.cells (RV o s) 36) = w0
    obtain ⟨E, hb, hg⟩ := letterR hW
    clear hW
    go_wp2_with fail
    refine (BD.out _).mono ?_
    rintro e1 w1 ⟨rfl, hE1⟩
    have z1 := hE1.size
    rw [← blkOf_ext hE1 (by omega)] at hb
    have zA : w.heap.size < w1.heap.size := by omega
    go_wp2_with fail
    refine (NU.out _ _ (by omega)).mono ?_
    rintro e2 w2 ⟨v2, rfl, hr2, hE2⟩
    have hK : w2.heap[w1.heap.size]? = some (.cells #[.int .u8 ((1 : Nat) : Int)] 5 (0, 0)) := by
      rw [hE2.block _ (by simp)]; exact heap_alloc_new _ _
    have E12 : Ext w1 w2 := ((Ext.refl w1).alloc _).trans hE2
    obtain ⟨A2, c2, rfl, hy2, -⟩ := hr2.bytes
    have R1 := Lib.hid (own1 (B := w1.heap.size) (n := 1) (by decide) (Nat.le_refl _) hK)
    have R2 := Lib.hid hy2
    clear hr2 hy2 hK
    have HB := Lib.hid hb
    clear hb
    go_upto_region 5 with (at_builtin; refine wapp rfl (.tmp 28) (.tmp 32) rfl (w5 := w1) rfl E12 R1.out rfl rfl R2.out (by rw [PP.out]; decide) (by rw [PP.out]; decide) ?_; intro v3 w3 hr3 hE3 hg3)
    have hb3 : blkOf w3 w.heap.size = RV o s := by rw [blkOf_ext hE3 zA]; exact HB.out
    have R3 := Lib.hid hr3
    clear hr3 hg3 R1 R2
    go_wp2_with fail
    refine (IL.out _).mono ?_
    rintro e4 w4 ⟨v4, rfl, hr4, hE4⟩
    obtain ⟨A4, c4, rfl, hy4, -⟩ := hr4.bytes
    have E14 : Ext w1 w4 := hE3.trans hE4
    have R4 := Lib.hid (R3.out.ext hE4)
    have Y4 := Lib.hid hy4
    clear hr4 hy4 hb3
    go_upto_region 6 with (at_builtin; refine wapp rfl (.tmp 34) (.tmp 40) rfl (w5 := w1) rfl E14 R4.out rfl rfl Y4.out lp (by have := HL.out; simp at this ⊢; omega) ?_; intro v5 w5 hr5 hE5 hg5)
    have hb5 : blkOf w5 w.heap.size = RV o s := by rw [blkOf_ext hE5 zA]; exact HB.out
    have R5 := Lib.hid hr5
    clear hr5 hg5
    go_wp2_with fail
    refine (IR.out _).mono ?_
    rintro e6 w6 ⟨v6, rfl, hr6, hE6⟩
    obtain ⟨A6, c6, rfl, hy6, -⟩ := hr6.bytes
    have E16 : Ext w1 w6 := hE5.trans hE6
    have R6 := Lib.hid (R5.out.ext hE6)
    have Y6 := Lib.hid hy6
    clear hr6 hy6 hb5
    go_wp2_with (at_builtin; refine wapp rfl (.tmp 42) (.tmp 51) rfl (w5 := w1) rfl E16 R6.out rfl rfl Y6.out rp (by have := HL.out; simp at this ⊢; omega) ?_; intro v7 w7 hr7 hE7 hg7)
    go_ret
    refine ⟨_, rfl, ?_, E.trans (hE1.trans hE7)⟩
    rw [H.out]
    exact hr7.base (by omega)
theorem blkA {w1 w3 : World} {o : Obj} (h : Ext ((w1.alloc o).drew) w3) : w3.heap[w1.heap.size]? = some o := by
  have h' : Ext (w1.alloc o) w3 := (Ext.refl _).drew.trans h
  rw [h'.block _ (by simp)]; exact heap_alloc_new _ _
set_option maxRecDepth 100000 in
set_option maxHeartbeats 4000000 in
theorem first_any (o : Nat → Bool) (s : Nat → Nat) (i : IdT) : ∀ (d low n : Nat) (w : World), IdOn o i d low → n = 2 ^ d → low + n ≤ 256 → (idBytes i).length ≤ 100000 → Calls Tryd.prog 48 #[.agg (RV o s), .int .i64 (low : Int), .int .i64 (n : Int)] w (RetNew (idBytes i) w) := by
  induction i with
  | zero =>
    intro d low n w hi hn hle _
    have c0 : cnt o low n = 0 := cnt_zero.2 (by rw [hn]; exact hi)
    have OW := Lib.hid (fun w => owned_any o s low n w hle)
    rw [c0] at OW
    clear c0 hi hn
    go_enter Tryd.func48, Tryd.ntmps48
    go_upto_region 1 with (fail)
    generalize hW : w.alloc (.cells (RV o s) 36) = w0
    obtain ⟨E, hb, hg⟩ := letterR hW
    clear hW
    go_wp2_with fail
    refine (OW.out _).mono ?_
    rintro e1 w1 ⟨rfl, hE1⟩
    go_wp2_with fail
    go_ret
    exact ⟨_, rfl, own1 (n := 0) (by decide) (E.trans hE1).size (heap_alloc_new _ _), (E.trans hE1).alloc _⟩
  | node l r ihl ihr =>
    intro d low n w hi hn hle hlen
    have hq := pow_pos2 d
    have OW := Lib.hid (fun w => owned_any o s low n w hle)
    obtain ⟨cz, co⟩ := hi.cnt_
    rw [← hn] at cz co hq
    have CN := cnt_le o low n
    cases h1 : IdT.isOne (.node l r) with
    | true =>
      have H : Hid (idBytes (.node l r) = [UInt8.ofNat 1]) := by simp [Hid, idBytes, h1]
      have c1 := co.2 h1
      have tc := beqT c1
      have tz := beq0F (show cnt o low n ≠ 0 by omega)
      clear ihl ihr hi cz co hn c1 h1 hlen
      generalize cnt o low n = c at *
      go_enter Tryd.func48, Tryd.ntmps48
      go_upto_region 1 with (fail)
      generalize hW : w.alloc (.cells (RV o s) 36) = w0
      obtain ⟨E, hb, hg⟩ := letterR hW
      clear hW
      go_wp2_with fail
      refine (OW.out _).mono ?_
      rintro e1 w1 ⟨rfl, hE1⟩
      go_wp2_with fail
      go_ret
      refine ⟨_, rfl, ?_, (E.trans hE1).alloc _⟩
      rw [H.out]
      exact own1 (n := 1) (by decide) (E.trans hE1).size (heap_alloc_new _ _)
    | false =>
      have H : Hid (idBytes (.node l r) = [UInt8.ofNat 2] ++ idBytes l ++ idBytes r) := Lib.hid (by rw [idBytes, h1]; rfl)
      rw [H.out] at hlen
      simp only [List.length_append] at hlen
      obtain ⟨e, rfl, hl, hr, _⟩ := hi.of_node h1
      have tc := beqF (show cnt o low n ≠ n from fun h => by rw [co.1 h] at h1; cases h1)
      have tz := beq0F (show cnt o low n ≠ 0 from fun h => by have := cz.1 h; simp [IdT.isZero] at this)
      have hp := pow_half e
      have hm0 := pow_pos2 e
      have IL := Lib.hid (fun w => ihl e low (2 ^ e) w hl rfl (by omega) (by omega))
      have IR := Lib.hid (fun w => show Calls Tryd.prog 48 #[.agg (RV o s), .int .i64 ((low : Int) + ((2 ^ e : Nat) : Int)), .int .i64 ((2 ^ e : Nat) : Int)] w (RetNew (idBytes r) w) from by
        have := ihr e (low + 2 ^ e) (2 ^ e) w hr rfl (by omega) (by omega)
        rwa [Int.natCast_add] at this)
      have hnm : n = 2 ^ e + 2 ^ e := by omega
      have lp := idBytes_pos l
      have rp := idBytes_pos r
      clear ihl ihr hi cz co hn hl hr h1 hp
      generalize 2 ^ e = m at *
      have hdiv : ((n : Nat) : Int) / 2 = ((m : Nat) : Int) := by omega
      have hmm : n ≤ m + m := by omega
      have hmm' : m + m ≤ n := by omega
      clear hnm
      generalize cnt o low n = c at *
      generalize idBytes l = x at *
      generalize idBytes r = y at *
      have HL := Lib.hid hlen
      have hL1 : [UInt8.ofNat 2].length + x.length ≤ 1000000 := by omega
      have hL2 : ([UInt8.ofNat 2] ++ x).length + y.length ≤ 1000000 := by rw [List.length_append]; omega
      clear hlen
      go_enter Tryd.func48, Tryd.ntmps48
      go_upto_region 1 with (fail)
      generalize hW : w.alloc (.cells (RV o s) 36) = w0
      obtain ⟨E, hb, hg⟩ := letterR hW
      clear hW
      go_wp2_with fail
      refine (OW.out _).mono ?_
      rintro e1 w1 ⟨rfl, hE1⟩
      have z1 := hE1.size
      rw [← blkOf_ext hE1 (by omega)] at hb
      have zA : w.heap.size < w1.heap.size := by omega
      go_wp2_with fail
      have wrp : IntKind.i64.wrap ((low : Int) + (m : Int)) = (low : Int) + (m : Int) := IntWalk.i64_in _ (by omega)
      have wrn : IntKind.i64.wrap (m : Int) = (m : Int) := IntWalk.i64_in _ (by omega)
      have hdt : ((n : Nat) : Int).tdiv 2 = ((m : Nat) : Int) := by rw [Int.tdiv_eq_ediv_of_nonneg (by omega)]; exact hdiv
      have HL1 := Lib.hid hL1
      have HL2 := Lib.hid hL2
      clear hL1 hL2
      go_region_held3 (fun w' => Ext w1 w' ∧ ∀ b, b < w1.heap.size → blkOf w' b = blkOf w1 b)
        (refine Ext.heldB ?_ <;> repeat (first | assumption | exact Ext.refl _ | apply Ext.alloc | apply Ext.drew | apply Ext.drewN))
        (first
          | (go_at_call 48; go_split_ands; (with_reducible refine (IL.out _).mono ?_); rintro e3 w3 ⟨v3, rfl, hr3, hbb3⟩; obtain ⟨A3, c3, rfl, hy3, -⟩ := hr3.bytes; have hE3 : Ext w1 w3 := Ext.trans (by assumption) hbb3)
          | (go_at_call 48; go_split_ands; (with_reducible refine (IR.out _).mono ?_); rintro e4 w4 ⟨v4, rfl, hr4, hbb4⟩; obtain ⟨A4, c4, rfl, hy4, -⟩ := hr4.bytes; have hE4 : Ext w1 w4 := Ext.trans (by assumption) hbb4)
          | (refine bapp (by rfl) (.tmp 18) (.tmp 23) (by rfl) (w5 := w1) (by rfl) hE3 (own1 (n := 2) (by decide) (Nat.le_refl _) (blkA hbb3)) (by rfl) (by rfl) hy3 lp HL1.out ?_; intro v5 w5 hr5 hE5 hg5)
          | (refine bapp (by rfl) (.tmp 18) (.tmp 23) (by rfl) (w5 := w1) (by rfl) (hE3.alloc _) (own1 (n := 2) (by decide) hE3.size (heap_alloc_new _ _)) (by rfl) (by rfl) (hy3.ext ((Ext.refl _).alloc _)) lp HL1.out ?_; intro v5 w5 hr5 hE5 hg5)
          | (refine bapp (by rfl) (.tmp 24) (.tmp 32) (by rfl) (w5 := w1) (by rfl) hE4 (hr5.ext hbb4) (by rfl) (by rfl) hy4 rp HL2.out ?_; intro v6 w6 hr6 hE6 hg6)
          | (refine bapp (by rfl) (.tmp 24) (.tmp 32) (by rfl) (w5 := w1) (by rfl) hE4 (hr5.ext ((Ext.refl _).drew.trans hbb4)) (by rfl) (by rfl) hy4 rp HL2.out ?_; intro v6 w6 hr6 hE6 hg6))
      all_goals
        go_wp2_with fail
        go_ret
        refine ⟨_, rfl, ?_, (E.trans hE1).trans hE6⟩
        rw [H.out]
        exact hr6.base (by omega)
theorem first256 (o : Nat → Bool) (s : Nat → Nat) (i : IdT) (w : World) (hi : IdOn o i 8 0) : Calls Tryd.prog 48 #[.agg (RV o s), .int .i64 0, .int .i64 256] w (RetNew (idBytes i) w) :=
  first_any o s i 8 0 256 w hi rfl (by omega) (by have := idBytes_len hi; omega)
theorem second256 (o : Nat → Bool) (s : Nat → Nat) (hs : Big s) (t : EvT) (w : World) (ht : EvOn s t 8 0 0) (h : t.top < 100) : Calls Tryd.prog 49 #[.agg (RV o s), .int .i64 0, .int .i64 256, .int .u64 0] w (RetNew (evBytes t) w) :=
  second_any o s hs t 8 0 256 0 w ht rfl (by omega) (by omega) (by have := evBytes_len ht h; omega)
set_option maxRecDepth 100000 in
set_option maxHeartbeats 4000000 in
theorem rbytes_any (o : Nat → Bool) (s : Nat → Nat) (i : IdT) (t : EvT) (w : World) (hs : Big s) (hi : IdOn o i 8 0) (ht : EvOn s t 8 0 0) (h : t.top < 100) : Calls Tryd.prog 26 #[.agg (RV o s)] w (RetNew (stBytes i t) w) := by
  have IL := Lib.hid (fun w => first256 o s i w hi)
  have IR := Lib.hid (fun w => second256 o s hs t w ht h)
  have HL : Hid ((idBytes i).length + (evBytes t).length ≤ 1000000) := Lib.hid (by have := idBytes_len hi; have := evBytes_len ht h; omega)
  have lp := evBytes_pos t
  have H : Hid (stBytes i t = idBytes i ++ evBytes t) := Lib.hid rfl
  clear hs hi ht h
  generalize idBytes i = x at *
  generalize evBytes t = y at *
  go_enter Tryd.func26, Tryd.ntmps26
  go_upto_region 1 with (fail)
  generalize hW : w.alloc (.cells (RV o s) 36) = w1
  obtain ⟨E, hb, hg⟩ := letterR hW
  clear hW
  go_region_held3 (fun w' => Ext w1 w' ∧ ∀ b, b < w1.heap.size → blkOf w' b = blkOf w1 b)
    (refine Ext.heldB ?_ <;> repeat (first | assumption | exact Ext.refl _ | apply Ext.alloc | apply Ext.drew | apply Ext.drewN))
    (first
      | (go_at_call 48; go_split_ands; (with_reducible refine (IL.out _).mono ?_); rintro e3 w3 ⟨v3, rfl, hr3, hbb3⟩; have hE3 : Ext w1 w3 := Ext.trans (by assumption) hbb3; have hr3' := hr3.base (B' := w1.heap.size) (by first | exact Nat.le_refl _ | exact (Ext.size (by assumption))))
      | (go_at_call 49; go_split_ands; (with_reducible refine (IR.out _).mono ?_); rintro e4 w4 ⟨v4, rfl, hr4, hbb4⟩; obtain ⟨A4, c4, rfl, hy4, -⟩ := hr4.bytes; have hE4 : Ext w1 w4 := Ext.trans (by assumption) hbb4)
      | (refine bapp (by rfl) (.tmp 4) (.tmp 6) (by rfl) (w5 := w1) (by rfl) hE4 (hr3'.ext hbb4) (by rfl) (by rfl) hy4 lp HL.out ?_; intro v6 w6 hr6 hE6 hg6)
      | (refine bapp (by rfl) (.tmp 4) (.tmp 6) (by rfl) (w5 := w1) (by rfl) hE4 (hr3'.ext ((Ext.refl _).drew.trans hbb4)) (by rfl) (by rfl) hy4 lp HL.out ?_; intro v6 w6 hr6 hE6 hg6))
  go_wp2_with fail
  go_ret
  refine ⟨_, rfl, ?_, E.trans hE6⟩
  rw [H.out]
  exact hr6.base (by omega)
set_option maxRecDepth 100000 in
set_option maxHeartbeats 4000000 in
/-- Bytes of a stamp onto bytes that are an argument. -/
theorem stbytes_arg (i : IdT) (t : EvT) (v : Value) (bs : List UInt8) (A : Option Addr) (c : Nat) (w : World) (h : StAt w v i t) (hf : t.fits = true) (n : Nat) (hn : n = bs.length) (hB : BytesAt w A bs) (hb20 : bs.length ≤ 1000) (hl : (stBytes i t).length ≤ 1099511600000) : Calls Tryd.prog 24 #[v, .slice A n c] w (RetNew (bs ++ stBytes i t) w) := by
  have HN := Lib.hid hn
  clear hn
  have TA := Lib.hid fun w' (hx : Ext w w') => tree_any i t v w' (h.ext hx)
  have HH : Hid (bs ++ stBytes i t = bs ++ idBytes i ++ evBytes t) := Lib.hid (by simp [stBytes])
  unfold stBytes at hl
  rw [List.length_append] at hl
  obtain ⟨qi, qs, rfl, hi, -⟩ := h
  go_enter Tryd.func24, Tryd.ntmps24
  go_wp2_with fail
  generalize hW : w.alloc (Obj.cells #[.pointer qi, .pointer qs] 31) = w0
  have E0 : Ext w w0 := by rw [← hW]; simp
  have a0 : w0.cell? ⟨w.heap.size, 0, none⟩ = some (.pointer qi) := by rw [← hW]; simp
  have a1 : w0.cell? ⟨w.heap.size, 1, none⟩ = some (.pointer qs) := by rw [← hW]; simp
  have z0 := World.block_lt_of_cell? _ _ a0
  clear hW
  have HB0 := Lib.hid (hB.ext E0)
  have IB := Lib.hid fun w' p' (hx : Ext w w') (hp : ByRow w' w0.heap.size p' bs) (hz : w0.heap.size ≤ w'.heap.size) => idbytes_any i _ p' bs w0.heap.size w' (hi.ext hx) hp hz (by omega)
  have EB := Lib.hid fun w' v' p' (hv : EvAt w' v' t) (hp : ByRow w' w0.heap.size p' (bs ++ idBytes i)) (hz : w0.heap.size ≤ w'.heap.size) => evbytes_any t v' p' (bs ++ idBytes i) w0.heap.size w' hv hf hp hz (by rw [List.length_append]; omega)
  clear hi hB
  have HM : Hid (([] : List UInt8).length + bs.length ≤ 1000000) := Lib.hid (by simp; omega)
  clear hl hb20
  go_region_held3 (fun w' => Ext w0 w' ∧ ∀ b o, b < w0.heap.size → w'.cell? ⟨b, o, none⟩ = w0.cell? ⟨b, o, none⟩)
    (refine Ext.held ?_ <;> repeat (first | assumption | exact Ext.refl _ | apply Ext.alloc | apply Ext.drew | apply Ext.drewN))
    (first
      | (go_at_call 33; go_split_ands; refine (TA.out _ (E0.trans (by assumption))).mono ?_; rintro e w1 ⟨v1, rfl, hv1, hbb⟩; have hE1 : Ext w0 w1 := Ext.trans (by assumption) hbb)
      | (go_at_call 45; go_split_ands; refine (IB.out _ _ (E0.trans hE2) hr2 hE2.size).mono ?_; rintro e w3 ⟨v3, rfl, hr3, hg3⟩; have hE3 : Ext w0 w3 := Grw.new hE2 hr2 (Nat.le_refl _) hg3; have hv3 := (hv1.ext (ext_of_grown hg2)).kp (hg3.kp hr2))
      | (go_at_call 45; go_split_ands; refine (IB.out _ _ (E0.trans hE1) (hr2.ext hbb) hE1.size).mono ?_; rintro e w3 ⟨v3, rfl, hr3, hg3⟩; have hE3 : Ext w0 w3 := Grw.new hE1 (hr2.ext hbb) (Nat.le_refl _) hg3; have hv3 := hv1.kp (hg3.kp (hr2.ext hbb)))
      | (go_at_call 45; go_split_ands; refine (IB.out _ _ (E0.trans hE2) hr2 hE2.size).mono ?_; rintro e w3 ⟨v3, rfl, hr3, hg3⟩; have hE3 : Ext w0 w3 := Grw.new hE2 hr2 (Nat.le_refl _) hg3)
      | (go_at_call 44; go_split_ands; refine (EB.out _ _ _ hv3 hr3 hE3.size).mono ?_; rintro e w4 ⟨v4, rfl, hr4, hg4⟩; have hE4 : Ext w0 w4 := Grw.new hE3 hr3 (Nat.le_refl _) hg4)
      | (go_at_call 44; go_split_ands; refine (EB.out _ _ _ hv1 (hr3.ext hbb) hE1.size).mono ?_; rintro e w4 ⟨v4, rfl, hr4, hg4⟩; have hE4 : Ext w0 w4 := Grw.new hE1 (hr3.ext hbb) (Nat.le_refl _) hg4)
      | (refine bappE (by rfl) (.const (.slice none 0 0)) (.tmp 9) (by rfl) (v := .slice none 0 0) (xs := []) (w5 := w0) (by rfl) ((Ext.refl _).drew) (ByRow.none_ _ _) (by rfl) HN.out (HB0.out.ext ((Ext.refl _).drew)) HM.out ?_; intro v2 w2 hr2 hE2 hg2; rw [List.nil_append] at hr2)
      | (refine bappE (by rfl) (.const (.slice none 0 0)) (.tmp 9) (by rfl) (v := .slice none 0 0) (xs := []) (w5 := w0) (by rfl) hE1 (ByRow.none_ _ _) (by rfl) HN.out (HB0.out.ext hE1) HM.out ?_; intro v2 w2 hr2 hE2 hg2; rw [List.nil_append] at hr2)
      | fail)
  all_goals
    go_wp2_with fail
    go_ret
    refine ⟨_, rfl, ?_, E0.trans hE4⟩
    rw [HH.out]
    exact hr4.base E0.size
end Go.Proofs.YthnmhdabdiennaaDoor
