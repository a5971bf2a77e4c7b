/- The bytes of a disclosure. -/
import Derived.Test.YtjedhndhdkiidaaDoorV31
namespace Go.Proofs.YtjedhndhdkiidaaDoor
open Go.RowKit
attribute [local go_sem ↓] Go.wp_at_zero Go.wp_at_succ
attribute [local go_sem] baSize baList
attribute [local go_sem ↓] ld75 ld48 ld73 st75 st48 al75 al48 bu75 bu48
attribute [local go_sem] run_al75 run_al48 run_bu48 run_bu75n run_bu75c run_bu75o run_st75n run_st48n run_sl73
theorem run_sl48o (w : World) (g o : Nat) : (Instr.sliceAt 48 (.pointer (some ⟨g, o, none⟩)) none none none).run Tryd.prog w = .ok (.slice (some ⟨g, o, none⟩) 32 32) w := by
  have e1 : Tryd.prog.arrayLen 48 = 32 := by kernel_rfl
  have e2 : Tryd.prog.elem 48 = 5 := by kernel_rfl
  have hs : (sizeOf 5).run Tryd.prog w = .ok 1 w := by kernel_rfl
  rw [run_sliceAt_array_all w 48 ⟨g, o, none⟩ (by rw [e1, e2]; exact Tryd.underlying48), e1, e2, hs]
  simp [Result.andThen, slicedAt, Addr.add]
attribute [local go_sem] run_sl48o
/-- An item as bytes. -/
def encB (x : It) : List UInt8 := putU x.nm.length ++ x.nm ++ (if x.op = true then 1 :: (x.sl ++ putU x.vl.length ++ x.vl) else 0 :: x.cm)
/-- The first items as bytes. -/
def encK (xs : List It) (k : Nat) : List UInt8 := putU xs.length ++ ((xs.take k).map encB).flatten
/-- A disclosure as bytes. -/
def encD (xs : List It) : List UInt8 := encK xs xs.length
theorem encB_len {x : It} (hx : ItOk x) (hn : x.nm.length ≤ 1000 ∧ x.vl.length ≤ 4000) : (encB x).length ≤ 5100 := by
  have h1 := putU_len (k := 3) (v := x.nm.length) (by omega)
  have h2 := putU_len (k := 3) (v := x.vl.length) (by omega)
  unfold encB
  cases ho : x.op with
  | true => have := hx.1 ho; simp; omega
  | false => have := hx.2 ho; simp; omega
theorem encK_len {xs : List It} (hx : ∀ x ∈ xs, ItOk x) (hn : ∀ x ∈ xs, x.nm.length ≤ 1000 ∧ x.vl.length ≤ 4000) (hl : xs.length ≤ 100) (k : Nat) : (encK xs k).length ≤ 520000 := by
  have h1 := putU_len (k := 3) (v := xs.length) (by omega)
  have hm : ∀ l : List It, (∀ x ∈ l, ItOk x) → (∀ x ∈ l, x.nm.length ≤ 1000 ∧ x.vl.length ≤ 4000) → ((l.map encB).flatten).length ≤ l.length * 5100 := by
    intro l
    induction l with
    | nil => intro _ _; simp
    | cons x l ih =>
      intro h1 h2
      have := encB_len (h1 x (by simp)) (h2 x (by simp))
      have := ih (fun y hy => h1 y (by simp [hy])) (fun y hy => h2 y (by simp [hy]))
      rw [List.map_cons, List.flatten_cons, List.length_append, List.length_cons, Nat.succ_mul]
      omega
  have h2 := hm (xs.take k) (fun x h => hx x (List.mem_of_mem_take h)) (fun x h => hn x (List.mem_of_mem_take h))
  have h3 : (xs.take k).length ≤ 100 := by rw [List.length_take]; omega
  have h4 : (xs.take k).length * 5100 ≤ 100 * 5100 := Nat.mul_le_mul_right _ h3
  unfold encK
  rw [List.length_append]
  omega
theorem encK_succ {xs : List It} {k : Nat} (h : k < xs.length) : encK xs (k + 1) = encK xs k ++ encB (xs.getD k It0) := by
  unfold encK
  rw [List.take_succ_eq_append_getElem h, List.map_append, List.flatten_append, ← List.append_assoc, List.getD_eq_getElem?_getD, List.getElem?_eq_getElem h]
  simp
theorem Row.slB {w : World} {B : Nat} {v : Value} {xs : List UInt8} (h : Row 1 w B 5 v (bv xs)) : SlB w v xs := by
  obtain ⟨A, c, e, k1, k2, k3, -⟩ := h.bytes
  exact ⟨A, c, e, k2, k3, k1⟩
set_option maxRecDepth 100000 in
set_option maxHeartbeats 1000000 in
theorem bytes25_ok (xs : List It) (v : Value) (w : World) (h : DsAt w v xs) (hx : ∀ x ∈ xs, ItOk x) (hn : ∀ x ∈ xs, x.nm.length ≤ 1000 ∧ x.vl.length ≤ 4000) (hl : xs.length ≤ 100) : Calls Tryd.prog 25 #[dsV v] w (RetBy (encD xs) w) := by
  obtain ⟨A, c, rfl, -, -, h3⟩ := h.read
  have HR := Lib.hid h3
  have HOK := Lib.hid hx
  have HNM := Lib.hid hn
  have HEL := Lib.hid (encK_len hx hn hl)
  have HL := Lib.hid hl
  clear h h3 hx hn
  go_enter Tryd.func25, Tryd.ntmps25
  go_upto_region 1 with fail
  generalize hwB : w.alloc (.cells #[.slice A xs.length c] 32) = wB
  have HB0 : Hid (Bk wB w.heap.size 1 (fun _ => .slice A xs.length c)) := Lib.hid (by rw [← hwB]; exact Bk.new1 _ _ _)
  have HE0 : Hid (Ext w wB) := Lib.hid (by rw [← hwB]; exact (Ext.refl _).alloc _)
  clear hwB
  have t0 := HB0.out.cell (k := 0) (by decide)
  go_upto_region 2 with (go_at_call 42; refine (putuint42_any xs.length nilV [] wB (SlB.nil _) (by omega) (by simp)).mono ?_; rintro _ w1 ⟨v1, rfl, hr1, hE1⟩; rw [List.nil_append] at hr1; have HR1 := Lib.hid hr1; have HE1 := Lib.hid (HE0.out.trans hE1); have HB1 := Lib.hid (HB0.out.ext hE1); clear hr1 hE1 t0)
  have t1 := HB1.out.cell (k := 0) (by decide)
  go_wp2_with fail
  clear t1
  go_loopw [3, 14] (fun t i wr => ∃ (k : Nat) (v : Value), k ≤ xs.length ∧ i = iV (k : Int) ∧ t = v ∧ Row 1 wr w.heap.size 5 v (bv (encK xs k)) ∧ Ext w wr) (fun _ i _ => xs.length - (intOf i).toNat)
  case atStart => exact ⟨0, v1, by omega, rfl, rfl, by unfold encK; rw [List.take_zero, List.map_nil, List.flatten_nil, List.append_nil]; exact HR1.out.base HE0.out.size, HE1.out⟩
  case round =>
    obtain ⟨k, v, hk, rfl, rfl, hr, hX⟩ := hrel
    obtain ⟨zs, hzs⟩ : ∃ zs, encK xs k = zs := ⟨_, rfl⟩
    rw [hzs] at hr
    have HZ := Lib.hid hzs
    have HZL : Hid (zs.length ≤ 520000) := Lib.hid (by rw [← hzs]; exact HEL.out k)
    have HRW := Lib.hid hr
    have HX := Lib.hid hX
    obtain ⟨Av, cv, hv, -, -⟩ := hr.form
    rw [bv_len] at hv
    subst hv
    clear hzs hr hX
    by_cases hlt : k < xs.length
    · have q1 : (k : Int) < (xs.length : Int) := by omega
      have q0 : (0 : Int) ≤ (k : Int) := by omega
      have q2 : (k : Int) < 200 := by omega
      obtain ⟨bb, o, A1, c1, rfl, hb, cR0, v1, v2, v3⟩ := HR.out w (Ext.refl w) k hlt
      obtain ⟨x, hx⟩ : ∃ x, xs.getD k It0 = x := ⟨_, rfl⟩
      rw [hx] at cR0 v1 v3
      have l1 := run_ld75 (w := wr) (fun i hi => HX.out.cell (cR0 i hi))
      have HF : Hid (encK xs (k + 1) = zs ++ encB x) := Lib.hid (by rw [encK_succ hlt, HZ.out, hx])
      have HXO : Hid (ItOk x) := Lib.hid (HOK.out x (by rw [← hx]; exact mem_getD hlt))
      have HXN : Hid (x.nm.length ≤ 1000 ∧ x.vl.length ≤ 4000) := Lib.hid (HNM.out x (by rw [← hx]; exact mem_getD hlt))
      have HSV : Hid (SlB w (.slice A1 x.vl.length c1) x.vl) := Lib.hid ⟨A1, c1, rfl, v1, v2, v3⟩
      clear hx cR0 v1 v2 v3 hb
      go_upto_region 5 with fail
      clear l1
      generalize hw4 : wr.alloc (.cells (itA x.nm x.op x.cm (.slice A1 x.vl.length c1) x.sl) 75) = w4
      have HBX : Hid (Bk w4 wr.heap.size 51 (itF x.nm x.op x.cm (.slice A1 x.vl.length c1) x.sl)) := Lib.hid (by rw [← hw4]; exact Bk.new (by decide))
      have HE4 : Hid (Ext wr w4) := Lib.hid (by rw [← hw4]; exact (Ext.refl _).alloc _)
      have z4 : wr.heap.size < w4.heap.size := by rw [← hw4]; simp
      clear hw4
      have p0 : w4.cell? ⟨wr.heap.size, 0, none⟩ = some (sV x.nm) := HBX.out.cell (by decide)
      obtain ⟨c3, w3, hcv, hE3, hS3⟩ := conv938 w4 x.nm (by have := HXN.out; omega)
      have HS3 := Lib.hid hS3
      have HE3 := Lib.hid hE3
      have z3 : w4.heap.size ≤ w3.heap.size := hE3.size
      clear hE3 hS3
      go_upto_region 6 with (go_at_call 43; refine (putbytes43_any _ _ zs x.nm w3 (HRW.out.slB.ext (HE4.out.trans HE3.out)) HS3.out (by have := HZL.out; omega) (by have := HXN.out; omega)).mono ?_; rintro _ w5 ⟨v5, rfl, hr5, hE5⟩; have HR5 := Lib.hid hr5; have HE5 := Lib.hid (HE3.out.trans hE5); clear hr5 hE5 hcv p0)
      obtain ⟨us, hus⟩ : ∃ us, zs ++ putU x.nm.length ++ x.nm = us := ⟨_, rfl⟩
      rw [hus] at HR5
      have HUL : Hid (us.length ≤ 530000) := Lib.hid (by
        have h1 := putU_len (k := 3) (v := x.nm.length) (by have := HXN.out; omega)
        have := HXN.out
        have := HZL.out
        rw [← hus, List.length_append, List.length_append]
        omega)
      have HUS := Lib.hid hus
      have HB5 := Lib.hid (HBX.out.ext HE5.out)
      have HX5 := Lib.hid (HX.out.trans (HE4.out.trans HE5.out))
      have hbx : ∀ kk, v5.ownBlock = some kk → wr.heap.size < kk := fun kk e => by have := (HR5.out.lt kk e).1; omega
      have HBN := Lib.hid hbx
      have HR5w : Hid (Row 1 w5 w.heap.size 5 v5 (bv us)) := Lib.hid (HR5.out.base (Nat.le_trans HX.out.size (Nat.le_trans (Nat.le_of_lt z4) z3)))
      obtain ⟨A5, c5, e5, -, -⟩ := HR5.out.form
      rw [bv_len] at e5
      subst e5
      have z5 : wr.heap.size < w5.heap.size := HB5.out.lt
      have Z5 := Lib.hid z5
      clear hus hbx z4 z3 z5 HR5
      have p1 : w5.cell? ⟨wr.heap.size, 1, none⟩ = some (.bool x.op) := HB5.out.cell (by decide)
      cases ho : x.op with
      | true =>
        as_aux_lemma =>
        have hxo := HXO.out.1 ho
        have HXS := Lib.hid hxo
        have HEB : Hid (encB x = putU x.nm.length ++ x.nm ++ 1 :: (x.sl ++ putU x.vl.length ++ x.vl)) := Lib.hid (by unfold encB; rw [if_pos ho])
        rw [ho] at p1
        clear ho hxo
        go_upto_region 7 with fail
        refine wp_region_noPanic ?_
        refine wp_region_held_drew (S := (fun _ : World => True)) (by kernel_rfl) ?_ (fun hHeld => ?_)
        · trivial
        refine wpAnyH_take (i := 0) (v := ?_) (oper_at rfl) (by kernel_rfl) (by kernel_rfl) (by kernel_rfl) (fun _ _ _ h => h) (Or.inl ⟨by rfl, ?_⟩) hHeld ?_
        rotate_left
        · (intro ww hSw; (try dsimp only at hSw); go_simp; try (with_reducible rfl))
        try simp only [Act.put, List.setIfInBounds_toArray, List.set_cons_zero, List.set_cons_succ]
        refine wpAnyH_take (i := 3) (v := ?_) (oper_at rfl) (by kernel_rfl) (by kernel_rfl) (by kernel_rfl) (fun _ _ _ h => h) (Or.inl ⟨by rfl, ?_⟩) hHeld ?_
        rotate_left
        · (intro ww hSw; (try dsimp only at hSw); go_simp; try (with_reducible rfl))
        try simp only [Act.put, List.setIfInBounds_toArray, List.set_cons_zero, List.set_cons_succ]
        refine wpAnyH_take (i := 4) (v := ?_) (oper_at rfl) (by kernel_rfl) (by kernel_rfl) (by kernel_rfl) (fun _ _ _ h => h) (Or.inl ⟨by rfl, ?_⟩) hHeld ?_
        rotate_left
        · (intro ww hSw; (try dsimp only at hSw); go_simp; try (with_reducible rfl))
        try simp only [Act.put, List.setIfInBounds_toArray, List.set_cons_zero, List.set_cons_succ]
        refine wpAnyH_ready (rs := [1]) (by kernel_rfl) (by simp) (AllReadyH.cons (oper_at rfl) (fun K hK => ?_) AllReadyH.nil)
        go_simp
        generalize hwa : World.alloc _ (.cells #[.int .u8 1] 5) = wa
        have hXa : Ext w5 wa := by (rw [← hwa]; exact Ext.alloc (by repeat (first | assumption | exact Ext.refl _ | apply Ext.alloc | apply Ext.drew | apply Ext.drewN)) _)
        have HVa : Hid (VsAt wa (some ⟨_, 0, none⟩) (bv [1]).flatten) := Lib.hid (by rw [← hwa]; exact vs1 _ _ _)
        clear hwa
        refine hK.out _ _ ?_ (fun hHeld => ?_)
        · trivial
        clear hK K
        try simp only [Act.put, List.setIfInBounds_toArray, List.set_cons_zero, List.set_cons_succ]
        refine wpAnyH_ready (rs := [2]) (by kernel_rfl) (by simp) (AllReadyH.cons (oper_at rfl) (fun K hK => ?_) AllReadyH.nil)
        refine sapp el38 (by rfl) (.tmp 25) (.tmp 26) (by rfl) (w5 := w) (vs := bv us) (us := bv [1]) (by rfl) (HX5.out.trans (by repeat (first | assumption | exact Ext.refl _ | apply Ext.alloc | apply Ext.drew | apply Ext.drewN))) (HR5w.out.ext (by repeat (first | assumption | exact Ext.refl _ | apply Ext.alloc | apply Ext.drew | apply Ext.drewN))) (by rfl) (by rfl) (bv_wide _) (HVa.out.ext (by repeat (first | assumption | exact Ext.refl _ | apply Ext.alloc | apply Ext.drew | apply Ext.drewN))) (bv_one _) (by have := HUL.out; rw [bv_len, bv_len]; simp; omega) (by have := HUL.out; rw [bv_len, bv_len]; simp; omega) ?_
        intro vb wb hrb hEb hgb hbb
        rw [← bv_app] at hrb
        have HRB := Lib.hid hrb
        have HBb : Hid (Bk wb wr.heap.size 51 (itF x.nm x.op x.cm (.slice A1 x.vl.length c1) x.sl)) := Lib.hid ((HB5.out.ext (by repeat (first | assumption | exact Ext.refl _ | apply Ext.alloc | apply Ext.drew | apply Ext.drewN))).kept (hgb.block _ (HB5.out.ext (by repeat (first | assumption | exact Ext.refl _ | apply Ext.alloc | apply Ext.drew | apply Ext.drewN))).lt fun e => Nat.lt_irrefl _ (HBN.out _ e.symm)))
        have HBN2 : Hid (∀ kk, vb.ownBlock = some kk → wr.heap.size < kk) := Lib.hid (fun kk e => by rcases hbb with h | h; exact HBN.out kk (h ▸ e); exact (Nat.lt_of_lt_of_le Z5.out (Nat.le_trans (Ext.size (a := w5) (by repeat (first | assumption | exact Ext.refl _ | apply Ext.alloc | apply Ext.drew | apply Ext.drewN))) (Nat.le_of_eq (Option.some.inj (h.symm.trans e))))))
        have HEb := Lib.hid hEb
        clear hrb hgb hbb hEb
        refine hK.out _ _ ?_ (fun hHeld => ?_)
        · trivial
        clear hK K
        try simp only [Act.put, List.setIfInBounds_toArray, List.set_cons_zero, List.set_cons_succ]
        refine wpAnyH_ready (rs := [5]) (by kernel_rfl) (by simp) (AllReadyH.cons (oper_at rfl) (fun K hK => ?_) AllReadyH.nil)
        refine sapp el38 (by rfl) (.tmp 27) (.tmp 29) (by rfl) (w5 := w) (vs := bv (us ++ [1])) (us := bv x.sl) (by rfl) (Ext.trans HEb.out (by repeat (first | assumption | exact Ext.refl _ | apply Ext.alloc | apply Ext.drew | apply Ext.drewN))) (HRB.out.ext (by repeat (first | assumption | exact Ext.refl _ | apply Ext.alloc | apply Ext.drew | apply Ext.drewN))) (by rfl) (by rw [bv_len]; exact HXS.out.1.symm) (bv_wide _) ((bytes_of_cells HXS.out.1 fun i hi => by rw [(HBb.out.ext (by repeat (first | assumption | exact Ext.refl _ | apply Ext.alloc | apply Ext.drew | apply Ext.drewN))).cell (by omega), itF_sl]).vs) (bv_one _) (by have := HUL.out; have := HXS.out.1; rw [bv_len, bv_len]; simp; omega) (by have := HUL.out; have := HXS.out.1; rw [bv_len, bv_len]; simp; omega) ?_
        intro vc wc hrc hEc hgc hbc
        rw [← bv_app] at hrc
        have HRC := Lib.hid hrc
        have HBc : Hid (Bk wc wr.heap.size 51 (itF x.nm x.op x.cm (.slice A1 x.vl.length c1) x.sl)) := Lib.hid ((HBb.out.ext (by repeat (first | assumption | exact Ext.refl _ | apply Ext.alloc | apply Ext.drew | apply Ext.drewN))).kept (hgc.block _ (HBb.out.ext (by repeat (first | assumption | exact Ext.refl _ | apply Ext.alloc | apply Ext.drew | apply Ext.drewN))).lt fun e => Nat.lt_irrefl _ (HBN2.out _ e.symm)))
        have HEc := Lib.hid hEc
        clear hrc hgc hbc hEc
        refine hK.out _ _ ?_ (fun hHeld => ?_)
        · trivial
        clear hK K
        try simp only [Act.put, List.setIfInBounds_toArray, List.set_cons_zero, List.set_cons_succ]
        refine wpAnyH_take (i := 6) (v := ?_) (oper_at rfl) (by kernel_rfl) (by kernel_rfl) (by kernel_rfl) (fun _ _ _ h => h) (Or.inl ⟨by rfl, ?_⟩) hHeld ?_
        rotate_left
        · (intro ww hSw; (try dsimp only at hSw); go_simp; try (with_reducible rfl))
        try simp only [Act.put, List.setIfInBounds_toArray, List.set_cons_zero, List.set_cons_succ]
        refine wpAnyH_done (by kernel_rfl) ?_ _
        refine NoPanic.normal ?_
        have p34 : wc.cell? ⟨wr.heap.size, 34, none⟩ = some (.slice A1 x.vl.length c1) := HBc.out.cell (by decide)
        clear hXa p1
        go_wp2_with (go_at_call 43; refine (putbytes43_any _ _ (us ++ [1] ++ x.sl) x.vl wc HRC.out.slB (HSV.out.ext HEc.out) (by have := HUL.out; have := HXS.out.1; simp; omega) (by have := HXN.out; omega)).mono ?_; rintro _ wd ⟨vd, rfl, hrd, hEd⟩; have HRD := Lib.hid hrd; have HEd := Lib.hid (HEc.out.trans hEd); clear hrd hEd)
        refine ⟨⟨k + 1, _, by omega, by go_num, rfl, ?_, HEd.out⟩, by simp [intOf]; omega⟩
        rw [HF.out, HEB.out]
        have e : zs ++ (putU x.nm.length ++ x.nm ++ 1 :: (x.sl ++ putU x.vl.length ++ x.vl)) = us ++ [1] ++ x.sl ++ putU x.vl.length ++ x.vl := by rw [← HUS.out]; simp
        rw [e]
        exact HRD.out.base HEc.out.size
      | false =>
        as_aux_lemma =>
        have hxo := HXO.out.2 ho
        have HXS := Lib.hid hxo
        have HEB : Hid (encB x = putU x.nm.length ++ x.nm ++ 0 :: x.cm) := Lib.hid (by unfold encB; rw [if_neg (by rw [ho]; decide)])
        rw [ho] at p1
        clear ho hxo
        go_upto_region 9 with fail
        refine wp_region_noPanic ?_
        refine wp_region_held_drew (S := (fun _ : World => True)) (by kernel_rfl) ?_ (fun hHeld => ?_)
        · trivial
        refine wpAnyH_take (i := 0) (v := ?_) (oper_at rfl) (by kernel_rfl) (by kernel_rfl) (by kernel_rfl) (fun _ _ _ h => h) (Or.inl ⟨by rfl, ?_⟩) hHeld ?_
        rotate_left
        · (intro ww hSw; (try dsimp only at hSw); go_simp; try (with_reducible rfl))
        try simp only [Act.put, List.setIfInBounds_toArray, List.set_cons_zero, List.set_cons_succ]
        refine wpAnyH_take (i := 3) (v := ?_) (oper_at rfl) (by kernel_rfl) (by kernel_rfl) (by kernel_rfl) (fun _ _ _ h => h) (Or.inl ⟨by rfl, ?_⟩) hHeld ?_
        rotate_left
        · (intro ww hSw; (try dsimp only at hSw); go_simp; try (with_reducible rfl))
        try simp only [Act.put, List.setIfInBounds_toArray, List.set_cons_zero, List.set_cons_succ]
        refine wpAnyH_take (i := 4) (v := ?_) (oper_at rfl) (by kernel_rfl) (by kernel_rfl) (by kernel_rfl) (fun _ _ _ h => h) (Or.inl ⟨by rfl, ?_⟩) hHeld ?_
        rotate_left
        · (intro ww hSw; (try dsimp only at hSw); go_simp; try (with_reducible rfl))
        try simp only [Act.put, List.setIfInBounds_toArray, List.set_cons_zero, List.set_cons_succ]
        refine wpAnyH_ready (rs := [1]) (by kernel_rfl) (by simp) (AllReadyH.cons (oper_at rfl) (fun K hK => ?_) AllReadyH.nil)
        go_simp
        generalize hwa : World.alloc _ (.cells #[.int .u8 0] 5) = wa
        have hXa : Ext w5 wa := by (rw [← hwa]; exact Ext.alloc (by repeat (first | assumption | exact Ext.refl _ | apply Ext.alloc | apply Ext.drew | apply Ext.drewN)) _)
        have HVa : Hid (VsAt wa (some ⟨_, 0, none⟩) (bv [0]).flatten) := Lib.hid (by rw [← hwa]; exact vs1 _ _ _)
        clear hwa
        refine hK.out _ _ ?_ (fun hHeld => ?_)
        · trivial
        clear hK K
        try simp only [Act.put, List.setIfInBounds_toArray, List.set_cons_zero, List.set_cons_succ]
        refine wpAnyH_ready (rs := [2]) (by kernel_rfl) (by simp) (AllReadyH.cons (oper_at rfl) (fun K hK => ?_) AllReadyH.nil)
        refine sapp el38 (by rfl) (.tmp 35) (.tmp 36) (by rfl) (w5 := w) (vs := bv us) (us := bv [0]) (by rfl) (HX5.out.trans (by repeat (first | assumption | exact Ext.refl _ | apply Ext.alloc | apply Ext.drew | apply Ext.drewN))) (HR5w.out.ext (by repeat (first | assumption | exact Ext.refl _ | apply Ext.alloc | apply Ext.drew | apply Ext.drewN))) (by rfl) (by rfl) (bv_wide _) (HVa.out.ext (by repeat (first | assumption | exact Ext.refl _ | apply Ext.alloc | apply Ext.drew | apply Ext.drewN))) (bv_one _) (by have := HUL.out; rw [bv_len, bv_len]; simp; omega) (by have := HUL.out; rw [bv_len, bv_len]; simp; omega) ?_
        intro vb wb hrb hEb hgb hbb
        rw [← bv_app] at hrb
        have HRB := Lib.hid hrb
        have HBb : Hid (Bk wb wr.heap.size 51 (itF x.nm x.op x.cm (.slice A1 x.vl.length c1) x.sl)) := Lib.hid ((HB5.out.ext (by repeat (first | assumption | exact Ext.refl _ | apply Ext.alloc | apply Ext.drew | apply Ext.drewN))).kept (hgb.block _ (HB5.out.ext (by repeat (first | assumption | exact Ext.refl _ | apply Ext.alloc | apply Ext.drew | apply Ext.drewN))).lt fun e => Nat.lt_irrefl _ (HBN.out _ e.symm)))
        have HBN2 : Hid (∀ kk, vb.ownBlock = some kk → wr.heap.size < kk) := Lib.hid (fun kk e => by rcases hbb with h | h; exact HBN.out kk (h ▸ e); exact (Nat.lt_of_lt_of_le Z5.out (Nat.le_trans (Ext.size (a := w5) (by repeat (first | assumption | exact Ext.refl _ | apply Ext.alloc | apply Ext.drew | apply Ext.drewN))) (Nat.le_of_eq (Option.some.inj (h.symm.trans e))))))
        have HEb := Lib.hid hEb
        clear hrb hgb hbb hEb
        refine hK.out _ _ ?_ (fun hHeld => ?_)
        · trivial
        clear hK K
        try simp only [Act.put, List.setIfInBounds_toArray, List.set_cons_zero, List.set_cons_succ]
        refine wpAnyH_ready (rs := [5]) (by kernel_rfl) (by simp) (AllReadyH.cons (oper_at rfl) (fun K hK => ?_) AllReadyH.nil)
        refine sapp el38 (by rfl) (.tmp 37) (.tmp 39) (by rfl) (w5 := w) (vs := bv (us ++ [0])) (us := bv x.cm) (by rfl) (Ext.trans HEb.out (by repeat (first | assumption | exact Ext.refl _ | apply Ext.alloc | apply Ext.drew | apply Ext.drewN))) (HRB.out.ext (by repeat (first | assumption | exact Ext.refl _ | apply Ext.alloc | apply Ext.drew | apply Ext.drewN))) (by rfl) (by rw [bv_len]; exact HXS.out.1.symm) (bv_wide _) ((bytes_of_cells HXS.out.1 fun i hi => by rw [(HBb.out.ext (by repeat (first | assumption | exact Ext.refl _ | apply Ext.alloc | apply Ext.drew | apply Ext.drewN))).cell (by omega), itF_cm hi]).vs) (bv_one _) (by have := HUL.out; have := HXS.out.1; rw [bv_len, bv_len]; simp; omega) (by have := HUL.out; have := HXS.out.1; rw [bv_len, bv_len]; simp; omega) ?_
        intro vc wc hrc hEc hgc hbc
        rw [← bv_app] at hrc
        have HRC := Lib.hid hrc
        have HBc : Hid (Bk wc wr.heap.size 51 (itF x.nm x.op x.cm (.slice A1 x.vl.length c1) x.sl)) := Lib.hid ((HBb.out.ext (by repeat (first | assumption | exact Ext.refl _ | apply Ext.alloc | apply Ext.drew | apply Ext.drewN))).kept (hgc.block _ (HBb.out.ext (by repeat (first | assumption | exact Ext.refl _ | apply Ext.alloc | apply Ext.drew | apply Ext.drewN))).lt fun e => Nat.lt_irrefl _ (HBN2.out _ e.symm)))
        have HEc := Lib.hid hEc
        clear hrc hgc hbc hEc
        refine hK.out _ _ ?_ (fun hHeld => ?_)
        · trivial
        clear hK K
        try simp only [Act.put, List.setIfInBounds_toArray, List.set_cons_zero, List.set_cons_succ]
        refine wpAnyH_take (i := 6) (v := ?_) (oper_at rfl) (by kernel_rfl) (by kernel_rfl) (by kernel_rfl) (fun _ _ _ h => h) (Or.inl ⟨by rfl, ?_⟩) hHeld ?_
        rotate_left
        · (intro ww hSw; (try dsimp only at hSw); go_simp; try (with_reducible rfl))
        try simp only [Act.put, List.setIfInBounds_toArray, List.set_cons_zero, List.set_cons_succ]
        refine wpAnyH_done (by kernel_rfl) ?_ _
        refine NoPanic.normal ?_
        clear hXa p1
        go_wp2_with fail
        refine ⟨⟨k + 1, _, by omega, by go_num, rfl, ?_, HEc.out⟩, by simp [intOf]; omega⟩
        rw [HF.out, HEB.out]
        have e : zs ++ (putU x.nm.length ++ x.nm ++ 0 :: x.cm) = us ++ [0] ++ x.cm := by rw [← HUS.out]; simp
        rw [e]
        exact HRC.out
    · obtain rfl : k = xs.length := by omega
      go_wp2_with fail
      go_ret
      exact ⟨_, rfl, by unfold encD; rw [HZ.out]; exact HRW.out, HX.out⟩
end Go.Proofs.YtjedhndhdkiidaaDoor
