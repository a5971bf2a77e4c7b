/- Disclose, with its items in a row of their own. -/
import Derived.Test.YtjedhndhdkiidaaDoorV30
namespace Go.Proofs.YtjedhndhdkiidaaDoor
open Go.RowKit
attribute [local go_sem ↓] Go.wp_at_zero Go.wp_at_succ
attribute [local go_sem] baSize baList
attribute [local go_sem ↓] ld75 ld48 ld73 st75 st48 al75 al48 bu75 bu48
attribute [local go_sem] run_al75 run_al48 run_bu48 run_bu75n run_bu75c run_bu75o run_st75n run_st48n
/-- A disclosure whose items are newly made, and an error number. -/
def RetDr (xs : List It) (er : Int) (w : World) (e : Ending) (w' : World) : Prop := ∃ (ps : List PI) (v : Value), e = .returned (.tuple #[dsV v, iV er]) ∧ Row 51 w' w.heap.size 75 v (ps.map encI) ∧ PsAt w' w.heap.size ps ∧ ps.map (·.1) = xs ∧ Ext w w'
set_option maxRecDepth 100000 in
set_option maxHeartbeats 4000000 in
theorem disclose12_row (fs : List Fd) (v : Value) (ss : List (List UInt8)) (t : Value) (w : World) (h : FsAt w v fs) (ht : SsAt w t ss) (hT : Tab w) : Calls Tryd.prog 12 #[v, t] w (RetDr (discF fs ss).1 (discF fs ss).2 w) := by
  have CK := Lib.hid (fun W (hW : Ext w W) => check28_ok fs v W (h.ext hW))
  have CA := Lib.hid (fun W (hW : Ext w W) (hd : DocOk fs) => all29_ok fs v W (h.ext hW) hd.le (fun f hf => ⟨(hd.each f hf).2.2, (hd.each f hf).2.1⟩))
  have CT := Lib.hid (fun W (hW : Ext w W) s => contains31_ok s ss t W (ht.ext hW))
  have HSS := Lib.hid ht
  have HT := Lib.hid hT
  obtain ⟨A, c, rfl, -, -, -⟩ := h.read
  obtain ⟨A', c', rfl, -, -, -⟩ := ht.read
  clear h ht hT
  go_enter Tryd.func12, Tryd.ntmps12
  go_upto_region 1 with fail
  generalize hwB : w.alloc (.cells #[.slice none 0 0] 32) = wB
  have HB0 : Hid (Bk wB w.heap.size 1 (fun _ => nilV)) := Lib.hid (by rw [← hwB]; exact Bk.new1 _ _ _)
  have HE0 : Hid (Ext w wB) := Lib.hid (by rw [← hwB]; exact (Ext.refl _).alloc _)
  have hz0 : w.heap.size + 1 ≤ wB.heap.size := by rw [← hwB]; simp
  clear hwB
  go_wp2_with fail
  refine (CK.out _ HE0.out).mono ?_
  rintro _ w1 ⟨rfl, hE1⟩
  have HE1 := Lib.hid (HE0.out.trans hE1)
  have HB1 := Lib.hid (HB0.out.ext hE1)
  have hz1 : w.heap.size + 1 ≤ w1.heap.size := Nat.le_trans hz0 hE1.size
  clear hE1 CK
  by_cases hc : chkF fs = 0
  · have hd := docOk_of hc
    have q1 : (chkF fs != 0) = false := by simp [hc]
    have HC := Lib.hid hc
    have HD := Lib.hid hd
    clear hc hd
    go_wp2_with fail
    clear q1
    refine (CA.out w1 HE1.out HD.out).mono ?_
    rintro _ w2 ⟨ps, v2, rfl, hr2, hp2, hpm, hnd, hE2⟩
    have HIT : Hid (ps.map (·.1) = docF fs) := Lib.hid (doc_unique HD.out.names hpm hnd)
    have HR2 := Lib.hid hr2
    have HP2 := Lib.hid hp2
    have HE2 := Lib.hid (HE1.out.trans hE2)
    have HE12 := Lib.hid hE2
    have HB2 := Lib.hid (HB1.out.ext hE2)
    have hz2 : w1.heap.size + 2 ≤ w2.heap.size ∨ True := .inr trivial
    have hs12 := hE2.size
    obtain ⟨Av, cv, hv, hv2, -⟩ := hr2.form
    have HPL : Hid (ps.length = fs.length) := Lib.hid (by rw [← docF_len, ← HIT.out, List.length_map])
    rw [List.length_map, HPL.out] at hv
    subst hv
    clear hr2 hp2 hpm hnd hE2 hv2 hz2
    go_upto_region 5 with fail
    generalize hw3 : w2.alloc (.cells #[.slice Av fs.length cv] 32) = w3
    have HB3 : Hid (Bk w3 w2.heap.size 1 (fun _ => .slice Av fs.length cv)) := Lib.hid (by rw [← hw3]; exact Bk.new1 _ _ _)
    have HE3 : Hid (Ext w2 w3) := Lib.hid (by rw [← hw3]; exact (Ext.refl _).alloc _)
    clear hw3
    have t3 := HB3.out.cell (k := 0) (by decide)
    go_wp2_with fail
    have HDS2 : Hid (DsAt w3 (.slice Av fs.length cv) (docF fs)) := Lib.hid (by
      have := DsAt.of_row HR2.out HP2.out
      rw [HIT.out] at this
      exact this.ext HE3.out)
    refine (has30_ok (docF fs) _ ss _ w3 HDS2.out (docF_asc HD.out.names) (by rw [docF_len]; have := HD.out.le; omega) (HSS.out.ext (HE2.out.trans HE3.out))).mono ?_
    rintro _ w4 ⟨rfl, hE4⟩
    have HE4 := Lib.hid (HE3.out.trans hE4)
    have HB4 := Lib.hid (HB3.out.ext hE4)
    have HBR := Lib.hid (HB2.out.ext (HE3.out.trans hE4))
    have hz4 : w2.heap.size + 1 ≤ w4.heap.size := by have := HB4.out.lt; omega
    clear hE4 t3 HB3 HE3
    by_cases ha : (ss.all fun s => decide (s ∈ (docF fs).map (·.nm))) = true
    · rw [ha]
      have HF : Hid ((discF fs ss).1 = (docF fs).map (keepF ss) ∧ (discF fs ss).2 = 0) := Lib.hid (by unfold discF; rw [if_neg (by simpa using HC.out), if_pos ha]; exact ⟨rfl, rfl⟩)
      clear ha
      have t4 := HB4.out.cell (k := 0) (by decide)
      go_wp2_with fail
      clear t4
      go_loopw [26] (fun i wr => ∃ (k : Nat) (qs : List PI), k ≤ fs.length ∧ i = iV (k : Int) ∧ qs.length = fs.length ∧ (∀ j, j < fs.length → (qs.getD j (It0, none, 0)).1 = if j < k then keepF ss ((docF fs).getD j It0) else (docF fs).getD j It0) ∧ Row 51 wr (w1.heap.size + 2) 75 (.slice Av fs.length cv) (qs.map encI) ∧ PsAt wr (w1.heap.size + 2) qs ∧ Bk wr w.heap.size 1 (fun _ => nilV) ∧ Bk wr w2.heap.size 1 (fun _ => .slice Av fs.length cv) ∧ Ext w1 wr ∧ w2.heap.size + 1 ≤ wr.heap.size) (fun i _ => fs.length - (intOf i).toNat)
      case atStart => exact ⟨0, ps, by omega, rfl, HPL.out, fun j hj => by
        rw [if_neg (by omega), ← HIT.out, List.getD_eq_getElem?_getD, List.getD_eq_getElem?_getD, List.getElem?_map, List.getElem?_eq_getElem (by rw [HPL.out]; exact hj)]
        rfl, HR2.out.ext HE4.out, HP2.out.ext HE4.out, HBR.out, HB4.out, HE12.out.trans HE4.out, hz4⟩
      case round =>
        obtain ⟨k, qs, hk, rfl, hql, hqe, hr, hpa, hb0, hb1, hX, hz5⟩ := hrel
        have HQL := Lib.hid hql
        have HQE := Lib.hid hqe
        have HRW := Lib.hid hr
        have HPA := Lib.hid hpa
        have HB0 := Lib.hid hb0
        have HB1 := Lib.hid hb1
        have HX := Lib.hid hX
        clear hql hqe hr hpa hb0 hb1 hX HB4 HBR HB2
        by_cases hlt : k < fs.length
        · have q1 : (k : Int) < (fs.length : Int) := by omega
          have q0 : (0 : Int) ≤ (k : Int) := by omega
          have q2 : (k : Int) ≤ 64 := by have := HD.out.le; omega
          obtain ⟨Ar, cr, er, hrd⟩ := items_read HRW.out
          obtain ⟨b, hb, hbo, hBb, hbl, hty, hcell, hfz⟩ := hrd k (by rw [HQL.out]; exact hlt)
          obtain ⟨q, hq⟩ : ∃ q, qs.getD k (It0, none, 0) = q := ⟨_, rfl⟩
          rw [hq] at hcell
          have hqm : q ∈ qs := by rw [← hq]; exact mem_getD (by rw [HQL.out]; exact hlt)
          have HQK : Hid (q.1 = (docF fs).getD k It0) := Lib.hid (by
            have := HQE.out k hlt
            rw [hq, if_neg (by omega)] at this
            exact this)
          have HQO : Hid (ItOk q.1) := Lib.hid (by rw [HQK.out]; exact docF_ok HD.out _ (mem_getD (by rw [docF_len]; exact hlt)))
          have HQS : Hid (SlB wr (.slice q.2.1 q.1.vl.length q.2.2) q.1.vl) := Lib.hid (HPA.out q hqm).sl
          obtain rfl : Av = some ⟨b, 0, none⟩ := by
            have e1 : (Value.slice Av fs.length cv) = .slice (some ⟨b, 0, none⟩) qs.length cr := by rw [er, hb]
            simpa using (Value.slice.inj e1).1
          have l1 := run_ld75 hcell
          have HBB := Lib.hid (And.intro hbo (And.intro hBb (And.intro hbl hty)))
          have HCL := Lib.hid hcell
          have HFZ := Lib.hid hfz
          clear hq hqm hrd hb hbo hBb hbl hty hcell hfz er
          go_upto_region 10 with fail
          clear l1
          generalize hw5 : wr.alloc (.cells (itA q.1.nm q.1.op q.1.cm (.slice q.2.1 q.1.vl.length q.2.2) q.1.sl) 75) = w5
          have HBX : Hid (Bk w5 wr.heap.size 51 (itF q.1.nm q.1.op q.1.cm (.slice q.2.1 q.1.vl.length q.2.2) q.1.sl)) := Lib.hid (by rw [← hw5]; exact Bk.new (by decide))
          have HE5 : Hid (Ext wr w5) := Lib.hid (by rw [← hw5]; exact (Ext.refl _).alloc _)
          clear hw5
          have t0 : w5.cell? ⟨wr.heap.size, 0, none⟩ = some (sV q.1.nm) := HBX.out.cell (by decide)
          go_wp2_with fail
          refine (CT.out w5 (HE1.out.trans (HX.out.trans HE5.out)) q.1.nm).mono ?_
          rintro _ _ ⟨rfl, rfl⟩
          by_cases hm : q.1.nm ∈ ss
          · have hdm : decide (q.1.nm ∈ ss) = true := by simp [hm]
            have HKP : Hid (keepF ss q.1 = q.1) := Lib.hid (by unfold keepF; rw [if_pos hm])
            rw [hdm]
            clear hm hdm
            as_aux_lemma =>
            go_wp2_with fail
            refine ⟨⟨k + 1, qs, by omega, by go_num, HQL.out, fun j hj => ?_, HRW.out.ext HE5.out, HPA.out.ext HE5.out, HB0.out.ext HE5.out, HB1.out.ext HE5.out, HX.out.trans HE5.out, Nat.le_trans hz5 HE5.out.size⟩, by simp [intOf]; omega⟩
            rw [HQE.out j hj]
            by_cases hjk : j < k
            · rw [if_pos hjk, if_pos (by omega)]
            · rw [if_neg hjk]
              by_cases hjk2 : j = k
              · subst hjk2
                rw [if_pos (by omega), ← HQK.out, HKP.out]
              · rw [if_neg (by omega)]
          · have hdm : decide (q.1.nm ∈ ss) = false := by simp [hm]
            have HKP : Hid (keepF ss q.1 = cloF q.1) := Lib.hid (by unfold keepF; rw [if_neg hm])
            rw [hdm]
            clear hm hdm
            go_upto_region 11 with fail
            have p1 : w5.cell? ⟨w2.heap.size, 0, none⟩ = some (.slice (some ⟨b, 0, none⟩) fs.length cv) := (HB1.out.ext HE5.out).cell (by decide)
            clear t0
            have KB : Hid (∀ W, Ext w5 W → (fun w' => Ext w5 w' ∧ w'.cell? ⟨w2.heap.size, 0, none⟩ = some (.slice (some ⟨b, 0, none⟩) fs.length cv) ∧ (ldS 75 (.pointer (some ⟨wr.heap.size, 0, none⟩))).run Tryd.prog w' = .ok (.agg (itA q.1.nm q.1.op q.1.cm (.slice q.2.1 q.1.vl.length q.2.2) q.1.sl)) w') W) := Lib.hid (fun W h => ⟨h, h.cell p1, (HBX.out.ext h).run_ld75⟩)
            refine wp_region_noPanic ?_
            refine wp_region_X (S := (fun w' => Ext w5 w' ∧ w'.cell? ⟨w2.heap.size, 0, none⟩ = some (.slice (some ⟨b, 0, none⟩) fs.length cv) ∧ (ldS 75 (.pointer (some ⟨wr.heap.size, 0, none⟩))).run Tryd.prog w' = .ok (.agg (itA q.1.nm q.1.op q.1.cm (.slice q.2.1 q.1.vl.length q.2.2) q.1.sl)) w')) (z := 6) (by kernel_rfl) ?_ (fun hHeld => ?_)
            · first | assumption | exact KB.out _ (by repeat (first | assumption | exact Ext.refl _ | apply Ext.alloc | apply Ext.drew | apply Ext.drewN))
            refine wpAnyX_take (i := 0) (v := ?_) (oper_at rfl) (by kernel_rfl) (by kernel_rfl) (by kernel_rfl) (by kernel_rfl) (fun _ _ _ h => h) (Or.inl ⟨by rfl, ?_⟩) hHeld ?_
            rotate_left
            · (intro ww hSw; (try dsimp only at hSw); go_simp; try (with_reducible rfl))
            try simp only [Act.put, List.setIfInBounds_toArray, List.set_cons_zero, List.set_cons_succ]
            refine wpAnyX_take (i := 1) (v := ?_) (oper_at rfl) (by kernel_rfl) (by kernel_rfl) (by kernel_rfl) (by kernel_rfl) (fun _ _ _ h => h) (Or.inl ⟨by rfl, ?_⟩) hHeld ?_
            rotate_left
            · (intro ww hSw; (try dsimp only at hSw); go_simp; try (with_reducible rfl))
            try simp only [Act.put, List.setIfInBounds_toArray, List.set_cons_zero, List.set_cons_succ]
            refine wpAnyX_take (i := 2) (v := ?_) (oper_at rfl) (by kernel_rfl) (by kernel_rfl) (by kernel_rfl) (by kernel_rfl) (fun _ _ _ h => h) (Or.inl ⟨by rfl, ?_⟩) hHeld ?_
            rotate_left
            · (intro ww hSw; (try dsimp only at hSw); go_simp; try (with_reducible rfl))
            try simp only [Act.put, List.setIfInBounds_toArray, List.set_cons_zero, List.set_cons_succ]
            refine wpAnyX_take (i := 3) (v := ?_) (oper_at rfl) (by kernel_rfl) (by kernel_rfl) (by kernel_rfl) (by kernel_rfl) (fun _ _ _ h => h) (Or.inl ⟨by rfl, ?_⟩) hHeld ?_
            rotate_left
            · (intro ww hSw; (try dsimp only at hSw); go_simp; try (with_reducible rfl))
            try simp only [Act.put, List.setIfInBounds_toArray, List.set_cons_zero, List.set_cons_succ]
            refine wpAnyX_ready (rs := [4]) (by kernel_rfl) (by simp) (AllReadyX.cons (by decide) (oper_at rfl) (fun K hK => ?_) AllReadyX.nil)
            go_simp
            go_at_call 32
            refine (closed32_ok q.1 _ _ (HQS.out.ext (HE5.out.trans (by repeat (first | assumption | exact Ext.refl _ | apply Ext.alloc | apply Ext.drew | apply Ext.drewN)))) (HT.out.ext (HE1.out.trans (HX.out.trans (HE5.out.trans (by repeat (first | assumption | exact Ext.refl _ | apply Ext.alloc | apply Ext.drew | apply Ext.drewN)))))) HQO.out).mono ?_
            rintro _ w6 ⟨rfl, hE6⟩
            have hX6 : Ext w5 w6 := Ext.trans (by repeat (first | assumption | exact Ext.refl _ | apply Ext.alloc | apply Ext.drew | apply Ext.drewN)) hE6
            have l2 := run_st75at (fun i hi => (HE5.out.trans hX6).cell (HCL.out i hi)) (fun i => by have h1 := Below.frozen (HE5.out.trans hX6) (p := ⟨b, i, none⟩) HBB.out.2.2.1; rw [h1]; exact HFZ.out i) (cloF q.1).nm (cloF q.1).op (cloF q.1).cm none 0 0 (cloF q.1).sl
            clear hE6
            try go_wp2_with fail
            refine hK.out _ _ ?_ (fun hHeld => ?_)
            · first | assumption | exact KB.out _ (by repeat (first | assumption | exact Ext.refl _ | apply Ext.alloc | apply Ext.drew | apply Ext.drewN))
            clear hK K
            try simp only [Act.put, List.setIfInBounds_toArray, List.set_cons_zero, List.set_cons_succ]
            refine wpAnyX_ready (rs := [5]) (by kernel_rfl) (by simp) (AllReadyX.cons (by decide) (oper_at rfl) (fun K hK => ?_) AllReadyX.nil)
            go_simp
            refine hK.out _ _ ?_ (fun hHeld => ?_)
            · first | assumption | exact KB.out _ (by repeat (first | assumption | exact Ext.refl _ | apply Ext.alloc | apply Ext.drew | apply Ext.drewN))
            clear hK K
            try simp only [Act.put, List.setIfInBounds_toArray, List.set_cons_zero, List.set_cons_succ]
            refine wpAnyX_ready (rs := [6]) (by kernel_rfl) (by simp) (AllReadyX.last rfl (oper_at rfl) (fun K hK => ?_))
            go_simp
            refine hK.out _ _ ?_
            clear hK K
            try simp only [Act.put, List.setIfInBounds_toArray, List.set_cons_zero, List.set_cons_succ]
            refine wpAnyX_done (by kernel_rfl) ?_ _
            refine NoPanic.normal ?_
            as_aux_lemma =>
            go_wp2_with fail
            have hbz := (HR2.out.lt b HBB.out.1).2
            have hfar : ∀ x, x ≠ b → (w6.setCells b (k * 51) (encI (cloP q))).heap[x]? = w6.heap[x]? := fun x hx => setCells_far hx _ _ _
            have hX0 := HE5.out.trans hX6
            refine ⟨⟨k + 1, qs.set k (cloP q), by omega, by go_num, by rw [List.length_set]; exact HQL.out, fun j hj => ?_, ?_, fun p hp => ?_, (HB0.out.ext hX0).kept (hfar _ (by have := HBB.out.2.1; omega)), (HB1.out.ext hX0).kept (hfar _ (by omega)), Ext.setCells (by have := HBB.out.2.1; omega) _ _ (HX.out.trans hX0), Nat.le_trans hz5 (Nat.le_trans hX0.size (Nat.le_of_eq (size_setCells _ _ _ _).symm))⟩, by simp [intOf]; omega⟩
            · rw [getD_set (by rw [HQL.out]; exact hlt)]
              by_cases hjk2 : j = k
              · subst hjk2
                rw [if_pos rfl, if_pos (by omega), ← HQK.out, HKP.out]
                rfl
              · rw [if_neg hjk2, HQE.out j hj]
                by_cases hjk : j < k
                · rw [if_pos hjk, if_pos (by omega)]
                · rw [if_neg hjk, if_neg (by omega)]
            · have := Row.put (by decide) (HRW.out.ext hX0) HBB.out.1 (j := k) (x := encI (cloP q)) (by rw [List.length_map, HQL.out]; exact hlt) (encI_len _)
              rw [← map_set] at this
              exact this
            · rcases List.mem_or_eq_of_mem_set hp with h5 | h5
              · exact ((HPA.out p h5).ext hX0).kept fun x _ ht => hfar x (ht.ne (HBB.out.2.2.2.kept (hX0.block _ HBB.out.2.2.1)) (by decide))
              · subst h5
                exact SlN.nil _ _
        · as_aux_lemma =>
          obtain rfl : k = fs.length := by omega
          have c5 := HB1.out.cell (k := 0) (by decide)
          have c0 := HB0.out.cell (k := 0) (by decide)
          have f0 := HB0.out.frozen 0
          go_wp2_with fail
          refine bodyPost_ret (res32t Tryd.results12 (HB0.out.set 0 (.slice Av fs.length cv)) (.slice Av fs.length cv) rfl rfl rfl) rfl ?_
          have hfar : ∀ x, x ≠ w.heap.size → (wr.setCell ⟨w.heap.size, 0, none⟩ (.slice Av fs.length cv)).heap[x]? = wr.heap[x]? := fun x hx => Below.heap_setCell wr _ _ x hx
          have hrow := HRW.out.kept (w' := wr.setCell ⟨w.heap.size, 0, none⟩ (.slice Av fs.length cv)) (fun kk e => hfar kk (by have := (HRW.out.lt kk e).1; omega))
          have hps : PsAt (wr.setCell ⟨w.heap.size, 0, none⟩ (.slice Av fs.length cv)) (w1.heap.size + 2) qs := fun p hp => (HPA.out p hp).kept fun x hx _ => hfar x (by omega)
          have hits : qs.map (·.1) = (docF fs).map (keepF ss) := by
            apply List.ext_getElem?
            intro j
            by_cases hj : j < fs.length
            · have h1 := HQE.out j hj
              rw [if_pos hj, List.getD_eq_getElem?_getD, List.getElem?_eq_getElem (by rw [HQL.out]; exact hj), List.getD_eq_getElem?_getD, List.getElem?_eq_getElem (by rw [docF_len]; exact hj)] at h1
              rw [List.getElem?_map, List.getElem?_map, List.getElem?_eq_getElem (by rw [HQL.out]; exact hj), List.getElem?_eq_getElem (by rw [docF_len]; exact hj)]
              exact congrArg some h1
            · rw [List.getElem?_eq_none (by rw [List.length_map, HQL.out]; omega), List.getElem?_eq_none (by rw [List.length_map, docF_len]; omega)]
          rw [HF.out.1, HF.out.2, ← hits]
          exact ⟨qs, _, rfl, hrow.base (by have := HE1.out.size; omega), fun p hp => (hps p hp).base (by have := HE1.out.size; omega), rfl, (HE1.out.trans HX.out).set (Nat.le_refl _) _⟩
    · have ha' : (ss.all fun s => decide (s ∈ (docF fs).map (·.nm))) = false := by simpa using ha
      rw [ha']
      have HF : Hid ((discF fs ss).1 = [] ∧ (discF fs ss).2 = 4) := Lib.hid (by unfold discF; rw [if_neg (by simpa using HC.out), if_neg ha]; exact ⟨rfl, rfl⟩)
      have c0 := HBR.out.cell (k := 0) (by decide)
      have f0 := HBR.out.frozen 0
      clear ha ha'
      as_aux_lemma =>
      go_wp2_with fail
      refine bodyPost_ret (res32t Tryd.results12 (HBR.out.set 0 nilV) nilV rfl rfl rfl) rfl ?_
      rw [HF.out.1, HF.out.2]
      exact ⟨[], nilV, rfl, Row.nil _ _ _ _, fun p hp => by (cases hp), rfl, (HE2.out.trans HE4.out).set (Nat.le_refl _) _⟩
  · have q1 : (chkF fs != 0) = true := by simp [hc]
    have HF : Hid ((discF fs ss).1 = [] ∧ (discF fs ss).2 = chkF fs) := Lib.hid (by unfold discF; rw [if_pos hc]; exact ⟨rfl, rfl⟩)
    have c0 := HB1.out.cell (k := 0) (by decide)
    have f0 := HB1.out.frozen 0
    clear hc
    as_aux_lemma =>
    go_wp2_with fail
    refine bodyPost_ret (res32t Tryd.results12 (HB1.out.set 0 nilV) nilV rfl rfl rfl) rfl ?_
    rw [HF.out.1, HF.out.2]
    exact ⟨[], nilV, rfl, Row.nil _ _ _ _, fun p hp => by (cases hp), rfl, HE1.out.set (Nat.le_refl _) _⟩
end Go.Proofs.YtjedhndhdkiidaaDoor
