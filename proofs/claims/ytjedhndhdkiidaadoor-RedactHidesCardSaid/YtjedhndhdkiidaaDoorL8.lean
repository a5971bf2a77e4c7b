/- The walk over RedactHides. -/
import Derived.Test.YtjedhndhdkiidaaDoorH3
namespace Go.Proofs.YtjedhndhdkiidaaDoor
open Go.RowKit
attribute [local go_sem ↓] Go.wp_at_zero Go.wp_at_succ
attribute [local go_sem] baSize baList
attribute [local go_sem ↓] ld75 ld48 ld73 st75 st48 al75 al48 bu75 bu48
attribute [local go_sem] run_al75 run_al48 run_bu48 run_bu75n run_bu75c run_bu75o run_st75n run_st48n run_sl48o
set_option maxRecDepth 100000 in
set_option maxHeartbeats 1000000 in
theorem hides_law (rs : List Rw) (v : Value) (b : Nat) (w : World) (h : RsAt w v rs) (hb : b < 65536) (hT : Tab w) : Calls Tryd.prog 8 #[v, .int .u16 (b : Int)] w (RetB true w) := by
  have CV := Lib.hid (valid10_ok rs v w h)
  have HT := Lib.hid hT
  have HB := Lib.hid hb
  obtain ⟨fs, hfs⟩ : ∃ fs, vfF rs = fs := ⟨_, rfl⟩
  have HOK : Hid (DocOk fs) := Lib.hid (by rw [← hfs]; exact vf_ok rs)
  rw [hfs] at CV
  obtain ⟨A, c, rfl, -, -, -⟩ := h.read
  clear hfs h hT hb
  go_enter Tryd.func8, Tryd.ntmps8
  go_wp2_with fail
  refine CV.out.mono ?_
  rintro _ w1 ⟨v1, v2, rfl, hf1, hf2, hE1⟩
  have HF1 := Lib.hid hf1
  have HF2 := Lib.hid hf2
  have HE1 := Lib.hid hE1
  obtain ⟨A1, c1, rfl, -, -, -⟩ := hf1.read
  obtain ⟨A2, c2, rfl, -, -, -⟩ := hf2.read
  obtain ⟨nn, hnn⟩ : ∃ nn, nmK fs b fs.length = nn := ⟨_, rfl⟩
  obtain ⟨dd, hdd⟩ : ∃ dd, (docF fs).map (keepF nn) = dd := ⟨_, rfl⟩
  obtain ⟨ys, hys⟩ : ∃ ys, srtF fs = ys := ⟨_, rfl⟩
  obtain ⟨cs, hcs⟩ : ∃ cs, ys.map comD = cs := ⟨_, rfl⟩
  have hle : fs.length ≤ 64 := HOK.out.le
  have hyl : ys.length = fs.length := by rw [← hys, srtF_len]
  have hcl : cs.length = ys.length := by rw [← hcs, List.length_map]
  have hdl : dd.length = fs.length := by rw [← hdd, List.length_map, docF_len]
  have HYL := Lib.hid hyl
  have HCL := Lib.hid hcl
  have HLE := Lib.hid hle
  have HC32 : Hid (∀ d ∈ cs, d.length = 32) := Lib.hid (fun d hd => by rw [← hcs] at hd; obtain ⟨f, -, rfl⟩ := List.mem_map.1 hd; exact comD_len f)
  have HYM : Hid (∀ f ∈ ys, f ∈ fs) := Lib.hid (fun f hf => by rw [← hys] at hf; exact (srtF_perm fs).mem_iff.1 hf)
  have HBY : Hid (encD dd = refK (ys.map (blF nn)) cs nn ys.length) := Lib.hid (by rw [← hdd, ← srtF_doc HOK.out.names, hys, ← hcs]; exact encD_ref nn ys)
  have HDL : Hid (dd.length ≤ 100) := Lib.hid (by omega)
  have HDK : Hid (∀ x ∈ dd, ItOk x) := Lib.hid (fun x hx => by rw [← hdd] at hx; obtain ⟨y, hy, rfl⟩ := List.mem_map.1 hx; exact keepF_ok (docF_ok HOK.out y hy))
  have HDN : Hid (∀ x ∈ dd, x.nm.length ≤ 1000 ∧ x.vl.length ≤ 4000) := Lib.hid (fun x hx => by
    rw [← hdd] at hx
    obtain ⟨y, hy, rfl⟩ := List.mem_map.1 hx
    refine ⟨by rw [keepF_nm]; exact docF_nm HOK.out y hy, ?_⟩
    obtain ⟨f, hf, rfl⟩ := List.mem_map.1 ((docF_perm fs).mem_iff.1 hy)
    have := (HOK.out.each f hf).2.1
    unfold keepF
    split
    · exact this
    · show (0 : Nat) ≤ 4000
      omega)
  have C20 : Hid (Calls Tryd.prog 20 #[.slice A2 fs.length c2] w1 (fun e w' => ∃ D va, e = .returned (.tuple #[idV D, va]) ∧ SlAt 32 w' va (cs.map idC) ∧ Ext w1 w')) := Lib.hid (by
    have hd := HOK.out
    refine (root20_ok fs _ w1 HF2.out (by have := hd.le; omega) hd.pos (fun f hf => by have := hd.each f hf; have h2 := okN_len this.1; exact ⟨by omega, by omega, by omega⟩) (HT.out.ext HE1.out)).mono ?_
    rintro e w' ⟨va, rfl, h2, h3⟩
    rw [hys, hcs] at h2
    exact ⟨_, va, rfl, h2, h3⟩)
  have C11 : Hid (∀ W, Ext w1 W → Calls Tryd.prog 11 #[.slice A1 fs.length c1, .int .u16 (b : Int)] W (RetSs nn W)) := Lib.hid (fun W hW => by rw [← hnn]; exact names11_ok fs _ b W (HF1.out.ext hW) HB.out (by omega))
  have C12 : Hid (∀ W T, Ext w1 W → SsAt W T nn → Calls Tryd.prog 12 #[.slice A1 fs.length c1, T] W (RetD dd 0 W)) := Lib.hid (fun W T hW ht => by
    have := disclose12_ok fs _ nn T W (HF1.out.ext hW) ht (HT.out.ext (HE1.out.trans hW))
    rw [discF_ok HOK.out (by rw [← hnn]; exact nmK_sub (Nat.le_refl _)), hdd] at this
    exact this)
  have C22 : Hid (∀ W, Ext w1 W → Calls Tryd.prog 22 #[.slice A2 fs.length c2] W (RetSr ys W)) := Lib.hid (fun W hW => by rw [← hys]; exact sorted22_ok fs _ W (HF2.out.ext hW) (by omega))
  have C13 : Hid (∀ W, Ext w1 W → Calls Tryd.prog 13 #[] W (RetB true W)) := Lib.hid (fun W hW => awake13_ok W (HT.out.ext (HE1.out.trans hW)))
  clear hf1 hf2 hE1 hnn hdd hcs hys hle hyl hdl hcl CV
  go_upto_region 3 with (go_at_call 20; refine C20.out.mono ?_; rintro _ w2 ⟨D, va, rfl, hva, hE2⟩; have HVA := Lib.hid hva; have HE2 := Lib.hid hE2; clear hva hE2)
  generalize hw3 : w2.alloc _ = w3
  have HE23 : Hid (Ext w2 w3) := Lib.hid (by rw [← hw3]; exact (Ext.refl _).alloc _)
  clear hw3 C20
  have HE3 := Lib.hid (HE2.out.trans HE23.out)
  obtain ⟨Aa, ca, rfl, hrid⟩ := ids_at (HVA.out.ext HE23.out)
  have HRID := Lib.hid hrid
  clear hrid
  go_wp2_with fail
  go_loopw [9, 29] (fun t i wr => ∃ (k : Nat) (qs : List QC) (v : Value), k ≤ cs.length ∧ i = iV (k : Int) ∧ t = v ∧ qs.length = k ∧ Row 1 wr w3.heap.size 38 v (qs.map encC) ∧ QsAt wr w3.heap.size qs cs ∧ Ext w3 wr) (fun _ i _ => cs.length - (intOf i).toNat)
  case atStart => exact ⟨0, [], nilV, by omega, rfl, rfl, rfl, Row.nil _ _ _ _, (fun j hj => by simp at hj), Ext.refl _⟩
  case round =>
    obtain ⟨k, qs, v, hk, rfl, rfl, hql, hr, hq, hX⟩ := hrel
    have HQL := Lib.hid hql
    have HRW := Lib.hid hr
    have HQ := Lib.hid hq
    have HX := Lib.hid hX
    obtain ⟨Av, cv, hv, -, -⟩ := hr.form
    rw [List.length_map, hql] at hv
    subst hv
    clear hql hr hq hX
    by_cases hlt : k < cs.length
    · have q1 : (k : Int) < (cs.length : Int) := by omega
      have q0 : (0 : Int) ≤ (k : Int) := by omega
      have q2 : (k : Int) < 200 := by have := HCL.out; have := HYL.out; have := HLE.out; omega
      obtain ⟨bb, o, rfl, hld⟩ := HRID.out k hlt
      obtain ⟨d, hd⟩ : ∃ d, cs.getD k [] = d := ⟨_, rfl⟩
      rw [hd] at hld
      have hd32 : d.length = 32 := by rw [← hd]; exact HC32.out _ (mem_getD hlt)
      have HD32 := Lib.hid hd32
      have HD := Lib.hid hd
      have l1 := hld wr HX.out
      clear hd hld hd32
      go_upto_region 7 with fail
      clear l1
      generalize hw4 : World.alloc _ _ = w4
      have HB4 : Hid (Bk w4 wr.heap.size 32 (idF d)) := Lib.hid (by rw [← hw4]; exact Bk.new (by decide))
      have HE4 : Hid (Ext wr w4) := Lib.hid (by rw [← hw4]; exact (Ext.refl _).alloc _)
      clear hw4
      have HX4 := Lib.hid (HX.out.trans HE4.out)
      go_wp2_with (first
        | (at_builtin; (refine wapp el38 rfl (.tmp 34) (.tmp 35) rfl (w5 := w4) (vs := []) (us := bv d) rfl ((Ext.refl _).alloc _) (row_new (Nat.le_refl _) (Wide.nil 1) rfl (by simp)) rfl (by rw [bv_len]; exact HD32.out.symm) (bv_wide _) (((HB4.out.bytes HD32.out).vs).ext ((Ext.refl _).alloc _)) (bv_one _) (by rw [bv_len, HD32.out]; simp) (by rw [bv_len, HD32.out]; simp) ?_; intro v5 w5 hr5 hE5 hg5 hb5; rw [List.nil_append] at hr5; obtain ⟨A5, c5, e5, k5, k6, k7, k8⟩ := hr5.bytes; rw [HD32.out] at e5; subst e5; have HS5 : Hid (SlN w5 w3.heap.size (.slice A5 d.length c5) d) := Lib.hid ⟨A5, c5, rfl, k6, k7, k5, fun ad ha => ⟨Nat.le_trans HX4.out.size (k8 ad ha).1, hr5.ty _ (by rw [ha]; rfl)⟩⟩; have HE5 := Lib.hid hE5; clear hr5 hE5 hg5 hb5 k5 k6 k7 k8))
        | (at_builtin; (refine wapp el62 rfl (.tmp 33) (.tmp 37) rfl (w5 := w3) (vs := qs.map encC) (us := [encC (A5, c5)]) rfl ((HX4.out.trans HE5.out).alloc _) (HRW.out.ext ((HE4.out.trans HE5.out).alloc _)) rfl rfl (Wide.one rfl) (vs1 _ _ _) (encC_one [(A5, c5)]) (by have := HQL.out; rw [List.length_map]; simp; omega) (by have := HQL.out; rw [List.length_map]; simp; omega) ?_; intro v6 w6 hr6 hE6 hg6 hb6; rw [← List.map_singleton (f := encC), ← List.map_append] at hr6; have HR6 := Lib.hid hr6; have HE6 := Lib.hid hE6; have HG6 := Lib.hid hg6; clear hr6 hE6 hg6 hb6)))
      have hqs : QsAt w5 w3.heap.size (qs ++ [(A5, c5)]) cs := fun j hj => by
        rcases Nat.lt_or_ge j qs.length with h | h
        · have := (HQ.out j h).ext (HE4.out.trans HE5.out)
          rw [List.getD_eq_getElem?_getD, List.getElem?_append_left h, ← List.getD_eq_getElem?_getD]
          exact this
        · have e : j = k := by have := HQL.out; simp at hj; omega
          subst e
          rw [List.getD_eq_getElem?_getD, List.getElem?_append_right h, HQL.out, Nat.sub_self]
          rw [HD.out]
          exact HS5.out
      exact ⟨⟨k + 1, qs ++ [(A5, c5)], _, by omega, by go_num, rfl, by have := HQL.out; simp; omega, HR6.out, (hqs.ext ((Ext.refl _).alloc _)).grown (HRW.out.ext ((HE4.out.trans HE5.out).alloc _)) (by decide) HG6.out, HE6.out⟩, by simp [intOf]; omega⟩
    · obtain rfl : k = cs.length := by omega
      obtain ⟨w7, rfl⟩ : ∃ w7, w7 = wr := ⟨_, rfl⟩
      have HCS : Hid (CsAt w7 (.slice Av cs.length cv) cs) := Lib.hid (HQ.out.cs HRW.out HQL.out HC32.out)
      have HX7 := Lib.hid (HE3.out.trans HX.out)
      clear HRW HQ HQL HX
      go_wp2_with fail
      refine (C22.out _ HX7.out).mono ?_
      rintro _ w9 ⟨vy, rfl, hfy, hE9⟩
      have HX9 := Lib.hid (HX7.out.trans hE9)
      have HX79 := Lib.hid hE9
      obtain ⟨Ay, cy, rfl, -, -, hry⟩ := hfy.read
      have HRY := Lib.hid hry
      clear hfy hE9 hry C22
      go_wp2_with fail
      go_loopw [12, 43] (fun t i wr => ∃ (k : Nat) (ps : List PF) (v : Value), k ≤ ys.length ∧ i = iV (k : Int) ∧ t = v ∧ ps.map (·.1) = (ys.take k).map (blF nn) ∧ ps.length = k ∧ Row 3 wr w9.heap.size 58 v (ps.map encF) ∧ FpAt w9 ps ∧ Ext w9 wr) (fun _ i _ => ys.length - (intOf i).toNat)
      case atStart => exact ⟨0, [], nilV, by omega, rfl, rfl, rfl, rfl, Row.nil _ _ _ _, (fun p hp => by cases hp), Ext.refl _⟩
      case round =>
        obtain ⟨k, ps, v', hk, rfl, rfl, hp, hpl, hr, hfp, hX⟩ := hrel
        have HP := Lib.hid hp
        have HPL := Lib.hid hpl
        have HRW := Lib.hid hr
        have HFP := Lib.hid hfp
        have HX := Lib.hid hX
        have HX1r := Lib.hid (HX9.out.trans hX)
        obtain ⟨Aw, cw, hv, -, -⟩ := hr.form
        rw [List.length_map, hpl] at hv
        subst hv
        clear hp hpl hr hfp hX
        by_cases hlt : k < ys.length
        · have q1 : (k : Int) < (ys.length : Int) := by omega
          have q0 : (0 : Int) ≤ (k : Int) := by omega
          have q2 : (k : Int) < 200 := by have := HYL.out; have := HLE.out; omega
          obtain ⟨bb, o, B1, d1, B2, d2, rfl, hbb, n0, n1, n2, l1, m1, b1, l2, m2, b2⟩ := HRY.out w9 (Ext.refl _) k hlt
          obtain ⟨f, hf⟩ : ∃ f, ys.getD k Fd0 = f := ⟨_, rfl⟩
          rw [hf] at n0 n1 n2 l1 b1 l2 b2
          have HS1 : Hid (SlB w9 (.slice B1 f.vl.length d1) f.vl) := Lib.hid ⟨B1, d1, rfl, l1, m1, b1⟩
          have HS2 : Hid (SlB w9 (.slice B2 f.sl.length d2) f.sl) := Lib.hid ⟨B2, d2, rfl, l2, m2, b2⟩
          have HTK : Hid ((ys.take (k + 1)).map (blF nn) = (ys.take k).map (blF nn) ++ [blF nn f]) := Lib.hid (by
            rw [List.take_succ_eq_append_getElem hlt, List.map_append, ← hf, List.getD_eq_getElem?_getD, List.getElem?_eq_getElem hlt]
            rfl)
          have r0 := HX.out.cell n0
          have r1 := HX.out.cell n1
          have r2 := HX.out.cell n2
          clear l1 m1 b1 l2 m2 b2 hf n0 n1 n2 hbb
          go_upto_region 13 with fail
          clear r0 r1 r2
          generalize hw4 : World.alloc _ _ = wa
          have HBa : Hid (Bk wa wr.heap.size 3 (f3 (sV f.nm) (.slice B1 f.vl.length d1) (.slice B2 f.sl.length d2))) := Lib.hid (by rw [← hw4]; exact ⟨by decide, by rw [blkOf_new]; exact arV_ext rfl (fun i hi => by match i, hi with | 0, _ => rfl | 1, _ => rfl | 2, _ => rfl)⟩)
          have HEa : Hid (Ext wr wa) := Lib.hid (by rw [← hw4]; exact (Ext.refl _).alloc _)
          clear hw4
          have HX1a := Lib.hid (HX1r.out.trans HEa.out)
          have KB : Hid (∀ W, Ext wa W → (fun w' => Ext wa w' ∧ w'.cell? ⟨wr.heap.size, 0, none⟩ = some (sV f.nm)) W) := Lib.hid (fun W h => ⟨h, (HBa.out.ext h).cell (k := 0) (by decide)⟩)
          refine wp_region_noPanic ?_
          refine wp_region_held_drew (S := (fun w' => Ext wa w' ∧ w'.cell? ⟨wr.heap.size, 0, none⟩ = some (sV f.nm))) (by kernel_rfl) ?_ (fun hHeld => ?_)
          · first | assumption | exact KB.out _ (by repeat (first | assumption | exact Ext.refl _ | apply Ext.alloc | apply Ext.drew | apply Ext.drewN))
          refine wpAnyH_take (i := 0) (v := ?_) (oper_at rfl) (by kernel_rfl) (by kernel_rfl) (by kernel_rfl) (fun _ _ _ h => h) (Or.inl ⟨by rfl, ?_⟩) hHeld ?_
          rotate_left
          · (intro ww hSw; (try dsimp only at hSw); go_simp; try (with_reducible rfl))
          try simp only [Act.put, List.setIfInBounds_toArray, List.set_cons_zero, List.set_cons_succ]
          refine wpAnyH_take (i := 1) (v := ?_) (oper_at rfl) (by kernel_rfl) (by kernel_rfl) (by kernel_rfl) (fun _ _ _ h => h) (Or.inl ⟨by rfl, ?_⟩) hHeld ?_
          rotate_left
          · (intro ww hSw; (try dsimp only at hSw); go_simp; try (with_reducible rfl))
          try simp only [Act.put, List.setIfInBounds_toArray, List.set_cons_zero, List.set_cons_succ]
          refine wpAnyH_take (i := 3) (v := ?_) (oper_at rfl) (by kernel_rfl) (by kernel_rfl) (by kernel_rfl) (fun _ _ _ h => h) (Or.inl ⟨by rfl, ?_⟩) hHeld ?_
          rotate_left
          · (intro ww hSw; (try dsimp only at hSw); go_simp; try (with_reducible rfl))
          try simp only [Act.put, List.setIfInBounds_toArray, List.set_cons_zero, List.set_cons_succ]
          refine wpAnyH_take (i := 4) (v := ?_) (oper_at rfl) (by kernel_rfl) (by kernel_rfl) (by kernel_rfl) (fun _ _ _ h => h) (Or.inl ⟨by rfl, ?_⟩) hHeld ?_
          rotate_left
          · (intro ww hSw; (try dsimp only at hSw); go_simp; try (with_reducible rfl))
          try simp only [Act.put, List.setIfInBounds_toArray, List.set_cons_zero, List.set_cons_succ]
          refine wpAnyH_ready (rs := [2]) (by kernel_rfl) (by simp) (AllReadyH.cons (oper_at rfl) (fun K hK => ?_) AllReadyH.nil)
          go_simp
          go_at_call 11
          refine (C11.out _ (HX1a.out.trans (by repeat (first | assumption | exact Ext.refl _ | apply Ext.alloc | apply Ext.drew | apply Ext.drewN)))).mono ?_
          rintro _ wb ⟨vn, rfl, hsb, hE⟩
          have hXb : Ext wa wb := Ext.trans (by repeat (first | assumption | exact Ext.refl _ | apply Ext.alloc | apply Ext.drew | apply Ext.drewN)) hE
          have HSB := Lib.hid hsb
          clear hE hsb
          refine hK.out _ _ ?_ (fun hHeld => ?_)
          · first | assumption | exact KB.out _ (by repeat (first | assumption | exact Ext.refl _ | apply Ext.alloc | apply Ext.drew | apply Ext.drewN))
          clear hK K
          try simp only [Act.put, List.setIfInBounds_toArray, List.set_cons_zero, List.set_cons_succ]
          refine wpAnyH_ready (rs := [5]) (by kernel_rfl) (by simp) (AllReadyH.cons (oper_at rfl) (fun K hK => ?_) AllReadyH.nil)
          go_simp
          go_at_call 23
          refine (has23_ok f.nm nn _ _ (HSB.out.ext (by repeat (first | assumption | exact Ext.refl _ | apply Ext.alloc | apply Ext.drew | apply Ext.drewN)))).mono ?_
          rintro _ _ ⟨rfl, rfl⟩
          refine hK.out _ _ ?_ (fun hHeld => ?_)
          · first | assumption | exact KB.out _ (by repeat (first | assumption | exact Ext.refl _ | apply Ext.alloc | apply Ext.drew | apply Ext.drewN))
          clear hK K
          try simp only [Act.put, List.setIfInBounds_toArray, List.set_cons_zero, List.set_cons_succ]
          refine wpAnyH_take (i := 6) (v := ?_) (oper_at rfl) (by kernel_rfl) (by kernel_rfl) (by kernel_rfl) (fun _ _ _ h => h) (Or.inl ⟨by rfl, ?_⟩) hHeld ?_
          rotate_left
          · (intro ww hSw; (try dsimp only at hSw); go_simp; try (with_reducible rfl))
          try simp only [Act.put, List.setIfInBounds_toArray, List.set_cons_zero, List.set_cons_succ]
          refine wpAnyH_done (by kernel_rfl) ?_ _
          refine NoPanic.normal ?_
          have HXb := Lib.hid hXb
          have HBb := Lib.hid (HBa.out.ext hXb)
          clear KB hXb
          by_cases hm : f.nm ∈ nn
          · as_aux_lemma =>
            have hdm : decide (f.nm ∈ nn) = true := by simp [hm]
            rw [hdm]
            have HBL : Hid (blF nn f = f) := Lib.hid (by unfold blF; exact if_pos hm)
            clear hm hdm
            have HXm : Hid (Ext w9 wb) := Lib.hid (HX.out.trans (HEa.out.trans HXb.out))
            have HRm := Lib.hid (HRW.out.ext (HEa.out.trans HXb.out))
            have p0 : wb.cell? ⟨wr.heap.size, 0, none⟩ = some (sV f.nm) := HBb.out.cell (by decide)
            have p1 : wb.cell? ⟨wr.heap.size, 1, none⟩ = some (.slice B1 f.vl.length d1) := HBb.out.cell (by decide)
            have p2 : wb.cell? ⟨wr.heap.size, 2, none⟩ = some (.slice B2 f.sl.length d2) := HBb.out.cell (by decide)
            go_wp2_with (at_builtin; (refine wapp el25 rfl (.tmp 56) (.tmp 58) rfl (w5 := w9) (vs := ps.map encF) (us := [encF (f, (B1, d1), (B2, d2))]) rfl (HXm.out.alloc _) (HRm.out.ext ((Ext.refl _).alloc _)) rfl rfl (Wide.one rfl) (vs1 _ _ _) (encF_one [(f, (B1, d1), (B2, d2))]) (by have := HPL.out; rw [List.length_map]; simp; omega) (by have := HPL.out; rw [List.length_map]; simp; omega) ?_; intro v6 w6 hr6 hE6 hg6 hb6; rw [← List.map_singleton (f := encF), ← List.map_append] at hr6; have HR6 := Lib.hid hr6; have HE6 := Lib.hid hE6; clear hr6 hE6 hg6 hb6))
            refine ⟨⟨k + 1, ps ++ [(f, (B1, d1), (B2, d2))], _, by omega, by go_num, rfl, by rw [List.map_append, HP.out, HTK.out, HBL.out]; rfl, by have := HPL.out; simp; omega, HR6.out, fun p hp => ?_, HE6.out⟩, by simp [intOf]; omega⟩
            rcases List.mem_append.1 hp with h | h
            · exact HFP.out p h
            · rw [List.mem_singleton.1 h]; exact ⟨HS1.out, HS2.out⟩
          · as_aux_lemma =>
            have hdm : decide (f.nm ∈ nn) = false := by simp [hm]
            rw [hdm]
            have HBL : Hid (blF nn f = ⟨f.nm, [], []⟩) := Lib.hid (by unfold blF; exact if_neg hm)
            clear hm hdm
            have p1 : wb.cell? ⟨wr.heap.size, 1, none⟩ = some (.slice B1 f.vl.length d1) := HBb.out.cell (by decide)
            have p2 : wb.cell? ⟨wr.heap.size, 2, none⟩ = some (.slice B2 f.sl.length d2) := HBb.out.cell (by decide)
            have f1 := HBb.out.frozen 1
            have f2 := HBb.out.frozen 2
            go_upto_region 15 with fail
            clear p1 p2 f1 f2
            generalize hwm : World.setCell (World.setCell _ _ _) _ _ = wm
            have HBm : Hid (Bk wm wr.heap.size 3 (upd (upd (f3 (sV f.nm) (.slice B1 f.vl.length d1) (.slice B2 f.sl.length d2)) 1 (.slice none 0 0)) 2 (.slice none 0 0))) := Lib.hid (by rw [← hwm]; exact (HBb.out.set 1 _).set 2 _)
            have HXm : Hid (Ext w9 wm) := Lib.hid (by rw [← hwm]; exact ((HX.out.trans (HEa.out.trans HXb.out)).set HX.out.size _).set HX.out.size _)
            have HRm : Hid (Row 3 wm w9.heap.size 58 (.slice Aw k cw) (ps.map encF)) := Lib.hid (by
              have h1 := HRW.out.ext (HEa.out.trans HXb.out)
              rw [← hwm]
              refine h1.kept fun kk e => ?_
              have hne : kk ≠ wr.heap.size := fun e' => by have := (HRW.out.lt kk e).2; omega
              rw [Below.heap_setCell _ _ _ kk hne, Below.heap_setCell _ _ _ kk hne])
            clear hwm
            have p0 : wm.cell? ⟨wr.heap.size, 0, none⟩ = some (sV f.nm) := HBm.out.cell (by decide)
            have p1 : wm.cell? ⟨wr.heap.size, 1, none⟩ = some (.slice none 0 0) := HBm.out.cell (by decide)
            have p2 : wm.cell? ⟨wr.heap.size, 2, none⟩ = some (.slice none 0 0) := HBm.out.cell (by decide)
            go_wp2_with (at_builtin; (refine wapp el25 rfl (.tmp 56) (.tmp 58) rfl (w5 := w9) (vs := ps.map encF) (us := [encF ((⟨f.nm, [], []⟩ : Fd), (none, 0), (none, 0))]) rfl (HXm.out.alloc _) (HRm.out.ext ((Ext.refl _).alloc _)) rfl rfl (Wide.one rfl) (vs1 _ _ _) (encF_one [((⟨f.nm, [], []⟩ : Fd), (none, 0), (none, 0))]) (by have := HPL.out; rw [List.length_map]; simp; omega) (by have := HPL.out; rw [List.length_map]; simp; omega) ?_; intro v6 w6 hr6 hE6 hg6 hb6; rw [← List.map_singleton (f := encF), ← List.map_append] at hr6; have HR6 := Lib.hid hr6; have HE6 := Lib.hid hE6; clear hr6 hE6 hg6 hb6))
            refine ⟨⟨k + 1, ps ++ [((⟨f.nm, [], []⟩ : Fd), (none, 0), (none, 0))], _, by omega, by go_num, rfl, by rw [List.map_append, HP.out, HTK.out, HBL.out]; rfl, by have := HPL.out; simp; omega, HR6.out, fun p hp => ?_, HE6.out⟩, by simp [intOf]; omega⟩
            rcases List.mem_append.1 hp with h | h
            · exact HFP.out p h
            · rw [List.mem_singleton.1 h]; exact ⟨SlB.nil _, SlB.nil _⟩
        · obtain rfl : k = ys.length := by omega
          rw [List.take_length] at HP
          have HBF : Hid (FsAt wr (.slice Aw ys.length cw) (ys.map (blF nn))) := Lib.hid (by rw [← HP.out]; exact FsAt.of_row HRW.out.sl (HFP.out.ext HX.out))
          have HCS9 := Lib.hid (HCS.out.ext (HX79.out.trans HX.out))
          clear HRW HFP HCS
          go_upto_region 18 with (first
            | (go_at_call 11; refine (C11.out _ (HX1r.out.trans (by repeat (first | assumption | exact Ext.refl _ | apply Ext.drew | apply Ext.drewN)))).mono ?_; rintro _ wb ⟨vn, rfl, hsb, hE⟩; have HSB := Lib.hid hsb; have hXb : Ext wr wb := Ext.trans (by repeat (first | assumption | exact Ext.refl _ | apply Ext.drew | apply Ext.drewN)) hE; clear hsb hE)
            | (go_at_call 12; refine (C12.out _ _ (HX1r.out.trans hXb) HSB.out).mono ?_; rintro _ wc ⟨vd, rfl, hds, hE⟩; have HDS := Lib.hid hds; have HXc := Lib.hid (hXb.trans hE); obtain ⟨Ad, cd, rfl, -, -, -⟩ := hds.read; clear hds hE hXb))
          generalize hwd : wc.alloc _ = wd
          have HBd : Hid (Bk wd wc.heap.size 1 (fun _ => .slice Ad dd.length cd)) := Lib.hid (by rw [← hwd]; exact Bk.new1 _ _ _)
          have HEd : Hid (Ext wc wd) := Lib.hid (by rw [← hwd]; exact (Ext.refl _).alloc _)
          clear hwd
          have HXd := Lib.hid (HXc.out.trans HEd.out)
          have HX1d := Lib.hid (HX1r.out.trans HXd.out)
          have HDd := Lib.hid (HDS.out.ext HEd.out)
          have HFd := Lib.hid (HBF.out.ext HXd.out)
          have HCd := Lib.hid (HCS9.out.ext HXd.out)
          have C25 : Hid (∀ W, Ext wd W → Calls Tryd.prog 25 #[dsV (.slice Ad dd.length cd)] W (RetBy (encD dd) W)) := Lib.hid (fun W hW => bytes25_ok dd _ W (HDd.out.ext hW) HDK.out HDN.out HDL.out)
          have C26 : Hid (∀ W T, Ext wd W → SsAt W T nn → Calls Tryd.prog 26 #[.slice Aw ys.length cw, .slice Av cs.length cv, T] W (RetBy (encD dd) W)) := Lib.hid (fun W T hW hs => by
            have h1 := rbytes26_ok (ys.map (blF nn)) _ cs _ nn T W (HFd.out.ext hW) (HCd.out.ext hW) hs (by rw [List.length_map]; exact HCL.out) (by rw [List.length_map]; have := HYL.out; have := HLE.out; omega) (fun g hg => by
              obtain ⟨f, hf, rfl⟩ := List.mem_map.1 hg
              have h2 := HOK.out.each f (HYM.out f hf)
              have h3 := okN_len h2.1
              rw [blF_nm]
              unfold blF
              split
              · exact ⟨by omega, h2.2.1, by omega⟩
              · exact ⟨by omega, Nat.zero_le _, Nat.zero_le _⟩) (fun d hd => by rw [HC32.out d hd]; omega)
            rw [List.length_map, ← HBY.out] at h1
            exact h1)
          obtain ⟨bs, hbs⟩ : ∃ bs, encD dd = bs := ⟨_, rfl⟩
          rw [hbs] at C25 C26
          clear hbs

          have KB : Hid (∀ W, Ext wd W → (fun w' => Ext wd w' ∧ w'.cell? ⟨wc.heap.size, 0, none⟩ = some (.slice Ad dd.length cd)) W) := Lib.hid (fun W h => ⟨h, (HBd.out.ext h).cell (k := 0) (by decide)⟩)
          refine wp_region_noPanic ?_
          refine wp_region_held_drew (S := (fun w' => Ext wd w' ∧ w'.cell? ⟨wc.heap.size, 0, none⟩ = some (.slice Ad dd.length cd))) (by kernel_rfl) ?_ (fun hHeld => ?_)
          · first | assumption | exact KB.out _ (by repeat (first | assumption | exact Ext.refl _ | apply Ext.alloc | apply Ext.drew | apply Ext.drewN))
          refine wpAnyH_ready (rs := [0]) (by kernel_rfl) (by simp) (AllReadyH.cons (oper_at rfl) (fun K hK => ?_) AllReadyH.nil)
          go_simp
          go_at_call 13
          refine (C13.out _ (HX1d.out.trans (by repeat (first | assumption | exact Ext.refl _ | apply Ext.alloc | apply Ext.drew | apply Ext.drewN)))).mono ?_
          rintro _ we ⟨rfl, hE⟩
          have hXe : Ext wd we := Ext.trans (by repeat (first | assumption | exact Ext.refl _ | apply Ext.alloc | apply Ext.drew | apply Ext.drewN)) hE
          clear hE
          refine hK.out _ _ ?_ (fun hHeld => ?_)
          · first | assumption | exact KB.out _ (by repeat (first | assumption | exact Ext.refl _ | apply Ext.alloc | apply Ext.drew | apply Ext.drewN))
          clear hK K
          try simp only [Act.put, List.setIfInBounds_toArray, List.set_cons_zero, List.set_cons_succ]
          refine wpAnyH_take (i := 1) (v := ?_) (oper_at rfl) (by kernel_rfl) (by kernel_rfl) (by kernel_rfl) (fun _ _ _ h => h) (Or.inl ⟨by rfl, ?_⟩) hHeld ?_
          rotate_left
          · (intro ww hSw; (try dsimp only at hSw); go_simp; try (with_reducible rfl))
          try simp only [Act.put, List.setIfInBounds_toArray, List.set_cons_zero, List.set_cons_succ]
          refine wpAnyH_take (i := 2) (v := ?_) (oper_at rfl) (by kernel_rfl) (by kernel_rfl) (by kernel_rfl) (fun _ _ _ h => h) (Or.inl ⟨by rfl, ?_⟩) hHeld ?_
          rotate_left
          · (intro ww hSw; (try dsimp only at hSw); go_simp; try (with_reducible rfl))
          try simp only [Act.put, List.setIfInBounds_toArray, List.set_cons_zero, List.set_cons_succ]
          refine wpAnyH_take (i := 3) (v := ?_) (oper_at rfl) (by kernel_rfl) (by kernel_rfl) (by kernel_rfl) (fun _ _ _ h => h) (Or.inl ⟨by rfl, ?_⟩) hHeld ?_
          rotate_left
          · (intro ww hSw; (try dsimp only at hSw); go_simp; try (with_reducible rfl))
          try simp only [Act.put, List.setIfInBounds_toArray, List.set_cons_zero, List.set_cons_succ]
          refine wpAnyH_take (i := 4) (v := ?_) (oper_at rfl) (by kernel_rfl) (by kernel_rfl) (by kernel_rfl) (fun _ _ _ h => h) (Or.inl ⟨by rfl, ?_⟩) hHeld ?_
          rotate_left
          · (intro ww hSw; (try dsimp only at hSw); go_simp; try (with_reducible rfl))
          try simp only [Act.put, List.setIfInBounds_toArray, List.set_cons_zero, List.set_cons_succ]
          refine wpAnyH_take (i := 5) (v := ?_) (oper_at rfl) (by kernel_rfl) (by kernel_rfl) (by kernel_rfl) (fun _ _ _ h => h) (Or.inl ⟨by rfl, ?_⟩) hHeld ?_
          rotate_left
          · (intro ww hSw; (try dsimp only at hSw); go_simp; try (with_reducible rfl))
          try simp only [Act.put, List.setIfInBounds_toArray, List.set_cons_zero, List.set_cons_succ]
          refine wpAnyH_take (i := 6) (v := ?_) (oper_at rfl) (by kernel_rfl) (by kernel_rfl) (by kernel_rfl) (fun _ _ _ h => h) (Or.inl ⟨by rfl, ?_⟩) hHeld ?_
          rotate_left
          · (intro ww hSw; (try dsimp only at hSw); go_simp; try (with_reducible rfl))
          try simp only [Act.put, List.setIfInBounds_toArray, List.set_cons_zero, List.set_cons_succ]
          refine wpAnyH_take (i := 9) (v := ?_) (oper_at rfl) (by kernel_rfl) (by kernel_rfl) (by kernel_rfl) (fun _ _ _ h => h) (Or.inl ⟨by rfl, ?_⟩) hHeld ?_
          rotate_left
          · (intro ww hSw; (try dsimp only at hSw); go_simp; try (with_reducible rfl))
          try simp only [Act.put, List.setIfInBounds_toArray, List.set_cons_zero, List.set_cons_succ]
          refine wpAnyH_take (i := 10) (v := ?_) (oper_at rfl) (by kernel_rfl) (by kernel_rfl) (by kernel_rfl) (fun _ _ _ h => h) (Or.inl ⟨by rfl, ?_⟩) hHeld ?_
          rotate_left
          · (intro ww hSw; (try dsimp only at hSw); go_simp; try (with_reducible rfl))
          try simp only [Act.put, List.setIfInBounds_toArray, List.set_cons_zero, List.set_cons_succ]
          refine wpAnyH_take (i := 11) (v := ?_) (oper_at rfl) (by kernel_rfl) (by kernel_rfl) (by kernel_rfl) (fun _ _ _ h => h) (Or.inl ⟨by rfl, ?_⟩) hHeld ?_
          rotate_left
          · (intro ww hSw; (try dsimp only at hSw); go_simp; try (with_reducible rfl))
          try simp only [Act.put, List.setIfInBounds_toArray, List.set_cons_zero, List.set_cons_succ]
          refine wpAnyH_take (i := 12) (v := ?_) (oper_at rfl) (by kernel_rfl) (by kernel_rfl) (by kernel_rfl) (fun _ _ _ h => h) (Or.inl ⟨by rfl, ?_⟩) hHeld ?_
          rotate_left
          · (intro ww hSw; (try dsimp only at hSw); go_simp; try (with_reducible rfl))
          try simp only [Act.put, List.setIfInBounds_toArray, List.set_cons_zero, List.set_cons_succ]
          refine wpAnyH_ready (rs := [7]) (by kernel_rfl) (by simp) (AllReadyH.cons (oper_at rfl) (fun K hK => ?_) AllReadyH.nil)
          go_simp
          go_at_call 25
          refine (C25.out _ (by repeat (first | assumption | exact Ext.refl _ | apply Ext.alloc | apply Ext.drew | apply Ext.drewN))).mono ?_
          rintro _ wf ⟨vf, rfl, hrf, hE⟩
          have hXf : Ext wd wf := Ext.trans (by repeat (first | assumption | exact Ext.refl _ | apply Ext.alloc | apply Ext.drew | apply Ext.drewN)) hE
          have HSf := Lib.hid hrf.slB
          clear hE hrf
          refine hK.out _ _ ?_ (fun hHeld => ?_)
          · first | assumption | exact KB.out _ (by repeat (first | assumption | exact Ext.refl _ | apply Ext.alloc | apply Ext.drew | apply Ext.drewN))
          clear hK K
          try simp only [Act.put, List.setIfInBounds_toArray, List.set_cons_zero, List.set_cons_succ]
          have KC : Hid (∀ W, Ext wf W → (fun w' => Ext wf w' ∧ (convert 38 9 vf).run Tryd.prog w' = .ok (sV bs) w') W) := Lib.hid (fun W h => ⟨h, conv389 (HSf.out.ext h)⟩)
          refine wpAnyH_weaken (S' := (fun w' => Ext wf w' ∧ (convert 38 9 vf).run Tryd.prog w' = .ok (sV bs) w')) (fun W h => KB.out W (hXf.trans h.1)) _ _ _ _ ?_
          replace hHeld := KC.out _ (by repeat (first | assumption | exact Ext.refl _ | apply Ext.alloc | apply Ext.drew | apply Ext.drewN))
          refine wpAnyH_take (i := 8) (v := ?_) (oper_at rfl) (by kernel_rfl) (by kernel_rfl) (by kernel_rfl) (fun _ _ _ h => h) (Or.inl ⟨by rfl, ?_⟩) hHeld ?_
          rotate_left
          · (intro ww hSw; (try dsimp only at hSw); go_simp; try (with_reducible rfl))
          try simp only [Act.put, List.setIfInBounds_toArray, List.set_cons_zero, List.set_cons_succ]
          refine wpAnyH_ready (rs := [13]) (by kernel_rfl) (by simp) (AllReadyH.cons (oper_at rfl) (fun K hK => ?_) AllReadyH.nil)
          go_simp
          go_at_call 11
          refine (C11.out _ (HX1d.out.trans (hXf.trans (by repeat (first | assumption | exact Ext.refl _ | apply Ext.alloc | apply Ext.drew | apply Ext.drewN))))).mono ?_
          rintro _ wg ⟨vg, rfl, hsg, hE⟩
          have hXg : Ext wf wg := Ext.trans (by repeat (first | assumption | exact Ext.refl _ | apply Ext.alloc | apply Ext.drew | apply Ext.drewN)) hE
          have HSg := Lib.hid hsg
          clear hE hsg
          refine hK.out _ _ ?_ (fun hHeld => ?_)
          · first | assumption | exact KC.out _ (by repeat (first | assumption | exact Ext.refl _ | apply Ext.alloc | apply Ext.drew | apply Ext.drewN))
          clear hK K
          try simp only [Act.put, List.setIfInBounds_toArray, List.set_cons_zero, List.set_cons_succ]
          refine wpAnyH_ready (rs := [14]) (by kernel_rfl) (by simp) (AllReadyH.cons (oper_at rfl) (fun K hK => ?_) AllReadyH.nil)
          go_simp
          go_at_call 26
          refine (C26.out _ _ (hXf.trans (by repeat (first | assumption | exact Ext.refl _ | apply Ext.alloc | apply Ext.drew | apply Ext.drewN))) (HSg.out.ext (by repeat (first | assumption | exact Ext.refl _ | apply Ext.alloc | apply Ext.drew | apply Ext.drewN)))).mono ?_
          rintro _ wh ⟨vh, rfl, hrh, hE⟩
          have hXh : Ext wf wh := Ext.trans (by repeat (first | assumption | exact Ext.refl _ | apply Ext.alloc | apply Ext.drew | apply Ext.drewN)) hE
          have HSh := Lib.hid hrh.slB
          clear hE hrh
          refine hK.out _ _ ?_ (fun hHeld => ?_)
          · first | assumption | exact KC.out _ (by repeat (first | assumption | exact Ext.refl _ | apply Ext.alloc | apply Ext.drew | apply Ext.drewN))
          clear hK K
          try simp only [Act.put, List.setIfInBounds_toArray, List.set_cons_zero, List.set_cons_succ]
          have KD : Hid (∀ W, Ext wh W → (fun w' => Ext wh w' ∧ (convert 38 9 vh).run Tryd.prog w' = .ok (sV bs) w') W) := Lib.hid (fun W h => ⟨h, conv389 (HSh.out.ext h)⟩)
          refine wpAnyH_weaken (S' := (fun w' => Ext wh w' ∧ (convert 38 9 vh).run Tryd.prog w' = .ok (sV bs) w')) (fun W h => KC.out W (hXh.trans h.1)) _ _ _ _ ?_
          replace hHeld := KD.out _ (by repeat (first | assumption | exact Ext.refl _ | apply Ext.alloc | apply Ext.drew | apply Ext.drewN))
          refine wpAnyH_take (i := 15) (v := ?_) (oper_at rfl) (by kernel_rfl) (by kernel_rfl) (by kernel_rfl) (fun _ _ _ h => h) (Or.inl ⟨by rfl, ?_⟩) hHeld ?_
          rotate_left
          · (intro ww hSw; (try dsimp only at hSw); go_simp; try (with_reducible rfl))
          try simp only [Act.put, List.setIfInBounds_toArray, List.set_cons_zero, List.set_cons_succ]
          refine wpAnyH_take (i := 16) (v := ?_) (oper_at rfl) (by kernel_rfl) (by kernel_rfl) (by kernel_rfl) (fun _ _ _ h => h) (Or.inl ⟨by rfl, ?_⟩) hHeld ?_
          rotate_left
          · (intro ww hSw; (try dsimp only at hSw); go_simp; try (with_reducible rfl))
          try simp only [Act.put, List.setIfInBounds_toArray, List.set_cons_zero, List.set_cons_succ]
          refine wpAnyH_take (i := 17) (v := ?_) (oper_at rfl) (by kernel_rfl) (by kernel_rfl) (by kernel_rfl) (fun _ _ _ h => h) (Or.inl ⟨by rfl, ?_⟩) hHeld ?_
          rotate_left
          · (intro ww hSw; (try dsimp only at hSw); go_simp; try (with_reducible rfl))
          try simp only [Act.put, List.setIfInBounds_toArray, List.set_cons_zero, List.set_cons_succ]
          refine wpAnyH_take (i := 18) (v := ?_) (oper_at rfl) (by kernel_rfl) (by kernel_rfl) (by kernel_rfl) (fun _ _ _ h => h) (Or.inl ⟨by rfl, ?_⟩) hHeld ?_
          rotate_left
          · (intro ww hSw; (try dsimp only at hSw); go_simp; try (with_reducible rfl))
          try simp only [Act.put, List.setIfInBounds_toArray, List.set_cons_zero, List.set_cons_succ]
          refine wpAnyH_done (by kernel_rfl) ?_ _
          refine NoPanic.normal ?_
          go_wp2_with fail
          go_ret
          exact ⟨ret_bool (by simp), HE1.out.trans (HX1d.out.trans (hXf.trans hXh))⟩
end Go.Proofs.YtjedhndhdkiidaaDoor
