/- awake. -/
import Derived.Test.YtjedhndhdkiidaaDoorNS
import Derived.Lib.SlBytesConst
namespace Go.Proofs.YtjedhndhdkiidaaDoor
open Go.RowKit
attribute [local go_sem ↓] Go.wp_at_zero Go.wp_at_succ
attribute [local go_sem] baSize baList
/-- The example's entries. -/
def awR : List Rw := [⟨[], [120], [], false⟩, ⟨[], [121], [], false⟩]
set_option maxRecDepth 100000 in
set_option maxHeartbeats 1000000 in
theorem awake13_ok (w : World) (hT : Tab w) : Calls Tryd.prog 13 #[] w (RetB true w) := by
  have HT := Lib.hid hT
  clear hT
  obtain ⟨wA, hwA⟩ : ∃ wA, w.alloc (.cells #[.int .u8 120] 5 (1, 2)) = wA := ⟨_, rfl⟩
  have k1 : (convert 38 38 (.slice (some ⟨w.heap.size, 0, none⟩) 1 1)).run Tryd.prog (w.alloc (.cells #[.int .u8 120] 5)) = .ok (.slice (some ⟨w.heap.size, 0, none⟩) 1 1) wA := by
    rw [← hwA]
    exact Lib.run_convert_bytes_const (P := Tryd.prog) w 38 5 #[.int .u8 120] 1 1 Tryd.underlying38 Tryd.underlying5
  have zA : wA.heap.size = w.heap.size + 1 := by rw [← hwA]; simp
  have HEA : Hid (Ext w wA) := Lib.hid (by rw [← hwA]; exact (Ext.refl _).alloc _)
  have HXA : Hid (wA.cell? ⟨w.heap.size, 0, none⟩ = some (.int .u8 120)) := Lib.hid (by rw [← hwA]; unfold World.cell?; rw [heap_alloc_new]; rfl)
  clear hwA
  obtain ⟨wC, hwC⟩ : ∃ wC, wA.alloc (.cells #[.int .u8 121] 5 (1, 2)) = wC := ⟨_, rfl⟩
  have k2 : (convert 38 38 (.slice (some ⟨wA.heap.size, 0, none⟩) 1 1)).run Tryd.prog (wA.alloc (.cells #[.int .u8 121] 5)) = .ok (.slice (some ⟨wA.heap.size, 0, none⟩) 1 1) wC := by
    rw [← hwC]
    exact Lib.run_convert_bytes_const (P := Tryd.prog) wA 38 5 #[.int .u8 121] 1 1 Tryd.underlying38 Tryd.underlying5
  have HEC : Hid (Ext wA wC) := Lib.hid (by rw [← hwC]; exact (Ext.refl _).alloc _)
  have HXC : Hid (wC.cell? ⟨wA.heap.size, 0, none⟩ = some (.int .u8 121)) := Lib.hid (by rw [← hwC]; unfold World.cell?; rw [heap_alloc_new]; rfl)
  clear hwC zA
  have HEW := Lib.hid (HEA.out.trans HEC.out)
  have hrow := row_new (s := 4) (w := wC) (B := wC.heap.size) (e := 69) (cs := #[.string ⟨#[]⟩, .slice (some ⟨w.heap.size, 0, none⟩) 1 1, .slice none 0 0, .bool false, .string ⟨#[]⟩, .slice (some ⟨wA.heap.size, 0, none⟩) 1 1, .slice none 0 0, .bool false]) (us := ([(⟨[], [120], [], false⟩, (some ⟨w.heap.size, 0, none⟩, 1), (none, 0)), (⟨[], [121], [], false⟩, (some ⟨wA.heap.size, 0, none⟩, 1), (none, 0))] : List PR).map encR) (Nat.le_refl _) (Wide.map (f := encR) (s := 4) (fun _ => rfl) _) rfl (by simp)
  have hrs := RsAt.of_row (ps := [(⟨[], [120], [], false⟩, (some ⟨w.heap.size, 0, none⟩, 1), (none, 0)), (⟨[], [121], [], false⟩, (some ⟨wA.heap.size, 0, none⟩, 1), (none, 0))]) hrow.sl (fun p hp => by
    rcases List.mem_cons.1 hp with rfl | hp
    · refine ⟨⟨some ⟨w.heap.size, 0, none⟩, 1, rfl, Nat.le_refl _, by decide, ?_⟩, SlB.nil _⟩
      exact bytes_of_cells (n := 1) rfl fun i hi => by
        obtain rfl : i = 0 := by omega
        exact (HEC.out.alloc _).cell HXA.out
    · rw [List.mem_singleton] at hp
      subst hp
      refine ⟨⟨some ⟨wA.heap.size, 0, none⟩, 1, rfl, Nat.le_refl _, by decide, ?_⟩, SlB.nil _⟩
      exact bytes_of_cells (n := 1) rfl fun i hi => by
        obtain rfl : i = 0 := by omega
        exact ((Ext.refl _).alloc _).cell HXC.out)
  have CV := Lib.hid (valid10_ok awR _ _ hrs)
  clear hrow hrs
  obtain ⟨fs, hfs⟩ : ∃ fs, vfF awR = fs := ⟨_, rfl⟩
  have HOK : Hid (DocOk fs) := Lib.hid (by rw [← hfs]; exact vf_ok awR)
  rw [hfs] at CV
  clear hfs
  go_enter Tryd.func13, Tryd.ntmps13
  go_wp2_with fail
  refine CV.out.mono ?_
  rintro _ w1 ⟨v1, v2, rfl, hf1, hf2, hE1⟩
  have hpos := HOK.out.pos
  have HF1 := Lib.hid hf1
  have HF2 := Lib.hid hf2
  have HE1 := Lib.hid ((HEW.out.alloc _).trans hE1)
  obtain ⟨A1, c1, rfl, -, -, h1⟩ := hf1.read
  obtain ⟨A2, c2, rfl, -, -, -⟩ := hf2.read
  obtain ⟨b, o, B1, d1, B2, d2, rfl, hb, n0, -, -, -, -, -, -, -, -⟩ := h1 w1 (Ext.refl _) 0 hpos
  obtain ⟨nm, hnm⟩ : ∃ nm, (fs.getD 0 Fd0).nm = nm := ⟨_, rfl⟩
  rw [hnm] at n0
  have HNM : Hid (nm ∈ fs.map (·.nm)) := Lib.hid (by rw [← hnm]; exact List.mem_map.2 ⟨_, mem_getD hpos, rfl⟩)
  have HN0 := Lib.hid n0
  have q0 : (0 : Int) < (fs.length : Int) := by omega
  rw [Nat.zero_mul, Nat.add_zero] at n0
  have N0 := Lib.hid n0
  have hsub : ∀ s ∈ [nm], s ∈ fs.map (·.nm) := fun s hs => by rw [List.mem_singleton.1 hs]; exact HNM.out
  have CD : Hid (∀ W T, Ext w1 W → SsAt W T [nm] → Calls Tryd.prog 12 #[.slice (some ⟨b, o, none⟩) fs.length c1, T] W (RetD ((docF fs).map (keepF [nm])) 0 W)) := Lib.hid (fun W T hW hs => by
    have := disclose12_ok fs _ [nm] T W (HF1.out.ext hW) hs (HT.out.ext (HE1.out.trans hW))
    rw [discF_ok HOK.out hsub] at this
    exact this)
  have SS : Hid (∀ W : World, SsAt (W.alloc (.cells #[sV nm] 9)) (.slice (some ⟨W.heap.size, 0, none⟩) 1 1) [nm]) := Lib.hid (fun W => (row_new (s := 1) (w := W) (B := W.heap.size) (e := 9) (cs := #[sV nm]) (us := [[sV nm]]) (Nat.le_refl _) (Wide.one rfl) rfl (by simp)).sl)
  clear hf1 hf2 hE1 h1 hnm hb k1 k2 hsub
  go_upto_region 2 with fail
  go_upto_region 3 with (go_at_call 12; refine (CD.out _ _ ((Ext.refl _).alloc _) (SS.out w1)).mono ?_; rintro _ w2 ⟨vd, rfl, hds, hE2⟩; have HDS := Lib.hid hds; have HE2 := Lib.hid (((Ext.refl w1).alloc _).trans hE2); obtain ⟨Ad, cd, rfl, -, -, -⟩ := hds.read; clear hds hE2)
  generalize hw3 : w2.alloc _ = w3
  have HB3 : Hid (Bk w3 w2.heap.size 1 (fun _ => .slice Ad (docF fs).length cd)) := Lib.hid (by rw [← hw3]; exact Bk.new1 _ _ _)
  have HE3 : Hid (Ext w1 w3) := Lib.hid (by rw [← hw3]; exact HE2.out.alloc _)
  have HD3 : Hid (DsAt w3 (.slice Ad (docF fs).length cd) ((docF fs).map (keepF [nm]))) := Lib.hid (by rw [← hw3]; have h9 := HDS.out; rw [List.length_map] at h9; exact h9.ext ((Ext.refl _).alloc _))
  have HCF : Hid (closeF ((docF fs).map (keepF [nm])) [nm] = ((docF fs).map (keepF []), 0)) := Lib.hid (by
    have hnm2 : ((docF fs).map (keepF [nm])).map (·.nm) = (docF fs).map (·.nm) := by
      rw [List.map_map]
      exact List.map_congr_left fun x _ => keepF_nm [nm] x
    have hpm : ((docF fs).map (·.nm)).Perm (fs.map (·.nm)) := by
      have := (docF_perm fs).map (·.nm)
      rw [List.map_map] at this
      exact this
    unfold closeF
    rw [if_pos]
    · rw [List.map_map]
      refine congrArg (·, (0 : Int)) (List.map_congr_left fun x _ => ?_)
      show shutF [nm] (keepF [nm] x) = keepF [] x
      unfold shutF
      rw [keepF_nm]
      unfold keepF
      by_cases h : x.nm ∈ [nm]
      · rw [if_pos h, if_pos h, if_neg (by simp)]
      · rw [if_neg h, if_neg h, if_neg (by simp)]
    · rw [List.all_eq_true]
      intro s hs
      rw [List.mem_singleton.1 hs, hnm2]
      exact decide_eq_true (hpm.mem_iff.2 HNM.out))
  have C18 : Hid (∀ W T, Ext w3 W → SsAt W T [nm] → Calls Tryd.prog 18 #[dsV (.slice Ad (docF fs).length cd), T] W (RetD ((docF fs).map (keepF [])) 0 W)) := Lib.hid (fun W T hW hs => by
    have := close18_ok ((docF fs).map (keepF [nm])) _ [nm] T W (HD3.out.ext hW) (keep_asc (docF_asc HOK.out.names) _) (fun x hx => by obtain ⟨y, hy, rfl⟩ := List.mem_map.1 hx; exact keepF_ok (docF_ok HOK.out y hy)) (by rw [List.length_map, docF_len]; have := HOK.out.le; omega) hs (HT.out.ext (HE1.out.trans (HE3.out.trans hW)))
    rw [HCF.out] at this
    exact this)
  have SS2 : Hid (∀ W W' : World, W.alloc (.cells #[sV nm] 9) = W' → SsAt W' (.slice (some ⟨W.heap.size, 0, none⟩) 1 1) [nm]) := Lib.hid (fun W W' h => h ▸ SS.out W)
  have BA : Hid (∀ W W' : World, W.alloc (.cells #[.slice none 0 0] 32) = W' → Bk W' W.heap.size 1 (fun _ => .slice none 0 0)) := Lib.hid (fun W W' h => h ▸ Bk.new1 _ _ _)
  have HXA : Hid (∀ (W : World) (o : Obj) (W' : World), W.alloc o = W' → Ext W W') := Lib.hid (fun W o W' h => h ▸ (Ext.refl _).alloc _)
  clear hw3 n0
  have KB : Hid (∀ W, Ext w3 W → (fun w' => Ext w3 w' ∧ w'.cell? ⟨w2.heap.size, 0, none⟩ = some (.slice Ad (docF fs).length cd) ∧ w'.cell? ⟨b, o, none⟩ = some (sV nm)) W) := Lib.hid (fun W h => ⟨h, (HB3.out.ext h).cell (k := 0) (by decide), (HE3.out.trans h).cell N0.out⟩)
  go_cut [5, 6] (fun s5 s6 wx => ∃ (g : Nat) (v : Value), s5 = .pointer (some ⟨g, 0, none⟩) ∧ s6 = iV 0 ∧ Bk wx g 1 (fun _ => v) ∧ DsAt wx v ((docF fs).map (keepF [])) ∧ Ext w3 wx)
  case first =>
    refine wp_region_noPanic ?_
    refine wp_region_held_drew (S := (fun w' => Ext w3 w' ∧ w'.cell? ⟨w2.heap.size, 0, none⟩ = some (.slice Ad (docF fs).length cd) ∧ w'.cell? ⟨b, o, none⟩ = some (sV nm))) (by kernel_rfl) ?_ (fun hHeld => ?_)
    · first | assumption | exact KB.out _ (by repeat (first | assumption | exact Ext.refl _ | apply Ext.alloc | apply Ext.drew | apply Ext.drewN))
    refine wpAnyH_take (i := 0) (v := ?_) (oper_at rfl) (by kernel_rfl) (by kernel_rfl) (by kernel_rfl) (fun _ _ _ h => h) (Or.inl ⟨by rfl, ?_⟩) hHeld ?_
    rotate_left
    · (intro ww hSw; (try dsimp only at hSw); go_simp; try (with_reducible rfl))
    try simp only [Act.put, List.setIfInBounds_toArray, List.set_cons_zero, List.set_cons_succ]
    refine wpAnyH_take (i := 1) (v := ?_) (oper_at rfl) (by kernel_rfl) (by kernel_rfl) (by kernel_rfl) (fun _ _ _ h => h) (Or.inl ⟨by rfl, ?_⟩) hHeld ?_
    rotate_left
    · (intro ww hSw; (try dsimp only at hSw); go_simp; try (with_reducible rfl))
    try simp only [Act.put, List.setIfInBounds_toArray, List.set_cons_zero, List.set_cons_succ]
    refine wpAnyH_take (i := 2) (v := ?_) (oper_at rfl) (by kernel_rfl) (by kernel_rfl) (by kernel_rfl) (fun _ _ _ h => h) (Or.inl ⟨by rfl, ?_⟩) hHeld ?_
    rotate_left
    · (intro ww hSw; (try dsimp only at hSw); go_simp; try (with_reducible rfl))
    try simp only [Act.put, List.setIfInBounds_toArray, List.set_cons_zero, List.set_cons_succ]
    refine wpAnyH_take (i := 3) (v := ?_) (oper_at rfl) (by kernel_rfl) (by kernel_rfl) (by kernel_rfl) (fun _ _ _ h => h) (Or.inl ⟨by rfl, ?_⟩) hHeld ?_
    rotate_left
    · (intro ww hSw; (try dsimp only at hSw); go_simp; try (with_reducible rfl))
    try simp only [Act.put, List.setIfInBounds_toArray, List.set_cons_zero, List.set_cons_succ]
    refine wpAnyH_take (i := 4) (v := ?_) (oper_at rfl) (by kernel_rfl) (by kernel_rfl) (by kernel_rfl) (fun _ _ _ h => h) (Or.inl ⟨by rfl, ?_⟩) hHeld ?_
    rotate_left
    · (intro ww hSw; (try dsimp only at hSw); go_simp; try (with_reducible rfl))
    try simp only [Act.put, List.setIfInBounds_toArray, List.set_cons_zero, List.set_cons_succ]
    refine wpAnyH_ready (rs := [5, 10]) (by kernel_rfl) (by simp) (AllReadyH.cons (oper_at rfl) (fun K hK => ?_) (AllReadyH.cons (oper_at rfl) (fun K hK => ?_) AllReadyH.nil))
    · go_simp
      generalize hwf : World.alloc _ (.cells #[sV nm] 9) = wf
      have HSF := Lib.hid (SS2.out _ _ hwf)
      have hXf : Ext w3 wf := by (rw [← hwf]; exact Ext.alloc (by repeat (first | assumption | exact Ext.refl _ | apply Ext.alloc | apply Ext.drew | apply Ext.drewN)) _)
      have hXpf := Lib.hid (HXA.out _ _ _ hwf)
      clear hwf
      refine hK.out _ _ ?_ (fun hHeld => ?_)
      · first | assumption | exact KB.out _ (by repeat (first | assumption | exact Ext.refl _ | apply Ext.alloc | apply Ext.drew | apply Ext.drewN))
      clear hK K
      try simp only [Act.put, List.setIfInBounds_toArray, List.set_cons_zero, List.set_cons_succ]
      refine wpAnyH_ready (rs := [6, 10]) (by kernel_rfl) (by simp) (AllReadyH.cons (oper_at rfl) (fun K hK => ?_) (AllReadyH.cons (oper_at rfl) (fun K hK => ?_) AllReadyH.nil))
      · go_simp
        go_at_call 18
        refine (C18.out _ _ (by repeat (first | assumption | exact Ext.refl _ | apply Ext.alloc | apply Ext.drew | apply Ext.drewN)) (HSF.out.ext (by repeat (first | assumption | exact Ext.refl _ | apply Ext.alloc | apply Ext.drew | apply Ext.drewN)))).mono ?_
        rintro _ w4 ⟨vc, rfl, hdc, hE4⟩
        have hX4 : Ext w3 w4 := Ext.trans (by repeat (first | assumption | exact Ext.refl _ | apply Ext.alloc | apply Ext.drew | apply Ext.drewN)) hE4
        have HE4 := Lib.hid hE4
        obtain ⟨Ac, cc, rfl, -, -, -⟩ := hdc.read
        rw [List.length_map] at hdc
        have HDC := Lib.hid hdc
        clear hdc hE4
        refine hK.out _ _ ?_ (fun hHeld => ?_)
        · first | assumption | exact KB.out _ (by repeat (first | assumption | exact Ext.refl _ | apply Ext.alloc | apply Ext.drew | apply Ext.drewN))
        clear hK K
        try simp only [Act.put, List.setIfInBounds_toArray, List.set_cons_zero, List.set_cons_succ]
        refine wpAnyH_take (i := 7) (v := ?_) (oper_at rfl) (by kernel_rfl) (by kernel_rfl) (by kernel_rfl) (fun _ _ _ h => h) (Or.inl ⟨by rfl, ?_⟩) hHeld ?_
        rotate_left
        · (intro ww hSw; (try dsimp only at hSw); go_simp; try (with_reducible rfl))
        try simp only [Act.put, List.setIfInBounds_toArray, List.set_cons_zero, List.set_cons_succ]
        refine wpAnyH_take (i := 8) (v := ?_) (oper_at rfl) (by kernel_rfl) (by kernel_rfl) (by kernel_rfl) (fun _ _ _ h => h) (Or.inl ⟨by rfl, ?_⟩) hHeld ?_
        rotate_left
        · (intro ww hSw; (try dsimp only at hSw); go_simp; try (with_reducible rfl))
        try simp only [Act.put, List.setIfInBounds_toArray, List.set_cons_zero, List.set_cons_succ]
        refine wpAnyH_take (i := 9) (v := ?_) (oper_at rfl) (by kernel_rfl) (by kernel_rfl) (by kernel_rfl) (fun _ _ _ h => h) (Or.inl ⟨by rfl, ?_⟩) hHeld ?_
        rotate_left
        · (intro ww hSw; (try dsimp only at hSw); go_simp; try (with_reducible rfl))
        try simp only [Act.put, List.setIfInBounds_toArray, List.set_cons_zero, List.set_cons_succ]
        refine wpAnyH_ready (rs := [10]) (by kernel_rfl) (by simp) (AllReadyH.cons (oper_at rfl) (fun K hK => ?_) AllReadyH.nil)
        go_simp
        generalize hwa : World.alloc _ (.cells #[.slice none 0 0] 32) = wa
        have HBA := Lib.hid (BA.out _ _ hwa)
        have hXa : Ext w3 wa := by (rw [← hwa]; exact Ext.alloc (by repeat (first | assumption | exact Ext.refl _ | apply Ext.alloc | apply Ext.drew | apply Ext.drewN)) _)
        have hXpa := Lib.hid (HXA.out _ _ _ hwa)
        clear hwa
        refine hK.out _ _ ?_ (fun hHeld => ?_)
        · first | assumption | exact KB.out _ (by repeat (first | assumption | exact Ext.refl _ | apply Ext.alloc | apply Ext.drew | apply Ext.drewN))
        clear hK K
        try simp only [Act.put, List.setIfInBounds_toArray, List.set_cons_zero, List.set_cons_succ]
        have HBB := HBA
        have HDB := HDC.out.ext hXpa.out
        have tb := HBB.out.cell (k := 0) (by decide)
        have fb := HBB.out.frozen 0
        refine wpAnyH_ready (rs := [11]) (by kernel_rfl) (by simp) (AllReadyH.cons (oper_at rfl) (fun K hK => ?_) AllReadyH.nil)
        go_simp
        generalize hw5 : World.setCell _ _ _ = w5
        have HB5 := Lib.hid (show Bk w5 _ 1 (fun _ => _) from (by rw [← hw5]; exact HBB.out.set1 _))
        have HD5 := Lib.hid (show DsAt w5 _ _ from (by rw [← hw5]; exact HDB.put1 HBB.out _))
        have hX5 : Ext w3 w5 := by (rw [← hw5]; exact Ext.set (by repeat (first | assumption | exact Ext.refl _ | apply Ext.alloc | apply Ext.drew | apply Ext.drewN)) (by first | exact Nat.le_refl _ | exact hXf.size | exact hX4.size) _)
        clear hw5 tb fb
        refine hK.out _ _ ?_ (fun hHeld => ?_)
        · first | assumption | exact KB.out _ (by repeat (first | assumption | exact Ext.refl _ | apply Ext.alloc | apply Ext.drew | apply Ext.drewN))
        clear hK K
        try simp only [Act.put, List.setIfInBounds_toArray, List.set_cons_zero, List.set_cons_succ]
        refine wpAnyH_take (i := 12) (v := ?_) (oper_at rfl) (by kernel_rfl) (by kernel_rfl) (by kernel_rfl) (fun _ _ _ h => h) (Or.inl ⟨by rfl, ?_⟩) hHeld ?_
        rotate_left
        · (intro ww hSw; (try dsimp only at hSw); go_simp; try (with_reducible rfl))
        try simp only [Act.put, List.setIfInBounds_toArray, List.set_cons_zero, List.set_cons_succ]
        refine wpAnyH_done (by kernel_rfl) ?_ _
        refine NoPanic.normal ?_
        go_wp2_with fail
        go_meet
        exact ⟨_, _, rfl, rfl, HB5.out, HD5.out, hX5⟩
      · go_simp
        generalize hwa : World.alloc _ (.cells #[.slice none 0 0] 32) = wa
        have HBA := Lib.hid (BA.out _ _ hwa)
        have hXa : Ext w3 wa := by (rw [← hwa]; exact Ext.alloc (by repeat (first | assumption | exact Ext.refl _ | apply Ext.alloc | apply Ext.drew | apply Ext.drewN)) _)
        have hXpa := Lib.hid (HXA.out _ _ _ hwa)
        clear hwa
        refine hK.out _ _ ?_ (fun hHeld => ?_)
        · first | assumption | exact KB.out _ (by repeat (first | assumption | exact Ext.refl _ | apply Ext.alloc | apply Ext.drew | apply Ext.drewN))
        clear hK K
        try simp only [Act.put, List.setIfInBounds_toArray, List.set_cons_zero, List.set_cons_succ]
        refine wpAnyH_ready (rs := [6]) (by kernel_rfl) (by simp) (AllReadyH.cons (oper_at rfl) (fun K hK => ?_) AllReadyH.nil)
        go_simp
        go_at_call 18
        refine (C18.out _ _ (by repeat (first | assumption | exact Ext.refl _ | apply Ext.alloc | apply Ext.drew | apply Ext.drewN)) (HSF.out.ext (Ext.trans hXpa.out (by repeat (first | assumption | exact Ext.refl _ | apply Ext.alloc | apply Ext.drew | apply Ext.drewN))))).mono ?_
        rintro _ w4 ⟨vc, rfl, hdc, hE4⟩
        have hX4 : Ext w3 w4 := Ext.trans (by repeat (first | assumption | exact Ext.refl _ | apply Ext.alloc | apply Ext.drew | apply Ext.drewN)) hE4
        have HE4 := Lib.hid hE4
        obtain ⟨Ac, cc, rfl, -, -, -⟩ := hdc.read
        rw [List.length_map] at hdc
        have HDC := Lib.hid hdc
        clear hdc hE4
        refine hK.out _ _ ?_ (fun hHeld => ?_)
        · first | assumption | exact KB.out _ (by repeat (first | assumption | exact Ext.refl _ | apply Ext.alloc | apply Ext.drew | apply Ext.drewN))
        clear hK K
        try simp only [Act.put, List.setIfInBounds_toArray, List.set_cons_zero, List.set_cons_succ]
        refine wpAnyH_take (i := 7) (v := ?_) (oper_at rfl) (by kernel_rfl) (by kernel_rfl) (by kernel_rfl) (fun _ _ _ h => h) (Or.inl ⟨by rfl, ?_⟩) hHeld ?_
        rotate_left
        · (intro ww hSw; (try dsimp only at hSw); go_simp; try (with_reducible rfl))
        try simp only [Act.put, List.setIfInBounds_toArray, List.set_cons_zero, List.set_cons_succ]
        refine wpAnyH_take (i := 8) (v := ?_) (oper_at rfl) (by kernel_rfl) (by kernel_rfl) (by kernel_rfl) (fun _ _ _ h => h) (Or.inl ⟨by rfl, ?_⟩) hHeld ?_
        rotate_left
        · (intro ww hSw; (try dsimp only at hSw); go_simp; try (with_reducible rfl))
        try simp only [Act.put, List.setIfInBounds_toArray, List.set_cons_zero, List.set_cons_succ]
        refine wpAnyH_take (i := 9) (v := ?_) (oper_at rfl) (by kernel_rfl) (by kernel_rfl) (by kernel_rfl) (fun _ _ _ h => h) (Or.inl ⟨by rfl, ?_⟩) hHeld ?_
        rotate_left
        · (intro ww hSw; (try dsimp only at hSw); go_simp; try (with_reducible rfl))
        try simp only [Act.put, List.setIfInBounds_toArray, List.set_cons_zero, List.set_cons_succ]
        have HBB := Lib.hid (by first | exact HBA.out.ext HE4.out | exact HBA.out.drew.ext HE4.out)
        have HDB := HDC.out
        have tb := HBB.out.cell (k := 0) (by decide)
        have fb := HBB.out.frozen 0
        refine wpAnyH_ready (rs := [11]) (by kernel_rfl) (by simp) (AllReadyH.cons (oper_at rfl) (fun K hK => ?_) AllReadyH.nil)
        go_simp
        generalize hw5 : World.setCell _ _ _ = w5
        have HB5 := Lib.hid (show Bk w5 _ 1 (fun _ => _) from (by rw [← hw5]; exact HBB.out.set1 _))
        have HD5 := Lib.hid (show DsAt w5 _ _ from (by rw [← hw5]; exact HDB.put1 HBB.out _))
        have hX5 : Ext w3 w5 := by (rw [← hw5]; exact Ext.set (by repeat (first | assumption | exact Ext.refl _ | apply Ext.alloc | apply Ext.drew | apply Ext.drewN)) (by first | exact Nat.le_refl _ | exact hXf.size | exact hX4.size) _)
        clear hw5 tb fb
        refine hK.out _ _ ?_ (fun hHeld => ?_)
        · first | assumption | exact KB.out _ (by repeat (first | assumption | exact Ext.refl _ | apply Ext.alloc | apply Ext.drew | apply Ext.drewN))
        clear hK K
        try simp only [Act.put, List.setIfInBounds_toArray, List.set_cons_zero, List.set_cons_succ]
        refine wpAnyH_take (i := 12) (v := ?_) (oper_at rfl) (by kernel_rfl) (by kernel_rfl) (by kernel_rfl) (fun _ _ _ h => h) (Or.inl ⟨by rfl, ?_⟩) hHeld ?_
        rotate_left
        · (intro ww hSw; (try dsimp only at hSw); go_simp; try (with_reducible rfl))
        try simp only [Act.put, List.setIfInBounds_toArray, List.set_cons_zero, List.set_cons_succ]
        refine wpAnyH_done (by kernel_rfl) ?_ _
        refine NoPanic.normal ?_
        go_wp2_with fail
        go_meet
        exact ⟨_, _, rfl, rfl, HB5.out, HD5.out, hX5⟩
    · go_simp
      generalize hwa : World.alloc _ (.cells #[.slice none 0 0] 32) = wa
      have HBA := Lib.hid (BA.out _ _ hwa)
      have hXa : Ext w3 wa := by (rw [← hwa]; exact Ext.alloc (by repeat (first | assumption | exact Ext.refl _ | apply Ext.alloc | apply Ext.drew | apply Ext.drewN)) _)
      have hXpa := Lib.hid (HXA.out _ _ _ hwa)
      clear hwa
      refine hK.out _ _ ?_ (fun hHeld => ?_)
      · first | assumption | exact KB.out _ (by repeat (first | assumption | exact Ext.refl _ | apply Ext.alloc | apply Ext.drew | apply Ext.drewN))
      clear hK K
      try simp only [Act.put, List.setIfInBounds_toArray, List.set_cons_zero, List.set_cons_succ]
      refine wpAnyH_ready (rs := [5]) (by kernel_rfl) (by simp) (AllReadyH.cons (oper_at rfl) (fun K hK => ?_) AllReadyH.nil)
      go_simp
      generalize hwf : World.alloc _ (.cells #[sV nm] 9) = wf
      have HSF := Lib.hid (SS2.out _ _ hwf)
      have hXf : Ext w3 wf := by (rw [← hwf]; exact Ext.alloc (by repeat (first | assumption | exact Ext.refl _ | apply Ext.alloc | apply Ext.drew | apply Ext.drewN)) _)
      have hXpf := Lib.hid (HXA.out _ _ _ hwf)
      clear hwf
      refine hK.out _ _ ?_ (fun hHeld => ?_)
      · first | assumption | exact KB.out _ (by repeat (first | assumption | exact Ext.refl _ | apply Ext.alloc | apply Ext.drew | apply Ext.drewN))
      clear hK K
      try simp only [Act.put, List.setIfInBounds_toArray, List.set_cons_zero, List.set_cons_succ]
      refine wpAnyH_ready (rs := [6]) (by kernel_rfl) (by simp) (AllReadyH.cons (oper_at rfl) (fun K hK => ?_) AllReadyH.nil)
      go_simp
      go_at_call 18
      refine (C18.out _ _ (by repeat (first | assumption | exact Ext.refl _ | apply Ext.alloc | apply Ext.drew | apply Ext.drewN)) (HSF.out.ext (by repeat (first | assumption | exact Ext.refl _ | apply Ext.alloc | apply Ext.drew | apply Ext.drewN)))).mono ?_
      rintro _ w4 ⟨vc, rfl, hdc, hE4⟩
      have hX4 : Ext w3 w4 := Ext.trans (by repeat (first | assumption | exact Ext.refl _ | apply Ext.alloc | apply Ext.drew | apply Ext.drewN)) hE4
      have HE4 := Lib.hid hE4
      obtain ⟨Ac, cc, rfl, -, -, -⟩ := hdc.read
      rw [List.length_map] at hdc
      have HDC := Lib.hid hdc
      clear hdc hE4
      refine hK.out _ _ ?_ (fun hHeld => ?_)
      · first | assumption | exact KB.out _ (by repeat (first | assumption | exact Ext.refl _ | apply Ext.alloc | apply Ext.drew | apply Ext.drewN))
      clear hK K
      try simp only [Act.put, List.setIfInBounds_toArray, List.set_cons_zero, List.set_cons_succ]
      refine wpAnyH_take (i := 7) (v := ?_) (oper_at rfl) (by kernel_rfl) (by kernel_rfl) (by kernel_rfl) (fun _ _ _ h => h) (Or.inl ⟨by rfl, ?_⟩) hHeld ?_
      rotate_left
      · (intro ww hSw; (try dsimp only at hSw); go_simp; try (with_reducible rfl))
      try simp only [Act.put, List.setIfInBounds_toArray, List.set_cons_zero, List.set_cons_succ]
      refine wpAnyH_take (i := 8) (v := ?_) (oper_at rfl) (by kernel_rfl) (by kernel_rfl) (by kernel_rfl) (fun _ _ _ h => h) (Or.inl ⟨by rfl, ?_⟩) hHeld ?_
      rotate_left
      · (intro ww hSw; (try dsimp only at hSw); go_simp; try (with_reducible rfl))
      try simp only [Act.put, List.setIfInBounds_toArray, List.set_cons_zero, List.set_cons_succ]
      refine wpAnyH_take (i := 9) (v := ?_) (oper_at rfl) (by kernel_rfl) (by kernel_rfl) (by kernel_rfl) (fun _ _ _ h => h) (Or.inl ⟨by rfl, ?_⟩) hHeld ?_
      rotate_left
      · (intro ww hSw; (try dsimp only at hSw); go_simp; try (with_reducible rfl))
      try simp only [Act.put, List.setIfInBounds_toArray, List.set_cons_zero, List.set_cons_succ]
      have HBB := Lib.hid (by first | exact HBA.out.ext (hXpf.out.drew.trans HE4.out) | exact HBA.out.drew.ext (hXpf.out.drew.trans HE4.out) | exact HBA.out.ext (hXpf.out.trans HE4.out) | exact HBA.out.drew.ext (hXpf.out.trans HE4.out))
      have HDB := HDC.out
      have tb := HBB.out.cell (k := 0) (by decide)
      have fb := HBB.out.frozen 0
      refine wpAnyH_ready (rs := [11]) (by kernel_rfl) (by simp) (AllReadyH.cons (oper_at rfl) (fun K hK => ?_) AllReadyH.nil)
      go_simp
      generalize hw5 : World.setCell _ _ _ = w5
      have HB5 := Lib.hid (show Bk w5 _ 1 (fun _ => _) from (by rw [← hw5]; exact HBB.out.set1 _))
      have HD5 := Lib.hid (show DsAt w5 _ _ from (by rw [← hw5]; exact HDB.put1 HBB.out _))
      have hX5 : Ext w3 w5 := by (rw [← hw5]; exact Ext.set (by repeat (first | assumption | exact Ext.refl _ | apply Ext.alloc | apply Ext.drew | apply Ext.drewN)) (by first | exact Nat.le_refl _ | exact hXf.size | exact hX4.size) _)
      clear hw5 tb fb
      refine hK.out _ _ ?_ (fun hHeld => ?_)
      · first | assumption | exact KB.out _ (by repeat (first | assumption | exact Ext.refl _ | apply Ext.alloc | apply Ext.drew | apply Ext.drewN))
      clear hK K
      try simp only [Act.put, List.setIfInBounds_toArray, List.set_cons_zero, List.set_cons_succ]
      refine wpAnyH_take (i := 12) (v := ?_) (oper_at rfl) (by kernel_rfl) (by kernel_rfl) (by kernel_rfl) (fun _ _ _ h => h) (Or.inl ⟨by rfl, ?_⟩) hHeld ?_
      rotate_left
      · (intro ww hSw; (try dsimp only at hSw); go_simp; try (with_reducible rfl))
      try simp only [Act.put, List.setIfInBounds_toArray, List.set_cons_zero, List.set_cons_succ]
      refine wpAnyH_done (by kernel_rfl) ?_ _
      refine NoPanic.normal ?_
      go_wp2_with fail
      go_meet
      exact ⟨_, _, rfl, rfl, HB5.out, HD5.out, hX5⟩
  case rest =>
    obtain ⟨g5, v5, rfl, rfl, hb5, hd5, hX5⟩ := hcut
    have HB5 := Lib.hid hb5
    have HD5 := Lib.hid hd5
    have HX5 := Lib.hid hX5
    have HXW := Lib.hid (HE1.out.trans (HE3.out.trans hX5))
    have HF5 := Lib.hid (HF2.out.ext (HE3.out.trans hX5))
    have C14a : Hid (∀ W T, Ext wc W → SsAt W T [nm] → Calls Tryd.prog 14 #[dsV (.slice Ad (docF fs).length cd), .slice A2 fs.length c2, T] W (RetB true W)) := Lib.hid (fun W T hW hs => shows14_ok fs _ _ T [nm] W HOK.out (noName_not HOK.out) (HD3.out.ext (HX5.out.trans hW)) (HF5.out.ext hW) hs (HT.out.ext (HXW.out.trans hW)))
    have C14b : Hid (∀ W, Ext wc W → Calls Tryd.prog 14 #[dsV v5, .slice A2 fs.length c2, nilV] W (RetB true W)) := Lib.hid (fun W hW => shows14_ok fs _ _ nilV [] W HOK.out (noName_not HOK.out) (HD5.out.ext hW) (HF5.out.ext hW) (SlAt.nil _ _) (HT.out.ext (HXW.out.trans hW)))
    clear hb5 hd5 hX5 KB C18 HCF CD CV
    have KB : Hid (∀ W, Ext wc W → (fun w' => Ext wc w' ∧ w'.cell? ⟨w2.heap.size, 0, none⟩ = some (.slice Ad (docF fs).length cd) ∧ w'.cell? ⟨g5, 0, none⟩ = some v5 ∧ w'.cell? ⟨b, o, none⟩ = some (sV nm)) W) := Lib.hid (fun W h => ⟨h, (HB3.out.ext (HX5.out.trans h)).cell (k := 0) (by decide), (HB5.out.ext h).cell (k := 0) (by decide), (HE3.out.trans (HX5.out.trans h)).cell N0.out⟩)
    go_upto_region 4 with fail
    refine wp_region_noPanic ?_
    refine wp_region_held_drew (S := (fun w' => Ext wc w' ∧ w'.cell? ⟨w2.heap.size, 0, none⟩ = some (.slice Ad (docF fs).length cd) ∧ w'.cell? ⟨g5, 0, none⟩ = some v5 ∧ w'.cell? ⟨b, o, none⟩ = some (sV nm))) (by kernel_rfl) ?_ (fun hHeld => ?_)
    · first | assumption | exact KB.out _ (by repeat (first | assumption | exact Ext.refl _ | apply Ext.alloc | apply Ext.drew | apply Ext.drewN))
    refine wpAnyH_take (i := 0) (v := ?_) (oper_at rfl) (by kernel_rfl) (by kernel_rfl) (by kernel_rfl) (fun _ _ _ h => h) (Or.inl ⟨by rfl, ?_⟩) hHeld ?_
    rotate_left
    · (intro ww hSw; (try dsimp only at hSw); go_simp; try (with_reducible rfl))
    try simp only [Act.put, List.setIfInBounds_toArray, List.set_cons_zero, List.set_cons_succ]
    refine wpAnyH_take (i := 1) (v := ?_) (oper_at rfl) (by kernel_rfl) (by kernel_rfl) (by kernel_rfl) (fun _ _ _ h => h) (Or.inl ⟨by rfl, ?_⟩) hHeld ?_
    rotate_left
    · (intro ww hSw; (try dsimp only at hSw); go_simp; try (with_reducible rfl))
    try simp only [Act.put, List.setIfInBounds_toArray, List.set_cons_zero, List.set_cons_succ]
    refine wpAnyH_take (i := 2) (v := ?_) (oper_at rfl) (by kernel_rfl) (by kernel_rfl) (by kernel_rfl) (fun _ _ _ h => h) (Or.inl ⟨by rfl, ?_⟩) hHeld ?_
    rotate_left
    · (intro ww hSw; (try dsimp only at hSw); go_simp; try (with_reducible rfl))
    try simp only [Act.put, List.setIfInBounds_toArray, List.set_cons_zero, List.set_cons_succ]
    refine wpAnyH_take (i := 3) (v := ?_) (oper_at rfl) (by kernel_rfl) (by kernel_rfl) (by kernel_rfl) (fun _ _ _ h => h) (Or.inl ⟨by rfl, ?_⟩) hHeld ?_
    rotate_left
    · (intro ww hSw; (try dsimp only at hSw); go_simp; try (with_reducible rfl))
    try simp only [Act.put, List.setIfInBounds_toArray, List.set_cons_zero, List.set_cons_succ]
    refine wpAnyH_take (i := 4) (v := ?_) (oper_at rfl) (by kernel_rfl) (by kernel_rfl) (by kernel_rfl) (fun _ _ _ h => h) (Or.inl ⟨by rfl, ?_⟩) hHeld ?_
    rotate_left
    · (intro ww hSw; (try dsimp only at hSw); go_simp; try (with_reducible rfl))
    try simp only [Act.put, List.setIfInBounds_toArray, List.set_cons_zero, List.set_cons_succ]
    refine wpAnyH_take (i := 5) (v := ?_) (oper_at rfl) (by kernel_rfl) (by kernel_rfl) (by kernel_rfl) (fun _ _ _ h => h) (Or.inl ⟨by rfl, ?_⟩) hHeld ?_
    rotate_left
    · (intro ww hSw; (try dsimp only at hSw); go_simp; try (with_reducible rfl))
    try simp only [Act.put, List.setIfInBounds_toArray, List.set_cons_zero, List.set_cons_succ]
    refine wpAnyH_take (i := 6) (v := ?_) (oper_at rfl) (by kernel_rfl) (by kernel_rfl) (by kernel_rfl) (fun _ _ _ h => h) (Or.inl ⟨by rfl, ?_⟩) hHeld ?_
    rotate_left
    · (intro ww hSw; (try dsimp only at hSw); go_simp; try (with_reducible rfl))
    try simp only [Act.put, List.setIfInBounds_toArray, List.set_cons_zero, List.set_cons_succ]
    refine wpAnyH_take (i := 7) (v := ?_) (oper_at rfl) (by kernel_rfl) (by kernel_rfl) (by kernel_rfl) (fun _ _ _ h => h) (Or.inl ⟨by rfl, ?_⟩) hHeld ?_
    rotate_left
    · (intro ww hSw; (try dsimp only at hSw); go_simp; try (with_reducible rfl))
    try simp only [Act.put, List.setIfInBounds_toArray, List.set_cons_zero, List.set_cons_succ]
    refine wpAnyH_take (i := 8) (v := ?_) (oper_at rfl) (by kernel_rfl) (by kernel_rfl) (by kernel_rfl) (fun _ _ _ h => h) (Or.inl ⟨by rfl, ?_⟩) hHeld ?_
    rotate_left
    · (intro ww hSw; (try dsimp only at hSw); go_simp; try (with_reducible rfl))
    try simp only [Act.put, List.setIfInBounds_toArray, List.set_cons_zero, List.set_cons_succ]
    refine wpAnyH_take (i := 9) (v := ?_) (oper_at rfl) (by kernel_rfl) (by kernel_rfl) (by kernel_rfl) (fun _ _ _ h => h) (Or.inl ⟨by rfl, ?_⟩) hHeld ?_
    rotate_left
    · (intro ww hSw; (try dsimp only at hSw); go_simp; try (with_reducible rfl))
    try simp only [Act.put, List.setIfInBounds_toArray, List.set_cons_zero, List.set_cons_succ]
    refine wpAnyH_take (i := 10) (v := ?_) (oper_at rfl) (by kernel_rfl) (by kernel_rfl) (by kernel_rfl) (fun _ _ _ h => h) (Or.inl ⟨by rfl, ?_⟩) hHeld ?_
    rotate_left
    · (intro ww hSw; (try dsimp only at hSw); go_simp; try (with_reducible rfl))
    try simp only [Act.put, List.setIfInBounds_toArray, List.set_cons_zero, List.set_cons_succ]
    refine wpAnyH_take (i := 11) (v := ?_) (oper_at rfl) (by kernel_rfl) (by kernel_rfl) (by kernel_rfl) (fun _ _ _ h => h) (Or.inl ⟨by rfl, ?_⟩) hHeld ?_
    rotate_left
    · (intro ww hSw; (try dsimp only at hSw); go_simp; try (with_reducible rfl))
    try simp only [Act.put, List.setIfInBounds_toArray, List.set_cons_zero, List.set_cons_succ]
    refine wpAnyH_take (i := 12) (v := ?_) (oper_at rfl) (by kernel_rfl) (by kernel_rfl) (by kernel_rfl) (fun _ _ _ h => h) (Or.inl ⟨by rfl, ?_⟩) hHeld ?_
    rotate_left
    · (intro ww hSw; (try dsimp only at hSw); go_simp; try (with_reducible rfl))
    try simp only [Act.put, List.setIfInBounds_toArray, List.set_cons_zero, List.set_cons_succ]
    refine wpAnyH_ready (rs := [13]) (by kernel_rfl) (by simp) (AllReadyH.cons (oper_at rfl) (fun K hK => ?_) AllReadyH.nil)
    go_simp
    generalize hwf : World.alloc _ (.cells #[sV nm] 9) = wf
    have HSF := Lib.hid (SS2.out _ _ hwf)
    have hXf : Ext wc wf := by (rw [← hwf]; exact Ext.alloc (by repeat (first | assumption | exact Ext.refl _ | apply Ext.alloc | apply Ext.drew | apply Ext.drewN)) _)
    clear hwf
    refine hK.out _ _ ?_ (fun hHeld => ?_)
    · first | assumption | exact KB.out _ (by repeat (first | assumption | exact Ext.refl _ | apply Ext.alloc | apply Ext.drew | apply Ext.drewN))
    clear hK K
    try simp only [Act.put, List.setIfInBounds_toArray, List.set_cons_zero, List.set_cons_succ]
    refine wpAnyH_ready (rs := [14]) (by kernel_rfl) (by simp) (AllReadyH.cons (oper_at rfl) (fun K hK => ?_) AllReadyH.nil)
    go_simp
    go_at_call 14
    refine (C14a.out _ _ (by repeat (first | assumption | exact Ext.refl _ | apply Ext.alloc | apply Ext.drew | apply Ext.drewN)) (HSF.out.ext (by repeat (first | assumption | exact Ext.refl _ | apply Ext.alloc | apply Ext.drew | apply Ext.drewN)))).mono ?_
    rintro _ w6 ⟨rfl, hE6⟩
    have hX6 : Ext wc w6 := Ext.trans (by repeat (first | assumption | exact Ext.refl _ | apply Ext.alloc | apply Ext.drew | apply Ext.drewN)) hE6
    clear hE6
    refine hK.out _ _ ?_ (fun hHeld => ?_)
    · first | assumption | exact KB.out _ (by repeat (first | assumption | exact Ext.refl _ | apply Ext.alloc | apply Ext.drew | apply Ext.drewN))
    clear hK K
    try simp only [Act.put, List.setIfInBounds_toArray, List.set_cons_zero, List.set_cons_succ]
    refine wpAnyH_take (i := 15) (v := ?_) (oper_at rfl) (by kernel_rfl) (by kernel_rfl) (by kernel_rfl) (fun _ _ _ h => h) (Or.inl ⟨by rfl, ?_⟩) hHeld ?_
    rotate_left
    · (intro ww hSw; (try dsimp only at hSw); go_simp; try (with_reducible rfl))
    try simp only [Act.put, List.setIfInBounds_toArray, List.set_cons_zero, List.set_cons_succ]
    refine wpAnyH_take (i := 16) (v := ?_) (oper_at rfl) (by kernel_rfl) (by kernel_rfl) (by kernel_rfl) (fun _ _ _ h => h) (Or.inl ⟨by rfl, ?_⟩) hHeld ?_
    rotate_left
    · (intro ww hSw; (try dsimp only at hSw); go_simp; try (with_reducible rfl))
    try simp only [Act.put, List.setIfInBounds_toArray, List.set_cons_zero, List.set_cons_succ]
    refine wpAnyH_take (i := 17) (v := ?_) (oper_at rfl) (by kernel_rfl) (by kernel_rfl) (by kernel_rfl) (fun _ _ _ h => h) (Or.inl ⟨by rfl, ?_⟩) hHeld ?_
    rotate_left
    · (intro ww hSw; (try dsimp only at hSw); go_simp; try (with_reducible rfl))
    try simp only [Act.put, List.setIfInBounds_toArray, List.set_cons_zero, List.set_cons_succ]
    refine wpAnyH_take (i := 18) (v := ?_) (oper_at rfl) (by kernel_rfl) (by kernel_rfl) (by kernel_rfl) (fun _ _ _ h => h) (Or.inl ⟨by rfl, ?_⟩) hHeld ?_
    rotate_left
    · (intro ww hSw; (try dsimp only at hSw); go_simp; try (with_reducible rfl))
    try simp only [Act.put, List.setIfInBounds_toArray, List.set_cons_zero, List.set_cons_succ]
    refine wpAnyH_ready (rs := [19]) (by kernel_rfl) (by simp) (AllReadyH.cons (oper_at rfl) (fun K hK => ?_) AllReadyH.nil)
    go_simp
    go_at_call 14
    refine (C14b.out _ (by repeat (first | assumption | exact Ext.refl _ | apply Ext.alloc | apply Ext.drew | apply Ext.drewN))).mono ?_
    rintro _ w7 ⟨rfl, hE7⟩
    have hX7 : Ext wc w7 := Ext.trans (by repeat (first | assumption | exact Ext.refl _ | apply Ext.alloc | apply Ext.drew | apply Ext.drewN)) hE7
    clear hE7
    refine hK.out _ _ ?_ (fun hHeld => ?_)
    · first | assumption | exact KB.out _ (by repeat (first | assumption | exact Ext.refl _ | apply Ext.alloc | apply Ext.drew | apply Ext.drewN))
    clear hK K
    try simp only [Act.put, List.setIfInBounds_toArray, List.set_cons_zero, List.set_cons_succ]
    refine wpAnyH_take (i := 20) (v := ?_) (oper_at rfl) (by kernel_rfl) (by kernel_rfl) (by kernel_rfl) (fun _ _ _ h => h) (Or.inl ⟨by rfl, ?_⟩) hHeld ?_
    rotate_left
    · (intro ww hSw; (try dsimp only at hSw); go_simp; try (with_reducible rfl))
    try simp only [Act.put, List.setIfInBounds_toArray, List.set_cons_zero, List.set_cons_succ]
    refine wpAnyH_take (i := 21) (v := ?_) (oper_at rfl) (by kernel_rfl) (by kernel_rfl) (by kernel_rfl) (fun _ _ _ h => h) (Or.inl ⟨by rfl, ?_⟩) hHeld ?_
    rotate_left
    · (intro ww hSw; (try dsimp only at hSw); go_simp; try (with_reducible rfl))
    try simp only [Act.put, List.setIfInBounds_toArray, List.set_cons_zero]
    refine wpAnyH_done (by kernel_rfl) ?_ _
    refine NoPanic.normal ?_
    go_wp2_with fail
    go_ret
    exact ⟨rfl, HXW.out.trans hX7⟩
end Go.Proofs.YtjedhndhdkiidaaDoor
