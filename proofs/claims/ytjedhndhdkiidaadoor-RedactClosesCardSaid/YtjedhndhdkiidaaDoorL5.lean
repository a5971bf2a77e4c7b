/- The walk over RedactCloses. -/
import Derived.Test.YtjedhndhdkiidaaDoorH1
namespace Go.Proofs.YtjedhndhdkiidaaDoor
open Go.RowKit
attribute [local go_sem ↓] Go.wp_at_zero Go.wp_at_succ
attribute [local go_sem] baSize baList
set_option maxRecDepth 100000 in
set_option maxHeartbeats 1000000 in
theorem closes_law (rs : List Rw) (v : Value) (b s : Nat) (w : World) (h : RsAt w v rs) (hb : b < 65536) (hs : s < 65536) (hT : Tab w) : Calls Tryd.prog 5 #[v, .int .u16 (b : Int), .int .u16 (s : Int)] w (RetB true w) := by
  have CV := Lib.hid (valid10_ok rs v w h)
  have HT := Lib.hid hT
  have HB := Lib.hid hb
  have HS := Lib.hid hs
  obtain ⟨fs, hfs⟩ : ∃ fs, vfF rs = fs := ⟨_, rfl⟩
  have HOK : Hid (DocOk fs) := Lib.hid (by rw [← hfs]; exact vf_ok rs)
  rw [hfs] at CV
  have qa := andn_eq b s
  obtain ⟨A, c, rfl, -, -, -⟩ := h.read
  clear hfs h hT hb hs
  go_enter Tryd.func5, Tryd.ntmps5
  go_wp2_with fail
  refine CV.out.mono ?_
  rintro _ w1 ⟨v1, v2, rfl, hf1, hf2, hE1⟩
  have HF1 := Lib.hid hf1
  have HF2 := Lib.hid hf2
  have HE1 := Lib.hid hE1
  obtain ⟨A1, c1, rfl, -, -, -⟩ := hf1.read
  obtain ⟨A2, c2, rfl, -, -, -⟩ := hf2.read
  obtain ⟨ss, hss⟩ : ∃ ss, nmK fs b fs.length = ss := ⟨_, rfl⟩
  obtain ⟨tt, htt⟩ : ∃ tt, nmK fs s fs.length = tt := ⟨_, rfl⟩
  obtain ⟨rr, hrr⟩ : ∃ rr, nmK fs (andn b s) fs.length = rr := ⟨_, rfl⟩
  obtain ⟨dd, hdd⟩ : ∃ dd, (docF fs).map (keepF ss) = dd := ⟨_, rfl⟩
  obtain ⟨ee, hee⟩ : ∃ ee, (docF fs).map (keepF rr) = ee := ⟨_, rfl⟩
  have HDD := Lib.hid hdd
  have HEE := Lib.hid hee
  have hle : fs.length ≤ 64 := HOK.out.le
  have C11b : Hid (∀ W, Ext w1 W → Calls Tryd.prog 11 #[.slice A1 fs.length c1, .int .u16 (b : Int)] W (RetSs ss W)) := Lib.hid (fun W hW => by rw [← hss]; exact names11_ok fs _ b W (HF1.out.ext hW) HB.out (by omega))
  have C11s : Hid (∀ W, Ext w1 W → Calls Tryd.prog 11 #[.slice A1 fs.length c1, .int .u16 (s : Int)] W (RetSs tt W)) := Lib.hid (fun W hW => by rw [← htt]; exact names11_ok fs _ s W (HF1.out.ext hW) HS.out (by omega))
  have C11r : Hid (∀ W, Ext w1 W → Calls Tryd.prog 11 #[.slice A1 fs.length c1, .int .u16 ((andn b s : Nat) : Int)] W (RetSs rr W)) := Lib.hid (fun W hW => by rw [← hrr]; exact names11_ok fs _ _ W (HF1.out.ext hW) (andn_lt b s) (by omega))
  have C12 : Hid (∀ W T, Ext w1 W → SsAt W T ss → Calls Tryd.prog 12 #[.slice A1 fs.length c1, T] W (RetD dd 0 W)) := Lib.hid (fun W T hW ht => by
    have := disclose12_ok fs _ ss T W (HF1.out.ext hW) ht (HT.out.ext (HE1.out.trans hW))
    rw [discF_ok HOK.out (by rw [← hss]; exact nmK_sub (Nat.le_refl _)), hdd] at this
    exact this)
  have HDL : Hid (dd.length ≤ 100) := Lib.hid (by rw [← hdd, List.length_map, docF_len]; omega)
  have HDA : Hid (Asc dd) := Lib.hid (by rw [← hdd]; exact keep_asc (docF_asc HOK.out.names) _)
  have HDK : Hid (∀ x ∈ dd, ItOk x) := Lib.hid (fun x hx => by rw [← hdd] at hx; obtain ⟨y, hy, rfl⟩ := List.mem_map.1 hx; exact keepF_ok (docF_ok HOK.out y hy))
  have HCB : Hid (closeF dd tt = (ee, 0)) := Lib.hid (by rw [← hdd, ← hss, ← htt, closeF_bits HOK.out, hrr, hee])
  have HCN : Hid (closeF dd [noName] = ([], 4)) := Lib.hid (by rw [← hdd]; exact closeF_none HOK.out _)
  clear hf1 hf2 hE1 hss htt hrr hdd hee hle
  go_upto_region 3 with (first
    | (go_at_call 11; refine (C11b.out _ (by repeat (first | assumption | exact Ext.refl _ | apply Ext.drew | apply Ext.drewN))).mono ?_; rintro _ w2 ⟨vn, rfl, hs2, hE2⟩; have HS2 := Lib.hid hs2; have HE2 := Lib.hid hE2; clear hs2 hE2)
    | (go_at_call 12; refine (C12.out _ _ HE2.out HS2.out).mono ?_; rintro _ w3 ⟨vd, rfl, hds, hE3⟩; have HDS := Lib.hid hds; have HE3 := Lib.hid (HE2.out.trans hE3); obtain ⟨Ad, cd, rfl, -, -, -⟩ := hds.read; clear hds hE3))
  generalize hw4 : w3.alloc _ = w4
  have HB4 : Hid (Bk w4 w3.heap.size 1 (fun _ => .slice Ad dd.length cd)) := Lib.hid (by rw [← hw4]; exact Bk.new1 _ _ _)
  have HE34 : Hid (Ext w3 w4) := Lib.hid (by rw [← hw4]; exact (Ext.refl _).alloc _)
  clear hw4
  have HE4 := Lib.hid (HE3.out.trans HE34.out)
  have HD4 := Lib.hid (HDS.out.ext HE34.out)
  have BA : Hid (∀ W W' : World, W.alloc (.cells #[.slice none 0 0] 32) = W' → Bk W' W.heap.size 1 (fun _ => .slice none 0 0)) := Lib.hid (fun W W' h => h ▸ Bk.new1 _ _ _)
  have HXA : Hid (∀ (W : World) (o : Obj) (W' : World), W.alloc o = W' → Ext W W') := Lib.hid (fun W o W' h => h ▸ (Ext.refl _).alloc _)
  have C18 : Hid (∀ W T, Ext w4 W → SsAt W T tt → Calls Tryd.prog 18 #[dsV (.slice Ad dd.length cd), T] W (RetD ee 0 W)) := Lib.hid (fun W T hW hs => by
    have := close18_ok dd _ tt T W (HD4.out.ext hW) HDA.out HDK.out HDL.out hs (HT.out.ext (HE1.out.trans (HE4.out.trans hW)))
    rw [HCB.out] at this
    exact this)
  have C18n : Hid (∀ W T, Ext w4 W → SsAt W T [noName] → Calls Tryd.prog 18 #[dsV (.slice Ad dd.length cd), T] W (RetD [] 4 W)) := Lib.hid (fun W T hW hs => by
    have := close18_ok dd _ [noName] T W (HD4.out.ext hW) HDA.out HDK.out HDL.out hs (HT.out.ext (HE1.out.trans (HE4.out.trans hW)))
    rw [HCN.out] at this
    exact this)
  have KB : Hid (∀ W, Ext w4 W → (fun w' => Ext w4 w' ∧ w'.cell? ⟨w3.heap.size, 0, none⟩ = some (.slice Ad dd.length cd)) W) := Lib.hid (fun W h => ⟨h, (HB4.out.ext h).cell (k := 0) (by decide)⟩)
  go_cut [11, 12] (fun s11 s12 wx => ∃ (g : Nat) (v : Value), s11 = .pointer (some ⟨g, 0, none⟩) ∧ s12 = iV 0 ∧ Bk wx g 1 (fun _ => v) ∧ DsAt wx v ee ∧ Ext w4 wx)
  case first =>
    refine wp_region_noPanic ?_
    refine wp_region_held_drew (S := (fun w' => Ext w4 w' ∧ w'.cell? ⟨w3.heap.size, 0, none⟩ = some (.slice Ad dd.length cd))) (by kernel_rfl) ?_ (fun hHeld => ?_)
    · first | assumption | exact KB.out _ (by repeat (first | assumption | exact Ext.refl _ | apply Ext.alloc | apply Ext.drew | apply Ext.drewN))
    refine wpAnyH_take (i := 0) (v := ?_) (oper_at rfl) (by kernel_rfl) (by kernel_rfl) (by kernel_rfl) (fun _ _ _ h => h) (Or.inl ⟨by rfl, ?_⟩) hHeld ?_
    rotate_left
    · (intro ww hSw; (try dsimp only at hSw); go_simp; try (with_reducible rfl))
    try simp only [Act.put, List.setIfInBounds_toArray, List.set_cons_zero, List.set_cons_succ]
    refine wpAnyH_take (i := 1) (v := ?_) (oper_at rfl) (by kernel_rfl) (by kernel_rfl) (by kernel_rfl) (fun _ _ _ h => h) (Or.inl ⟨by rfl, ?_⟩) hHeld ?_
    rotate_left
    · (intro ww hSw; (try dsimp only at hSw); go_simp; try (with_reducible rfl))
    try simp only [Act.put, List.setIfInBounds_toArray, List.set_cons_zero, List.set_cons_succ]
    refine wpAnyH_take (i := 2) (v := ?_) (oper_at rfl) (by kernel_rfl) (by kernel_rfl) (by kernel_rfl) (fun _ _ _ h => h) (Or.inl ⟨by rfl, ?_⟩) hHeld ?_
    rotate_left
    · (intro ww hSw; (try dsimp only at hSw); go_simp; try (with_reducible rfl))
    try simp only [Act.put, List.setIfInBounds_toArray, List.set_cons_zero, List.set_cons_succ]
    refine wpAnyH_ready (rs := [3, 8]) (by kernel_rfl) (by simp) (AllReadyH.cons (oper_at rfl) (fun K hK => ?_) (AllReadyH.cons (oper_at rfl) (fun K hK => ?_) AllReadyH.nil))
    · go_simp
      go_at_call 11
      refine (C11s.out _ (HE4.out.trans (by repeat (first | assumption | exact Ext.refl _ | apply Ext.alloc | apply Ext.drew | apply Ext.drewN)))).mono ?_
      rintro _ w5 ⟨vt, rfl, hs5, hE⟩
      have HS5 := Lib.hid hs5
      clear hs5
      have hXw4w5 : Ext w4 w5 := Ext.trans (by repeat (first | assumption | exact Ext.refl _ | apply Ext.alloc | apply Ext.drew | apply Ext.drewN)) hE
      clear hE
      refine hK.out _ _ ?_ (fun hHeld => ?_)
      · first | assumption | exact KB.out _ (by repeat (first | assumption | exact Ext.refl _ | apply Ext.alloc | apply Ext.drew | apply Ext.drewN))
      clear hK K
      try simp only [Act.put, List.setIfInBounds_toArray, List.set_cons_zero, List.set_cons_succ]
      refine wpAnyH_ready (rs := [4, 8]) (by kernel_rfl) (by simp) (AllReadyH.cons (oper_at rfl) (fun K hK => ?_) (AllReadyH.cons (oper_at rfl) (fun K hK => ?_) AllReadyH.nil))
      · go_simp
        go_at_call 18
        refine (C18.out _ _ (by repeat (first | assumption | exact Ext.refl _ | apply Ext.alloc | apply Ext.drew | apply Ext.drewN)) (HS5.out.ext (by repeat (first | assumption | exact Ext.refl _ | apply Ext.alloc | apply Ext.drew | apply Ext.drewN)))).mono ?_
        rintro _ w6 ⟨vc, rfl, hdc, hE⟩
        have HDC := Lib.hid hdc
        obtain ⟨Ac, cc, rfl, -, -, -⟩ := hdc.read
        clear hdc
        have hXw4w6 : Ext w4 w6 := Ext.trans (by repeat (first | assumption | exact Ext.refl _ | apply Ext.alloc | apply Ext.drew | apply Ext.drewN)) hE
        have hXw5w6 : Ext w5 w6 := Ext.trans (by repeat (first | assumption | exact Ext.refl _ | apply Ext.alloc | apply Ext.drew | apply Ext.drewN)) hE
        clear hE
        refine hK.out _ _ ?_ (fun hHeld => ?_)
        · first | assumption | exact KB.out _ (by repeat (first | assumption | exact Ext.refl _ | apply Ext.alloc | apply Ext.drew | apply Ext.drewN))
        clear hK K
        try simp only [Act.put, List.setIfInBounds_toArray, List.set_cons_zero, List.set_cons_succ]
        refine wpAnyH_take (i := 5) (v := ?_) (oper_at rfl) (by kernel_rfl) (by kernel_rfl) (by kernel_rfl) (fun _ _ _ h => h) (Or.inl ⟨by rfl, ?_⟩) hHeld ?_
        rotate_left
        · (intro ww hSw; (try dsimp only at hSw); go_simp; try (with_reducible rfl))
        try simp only [Act.put, List.setIfInBounds_toArray, List.set_cons_zero, List.set_cons_succ]
        refine wpAnyH_take (i := 6) (v := ?_) (oper_at rfl) (by kernel_rfl) (by kernel_rfl) (by kernel_rfl) (fun _ _ _ h => h) (Or.inl ⟨by rfl, ?_⟩) hHeld ?_
        rotate_left
        · (intro ww hSw; (try dsimp only at hSw); go_simp; try (with_reducible rfl))
        try simp only [Act.put, List.setIfInBounds_toArray, List.set_cons_zero, List.set_cons_succ]
        refine wpAnyH_take (i := 7) (v := ?_) (oper_at rfl) (by kernel_rfl) (by kernel_rfl) (by kernel_rfl) (fun _ _ _ h => h) (Or.inl ⟨by rfl, ?_⟩) hHeld ?_
        rotate_left
        · (intro ww hSw; (try dsimp only at hSw); go_simp; try (with_reducible rfl))
        try simp only [Act.put, List.setIfInBounds_toArray, List.set_cons_zero, List.set_cons_succ]
        refine wpAnyH_ready (rs := [8]) (by kernel_rfl) (by simp) (AllReadyH.cons (oper_at rfl) (fun K hK => ?_) AllReadyH.nil)
        go_simp
        generalize hwa : World.alloc _ (.cells #[.slice none 0 0] 32) = wa
        have HBA := Lib.hid (BA.out _ _ hwa)
        have hE := HXA.out _ _ _ hwa
        clear hwa
        have hXw4wa : Ext w4 wa := Ext.trans (by repeat (first | assumption | exact Ext.refl _ | apply Ext.alloc | apply Ext.drew | apply Ext.drewN)) hE
        have hXw5wa : Ext w5 wa := Ext.trans (by repeat (first | assumption | exact Ext.refl _ | apply Ext.alloc | apply Ext.drew | apply Ext.drewN)) hE
        have hXw6wa : Ext w6 wa := Ext.trans (by repeat (first | assumption | exact Ext.refl _ | apply Ext.alloc | apply Ext.drew | apply Ext.drewN)) hE
        clear hE
        refine hK.out _ _ ?_ (fun hHeld => ?_)
        · first | assumption | exact KB.out _ (by repeat (first | assumption | exact Ext.refl _ | apply Ext.alloc | apply Ext.drew | apply Ext.drewN))
        clear hK K
        try simp only [Act.put, List.setIfInBounds_toArray, List.set_cons_zero, List.set_cons_succ]
        have HBB : Hid (Bk wa _ 1 (fun _ => .slice none 0 0)) := Lib.hid (by first | exact HBA.out | exact HBA.out.ext (by repeat (first | assumption | exact Ext.refl _ | apply Ext.alloc | apply Ext.drew | apply Ext.drewN)))
        have HDB : Hid (DsAt wa _ ee) := Lib.hid (by first | exact HDC.out | exact HDC.out.ext (by repeat (first | assumption | exact Ext.refl _ | apply Ext.alloc | apply Ext.drew | apply Ext.drewN)))
        have tb := HBB.out.cell (k := 0) (by decide)
        have fb := HBB.out.frozen 0
        refine wpAnyH_ready (rs := [9]) (by kernel_rfl) (by simp) (AllReadyH.cons (oper_at rfl) (fun K hK => ?_) AllReadyH.nil)
        go_simp
        generalize hw9 : World.setCell _ _ _ = w9
        have HB9 := Lib.hid (show Bk w9 _ 1 (fun _ => _) from (by rw [← hw9]; exact HBB.out.set1 _))
        have HD9 := Lib.hid (show DsAt w9 _ _ from (by rw [← hw9]; exact HDB.out.put1 HBB.out _))
        have hX9 : Ext w4 w9 := by (rw [← hw9]; exact Ext.set (by repeat (first | assumption | exact Ext.refl _ | apply Ext.alloc | apply Ext.drew | apply Ext.drewN)) (by first | exact Nat.le_refl _ | exact hXw4w5.size | exact hXw4w6.size | exact hXw4wa.size) _)
        clear hw9 tb fb
        refine hK.out _ _ ?_ (fun hHeld => ?_)
        · first | assumption | exact KB.out _ (by repeat (first | assumption | exact Ext.refl _ | apply Ext.alloc | apply Ext.drew | apply Ext.drewN))
        clear hK K
        try simp only [Act.put, List.setIfInBounds_toArray, List.set_cons_zero, List.set_cons_succ]
        refine wpAnyH_take (i := 10) (v := ?_) (oper_at rfl) (by kernel_rfl) (by kernel_rfl) (by kernel_rfl) (fun _ _ _ h => h) (Or.inl ⟨by rfl, ?_⟩) hHeld ?_
        rotate_left
        · (intro ww hSw; (try dsimp only at hSw); go_simp; try (with_reducible rfl))
        try simp only [Act.put, List.setIfInBounds_toArray, List.set_cons_zero, List.set_cons_succ]
        refine wpAnyH_done (by kernel_rfl) ?_ _
        refine NoPanic.normal ?_
        go_wp2_with fail
        go_meet
        exact ⟨_, _, rfl, rfl, HB9.out, HD9.out, hX9⟩
      · go_simp
        generalize hwa : World.alloc _ (.cells #[.slice none 0 0] 32) = wa
        have HBA := Lib.hid (BA.out _ _ hwa)
        have hE := HXA.out _ _ _ hwa
        clear hwa
        have hXw4wa : Ext w4 wa := Ext.trans (by repeat (first | assumption | exact Ext.refl _ | apply Ext.alloc | apply Ext.drew | apply Ext.drewN)) hE
        have hXw5wa : Ext w5 wa := Ext.trans (by repeat (first | assumption | exact Ext.refl _ | apply Ext.alloc | apply Ext.drew | apply Ext.drewN)) hE
        clear hE
        refine hK.out _ _ ?_ (fun hHeld => ?_)
        · first | assumption | exact KB.out _ (by repeat (first | assumption | exact Ext.refl _ | apply Ext.alloc | apply Ext.drew | apply Ext.drewN))
        clear hK K
        try simp only [Act.put, List.setIfInBounds_toArray, List.set_cons_zero, List.set_cons_succ]
        refine wpAnyH_ready (rs := [4]) (by kernel_rfl) (by simp) (AllReadyH.cons (oper_at rfl) (fun K hK => ?_) AllReadyH.nil)
        go_simp
        go_at_call 18
        refine (C18.out _ _ (by repeat (first | assumption | exact Ext.refl _ | apply Ext.alloc | apply Ext.drew | apply Ext.drewN)) (HS5.out.ext (by repeat (first | assumption | exact Ext.refl _ | apply Ext.alloc | apply Ext.drew | apply Ext.drewN)))).mono ?_
        rintro _ w6 ⟨vc, rfl, hdc, hE⟩
        have HDC := Lib.hid hdc
        obtain ⟨Ac, cc, rfl, -, -, -⟩ := hdc.read
        clear hdc
        have hXw4w6 : Ext w4 w6 := Ext.trans (by repeat (first | assumption | exact Ext.refl _ | apply Ext.alloc | apply Ext.drew | apply Ext.drewN)) hE
        have hXw5w6 : Ext w5 w6 := Ext.trans (by repeat (first | assumption | exact Ext.refl _ | apply Ext.alloc | apply Ext.drew | apply Ext.drewN)) hE
        have hXwaw6 : Ext wa w6 := Ext.trans (by repeat (first | assumption | exact Ext.refl _ | apply Ext.alloc | apply Ext.drew | apply Ext.drewN)) hE
        clear hE
        refine hK.out _ _ ?_ (fun hHeld => ?_)
        · first | assumption | exact KB.out _ (by repeat (first | assumption | exact Ext.refl _ | apply Ext.alloc | apply Ext.drew | apply Ext.drewN))
        clear hK K
        try simp only [Act.put, List.setIfInBounds_toArray, List.set_cons_zero, List.set_cons_succ]
        refine wpAnyH_take (i := 5) (v := ?_) (oper_at rfl) (by kernel_rfl) (by kernel_rfl) (by kernel_rfl) (fun _ _ _ h => h) (Or.inl ⟨by rfl, ?_⟩) hHeld ?_
        rotate_left
        · (intro ww hSw; (try dsimp only at hSw); go_simp; try (with_reducible rfl))
        try simp only [Act.put, List.setIfInBounds_toArray, List.set_cons_zero, List.set_cons_succ]
        refine wpAnyH_take (i := 6) (v := ?_) (oper_at rfl) (by kernel_rfl) (by kernel_rfl) (by kernel_rfl) (fun _ _ _ h => h) (Or.inl ⟨by rfl, ?_⟩) hHeld ?_
        rotate_left
        · (intro ww hSw; (try dsimp only at hSw); go_simp; try (with_reducible rfl))
        try simp only [Act.put, List.setIfInBounds_toArray, List.set_cons_zero, List.set_cons_succ]
        refine wpAnyH_take (i := 7) (v := ?_) (oper_at rfl) (by kernel_rfl) (by kernel_rfl) (by kernel_rfl) (fun _ _ _ h => h) (Or.inl ⟨by rfl, ?_⟩) hHeld ?_
        rotate_left
        · (intro ww hSw; (try dsimp only at hSw); go_simp; try (with_reducible rfl))
        try simp only [Act.put, List.setIfInBounds_toArray, List.set_cons_zero, List.set_cons_succ]
        have HBB : Hid (Bk w6 _ 1 (fun _ => .slice none 0 0)) := Lib.hid (by first | exact HBA.out | exact HBA.out.ext (by repeat (first | assumption | exact Ext.refl _ | apply Ext.alloc | apply Ext.drew | apply Ext.drewN)))
        have HDB : Hid (DsAt w6 _ ee) := Lib.hid (by first | exact HDC.out | exact HDC.out.ext (by repeat (first | assumption | exact Ext.refl _ | apply Ext.alloc | apply Ext.drew | apply Ext.drewN)))
        have tb := HBB.out.cell (k := 0) (by decide)
        have fb := HBB.out.frozen 0
        refine wpAnyH_ready (rs := [9]) (by kernel_rfl) (by simp) (AllReadyH.cons (oper_at rfl) (fun K hK => ?_) AllReadyH.nil)
        go_simp
        generalize hw9 : World.setCell _ _ _ = w9
        have HB9 := Lib.hid (show Bk w9 _ 1 (fun _ => _) from (by rw [← hw9]; exact HBB.out.set1 _))
        have HD9 := Lib.hid (show DsAt w9 _ _ from (by rw [← hw9]; exact HDB.out.put1 HBB.out _))
        have hX9 : Ext w4 w9 := by (rw [← hw9]; exact Ext.set (by repeat (first | assumption | exact Ext.refl _ | apply Ext.alloc | apply Ext.drew | apply Ext.drewN)) (by first | exact Nat.le_refl _ | exact hXw4w5.size | exact hXw4wa.size | exact hXw4w6.size) _)
        clear hw9 tb fb
        refine hK.out _ _ ?_ (fun hHeld => ?_)
        · first | assumption | exact KB.out _ (by repeat (first | assumption | exact Ext.refl _ | apply Ext.alloc | apply Ext.drew | apply Ext.drewN))
        clear hK K
        try simp only [Act.put, List.setIfInBounds_toArray, List.set_cons_zero, List.set_cons_succ]
        refine wpAnyH_take (i := 10) (v := ?_) (oper_at rfl) (by kernel_rfl) (by kernel_rfl) (by kernel_rfl) (fun _ _ _ h => h) (Or.inl ⟨by rfl, ?_⟩) hHeld ?_
        rotate_left
        · (intro ww hSw; (try dsimp only at hSw); go_simp; try (with_reducible rfl))
        try simp only [Act.put, List.setIfInBounds_toArray, List.set_cons_zero, List.set_cons_succ]
        refine wpAnyH_done (by kernel_rfl) ?_ _
        refine NoPanic.normal ?_
        go_wp2_with fail
        go_meet
        exact ⟨_, _, rfl, rfl, HB9.out, HD9.out, hX9⟩
    · go_simp
      generalize hwa : World.alloc _ (.cells #[.slice none 0 0] 32) = wa
      have HBA := Lib.hid (BA.out _ _ hwa)
      have hE := HXA.out _ _ _ hwa
      clear hwa
      have hXw4wa : Ext w4 wa := Ext.trans (by repeat (first | assumption | exact Ext.refl _ | apply Ext.alloc | apply Ext.drew | apply Ext.drewN)) hE
      clear hE
      refine hK.out _ _ ?_ (fun hHeld => ?_)
      · first | assumption | exact KB.out _ (by repeat (first | assumption | exact Ext.refl _ | apply Ext.alloc | apply Ext.drew | apply Ext.drewN))
      clear hK K
      try simp only [Act.put, List.setIfInBounds_toArray, List.set_cons_zero, List.set_cons_succ]
      refine wpAnyH_ready (rs := [3]) (by kernel_rfl) (by simp) (AllReadyH.cons (oper_at rfl) (fun K hK => ?_) AllReadyH.nil)
      go_simp
      go_at_call 11
      refine (C11s.out _ (HE4.out.trans (by repeat (first | assumption | exact Ext.refl _ | apply Ext.alloc | apply Ext.drew | apply Ext.drewN)))).mono ?_
      rintro _ w5 ⟨vt, rfl, hs5, hE⟩
      have HS5 := Lib.hid hs5
      clear hs5
      have hXw4w5 : Ext w4 w5 := Ext.trans (by repeat (first | assumption | exact Ext.refl _ | apply Ext.alloc | apply Ext.drew | apply Ext.drewN)) hE
      have hXwaw5 : Ext wa w5 := Ext.trans (by repeat (first | assumption | exact Ext.refl _ | apply Ext.alloc | apply Ext.drew | apply Ext.drewN)) hE
      clear hE
      refine hK.out _ _ ?_ (fun hHeld => ?_)
      · first | assumption | exact KB.out _ (by repeat (first | assumption | exact Ext.refl _ | apply Ext.alloc | apply Ext.drew | apply Ext.drewN))
      clear hK K
      try simp only [Act.put, List.setIfInBounds_toArray, List.set_cons_zero, List.set_cons_succ]
      refine wpAnyH_ready (rs := [4]) (by kernel_rfl) (by simp) (AllReadyH.cons (oper_at rfl) (fun K hK => ?_) AllReadyH.nil)
      go_simp
      go_at_call 18
      refine (C18.out _ _ (by repeat (first | assumption | exact Ext.refl _ | apply Ext.alloc | apply Ext.drew | apply Ext.drewN)) (HS5.out.ext (by repeat (first | assumption | exact Ext.refl _ | apply Ext.alloc | apply Ext.drew | apply Ext.drewN)))).mono ?_
      rintro _ w6 ⟨vc, rfl, hdc, hE⟩
      have HDC := Lib.hid hdc
      obtain ⟨Ac, cc, rfl, -, -, -⟩ := hdc.read
      clear hdc
      have hXw4w6 : Ext w4 w6 := Ext.trans (by repeat (first | assumption | exact Ext.refl _ | apply Ext.alloc | apply Ext.drew | apply Ext.drewN)) hE
      have hXwaw6 : Ext wa w6 := Ext.trans (by repeat (first | assumption | exact Ext.refl _ | apply Ext.alloc | apply Ext.drew | apply Ext.drewN)) hE
      have hXw5w6 : Ext w5 w6 := Ext.trans (by repeat (first | assumption | exact Ext.refl _ | apply Ext.alloc | apply Ext.drew | apply Ext.drewN)) hE
      clear hE
      refine hK.out _ _ ?_ (fun hHeld => ?_)
      · first | assumption | exact KB.out _ (by repeat (first | assumption | exact Ext.refl _ | apply Ext.alloc | apply Ext.drew | apply Ext.drewN))
      clear hK K
      try simp only [Act.put, List.setIfInBounds_toArray, List.set_cons_zero, List.set_cons_succ]
      refine wpAnyH_take (i := 5) (v := ?_) (oper_at rfl) (by kernel_rfl) (by kernel_rfl) (by kernel_rfl) (fun _ _ _ h => h) (Or.inl ⟨by rfl, ?_⟩) hHeld ?_
      rotate_left
      · (intro ww hSw; (try dsimp only at hSw); go_simp; try (with_reducible rfl))
      try simp only [Act.put, List.setIfInBounds_toArray, List.set_cons_zero, List.set_cons_succ]
      refine wpAnyH_take (i := 6) (v := ?_) (oper_at rfl) (by kernel_rfl) (by kernel_rfl) (by kernel_rfl) (fun _ _ _ h => h) (Or.inl ⟨by rfl, ?_⟩) hHeld ?_
      rotate_left
      · (intro ww hSw; (try dsimp only at hSw); go_simp; try (with_reducible rfl))
      try simp only [Act.put, List.setIfInBounds_toArray, List.set_cons_zero, List.set_cons_succ]
      refine wpAnyH_take (i := 7) (v := ?_) (oper_at rfl) (by kernel_rfl) (by kernel_rfl) (by kernel_rfl) (fun _ _ _ h => h) (Or.inl ⟨by rfl, ?_⟩) hHeld ?_
      rotate_left
      · (intro ww hSw; (try dsimp only at hSw); go_simp; try (with_reducible rfl))
      try simp only [Act.put, List.setIfInBounds_toArray, List.set_cons_zero, List.set_cons_succ]
      have HBB : Hid (Bk w6 _ 1 (fun _ => .slice none 0 0)) := Lib.hid (by first | exact HBA.out | exact HBA.out.ext (by repeat (first | assumption | exact Ext.refl _ | apply Ext.alloc | apply Ext.drew | apply Ext.drewN)))
      have HDB : Hid (DsAt w6 _ ee) := Lib.hid (by first | exact HDC.out | exact HDC.out.ext (by repeat (first | assumption | exact Ext.refl _ | apply Ext.alloc | apply Ext.drew | apply Ext.drewN)))
      have tb := HBB.out.cell (k := 0) (by decide)
      have fb := HBB.out.frozen 0
      refine wpAnyH_ready (rs := [9]) (by kernel_rfl) (by simp) (AllReadyH.cons (oper_at rfl) (fun K hK => ?_) AllReadyH.nil)
      go_simp
      generalize hw9 : World.setCell _ _ _ = w9
      have HB9 := Lib.hid (show Bk w9 _ 1 (fun _ => _) from (by rw [← hw9]; exact HBB.out.set1 _))
      have HD9 := Lib.hid (show DsAt w9 _ _ from (by rw [← hw9]; exact HDB.out.put1 HBB.out _))
      have hX9 : Ext w4 w9 := by (rw [← hw9]; exact Ext.set (by repeat (first | assumption | exact Ext.refl _ | apply Ext.alloc | apply Ext.drew | apply Ext.drewN)) (by first | exact Nat.le_refl _ | exact hXw4wa.size | exact hXw4w5.size | exact hXw4w6.size) _)
      clear hw9 tb fb
      refine hK.out _ _ ?_ (fun hHeld => ?_)
      · first | assumption | exact KB.out _ (by repeat (first | assumption | exact Ext.refl _ | apply Ext.alloc | apply Ext.drew | apply Ext.drewN))
      clear hK K
      try simp only [Act.put, List.setIfInBounds_toArray, List.set_cons_zero, List.set_cons_succ]
      refine wpAnyH_take (i := 10) (v := ?_) (oper_at rfl) (by kernel_rfl) (by kernel_rfl) (by kernel_rfl) (fun _ _ _ h => h) (Or.inl ⟨by rfl, ?_⟩) hHeld ?_
      rotate_left
      · (intro ww hSw; (try dsimp only at hSw); go_simp; try (with_reducible rfl))
      try simp only [Act.put, List.setIfInBounds_toArray, List.set_cons_zero, List.set_cons_succ]
      refine wpAnyH_done (by kernel_rfl) ?_ _
      refine NoPanic.normal ?_
      go_wp2_with fail
      go_meet
      exact ⟨_, _, rfl, rfl, HB9.out, HD9.out, hX9⟩
  case rest =>
    obtain ⟨gc, vc, rfl, rfl, hbc, hdc, hXc⟩ := hcut
    have HBC := Lib.hid hbc
    have HDC := Lib.hid hdc
    have HXC := Lib.hid hXc
    have HBD := Lib.hid (HB4.out.ext hXc)
    have HF5 := Lib.hid (HF2.out.ext (HE4.out.trans hXc))
    have SN : Hid (∀ W : World, SsAt (W.alloc (.cells #[sV noName] 9)) (.slice (some ⟨W.heap.size, 0, none⟩) 1 1) [noName]) := Lib.hid (fun W => (row_new (s := 1) (w := W) (B := W.heap.size) (e := 9) (cs := #[sV noName]) (us := [[sV noName]]) (Nat.le_refl _) (Wide.one rfl) rfl (by simp)).sl)
    have t4 := HBD.out.cell (k := 0) (by decide)
    clear hbc hdc hXc KB C18 C11s
    go_upto_region 5 with (go_at_call 18; refine (C18n.out _ _ (HXC.out.alloc _) (SN.out wc)).mono ?_; rintro _ w7 ⟨vx, rfl, hdx, hE7⟩; obtain ⟨Ax, cx, rfl, -, -, -⟩ := hdx.read; have HE7 := Lib.hid (((Ext.refl wc).alloc _).trans hE7); clear hE7 hdx)
    generalize hw8 : w7.alloc _ = w8
    have HE8 : Hid (Ext wc w8) := Lib.hid (by rw [← hw8]; exact HE7.out.alloc _)
    clear hw8 t4
    have HX8 := Lib.hid (HXC.out.trans HE8.out)
    have HW8 := Lib.hid (HE1.out.trans (HE4.out.trans HX8.out))
    have HB8 := Lib.hid (HBD.out.ext HE8.out)
    have HC8 := Lib.hid (HBC.out.ext HE8.out)
    have C13 : Hid (∀ W, Ext w8 W → Calls Tryd.prog 13 #[] W (RetB true W)) := Lib.hid (fun W hW => awake13_ok W (HT.out.ext (HW8.out.trans hW)))
    have C14c : Hid (∀ W T, Ext w8 W → SsAt W T rr → Calls Tryd.prog 14 #[dsV vc, .slice A2 fs.length c2, T] W (RetB true W)) := Lib.hid (fun W T hW hs => by
      refine shows14_ok fs _ _ T rr W HOK.out (noName_not HOK.out) ?_ (HF5.out.ext (HE8.out.trans hW)) hs (HT.out.ext (HW8.out.trans hW))
      rw [HEE.out]
      exact HDC.out.ext (HE8.out.trans hW))
    have C14d : Hid (∀ W T, Ext w8 W → SsAt W T ss → Calls Tryd.prog 14 #[dsV (.slice Ad dd.length cd), .slice A2 fs.length c2, T] W (RetB true W)) := Lib.hid (fun W T hW hs => by
      refine shows14_ok fs _ _ T ss W HOK.out (noName_not HOK.out) ?_ (HF5.out.ext (HE8.out.trans hW)) hs (HT.out.ext (HW8.out.trans hW))
      rw [HDD.out]
      exact HD4.out.ext (HX8.out.trans hW))
    have KB : Hid (∀ W, Ext w8 W → (fun w' => Ext w8 w' ∧ w'.cell? ⟨w3.heap.size, 0, none⟩ = some (.slice Ad dd.length cd) ∧ w'.cell? ⟨gc, 0, none⟩ = some vc) W) := Lib.hid (fun W h => ⟨h, (HB8.out.ext h).cell (k := 0) (by decide), (HC8.out.ext h).cell (k := 0) (by decide)⟩)
    refine wp_region_noPanic ?_
    refine wp_region_held_drew (S := (fun w' => Ext w8 w' ∧ w'.cell? ⟨w3.heap.size, 0, none⟩ = some (.slice Ad dd.length cd) ∧ w'.cell? ⟨gc, 0, none⟩ = some vc)) (by kernel_rfl) ?_ (fun hHeld => ?_)
    · first | assumption | exact KB.out _ (by repeat (first | assumption | exact Ext.refl _ | apply Ext.alloc | apply Ext.drew | apply Ext.drewN))
    refine wpAnyH_ready (rs := [0]) (by kernel_rfl) (by simp) (AllReadyH.cons (oper_at rfl) (fun K hK => ?_) AllReadyH.nil)
    go_simp
    go_at_call 13
    refine (C13.out _ (by repeat (first | assumption | exact Ext.refl _ | apply Ext.alloc | apply Ext.drew | apply Ext.drewN))).mono ?_
    rintro _ wd ⟨rfl, hE⟩
    have hXd : Ext w8 wd := Ext.trans (by repeat (first | assumption | exact Ext.refl _ | apply Ext.alloc | apply Ext.drew | apply Ext.drewN)) hE
    clear hE
    refine hK.out _ _ ?_ (fun hHeld => ?_)
    · first | assumption | exact KB.out _ (by repeat (first | assumption | exact Ext.refl _ | apply Ext.alloc | apply Ext.drew | apply Ext.drewN))
    clear hK K
    try simp only [Act.put, List.setIfInBounds_toArray, List.set_cons_zero, List.set_cons_succ]
    refine wpAnyH_take (i := 1) (v := ?_) (oper_at rfl) (by kernel_rfl) (by kernel_rfl) (by kernel_rfl) (fun _ _ _ h => h) (Or.inl ⟨by rfl, ?_⟩) hHeld ?_
    rotate_left
    · (intro ww hSw; (try dsimp only at hSw); go_simp; try (with_reducible rfl))
    try simp only [Act.put, List.setIfInBounds_toArray, List.set_cons_zero, List.set_cons_succ]
    refine wpAnyH_take (i := 2) (v := ?_) (oper_at rfl) (by kernel_rfl) (by kernel_rfl) (by kernel_rfl) (fun _ _ _ h => h) (Or.inl ⟨by rfl, ?_⟩) hHeld ?_
    rotate_left
    · (intro ww hSw; (try dsimp only at hSw); go_simp; try (with_reducible rfl))
    try simp only [Act.put, List.setIfInBounds_toArray, List.set_cons_zero, List.set_cons_succ]
    refine wpAnyH_take (i := 3) (v := ?_) (oper_at rfl) (by kernel_rfl) (by kernel_rfl) (by kernel_rfl) (fun _ _ _ h => h) (Or.inl ⟨by rfl, ?_⟩) hHeld ?_
    rotate_left
    · (intro ww hSw; (try dsimp only at hSw); go_simp; try (with_reducible rfl))
    try simp only [Act.put, List.setIfInBounds_toArray, List.set_cons_zero, List.set_cons_succ]
    refine wpAnyH_take (i := 4) (v := ?_) (oper_at rfl) (by kernel_rfl) (by kernel_rfl) (by kernel_rfl) (fun _ _ _ h => h) (Or.inl ⟨by rfl, ?_⟩) hHeld ?_
    rotate_left
    · (intro ww hSw; (try dsimp only at hSw); go_simp; try (with_reducible rfl))
    try simp only [Act.put, List.setIfInBounds_toArray, List.set_cons_zero, List.set_cons_succ]
    refine wpAnyH_take (i := 5) (v := ?_) (oper_at rfl) (by kernel_rfl) (by kernel_rfl) (by kernel_rfl) (fun _ _ _ h => h) (Or.inl ⟨by rfl, ?_⟩) hHeld ?_
    rotate_left
    · (intro ww hSw; (try dsimp only at hSw); go_simp; try (with_reducible rfl))
    try simp only [Act.put, List.setIfInBounds_toArray, List.set_cons_zero, List.set_cons_succ]
    refine wpAnyH_take (i := 6) (v := ?_) (oper_at rfl) (by kernel_rfl) (by kernel_rfl) (by kernel_rfl) (fun _ _ _ h => h) (Or.inl ⟨by rfl, ?_⟩) hHeld ?_
    rotate_left
    · (intro ww hSw; (try dsimp only at hSw); go_simp; try (with_reducible rfl))
    try simp only [Act.put, List.setIfInBounds_toArray, List.set_cons_zero, List.set_cons_succ]
    refine wpAnyH_take (i := 7) (v := ?_) (oper_at rfl) (by kernel_rfl) (by kernel_rfl) (by kernel_rfl) (fun _ _ _ h => h) (Or.inl ⟨by rfl, ?_⟩) hHeld ?_
    rotate_left
    · (intro ww hSw; (try dsimp only at hSw); go_simp; try (with_reducible rfl))
    try simp only [Act.put, List.setIfInBounds_toArray, List.set_cons_zero, List.set_cons_succ]
    refine wpAnyH_take (i := 8) (v := ?_) (oper_at rfl) (by kernel_rfl) (by kernel_rfl) (by kernel_rfl) (fun _ _ _ h => h) (Or.inl ⟨by rfl, ?_⟩) hHeld ?_
    rotate_left
    · (intro ww hSw; (try dsimp only at hSw); go_simp; try (with_reducible rfl))
    try simp only [Act.put, List.setIfInBounds_toArray, List.set_cons_zero, List.set_cons_succ]
    refine wpAnyH_take (i := 9) (v := ?_) (oper_at rfl) (by kernel_rfl) (by kernel_rfl) (by kernel_rfl) (fun _ _ _ h => h) (Or.inl ⟨by rfl, ?_⟩) hHeld ?_
    rotate_left
    · (intro ww hSw; (try dsimp only at hSw); go_simp; try (with_reducible rfl))
    try simp only [Act.put, List.setIfInBounds_toArray, List.set_cons_zero, List.set_cons_succ]
    refine wpAnyH_take (i := 10) (v := ?_) (oper_at rfl) (by kernel_rfl) (by kernel_rfl) (by kernel_rfl) (fun _ _ _ h => h) (Or.inl ⟨by rfl, ?_⟩) hHeld ?_
    rotate_left
    · (intro ww hSw; (try dsimp only at hSw); go_simp; try (with_reducible rfl))
    try simp only [Act.put, List.setIfInBounds_toArray, List.set_cons_zero, List.set_cons_succ]
    refine wpAnyH_take (i := 11) (v := ?_) (oper_at rfl) (by kernel_rfl) (by kernel_rfl) (by kernel_rfl) (fun _ _ _ h => h) (Or.inl ⟨by rfl, ?_⟩) hHeld ?_
    rotate_left
    · (intro ww hSw; (try dsimp only at hSw); go_simp; try (with_reducible rfl))
    try simp only [Act.put, List.setIfInBounds_toArray, List.set_cons_zero, List.set_cons_succ]
    refine wpAnyH_take (i := 12) (v := ?_) (oper_at rfl) (by kernel_rfl) (by kernel_rfl) (by kernel_rfl) (fun _ _ _ h => h) (Or.inl ⟨by rfl, ?_⟩) hHeld ?_
    rotate_left
    · (intro ww hSw; (try dsimp only at hSw); go_simp; try (with_reducible rfl))
    try simp only [Act.put, List.setIfInBounds_toArray, List.set_cons_zero, List.set_cons_succ]
    refine wpAnyH_take (i := 13) (v := ?_) (oper_at rfl) (by kernel_rfl) (by kernel_rfl) (by kernel_rfl) (fun _ _ _ h => h) (Or.inl ⟨by rfl, ?_⟩) hHeld ?_
    rotate_left
    · (intro ww hSw; (try dsimp only at hSw); go_simp; try (with_reducible rfl))
    try simp only [Act.put, List.setIfInBounds_toArray, List.set_cons_zero, List.set_cons_succ]
    refine wpAnyH_take (i := 14) (v := ?_) (oper_at rfl) (by kernel_rfl) (by kernel_rfl) (by kernel_rfl) (fun _ _ _ h => h) (Or.inl ⟨by rfl, ?_⟩) hHeld ?_
    rotate_left
    · (intro ww hSw; (try dsimp only at hSw); go_simp; try (with_reducible rfl))
    try simp only [Act.put, List.setIfInBounds_toArray, List.set_cons_zero, List.set_cons_succ]
    refine wpAnyH_take (i := 15) (v := ?_) (oper_at rfl) (by kernel_rfl) (by kernel_rfl) (by kernel_rfl) (fun _ _ _ h => h) (Or.inl ⟨by rfl, ?_⟩) hHeld ?_
    rotate_left
    · (intro ww hSw; (try dsimp only at hSw); go_simp; try (with_reducible rfl))
    try simp only [Act.put, List.setIfInBounds_toArray, List.set_cons_zero, List.set_cons_succ]
    refine wpAnyH_take (i := 16) (v := ?_) (oper_at rfl) (by kernel_rfl) (by kernel_rfl) (by kernel_rfl) (fun _ _ _ h => h) (Or.inl ⟨by rfl, ?_⟩) hHeld ?_
    rotate_left
    · (intro ww hSw; (try dsimp only at hSw); go_simp; try (with_reducible rfl))
    try simp only [Act.put, List.setIfInBounds_toArray, List.set_cons_zero, List.set_cons_succ]
    refine wpAnyH_take (i := 17) (v := ?_) (oper_at rfl) (by kernel_rfl) (by kernel_rfl) (by kernel_rfl) (fun _ _ _ h => h) (Or.inl ⟨by rfl, ?_⟩) hHeld ?_
    rotate_left
    · (intro ww hSw; (try dsimp only at hSw); go_simp; try (with_reducible rfl))
    try simp only [Act.put, List.setIfInBounds_toArray, List.set_cons_zero, List.set_cons_succ]
    refine wpAnyH_take (i := 18) (v := ?_) (oper_at rfl) (by kernel_rfl) (by kernel_rfl) (by kernel_rfl) (fun _ _ _ h => h) (Or.inl ⟨by rfl, ?_⟩) hHeld ?_
    rotate_left
    · (intro ww hSw; (try dsimp only at hSw); go_simp; try (with_reducible rfl))
    try simp only [Act.put, List.setIfInBounds_toArray, List.set_cons_zero, List.set_cons_succ]
    refine wpAnyH_take (i := 19) (v := ?_) (oper_at rfl) (by kernel_rfl) (by kernel_rfl) (by kernel_rfl) (fun _ _ _ h => h) (Or.inl ⟨by rfl, ?_⟩) hHeld ?_
    rotate_left
    · (intro ww hSw; (try dsimp only at hSw); go_simp; try (with_reducible rfl))
    try simp only [Act.put, List.setIfInBounds_toArray, List.set_cons_zero, List.set_cons_succ]
    refine wpAnyH_ready (rs := [20]) (by kernel_rfl) (by simp) (AllReadyH.cons (oper_at rfl) (fun K hK => ?_) AllReadyH.nil)
    go_simp
    go_at_call 11
    refine (C11r.out _ (HE4.out.trans (HX8.out.trans (by repeat (first | assumption | exact Ext.refl _ | apply Ext.alloc | apply Ext.drew | apply Ext.drewN))))).mono ?_
    rintro _ we ⟨ve, rfl, hse, hE⟩
    have hXe : Ext w8 we := Ext.trans (by repeat (first | assumption | exact Ext.refl _ | apply Ext.alloc | apply Ext.drew | apply Ext.drewN)) hE
    have HSE := Lib.hid hse
    clear hE hse
    refine hK.out _ _ ?_ (fun hHeld => ?_)
    · first | assumption | exact KB.out _ (by repeat (first | assumption | exact Ext.refl _ | apply Ext.alloc | apply Ext.drew | apply Ext.drewN))
    clear hK K
    try simp only [Act.put, List.setIfInBounds_toArray, List.set_cons_zero, List.set_cons_succ]
    refine wpAnyH_ready (rs := [21]) (by kernel_rfl) (by simp) (AllReadyH.cons (oper_at rfl) (fun K hK => ?_) AllReadyH.nil)
    go_simp
    go_at_call 14
    refine (C14c.out _ _ (by repeat (first | assumption | exact Ext.refl _ | apply Ext.alloc | apply Ext.drew | apply Ext.drewN)) (HSE.out.ext (by repeat (first | assumption | exact Ext.refl _ | apply Ext.alloc | apply Ext.drew | apply Ext.drewN)))).mono ?_
    rintro _ wf ⟨rfl, hE⟩
    have hXf : Ext w8 wf := Ext.trans (by repeat (first | assumption | exact Ext.refl _ | apply Ext.alloc | apply Ext.drew | apply Ext.drewN)) hE
    clear hE
    refine hK.out _ _ ?_ (fun hHeld => ?_)
    · first | assumption | exact KB.out _ (by repeat (first | assumption | exact Ext.refl _ | apply Ext.alloc | apply Ext.drew | apply Ext.drewN))
    clear hK K
    try simp only [Act.put, List.setIfInBounds_toArray, List.set_cons_zero, List.set_cons_succ]
    refine wpAnyH_take (i := 22) (v := ?_) (oper_at rfl) (by kernel_rfl) (by kernel_rfl) (by kernel_rfl) (fun _ _ _ h => h) (Or.inl ⟨by rfl, ?_⟩) hHeld ?_
    rotate_left
    · (intro ww hSw; (try dsimp only at hSw); go_simp; try (with_reducible rfl))
    try simp only [Act.put, List.setIfInBounds_toArray, List.set_cons_zero, List.set_cons_succ]
    refine wpAnyH_take (i := 23) (v := ?_) (oper_at rfl) (by kernel_rfl) (by kernel_rfl) (by kernel_rfl) (fun _ _ _ h => h) (Or.inl ⟨by rfl, ?_⟩) hHeld ?_
    rotate_left
    · (intro ww hSw; (try dsimp only at hSw); go_simp; try (with_reducible rfl))
    try simp only [Act.put, List.setIfInBounds_toArray, List.set_cons_zero, List.set_cons_succ]
    refine wpAnyH_take (i := 24) (v := ?_) (oper_at rfl) (by kernel_rfl) (by kernel_rfl) (by kernel_rfl) (fun _ _ _ h => h) (Or.inl ⟨by rfl, ?_⟩) hHeld ?_
    rotate_left
    · (intro ww hSw; (try dsimp only at hSw); go_simp; try (with_reducible rfl))
    try simp only [Act.put, List.setIfInBounds_toArray, List.set_cons_zero, List.set_cons_succ]
    refine wpAnyH_take (i := 25) (v := ?_) (oper_at rfl) (by kernel_rfl) (by kernel_rfl) (by kernel_rfl) (fun _ _ _ h => h) (Or.inl ⟨by rfl, ?_⟩) hHeld ?_
    rotate_left
    · (intro ww hSw; (try dsimp only at hSw); go_simp; try (with_reducible rfl))
    try simp only [Act.put, List.setIfInBounds_toArray, List.set_cons_zero, List.set_cons_succ]
    refine wpAnyH_take (i := 26) (v := ?_) (oper_at rfl) (by kernel_rfl) (by kernel_rfl) (by kernel_rfl) (fun _ _ _ h => h) (Or.inl ⟨by rfl, ?_⟩) hHeld ?_
    rotate_left
    · (intro ww hSw; (try dsimp only at hSw); go_simp; try (with_reducible rfl))
    try simp only [Act.put, List.setIfInBounds_toArray, List.set_cons_zero, List.set_cons_succ]
    refine wpAnyH_take (i := 27) (v := ?_) (oper_at rfl) (by kernel_rfl) (by kernel_rfl) (by kernel_rfl) (fun _ _ _ h => h) (Or.inl ⟨by rfl, ?_⟩) hHeld ?_
    rotate_left
    · (intro ww hSw; (try dsimp only at hSw); go_simp; try (with_reducible rfl))
    try simp only [Act.put, List.setIfInBounds_toArray, List.set_cons_zero, List.set_cons_succ]
    refine wpAnyH_ready (rs := [28]) (by kernel_rfl) (by simp) (AllReadyH.cons (oper_at rfl) (fun K hK => ?_) AllReadyH.nil)
    go_simp
    go_at_call 11
    refine (C11b.out _ (HE4.out.trans (HX8.out.trans (by repeat (first | assumption | exact Ext.refl _ | apply Ext.alloc | apply Ext.drew | apply Ext.drewN))))).mono ?_
    rintro _ wg ⟨vg, rfl, hsg, hE⟩
    have hXg : Ext w8 wg := Ext.trans (by repeat (first | assumption | exact Ext.refl _ | apply Ext.alloc | apply Ext.drew | apply Ext.drewN)) hE
    have HSG := Lib.hid hsg
    clear hE hsg
    refine hK.out _ _ ?_ (fun hHeld => ?_)
    · first | assumption | exact KB.out _ (by repeat (first | assumption | exact Ext.refl _ | apply Ext.alloc | apply Ext.drew | apply Ext.drewN))
    clear hK K
    try simp only [Act.put, List.setIfInBounds_toArray, List.set_cons_zero, List.set_cons_succ]
    refine wpAnyH_ready (rs := [29]) (by kernel_rfl) (by simp) (AllReadyH.cons (oper_at rfl) (fun K hK => ?_) AllReadyH.nil)
    go_simp
    go_at_call 14
    refine (C14d.out _ _ (by repeat (first | assumption | exact Ext.refl _ | apply Ext.alloc | apply Ext.drew | apply Ext.drewN)) (HSG.out.ext (by repeat (first | assumption | exact Ext.refl _ | apply Ext.alloc | apply Ext.drew | apply Ext.drewN)))).mono ?_
    rintro _ wh ⟨rfl, hE⟩
    have hXh : Ext w8 wh := Ext.trans (by repeat (first | assumption | exact Ext.refl _ | apply Ext.alloc | apply Ext.drew | apply Ext.drewN)) hE
    clear hE
    refine hK.out _ _ ?_ (fun hHeld => ?_)
    · first | assumption | exact KB.out _ (by repeat (first | assumption | exact Ext.refl _ | apply Ext.alloc | apply Ext.drew | apply Ext.drewN))
    clear hK K
    try simp only [Act.put, List.setIfInBounds_toArray, List.set_cons_zero, List.set_cons_succ]
    refine wpAnyH_take (i := 30) (v := ?_) (oper_at rfl) (by kernel_rfl) (by kernel_rfl) (by kernel_rfl) (fun _ _ _ h => h) (Or.inl ⟨by rfl, ?_⟩) hHeld ?_
    rotate_left
    · (intro ww hSw; (try dsimp only at hSw); go_simp; try (with_reducible rfl))
    try simp only [Act.put, List.setIfInBounds_toArray, List.set_cons_zero, List.set_cons_succ]
    refine wpAnyH_take (i := 31) (v := ?_) (oper_at rfl) (by kernel_rfl) (by kernel_rfl) (by kernel_rfl) (fun _ _ _ h => h) (Or.inl ⟨by rfl, ?_⟩) hHeld ?_
    rotate_left
    · (intro ww hSw; (try dsimp only at hSw); go_simp; try (with_reducible rfl))
    try simp only [Act.put, List.setIfInBounds_toArray]
    refine wpAnyH_done (by kernel_rfl) ?_ _
    refine NoPanic.normal ?_
    go_wp2_with fail
    go_ret
    exact ⟨rfl, HW8.out.trans hXh⟩
end Go.Proofs.YtjedhndhdkiidaaDoor
