/- One call: a key is consumed. -/
import Derived.Test.YtehmpbaiefbemaaGreatN36
namespace Go.Proofs.YtehmpbaiefbemaaGreat
open Go.RowKit
attribute [local go_sem ↓] Go.wp_at_zero Go.wp_at_succ
attribute [local go_sem ↓] eq73 ld32 st32 al32
attribute [local go_sem] run_eq73 run_ld32 run_st32n run_al32 blkOf_drew blkOf_setRow_same blkOf_setRow_other NV_size blkOf_alloc blkOf_new
set_option maxRecDepth 100000 in
set_option maxHeartbeats 8000000 in
theorem do_consume (g r B : Nat) (cv hv lv kh kv : Value) (cp cs : List Ch) (os hs : List Jh) (x : St) (a : Ac) (av : Value) (w : World) (H : Both w g r B cv hv lv kh kv cp cs os hs x) (G : Good cp cs x) (hA : Stay g r (fun W => ArgsAt W av a.args) w) (hag : agrF cp os cs hs a x) (hk : modF a.kd 6 = 5) :
    Calls Tryz.prog 20 #[.pointer (some ⟨g, 0, none⟩), .agg (NV lv kh x.s x.t x.d kv), acV a av] w (RetDo g r B cv hv lv kh cp cs os hs (doF cs hs a x) w) := by
  obtain ⟨hNet, hrc, hrh, hrk, hgB, hrB, hBw⟩ := H
  obtain ⟨A0, c0, rfl, -, -, -⟩ := hA.now.at_
  rw [List.length_map] at hA ⊢
  have HN := Lib.hid hNet
  have HRC := Lib.hid hrc
  have HRH := Lib.hid hrh
  have HRK := Lib.hid hrk
  have HAR := Lib.hid hA
  have HG := Lib.hid G
  obtain ⟨Al, cl, rfl, -, -, -⟩ := hrc.now.read
  obtain ⟨Ah, ch, rfl, -, -, -⟩ := hrh.now.sl.read
  obtain ⟨Ak, ck, rfl, -, -, -⟩ := hrk.sl.read
  rw [List.length_map, List.length_map, List.length_map] at *
  have hgl := hNet.lt
  have hrl := hNet.rlt
  obtain ⟨kd, aa, ab, an, act, args⟩ := a
  simp only [] at *
  have m4r := modF_range (a := aa) (n := 4) (by omega)
  have m9r := modF_range (a := an) (n := 9) (by omega)
  have M4 := Lib.hid (fun W => mod_any aa 4 W (by omega) (by omega))
  have M9 := Lib.hid (fun W => mod_any an 9 W (by omega) (by omega))
  have M6 := Lib.hid (fun W => mod_any kd 6 W (by omega) (by omega))
  obtain ⟨cI, hcI⟩ : ∃ cI, cF ⟨kd, aa, ab, an, act, args⟩ = cI := ⟨_, rfl⟩
  have hcI2 := hcI
  unfold cF at hcI2
  simp only [] at hcI2
  have hag2 : eatS cp x (keyA ⟨kd, aa, ab, an, act, args⟩) = eatS cs x (keyA ⟨kd, aa, ab, an, act, args⟩) := by
    unfold agrF at hag
    rw [if_neg (by rw [hk]; decide), if_neg (by rw [hk]; decide), if_pos hk] at hag
    exact hag
  have HD : Hid (doF cs hs ⟨kd, aa, ab, an, act, args⟩ x = eatS cs x (keyA ⟨kd, aa, ab, an, act, args⟩)) := Lib.hid (by unfold doF; rw [if_neg (by rw [hk]; decide), if_neg (by rw [hk]; decide), if_pos hk])
  rw [HD.out]
  unfold keyA at hag2 ⊢
  simp only [] at hag2 ⊢
  have r11 := modF_range (a := aa) (n := 11) (by omega)
  have N1 := Lib.hid (fun W => mod_any aa 11 W (by omega) (by omega))
  have N2 := Lib.hid (fun W => mod_any ab 3 W (by omega) (by omega))
  have N3 := Lib.hid (fun W => mod_any act 3 W (by omega) (by omega))
  have N4 := Lib.hid (fun W => mod_any an 4 W (by omega) (by omega))
  obtain ⟨kn, ekn⟩ : ∃ kn : Nat, modF aa 11 = (kn : Int) := ⟨(modF aa 11).toNat, by omega⟩
  have hkn : kn ≤ 10 := by omega
  obtain ⟨p3, ep⟩ : ∃ m, modF ab 3 = m := ⟨_, rfl⟩
  obtain ⟨c3, ec⟩ : ∃ m, modF act 3 = m := ⟨_, rfl⟩
  obtain ⟨n4, en⟩ : ∃ m, modF an 4 = m := ⟨_, rfl⟩
  rw [ekn] at N1
  rw [ep] at N2
  rw [ec] at N3
  rw [en] at N4
  rw [ekn, ep, ec, en, Int.toNat_natCast] at hag2
  rw [ekn, ep, ec, en, Int.toNat_natCast]
  have wk : IntKind.u8.wrap (kn : Int) = (kn : Int) := by rw [IntKind.wrap_u8]; omega
  rw [hk] at M6
  have HAG := Lib.hid hag2
  clear hag2 hk HD ekn ep ec en r11
  obtain ⟨m4, e4⟩ : ∃ m, modF aa 4 = m := ⟨_, rfl⟩
  obtain ⟨m9, e9⟩ : ∃ m, modF an 9 = m := ⟨_, rfl⟩
  rw [e4] at m4r M4 hcI2
  rw [e9] at m9r M9 hcI2
  have hq : Int.tdiv m9 8 = m9 / 8 := Int.tdiv_eq_ediv_of_nonneg m9r.1
  have hcI3 : m4 - m9 / 8 = cI := by rw [← hcI2, hq]
  have hcr : -10 ≤ cI ∧ cI ≤ 10 := by omega
  obtain ⟨q9, hq9⟩ : ∃ q, Int.tdiv m9 8 = q := ⟨_, rfl⟩
  have hqw : IntKind.i64.wrap q9 = q9 := by
    have h9 : q9 = m9 / 8 := by rw [← hq9, hq]
    exact IntWalk.i64_in _ (by omega)
  have hcq : m4 - q9 = cI := by rw [← hcI2, hq9]
  have hcw : IntKind.i64.wrap (m4 - q9) = cI := by rw [hcq]; exact IntWalk.i64_in _ (by omega)
  have HCI := Lib.hid hcI
  clear hNet hrc hrh hrk hA G hag hcI hcI2 hcI3 e4 e9 hq hcq
  obtain ⟨m4a, m4b⟩ := m4r
  obtain ⟨m9a, m9b⟩ := m9r
  obtain ⟨cra, crb⟩ := hcr
  go_enter Tryz.func20, Tryz.ntmps20
  go_upto_region 1 with fail
  generalize hwB : ((w.alloc _).alloc _).alloc _ = wB
  obtain ⟨hE, b0, b1, b2, hsB⟩ := letter3 hwB
  have a0 : wB.cell? ⟨w.heap.size + 1, 0, none⟩ = some (iV kd) := blkOf_cell (by rw [b1]; rfl)
  have a1 : wB.cell? ⟨w.heap.size + 1, 1, none⟩ = some (iV aa) := blkOf_cell (by rw [b1]; rfl)
  have a2 : wB.cell? ⟨w.heap.size + 1, 2, none⟩ = some (iV ab) := blkOf_cell (by rw [b1]; rfl)
  have a3 : wB.cell? ⟨w.heap.size + 1, 3, none⟩ = some (iV an) := blkOf_cell (by rw [b1]; rfl)
  have a4 : wB.cell? ⟨w.heap.size + 1, 4, none⟩ = some (iV act) := blkOf_cell (by rw [b1]; rfl)
  have a5 : wB.cell? ⟨w.heap.size + 1, 5, none⟩ = some (.slice A0 args.length c0) := blkOf_cell (by rw [b1]; rfl)
  have HE := Lib.hid hE
  have HSB := Lib.hid hsB
  clear hwB hE b1
  refine wp_region_noPanic ?_
  refine wp_region_held_drew (S := (fun ww => ww = wB.drew)) (by kernel_rfl) ?_ (fun hHeld => ?_)
  · rfl
  refine wpAnyH_take (i := 0) (v := ?_) (oper_at rfl) (by kernel_rfl) (by kernel_rfl) (by kernel_rfl) (fun _ _ _ h => h) (Or.inl ⟨by rfl, ?_⟩) hHeld ?_
  rotate_left
  · (intro ww hSw; (try dsimp only at hSw); go_simp; try (with_reducible rfl))
  try simp only [Act.put, List.setIfInBounds_toArray, List.set_cons_zero, List.set_cons_succ]
  refine wpAnyH_take (i := 1) (v := ?_) (oper_at rfl) (by kernel_rfl) (by kernel_rfl) (by kernel_rfl) (fun _ _ _ h => h) (Or.inl ⟨by rfl, ?_⟩) hHeld ?_
  rotate_left
  · (intro ww hSw; (try dsimp only at hSw); go_simp; try (with_reducible rfl))
  try simp only [Act.put, List.setIfInBounds_toArray, List.set_cons_zero, List.set_cons_succ]
  refine wpAnyH_take (i := 3) (v := ?_) (oper_at rfl) (by kernel_rfl) (by kernel_rfl) (by kernel_rfl) (fun _ _ _ h => h) (Or.inl ⟨by rfl, ?_⟩) hHeld ?_
  rotate_left
  · (intro ww hSw; (try dsimp only at hSw); go_simp; try (with_reducible rfl))
  try simp only [Act.put, List.setIfInBounds_toArray, List.set_cons_zero, List.set_cons_succ]
  refine wpAnyH_take (i := 4) (v := ?_) (oper_at rfl) (by kernel_rfl) (by kernel_rfl) (by kernel_rfl) (fun _ _ _ h => h) (Or.inl ⟨by rfl, ?_⟩) hHeld ?_
  rotate_left
  · (intro ww hSw; (try dsimp only at hSw); go_simp; try (with_reducible rfl))
  try simp only [Act.put, List.setIfInBounds_toArray, List.set_cons_zero, List.set_cons_succ]
  refine wpAnyH_ready (rs := [2]) (by kernel_rfl) (by simp) (AllReadyH.cons (oper_at rfl) (fun K hK => ?_) AllReadyH.nil)
  go_simp
  go_at_call 40
  refine (M4.out _).mono ?_
  rintro em wm ⟨rfl, rfl⟩
  refine hK.out _ _ ?_ (fun hHeld => ?_)
  · rfl
  clear hK K
  try simp only [Act.put, List.setIfInBounds_toArray, List.set_cons_zero, List.set_cons_succ]
  refine wpAnyH_ready (rs := [5]) (by kernel_rfl) (by simp) (AllReadyH.cons (oper_at rfl) (fun K hK => ?_) AllReadyH.nil)
  go_simp
  go_at_call 40
  refine (M9.out _).mono ?_
  rintro em wm ⟨rfl, rfl⟩
  refine hK.out _ _ ?_ (fun hHeld => ?_)
  · rfl
  clear hK K
  try simp only [Act.put, List.setIfInBounds_toArray, List.set_cons_zero, List.set_cons_succ]
  refine wpAnyH_take (i := 6) (v := ?_) (oper_at rfl) (by kernel_rfl) (by kernel_rfl) (by kernel_rfl) (fun _ _ _ h => h) (Or.inl ⟨by rfl, ?_⟩) hHeld ?_
  rotate_left
  · (intro ww hSw; (try dsimp only at hSw); go_simp; try (with_reducible rfl))
  try simp only [Act.put, List.setIfInBounds_toArray, List.set_cons_zero, List.set_cons_succ]
  refine wpAnyH_take (i := 7) (v := ?_) (oper_at rfl) (by kernel_rfl) (by kernel_rfl) (by kernel_rfl) (fun _ _ _ h => h) (Or.inl ⟨by rfl, ?_⟩) hHeld ?_
  rotate_left
  · (intro ww hSw; (try dsimp only at hSw); go_simp; try (with_reducible rfl))
  try simp only [Act.put, List.setIfInBounds_toArray, List.set_cons_zero, List.set_cons_succ]
  refine wpAnyH_take (i := 8) (v := ?_) (oper_at rfl) (by kernel_rfl) (by kernel_rfl) (by kernel_rfl) (fun _ _ _ h => h) (Or.inl ⟨by rfl, ?_⟩) hHeld ?_
  rotate_left
  · (intro ww hSw; (try dsimp only at hSw); go_simp; try (with_reducible rfl))
  try simp only [Act.put, List.setIfInBounds_toArray, List.set_cons_zero, List.set_cons_succ]
  refine wpAnyH_done (by kernel_rfl) ?_ _
  refine NoPanic.normal ?_
  generalize hwC : wB.drew = wC
  have hEC : Ext wB wC := by rw [← hwC]; exact (Ext.refl _).drew
  have b0 := (blkOf_ext hEC (by rw [HSB.out]; omega)).trans b0
  have b2 : blkOf wC (w.heap.size + 2) = NV0 := (blkOf_ext hEC (by rw [HSB.out]; omega)).trans b2
  have a0 := hEC.cell a0
  have a1 := hEC.cell a1
  have a2 := hEC.cell a2
  have a3 := hEC.cell a3
  have a4 := hEC.cell a4
  have a5 := hEC.cell a5
  have hsC : w.heap.size + 2 < wC.heap.size := by have := hEC.size; rw [HSB.out] at this; omega
  have HEC := Lib.hid (HE.out.trans hEC)
  have HNC := Lib.hid (HN.out.ext HEC.out)
  have hgC : g < wC.heap.size := by omega
  have ng0 : w.heap.size ≠ g := by omega
  have nr0 : w.heap.size ≠ r := by omega
  have ng1 : w.heap.size + 1 ≠ g := by omega
  have nr1 : w.heap.size + 1 ≠ r := by omega
  have ng2 : w.heap.size + 2 ≠ g := by omega
  have nr2 : w.heap.size + 2 ≠ r := by omega
  clear hwC hEC HSB hHeld M4 M9 hsB
  go_wp2_with fail
  refine (M6.out _).mono ?_
  rintro em wm ⟨rfl, rfl⟩
  have CT := Lib.hid (fun W (hW : Ext wC W) => consume75_any g r cv hv cp os x (kn, p3, c3, n4) W (HNC.out.ext hW) HG.out.ascP HG.out.lenP)
  have TM := Lib.hid (fun kv2 W (hW : Exc g r w W) (hr : Row 4 W B 58 kv2 (x.ks.map encK)) => consume76_any _ _ kv2 cs x.s x.t x.d x.ks (kn, p3, c3, n4) B W (HRC.out W hW) ⟨Ah, hs.length, ch, rfl⟩ hr HG.out.ascR HG.out.asc (by have := HG.out.ksl; omega) (Nat.le_trans hBw hW.size))
  rw [HAG.out] at CT
  go_upto_region 21 with fail
  go_cut [19] (fun s19 wx => s19 = .pointer (some ⟨wC.heap.size, 0, none⟩) ∧ wx = (wC.alloc (.cells #[kV kn, iV p3, iV c3, iV n4] 58)).drew)
  case first =>
    have KB : Hid (∀ W, Ext wC W → (fun w' => Ext wC w' ∧ w'.cell? ⟨w.heap.size + 1, 1, none⟩ = some (iV aa) ∧ w'.cell? ⟨w.heap.size + 1, 2, none⟩ = some (iV ab) ∧ w'.cell? ⟨w.heap.size + 1, 3, none⟩ = some (iV an) ∧ w'.cell? ⟨w.heap.size + 1, 4, none⟩ = some (iV act)) W) := Lib.hid (fun W h => ⟨h, h.cell a1, h.cell a2, h.cell a3, h.cell a4⟩)
    refine wp_region_noPanic ?_
    refine wp_region_held_drew (S := (fun w' => Ext wC w' ∧ w'.cell? ⟨w.heap.size + 1, 1, none⟩ = some (iV aa) ∧ w'.cell? ⟨w.heap.size + 1, 2, none⟩ = some (iV ab) ∧ w'.cell? ⟨w.heap.size + 1, 3, none⟩ = some (iV an) ∧ w'.cell? ⟨w.heap.size + 1, 4, none⟩ = some (iV act))) (by kernel_rfl) ?_ (fun hHeld => ?_)
    · exact KB.out _ (by (repeat (first | with_reducible assumption | with_reducible exact Ext.refl _ | with_reducible apply Ext.alloc | with_reducible apply Ext.drew)); first | done | fail)
    refine wpAnyH_take (i := 0) (v := ?_) (oper_at rfl) (by kernel_rfl) (by kernel_rfl) (by kernel_rfl) (fun _ _ _ h => h) (Or.inl ⟨by rfl, ?_⟩) hHeld ?_
    rotate_left
    · (intro ww hSw; (try dsimp only at hSw); go_simp; try (with_reducible rfl))
    try simp only [Act.put, List.setIfInBounds_toArray, List.set_cons_zero, List.set_cons_succ]
    refine wpAnyH_take (i := 1) (v := ?_) (oper_at rfl) (by kernel_rfl) (by kernel_rfl) (by kernel_rfl) (fun _ _ _ h => h) (Or.inl ⟨by rfl, ?_⟩) hHeld ?_
    rotate_left
    · (intro ww hSw; (try dsimp only at hSw); go_simp; try (with_reducible rfl))
    try simp only [Act.put, List.setIfInBounds_toArray, List.set_cons_zero, List.set_cons_succ]
    refine wpAnyH_take (i := 4) (v := ?_) (oper_at rfl) (by kernel_rfl) (by kernel_rfl) (by kernel_rfl) (fun _ _ _ h => h) (Or.inl ⟨by rfl, ?_⟩) hHeld ?_
    rotate_left
    · (intro ww hSw; (try dsimp only at hSw); go_simp; try (with_reducible rfl))
    try simp only [Act.put, List.setIfInBounds_toArray, List.set_cons_zero, List.set_cons_succ]
    refine wpAnyH_take (i := 5) (v := ?_) (oper_at rfl) (by kernel_rfl) (by kernel_rfl) (by kernel_rfl) (fun _ _ _ h => h) (Or.inl ⟨by rfl, ?_⟩) hHeld ?_
    rotate_left
    · (intro ww hSw; (try dsimp only at hSw); go_simp; try (with_reducible rfl))
    try simp only [Act.put, List.setIfInBounds_toArray, List.set_cons_zero, List.set_cons_succ]
    refine wpAnyH_take (i := 7) (v := ?_) (oper_at rfl) (by kernel_rfl) (by kernel_rfl) (by kernel_rfl) (fun _ _ _ h => h) (Or.inl ⟨by rfl, ?_⟩) hHeld ?_
    rotate_left
    · (intro ww hSw; (try dsimp only at hSw); go_simp; try (with_reducible rfl))
    try simp only [Act.put, List.setIfInBounds_toArray, List.set_cons_zero, List.set_cons_succ]
    refine wpAnyH_take (i := 8) (v := ?_) (oper_at rfl) (by kernel_rfl) (by kernel_rfl) (by kernel_rfl) (fun _ _ _ h => h) (Or.inl ⟨by rfl, ?_⟩) hHeld ?_
    rotate_left
    · (intro ww hSw; (try dsimp only at hSw); go_simp; try (with_reducible rfl))
    try simp only [Act.put, List.setIfInBounds_toArray, List.set_cons_zero, List.set_cons_succ]
    refine wpAnyH_take (i := 10) (v := ?_) (oper_at rfl) (by kernel_rfl) (by kernel_rfl) (by kernel_rfl) (fun _ _ _ h => h) (Or.inl ⟨by rfl, ?_⟩) hHeld ?_
    rotate_left
    · (intro ww hSw; (try dsimp only at hSw); go_simp; try (with_reducible rfl))
    try simp only [Act.put, List.setIfInBounds_toArray, List.set_cons_zero, List.set_cons_succ]
    refine wpAnyH_take (i := 11) (v := ?_) (oper_at rfl) (by kernel_rfl) (by kernel_rfl) (by kernel_rfl) (fun _ _ _ h => h) (Or.inl ⟨by rfl, ?_⟩) hHeld ?_
    rotate_left
    · (intro ww hSw; (try dsimp only at hSw); go_simp; try (with_reducible rfl))
    try simp only [Act.put, List.setIfInBounds_toArray, List.set_cons_zero, List.set_cons_succ]
    refine wpAnyH_ready (rs := [2, 14]) (by kernel_rfl) (by simp) (AllReadyH.cons (oper_at rfl) (fun K hK => ?_) (AllReadyH.cons (oper_at rfl) (fun K hK => ?_) AllReadyH.nil))
    · go_simp
      go_at_call 40
      refine (N1.out _).mono ?_
      rintro em wm ⟨rfl, rfl⟩
      refine hK.out _ _ ?_ (fun hHeld => ?_)
      · exact KB.out _ (by (repeat (first | with_reducible assumption | with_reducible exact Ext.refl _ | with_reducible apply Ext.alloc | with_reducible apply Ext.drew)); first | done | fail)
      clear hK K
      try simp only [Act.put, List.setIfInBounds_toArray, List.set_cons_zero, List.set_cons_succ]
      refine wpAnyH_take (i := 3) (v := ?_) (oper_at rfl) (by kernel_rfl) (by kernel_rfl) (by kernel_rfl) (fun _ _ _ h => h) (Or.inl ⟨by rfl, ?_⟩) hHeld ?_
      rotate_left
      · (intro ww hSw; (try dsimp only at hSw); go_simp; try (with_reducible rfl))
      try simp only [Act.put, List.setIfInBounds_toArray, List.set_cons_zero, List.set_cons_succ]
      refine wpAnyH_ready (rs := [6, 14]) (by kernel_rfl) (by simp) (AllReadyH.cons (oper_at rfl) (fun K hK => ?_) (AllReadyH.cons (oper_at rfl) (fun K hK => ?_) AllReadyH.nil))
      · go_simp
        go_at_call 40
        refine (N2.out _).mono ?_
        rintro em wm ⟨rfl, rfl⟩
        refine hK.out _ _ ?_ (fun hHeld => ?_)
        · exact KB.out _ (by (repeat (first | with_reducible assumption | with_reducible exact Ext.refl _ | with_reducible apply Ext.alloc | with_reducible apply Ext.drew)); first | done | fail)
        clear hK K
        try simp only [Act.put, List.setIfInBounds_toArray, List.set_cons_zero, List.set_cons_succ]
        refine wpAnyH_ready (rs := [9, 14]) (by kernel_rfl) (by simp) (AllReadyH.cons (oper_at rfl) (fun K hK => ?_) (AllReadyH.cons (oper_at rfl) (fun K hK => ?_) AllReadyH.nil))
        · go_simp
          go_at_call 40
          refine (N3.out _).mono ?_
          rintro em wm ⟨rfl, rfl⟩
          refine hK.out _ _ ?_ (fun hHeld => ?_)
          · exact KB.out _ (by (repeat (first | with_reducible assumption | with_reducible exact Ext.refl _ | with_reducible apply Ext.alloc | with_reducible apply Ext.drew)); first | done | fail)
          clear hK K
          try simp only [Act.put, List.setIfInBounds_toArray, List.set_cons_zero, List.set_cons_succ]
          refine wpAnyH_ready (rs := [12, 14]) (by kernel_rfl) (by simp) (AllReadyH.cons (oper_at rfl) (fun K hK => ?_) (AllReadyH.cons (oper_at rfl) (fun K hK => ?_) AllReadyH.nil))
          · go_simp
            go_at_call 40
            refine (N4.out _).mono ?_
            rintro em wm ⟨rfl, rfl⟩
            refine hK.out _ _ ?_ (fun hHeld => ?_)
            · exact KB.out _ (by (repeat (first | with_reducible assumption | with_reducible exact Ext.refl _ | with_reducible apply Ext.alloc | with_reducible apply Ext.drew)); first | done | fail)
            clear hK K
            try simp only [Act.put, List.setIfInBounds_toArray, List.set_cons_zero, List.set_cons_succ]
            refine wpAnyH_take (i := 13) (v := ?_) (oper_at rfl) (by kernel_rfl) (by kernel_rfl) (by kernel_rfl) (fun _ _ _ h => h) (Or.inl ⟨by rfl, ?_⟩) hHeld ?_
            rotate_left
            · (intro ww hSw; (try dsimp only at hSw); go_simp; try (with_reducible rfl))
            try simp only [Act.put, List.setIfInBounds_toArray, List.set_cons_zero, List.set_cons_succ]
            refine wpAnyH_ready (rs := [14]) (by kernel_rfl) (by simp) (AllReadyH.cons (oper_at rfl) (fun K hK => ?_) AllReadyH.nil)
            go_simp
            refine hK.out _ _ ?_ (fun hHeld => ?_)
            · exact KB.out _ (by (repeat (first | with_reducible assumption | with_reducible exact Ext.refl _ | with_reducible apply Ext.alloc | with_reducible apply Ext.drew)); first | done | fail)
            clear hK K
            try simp only [Act.put, List.setIfInBounds_toArray, List.set_cons_zero, List.set_cons_succ]
            refine wpAnyH_ready (rs := [15]) (by kernel_rfl) (by simp) (AllReadyH.cons (oper_at rfl) (fun K hK => ?_) AllReadyH.nil)
            go_simp
            refine hK.out _ _ ?_ (fun hHeld => ?_)
            · exact KB.out _ (by (repeat (first | with_reducible assumption | with_reducible exact Ext.refl _ | with_reducible apply Ext.alloc | with_reducible apply Ext.drew)); first | done | fail)
            clear hK K
            try simp only [Act.put, List.setIfInBounds_toArray, List.set_cons_zero, List.set_cons_succ]
            refine wpAnyH_done (by kernel_rfl) ?_ _
            refine NoPanic.normal ?_
            go_wp2_with fail
            go_meet
            exact ⟨rfl, rfl⟩
          · go_simp
            refine hK.out _ _ ?_ (fun hHeld => ?_)
            · exact KB.out _ (by (repeat (first | with_reducible assumption | with_reducible exact Ext.refl _ | with_reducible apply Ext.alloc | with_reducible apply Ext.drew)); first | done | fail)
            clear hK K
            try simp only [Act.put, List.setIfInBounds_toArray, List.set_cons_zero, List.set_cons_succ]
            refine wpAnyH_ready (rs := [12]) (by kernel_rfl) (by simp) (AllReadyH.cons (oper_at rfl) (fun K hK => ?_) AllReadyH.nil)
            go_simp
            go_at_call 40
            refine (N4.out _).mono ?_
            rintro em wm ⟨rfl, rfl⟩
            refine hK.out _ _ ?_ (fun hHeld => ?_)
            · exact KB.out _ (by (repeat (first | with_reducible assumption | with_reducible exact Ext.refl _ | with_reducible apply Ext.alloc | with_reducible apply Ext.drew)); first | done | fail)
            clear hK K
            try simp only [Act.put, List.setIfInBounds_toArray, List.set_cons_zero, List.set_cons_succ]
            refine wpAnyH_take (i := 13) (v := ?_) (oper_at rfl) (by kernel_rfl) (by kernel_rfl) (by kernel_rfl) (fun _ _ _ h => h) (Or.inl ⟨by rfl, ?_⟩) hHeld ?_
            rotate_left
            · (intro ww hSw; (try dsimp only at hSw); go_simp; try (with_reducible rfl))
            try simp only [Act.put, List.setIfInBounds_toArray, List.set_cons_zero, List.set_cons_succ]
            refine wpAnyH_ready (rs := [15]) (by kernel_rfl) (by simp) (AllReadyH.cons (oper_at rfl) (fun K hK => ?_) AllReadyH.nil)
            go_simp
            refine hK.out _ _ ?_ (fun hHeld => ?_)
            · exact KB.out _ (by (repeat (first | with_reducible assumption | with_reducible exact Ext.refl _ | with_reducible apply Ext.alloc | with_reducible apply Ext.drew)); first | done | fail)
            clear hK K
            try simp only [Act.put, List.setIfInBounds_toArray, List.set_cons_zero, List.set_cons_succ]
            refine wpAnyH_done (by kernel_rfl) ?_ _
            refine NoPanic.normal ?_
            go_wp2_with fail
            go_meet
            exact ⟨rfl, rfl⟩
        · go_simp
          refine hK.out _ _ ?_ (fun hHeld => ?_)
          · exact KB.out _ (by (repeat (first | with_reducible assumption | with_reducible exact Ext.refl _ | with_reducible apply Ext.alloc | with_reducible apply Ext.drew)); first | done | fail)
          clear hK K
          try simp only [Act.put, List.setIfInBounds_toArray, List.set_cons_zero, List.set_cons_succ]
          refine wpAnyH_ready (rs := [9]) (by kernel_rfl) (by simp) (AllReadyH.cons (oper_at rfl) (fun K hK => ?_) AllReadyH.nil)
          go_simp
          go_at_call 40
          refine (N3.out _).mono ?_
          rintro em wm ⟨rfl, rfl⟩
          refine hK.out _ _ ?_ (fun hHeld => ?_)
          · exact KB.out _ (by (repeat (first | with_reducible assumption | with_reducible exact Ext.refl _ | with_reducible apply Ext.alloc | with_reducible apply Ext.drew)); first | done | fail)
          clear hK K
          try simp only [Act.put, List.setIfInBounds_toArray, List.set_cons_zero, List.set_cons_succ]
          refine wpAnyH_ready (rs := [12]) (by kernel_rfl) (by simp) (AllReadyH.cons (oper_at rfl) (fun K hK => ?_) AllReadyH.nil)
          go_simp
          go_at_call 40
          refine (N4.out _).mono ?_
          rintro em wm ⟨rfl, rfl⟩
          refine hK.out _ _ ?_ (fun hHeld => ?_)
          · exact KB.out _ (by (repeat (first | with_reducible assumption | with_reducible exact Ext.refl _ | with_reducible apply Ext.alloc | with_reducible apply Ext.drew)); first | done | fail)
          clear hK K
          try simp only [Act.put, List.setIfInBounds_toArray, List.set_cons_zero, List.set_cons_succ]
          refine wpAnyH_take (i := 13) (v := ?_) (oper_at rfl) (by kernel_rfl) (by kernel_rfl) (by kernel_rfl) (fun _ _ _ h => h) (Or.inl ⟨by rfl, ?_⟩) hHeld ?_
          rotate_left
          · (intro ww hSw; (try dsimp only at hSw); go_simp; try (with_reducible rfl))
          try simp only [Act.put, List.setIfInBounds_toArray, List.set_cons_zero, List.set_cons_succ]
          refine wpAnyH_ready (rs := [15]) (by kernel_rfl) (by simp) (AllReadyH.cons (oper_at rfl) (fun K hK => ?_) AllReadyH.nil)
          go_simp
          refine hK.out _ _ ?_ (fun hHeld => ?_)
          · exact KB.out _ (by (repeat (first | with_reducible assumption | with_reducible exact Ext.refl _ | with_reducible apply Ext.alloc | with_reducible apply Ext.drew)); first | done | fail)
          clear hK K
          try simp only [Act.put, List.setIfInBounds_toArray, List.set_cons_zero, List.set_cons_succ]
          refine wpAnyH_done (by kernel_rfl) ?_ _
          refine NoPanic.normal ?_
          go_wp2_with fail
          go_meet
          exact ⟨rfl, rfl⟩
      · go_simp
        refine hK.out _ _ ?_ (fun hHeld => ?_)
        · exact KB.out _ (by (repeat (first | with_reducible assumption | with_reducible exact Ext.refl _ | with_reducible apply Ext.alloc | with_reducible apply Ext.drew)); first | done | fail)
        clear hK K
        try simp only [Act.put, List.setIfInBounds_toArray, List.set_cons_zero, List.set_cons_succ]
        refine wpAnyH_ready (rs := [6]) (by kernel_rfl) (by simp) (AllReadyH.cons (oper_at rfl) (fun K hK => ?_) AllReadyH.nil)
        go_simp
        go_at_call 40
        refine (N2.out _).mono ?_
        rintro em wm ⟨rfl, rfl⟩
        refine hK.out _ _ ?_ (fun hHeld => ?_)
        · exact KB.out _ (by (repeat (first | with_reducible assumption | with_reducible exact Ext.refl _ | with_reducible apply Ext.alloc | with_reducible apply Ext.drew)); first | done | fail)
        clear hK K
        try simp only [Act.put, List.setIfInBounds_toArray, List.set_cons_zero, List.set_cons_succ]
        refine wpAnyH_ready (rs := [9]) (by kernel_rfl) (by simp) (AllReadyH.cons (oper_at rfl) (fun K hK => ?_) AllReadyH.nil)
        go_simp
        go_at_call 40
        refine (N3.out _).mono ?_
        rintro em wm ⟨rfl, rfl⟩
        refine hK.out _ _ ?_ (fun hHeld => ?_)
        · exact KB.out _ (by (repeat (first | with_reducible assumption | with_reducible exact Ext.refl _ | with_reducible apply Ext.alloc | with_reducible apply Ext.drew)); first | done | fail)
        clear hK K
        try simp only [Act.put, List.setIfInBounds_toArray, List.set_cons_zero, List.set_cons_succ]
        refine wpAnyH_ready (rs := [12]) (by kernel_rfl) (by simp) (AllReadyH.cons (oper_at rfl) (fun K hK => ?_) AllReadyH.nil)
        go_simp
        go_at_call 40
        refine (N4.out _).mono ?_
        rintro em wm ⟨rfl, rfl⟩
        refine hK.out _ _ ?_ (fun hHeld => ?_)
        · exact KB.out _ (by (repeat (first | with_reducible assumption | with_reducible exact Ext.refl _ | with_reducible apply Ext.alloc | with_reducible apply Ext.drew)); first | done | fail)
        clear hK K
        try simp only [Act.put, List.setIfInBounds_toArray, List.set_cons_zero, List.set_cons_succ]
        refine wpAnyH_take (i := 13) (v := ?_) (oper_at rfl) (by kernel_rfl) (by kernel_rfl) (by kernel_rfl) (fun _ _ _ h => h) (Or.inl ⟨by rfl, ?_⟩) hHeld ?_
        rotate_left
        · (intro ww hSw; (try dsimp only at hSw); go_simp; try (with_reducible rfl))
        try simp only [Act.put, List.setIfInBounds_toArray, List.set_cons_zero, List.set_cons_succ]
        refine wpAnyH_ready (rs := [15]) (by kernel_rfl) (by simp) (AllReadyH.cons (oper_at rfl) (fun K hK => ?_) AllReadyH.nil)
        go_simp
        refine hK.out _ _ ?_ (fun hHeld => ?_)
        · exact KB.out _ (by (repeat (first | with_reducible assumption | with_reducible exact Ext.refl _ | with_reducible apply Ext.alloc | with_reducible apply Ext.drew)); first | done | fail)
        clear hK K
        try simp only [Act.put, List.setIfInBounds_toArray, List.set_cons_zero, List.set_cons_succ]
        refine wpAnyH_done (by kernel_rfl) ?_ _
        refine NoPanic.normal ?_
        go_wp2_with fail
        go_meet
        exact ⟨rfl, rfl⟩
    · go_simp
      refine hK.out _ _ ?_ (fun hHeld => ?_)
      · exact KB.out _ (by (repeat (first | with_reducible assumption | with_reducible exact Ext.refl _ | with_reducible apply Ext.alloc | with_reducible apply Ext.drew)); first | done | fail)
      clear hK K
      try simp only [Act.put, List.setIfInBounds_toArray, List.set_cons_zero, List.set_cons_succ]
      refine wpAnyH_ready (rs := [2]) (by kernel_rfl) (by simp) (AllReadyH.cons (oper_at rfl) (fun K hK => ?_) AllReadyH.nil)
      go_simp
      go_at_call 40
      refine (N1.out _).mono ?_
      rintro em wm ⟨rfl, rfl⟩
      refine hK.out _ _ ?_ (fun hHeld => ?_)
      · exact KB.out _ (by (repeat (first | with_reducible assumption | with_reducible exact Ext.refl _ | with_reducible apply Ext.alloc | with_reducible apply Ext.drew)); first | done | fail)
      clear hK K
      try simp only [Act.put, List.setIfInBounds_toArray, List.set_cons_zero, List.set_cons_succ]
      refine wpAnyH_take (i := 3) (v := ?_) (oper_at rfl) (by kernel_rfl) (by kernel_rfl) (by kernel_rfl) (fun _ _ _ h => h) (Or.inl ⟨by rfl, ?_⟩) hHeld ?_
      rotate_left
      · (intro ww hSw; (try dsimp only at hSw); go_simp; try (with_reducible rfl))
      try simp only [Act.put, List.setIfInBounds_toArray, List.set_cons_zero, List.set_cons_succ]
      refine wpAnyH_ready (rs := [6]) (by kernel_rfl) (by simp) (AllReadyH.cons (oper_at rfl) (fun K hK => ?_) AllReadyH.nil)
      go_simp
      go_at_call 40
      refine (N2.out _).mono ?_
      rintro em wm ⟨rfl, rfl⟩
      refine hK.out _ _ ?_ (fun hHeld => ?_)
      · exact KB.out _ (by (repeat (first | with_reducible assumption | with_reducible exact Ext.refl _ | with_reducible apply Ext.alloc | with_reducible apply Ext.drew)); first | done | fail)
      clear hK K
      try simp only [Act.put, List.setIfInBounds_toArray, List.set_cons_zero, List.set_cons_succ]
      refine wpAnyH_ready (rs := [9]) (by kernel_rfl) (by simp) (AllReadyH.cons (oper_at rfl) (fun K hK => ?_) AllReadyH.nil)
      go_simp
      go_at_call 40
      refine (N3.out _).mono ?_
      rintro em wm ⟨rfl, rfl⟩
      refine hK.out _ _ ?_ (fun hHeld => ?_)
      · exact KB.out _ (by (repeat (first | with_reducible assumption | with_reducible exact Ext.refl _ | with_reducible apply Ext.alloc | with_reducible apply Ext.drew)); first | done | fail)
      clear hK K
      try simp only [Act.put, List.setIfInBounds_toArray, List.set_cons_zero, List.set_cons_succ]
      refine wpAnyH_ready (rs := [12]) (by kernel_rfl) (by simp) (AllReadyH.cons (oper_at rfl) (fun K hK => ?_) AllReadyH.nil)
      go_simp
      go_at_call 40
      refine (N4.out _).mono ?_
      rintro em wm ⟨rfl, rfl⟩
      refine hK.out _ _ ?_ (fun hHeld => ?_)
      · exact KB.out _ (by (repeat (first | with_reducible assumption | with_reducible exact Ext.refl _ | with_reducible apply Ext.alloc | with_reducible apply Ext.drew)); first | done | fail)
      clear hK K
      try simp only [Act.put, List.setIfInBounds_toArray, List.set_cons_zero, List.set_cons_succ]
      refine wpAnyH_take (i := 13) (v := ?_) (oper_at rfl) (by kernel_rfl) (by kernel_rfl) (by kernel_rfl) (fun _ _ _ h => h) (Or.inl ⟨by rfl, ?_⟩) hHeld ?_
      rotate_left
      · (intro ww hSw; (try dsimp only at hSw); go_simp; try (with_reducible rfl))
      try simp only [Act.put, List.setIfInBounds_toArray, List.set_cons_zero, List.set_cons_succ]
      refine wpAnyH_ready (rs := [15]) (by kernel_rfl) (by simp) (AllReadyH.cons (oper_at rfl) (fun K hK => ?_) AllReadyH.nil)
      go_simp
      refine hK.out _ _ ?_ (fun hHeld => ?_)
      · exact KB.out _ (by (repeat (first | with_reducible assumption | with_reducible exact Ext.refl _ | with_reducible apply Ext.alloc | with_reducible apply Ext.drew)); first | done | fail)
      clear hK K
      try simp only [Act.put, List.setIfInBounds_toArray, List.set_cons_zero, List.set_cons_succ]
      refine wpAnyH_done (by kernel_rfl) ?_ _
      refine NoPanic.normal ?_
      go_wp2_with fail
      go_meet
      exact ⟨rfl, rfl⟩
  case rest =>
    obtain ⟨rfl, rfl⟩ := hcut
    generalize hw1 : (wC.alloc (.cells #[kV kn, iV p3, iV c3, iV n4] 58)).drew = w1
    have hE1 : Ext wC w1 := by rw [← hw1]; exact ((Ext.refl _).alloc _).drew
    have q0 : w1.cell? ⟨wC.heap.size, 0, none⟩ = some (kV kn) := by rw [← hw1]; exact ((Ext.refl _).drew).cell (new_at _ _ _ 0 _ rfl)
    have q1 : w1.cell? ⟨wC.heap.size, 1, none⟩ = some (iV p3) := by rw [← hw1]; exact ((Ext.refl _).drew).cell (new_at _ _ _ 1 _ rfl)
    have q2 : w1.cell? ⟨wC.heap.size, 2, none⟩ = some (iV c3) := by rw [← hw1]; exact ((Ext.refl _).drew).cell (new_at _ _ _ 2 _ rfl)
    have q3 : w1.cell? ⟨wC.heap.size, 3, none⟩ = some (iV n4) := by rw [← hw1]; exact ((Ext.refl _).drew).cell (new_at _ _ _ 3 _ rfl)
    have b0 := (blkOf_ext hE1 (by omega)).trans b0
    have b2 : blkOf w1 (w.heap.size + 2) = NV0 := (blkOf_ext hE1 (by omega)).trans b2
    have CT1 := Lib.hid (CT.out w1 hE1)
    have HE1 := Lib.hid (HEC.out.trans hE1)
    have hs1 : wC.heap.size < w1.heap.size := World.block_lt_of_cell? w1 _ q0
    have hgk : wC.heap.size ≠ g := by omega
    have hrk2 : wC.heap.size ≠ r := by omega
    clear hw1 hE1 CT a0 a1 a2 a3 a4 a5 HNC HEC
    go_wp2_with fail
    refine CT1.out.mono ?_
    rintro e2 w2 ⟨rfl, hN2, hE2⟩
    have b0 := (hE2.blk (by omega) ng0 nr0).trans b0
    have b2 : blkOf w2 (w.heap.size + 2) = NV0 := (hE2.blk (by omega) ng2 nr2).trans b2
    have q0 := hE2.cellb q0 hgk hrk2
    have q1 := hE2.cellb q1 hgk hrk2
    have q2 := hE2.cellb q2 hgk hrk2
    have q3 := hE2.cellb q3 hgk hrk2
    have hs2 : w.heap.size + 2 < w2.heap.size := by have := hE2.size; omega
    have HN2 := Lib.hid hN2
    have HE2 := Lib.hid ((HE1.out.exc g r).trans hE2)
    have HR2 := Lib.hid (HRK.out.excN HN.out HE2.out)
    have hg2 : g < w2.heap.size := by omega
    have TM2 := Lib.hid (TM.out _ w2 HE2.out HR2.out)
    clear hN2 hE2 CT1 TM HE1
    go_wp2_with fail
    refine TM2.out.mono ?_
    rintro e3 w3 ⟨kv3, rfl, hr3, hE3⟩
    obtain ⟨A3, c3', e3, -, -⟩ := hr3.form
    rw [List.length_map] at e3
    subst e3
    have b2 : blkOf w3 (w.heap.size + 2) = NV0 := (blkOf_ext hE3 (by omega)).trans b2
    have D2 := Lib.hid b2
    have HR3 := Lib.hid hr3
    have HE3 := Lib.hid hE3
    clear hr3 hE3 b0 q0 q1 q2 q3 TM2
    go_wp2_with fail
    generalize hwz : w3.setRow (w.heap.size + 2) _ = wz
    have hhz : ∀ i, i ≠ w.heap.size + 2 → wz.heap[i]? = w3.heap[i]? := fun i hi => by rw [← hwz]; exact setRow_other _ _ _ _ hi
    have bz : blkOf wz (w.heap.size + 2) = NV (.slice Al cs.length cl) (.slice Ah hs.length ch) x.s x.t x.d (.slice A3 (eatF cs x.ks (kn, p3, c3, n4)).length c3') := by rw [← hwz]; exact blkOf_setRow_same (by rw [D2.out, NV_size])
    have hEz : Exc g r w wz := by rw [← hwz]; exact (HE2.out.trans (HE3.out.exc g r)).setRow (Nat.le_add_right _ 2) _
    have hRz : Row 4 wz B 58 (.slice A3 (eatF cs x.ks (kn, p3, c3, n4)).length c3') ((eatF cs x.ks (kn, p3, c3, n4)).map encK) := by rw [← hwz]; exact HR3.out.setFar (by rw [D2.out, NV_size]) _
    refine bodyPost_ret (res32b Tryz.results20 (g := w.heap.size + 2) rfl rfl bz NV_size) rfl ?_
    exact ⟨_, rfl, ⟨HN.out.to HN2.out hEz ((hhz g (Ne.symm ng2)).trans (HE3.out.block g hg2)) ((hhz r (Ne.symm nr2)).trans (HE3.out.block r (by omega))), HRC.out.exc hEz, HRH.out.exc hEz, hRz, Nat.lt_of_lt_of_le hgB hEz.size, Nat.lt_of_lt_of_le hrB hEz.size, Nat.le_trans hBw hEz.size⟩, hEz⟩
end Go.Proofs.YtehmpbaiefbemaaGreat
