/- One call: a timer. -/
import Derived.Test.YtehmpbaiefbemaaGreatN36
namespace Go.Proofs.YtehmpbaiefbemaaGreat
open Go.RowKit
attribute [local go_sem ↓] Go.wp_at_zero Go.wp_at_succ
attribute [local go_sem ↓] eq73 ld32 st32 al32
attribute [local go_sem] run_eq73 run_ld32 run_st32n run_al32 blkOf_drew blkOf_setRow_same blkOf_setRow_other NV_size blkOf_alloc blkOf_new
theorem blkOf_newE {w : World} {cs : Array Value} {T n : Nat} (h : n = w.heap.size) : blkOf (w.alloc (.cells cs T)) n = cs := by
  subst h
  exact blkOf_new
set_option maxRecDepth 100000 in
set_option maxHeartbeats 8000000 in
theorem do_timer (g r B : Nat) (cv hv lv kh kv : Value) (cp cs : List Ch) (os hs : List Jh) (x : St) (a : Ac) (av : Value) (w : World) (H : Both w g r B cv hv lv kh kv cp cs os hs x) (G : Good cp cs x) (hA : Stay g r (fun W => ArgsAt W av a.args) w) (hag : agrF cp os cs hs a x) (hk : modF a.kd 6 = 3) :
    Calls Tryz.prog 20 #[.pointer (some ⟨g, 0, none⟩), .agg (NV lv kh x.s x.t x.d kv), acV a av] w (RetDo g r B cv hv lv kh cp cs os hs (doF cs hs a x) w) := by
  obtain ⟨hNet, hrc, hrh, hrk, hgB, hrB, hBw⟩ := H
  obtain ⟨A0, c0, rfl, -, -, -⟩ := hA.now.at_
  rw [List.length_map] at hA ⊢
  have HN := Lib.hid hNet
  have HRC := Lib.hid hrc
  have HRH := Lib.hid hrh
  have HRK := Lib.hid hrk
  have HAR := Lib.hid hA
  have HG := Lib.hid G
  obtain ⟨Al, cl, rfl, -, -, -⟩ := hrc.now.read
  obtain ⟨Ah, ch, rfl, -, -, -⟩ := hrh.now.sl.read
  obtain ⟨Ak, ck, rfl, -, -, -⟩ := hrk.sl.read
  rw [List.length_map, List.length_map, List.length_map] at *
  have hgl := hNet.lt
  have hrl := hNet.rlt
  obtain ⟨kd, aa, ab, an, act, args⟩ := a
  simp only [] at *
  have m4r := modF_range (a := aa) (n := 4) (by omega)
  have m9r := modF_range (a := an) (n := 9) (by omega)
  have M4 := Lib.hid (fun W => mod_any aa 4 W (by omega) (by omega))
  have M9 := Lib.hid (fun W => mod_any an 9 W (by omega) (by omega))
  have M6 := Lib.hid (fun W => mod_any kd 6 W (by omega) (by omega))
  obtain ⟨cI, hcI⟩ : ∃ cI, cF ⟨kd, aa, ab, an, act, args⟩ = cI := ⟨_, rfl⟩
  have hcI2 := hcI
  unfold cF at hcI2
  simp only [] at hcI2
  have hag2 : timF cp (cF ⟨kd, aa, ab, an, act, args⟩) (modF ab 50) x = timF cs (cF ⟨kd, aa, ab, an, act, args⟩) (modF ab 50) x := by
    unfold agrF at hag
    rw [if_pos hk] at hag
    exact hag
  have HD : Hid (doF cs hs ⟨kd, aa, ab, an, act, args⟩ x = (timF cs (cF ⟨kd, aa, ab, an, act, args⟩) (modF ab 50) x).1) := Lib.hid (by unfold doF; rw [if_pos hk])
  rw [HD.out]
  rw [hcI] at hag2 ⊢
  have m50r := modF_range (a := ab) (n := 50) (by omega)
  have M50 := Lib.hid (fun W => mod_any ab 50 W (by omega) (by omega))
  obtain ⟨m50, e50⟩ : ∃ m, modF ab 50 = m := ⟨_, rfl⟩
  rw [e50] at hag2 m50r M50 ⊢
  rw [hk] at M6
  have HAG := Lib.hid hag2
  clear hag2 hk e50 HD
  obtain ⟨m4, e4⟩ : ∃ m, modF aa 4 = m := ⟨_, rfl⟩
  obtain ⟨m9, e9⟩ : ∃ m, modF an 9 = m := ⟨_, rfl⟩
  rw [e4] at m4r M4 hcI2
  rw [e9] at m9r M9 hcI2
  have hq : Int.tdiv m9 8 = m9 / 8 := Int.tdiv_eq_ediv_of_nonneg m9r.1
  have hcI3 : m4 - m9 / 8 = cI := by rw [← hcI2, hq]
  have hcr : -10 ≤ cI ∧ cI ≤ 10 := by omega
  obtain ⟨q9, hq9⟩ : ∃ q, Int.tdiv m9 8 = q := ⟨_, rfl⟩
  have hqw : IntKind.i64.wrap q9 = q9 := by
    have h9 : q9 = m9 / 8 := by rw [← hq9, hq]
    exact IntWalk.i64_in _ (by omega)
  have hcq : m4 - q9 = cI := by rw [← hcI2, hq9]
  have hcw : IntKind.i64.wrap (m4 - q9) = cI := by rw [hcq]; exact IntWalk.i64_in _ (by omega)
  have HCI := Lib.hid hcI
  clear hNet hrc hrh hrk hA G hag hcI hcI2 hcI3 e4 e9 hq hcq
  obtain ⟨m4a, m4b⟩ := m4r
  obtain ⟨m9a, m9b⟩ := m9r
  obtain ⟨cra, crb⟩ := hcr
  go_enter Tryz.func20, Tryz.ntmps20
  go_upto_region 1 with fail
  generalize hwB : ((w.alloc _).alloc _).alloc _ = wB
  obtain ⟨hE, b0, b1, b2, hsB⟩ := letter3 hwB
  have a0 : wB.cell? ⟨w.heap.size + 1, 0, none⟩ = some (iV kd) := blkOf_cell (by rw [b1]; rfl)
  have a1 : wB.cell? ⟨w.heap.size + 1, 1, none⟩ = some (iV aa) := blkOf_cell (by rw [b1]; rfl)
  have a2 : wB.cell? ⟨w.heap.size + 1, 2, none⟩ = some (iV ab) := blkOf_cell (by rw [b1]; rfl)
  have a3 : wB.cell? ⟨w.heap.size + 1, 3, none⟩ = some (iV an) := blkOf_cell (by rw [b1]; rfl)
  have a4 : wB.cell? ⟨w.heap.size + 1, 4, none⟩ = some (iV act) := blkOf_cell (by rw [b1]; rfl)
  have a5 : wB.cell? ⟨w.heap.size + 1, 5, none⟩ = some (.slice A0 args.length c0) := blkOf_cell (by rw [b1]; rfl)
  have HE := Lib.hid hE
  have HSB := Lib.hid hsB
  clear hwB hE b1
  refine wp_region_noPanic ?_
  refine wp_region_held_drew (S := (fun ww => ww = wB.drew)) (by kernel_rfl) ?_ (fun hHeld => ?_)
  · rfl
  refine wpAnyH_take (i := 0) (v := ?_) (oper_at rfl) (by kernel_rfl) (by kernel_rfl) (by kernel_rfl) (fun _ _ _ h => h) (Or.inl ⟨by rfl, ?_⟩) hHeld ?_
  rotate_left
  · (intro ww hSw; (try dsimp only at hSw); go_simp; try (with_reducible rfl))
  try simp only [Act.put, List.setIfInBounds_toArray, List.set_cons_zero, List.set_cons_succ]
  refine wpAnyH_take (i := 1) (v := ?_) (oper_at rfl) (by kernel_rfl) (by kernel_rfl) (by kernel_rfl) (fun _ _ _ h => h) (Or.inl ⟨by rfl, ?_⟩) hHeld ?_
  rotate_left
  · (intro ww hSw; (try dsimp only at hSw); go_simp; try (with_reducible rfl))
  try simp only [Act.put, List.setIfInBounds_toArray, List.set_cons_zero, List.set_cons_succ]
  refine wpAnyH_take (i := 3) (v := ?_) (oper_at rfl) (by kernel_rfl) (by kernel_rfl) (by kernel_rfl) (fun _ _ _ h => h) (Or.inl ⟨by rfl, ?_⟩) hHeld ?_
  rotate_left
  · (intro ww hSw; (try dsimp only at hSw); go_simp; try (with_reducible rfl))
  try simp only [Act.put, List.setIfInBounds_toArray, List.set_cons_zero, List.set_cons_succ]
  refine wpAnyH_take (i := 4) (v := ?_) (oper_at rfl) (by kernel_rfl) (by kernel_rfl) (by kernel_rfl) (fun _ _ _ h => h) (Or.inl ⟨by rfl, ?_⟩) hHeld ?_
  rotate_left
  · (intro ww hSw; (try dsimp only at hSw); go_simp; try (with_reducible rfl))
  try simp only [Act.put, List.setIfInBounds_toArray, List.set_cons_zero, List.set_cons_succ]
  refine wpAnyH_ready (rs := [2]) (by kernel_rfl) (by simp) (AllReadyH.cons (oper_at rfl) (fun K hK => ?_) AllReadyH.nil)
  go_simp
  go_at_call 40
  refine (M4.out _).mono ?_
  rintro em wm ⟨rfl, rfl⟩
  refine hK.out _ _ ?_ (fun hHeld => ?_)
  · rfl
  clear hK K
  try simp only [Act.put, List.setIfInBounds_toArray, List.set_cons_zero, List.set_cons_succ]
  refine wpAnyH_ready (rs := [5]) (by kernel_rfl) (by simp) (AllReadyH.cons (oper_at rfl) (fun K hK => ?_) AllReadyH.nil)
  go_simp
  go_at_call 40
  refine (M9.out _).mono ?_
  rintro em wm ⟨rfl, rfl⟩
  refine hK.out _ _ ?_ (fun hHeld => ?_)
  · rfl
  clear hK K
  try simp only [Act.put, List.setIfInBounds_toArray, List.set_cons_zero, List.set_cons_succ]
  refine wpAnyH_take (i := 6) (v := ?_) (oper_at rfl) (by kernel_rfl) (by kernel_rfl) (by kernel_rfl) (fun _ _ _ h => h) (Or.inl ⟨by rfl, ?_⟩) hHeld ?_
  rotate_left
  · (intro ww hSw; (try dsimp only at hSw); go_simp; try (with_reducible rfl))
  try simp only [Act.put, List.setIfInBounds_toArray, List.set_cons_zero, List.set_cons_succ]
  refine wpAnyH_take (i := 7) (v := ?_) (oper_at rfl) (by kernel_rfl) (by kernel_rfl) (by kernel_rfl) (fun _ _ _ h => h) (Or.inl ⟨by rfl, ?_⟩) hHeld ?_
  rotate_left
  · (intro ww hSw; (try dsimp only at hSw); go_simp; try (with_reducible rfl))
  try simp only [Act.put, List.setIfInBounds_toArray, List.set_cons_zero, List.set_cons_succ]
  refine wpAnyH_take (i := 8) (v := ?_) (oper_at rfl) (by kernel_rfl) (by kernel_rfl) (by kernel_rfl) (fun _ _ _ h => h) (Or.inl ⟨by rfl, ?_⟩) hHeld ?_
  rotate_left
  · (intro ww hSw; (try dsimp only at hSw); go_simp; try (with_reducible rfl))
  try simp only [Act.put, List.setIfInBounds_toArray, List.set_cons_zero, List.set_cons_succ]
  refine wpAnyH_done (by kernel_rfl) ?_ _
  refine NoPanic.normal ?_
  generalize hwC : wB.drew = wC
  have hEC : Ext wB wC := by rw [← hwC]; exact (Ext.refl _).drew
  have b0 := (blkOf_ext hEC (by rw [HSB.out]; omega)).trans b0
  have b2 : blkOf wC (w.heap.size + 2) = NV0 := (blkOf_ext hEC (by rw [HSB.out]; omega)).trans b2
  have a0 := hEC.cell a0
  have a1 := hEC.cell a1
  have a2 := hEC.cell a2
  have a3 := hEC.cell a3
  have a4 := hEC.cell a4
  have a5 := hEC.cell a5
  have hsC : w.heap.size + 2 < wC.heap.size := by have := hEC.size; rw [HSB.out] at this; omega
  have HEC := Lib.hid (HE.out.trans hEC)
  have HNC := Lib.hid (HN.out.ext HEC.out)
  have hgC : g < wC.heap.size := by omega
  have ng0 : w.heap.size ≠ g := by omega
  have nr0 : w.heap.size ≠ r := by omega
  have ng1 : w.heap.size + 1 ≠ g := by omega
  have nr1 : w.heap.size + 1 ≠ r := by omega
  have ng2 : w.heap.size + 2 ≠ g := by omega
  have nr2 : w.heap.size + 2 ≠ r := by omega
  clear hwC hEC HSB hHeld M4 M9 hsB
  go_wp2_with fail
  refine (M6.out _).mono ?_
  rintro em wm ⟨rfl, rfl⟩
  obtain ⟨ya, yb, yc⟩ := m50r |> fun h => (⟨h.1, h.2, trivial⟩ : 0 ≤ m50 ∧ m50 < 50 ∧ True)
  have CT := Lib.hid (timer23_any g r cv hv cp os x cI m50 wC HNC.out HG.out.ascP HG.out.lenP (HG.out.bd.mono (by omega)) HG.out.smP (by omega) (by omega))
  have TM := Lib.hid (fun kv2 W (hW : Exc g r w W) (hr : Row 4 W B 58 kv2 (x.ks.map encK)) => rtimer_any _ _ kv2 cs x B cI m50 W (HRC.out W hW) ⟨Ah, hs.length, ch, rfl⟩ hr HG.out.ascR HG.out.asc (by have := HG.out.ksl; omega) (Nat.le_trans hBw hW.size) (HG.out.bd.mono (by omega)) HG.out.smR (by omega) (by omega))
  rw [HAG.out] at CT
  generalize timF cs cI m50 x = tr at *
  obtain ⟨y, ord, due⟩ := tr
  simp only [] at CT TM ⊢
  go_wp2_with fail
  refine (M50.out _).mono ?_
  rintro em wm ⟨rfl, rfl⟩
  go_wp2_with fail
  refine CT.out.mono ?_
  rintro e1 w1 ⟨rfl, hN1, hE1⟩
  have b0 := (hE1.blk (by omega) ng0 nr0).trans b0
  have b2 : blkOf w1 (w.heap.size + 2) = NV0 := (hE1.blk (by omega) ng2 nr2).trans b2
  have a2 := hE1.cellb a2 ng1 nr1
  have hs1 : w.heap.size + 2 < w1.heap.size := Nat.lt_of_lt_of_le hsC hE1.size
  have HN1 := Lib.hid hN1
  have HE1 := Lib.hid (((HEC.out).exc g r).trans hE1)
  have HR1 := Lib.hid (HRK.out.excN HN.out HE1.out)
  have hg1 : g < w1.heap.size := by omega
  have TM1 := Lib.hid (fun W (hW : Ext w1 W) => TM.out (.slice Ak x.ks.length ck) W (HE1.out.trans (hW.exc g r)) (HR1.out.ext hW))
  clear hN1 hE1 CT TM a0 a1 a3 a4 a5 HNC HEC
  go_upto_region 5 with fail
  go_cut [11, 12, 13] (fun s11 s12 s13 wx => ∃ b A nn cx, s11 = .pointer (some ⟨b, 0, none⟩) ∧ s12 = iV ord ∧ s13 = iV due ∧ b ≠ w.heap.size + 2 ∧ w1.heap.size ≤ b ∧ blkOf wx b = NV (.slice Al cs.length cl) (.slice Ah hs.length ch) y.s y.t y.d (.slice A nn cx) ∧ blkOf wx (w.heap.size + 2) = NV0 ∧ Row 4 wx B 58 (.slice A nn cx) (y.ks.map encK) ∧ Ext w1 wx)
  case first =>
    have KB : Hid (∀ W, Ext w1 W → (fun w' => blkOf w' w.heap.size = NV (.slice Al cs.length cl) (.slice Ah hs.length ch) x.s x.t x.d (.slice Ak x.ks.length ck) ∧ w'.cell? ⟨w.heap.size + 1, 2, none⟩ = some (iV ab)) W) := Lib.hid (fun W h => ⟨(blkOf_ext h (by omega)).trans b0, h.cell a2⟩)
    refine wp_region_noPanic ?_
    refine wp_region_held_drew (S := (fun w' => blkOf w' w.heap.size = NV (.slice Al cs.length cl) (.slice Ah hs.length ch) x.s x.t x.d (.slice Ak x.ks.length ck) ∧ w'.cell? ⟨w.heap.size + 1, 2, none⟩ = some (iV ab))) (by kernel_rfl) ?_ (fun hHeld => ?_)
    · exact KB.out _ (by (repeat (first | with_reducible assumption | with_reducible exact Ext.refl _ | with_reducible apply Ext.alloc | with_reducible apply Ext.drew)); first | done | fail)
    refine wpAnyH_take (i := 0) (v := ?_) (oper_at rfl) (by kernel_rfl) (by kernel_rfl) (by kernel_rfl) (fun _ _ _ h => h) (Or.inl ⟨by rfl, ?_⟩) hHeld ?_
    rotate_left
    · (intro ww hSw; (try dsimp only at hSw); go_simp; try (with_reducible rfl))
    try simp only [Act.put, List.setIfInBounds_toArray, List.set_cons_zero, List.set_cons_succ]
    refine wpAnyH_take (i := 1) (v := ?_) (oper_at rfl) (by kernel_rfl) (by kernel_rfl) (by kernel_rfl) (fun _ _ _ h => h) (Or.inl ⟨by rfl, ?_⟩) hHeld ?_
    rotate_left
    · (intro ww hSw; (try dsimp only at hSw); go_simp; try (with_reducible rfl))
    try simp only [Act.put, List.setIfInBounds_toArray, List.set_cons_zero, List.set_cons_succ]
    refine wpAnyH_take (i := 2) (v := ?_) (oper_at rfl) (by kernel_rfl) (by kernel_rfl) (by kernel_rfl) (fun _ _ _ h => h) (Or.inl ⟨by rfl, ?_⟩) hHeld ?_
    rotate_left
    · (intro ww hSw; (try dsimp only at hSw); go_simp; try (with_reducible rfl))
    try simp only [Act.put, List.setIfInBounds_toArray, List.set_cons_zero, List.set_cons_succ]
    refine wpAnyH_take (i := 3) (v := ?_) (oper_at rfl) (by kernel_rfl) (by kernel_rfl) (by kernel_rfl) (fun _ _ _ h => h) (Or.inl ⟨by rfl, ?_⟩) hHeld ?_
    rotate_left
    · (intro ww hSw; (try dsimp only at hSw); go_simp; try (with_reducible rfl))
    try simp only [Act.put, List.setIfInBounds_toArray, List.set_cons_zero, List.set_cons_succ]
    refine wpAnyH_ready (rs := [4, 10]) (by kernel_rfl) (by simp) (AllReadyH.cons (oper_at rfl) (fun K hK => ?_) (AllReadyH.cons (oper_at rfl) (fun K hK => ?_) AllReadyH.nil))
    · go_simp
      go_at_call 40
      refine (M50.out _).mono ?_
      rintro em wm ⟨rfl, rfl⟩
      refine hK.out _ _ ?_ (fun hHeld => ?_)
      · first | exact KB.out _ (by (repeat (first | with_reducible assumption | with_reducible exact Ext.refl _ | with_reducible apply Ext.alloc | with_reducible apply Ext.drew)); first | done | fail) | exact KS.out _ (by (repeat (first | with_reducible assumption | with_reducible exact Ext.refl _ | with_reducible apply Ext.alloc | with_reducible apply Ext.drew)); first | done | fail) | exact KR.out _ _ (KS.out _ (by (repeat (first | with_reducible assumption | with_reducible exact Ext.refl _ | with_reducible apply Ext.alloc | with_reducible apply Ext.drew)); first | done | fail))
      clear hK K
      try simp only [Act.put, List.setIfInBounds_toArray, List.set_cons_zero, List.set_cons_succ]
      refine wpAnyH_ready (rs := [5, 10]) (by kernel_rfl) (by simp) (AllReadyH.cons (oper_at rfl) (fun K hK => ?_) (AllReadyH.cons (oper_at rfl) (fun K hK => ?_) AllReadyH.nil))
      · go_simp
        go_at_call 55
        refine (TM1.out _ (by (repeat (first | with_reducible assumption | with_reducible exact Ext.refl _ | with_reducible apply Ext.alloc | with_reducible apply Ext.drew)); first | done | fail)).mono ?_
        rintro e2 w2 ⟨kv2, rfl, hr2, hE2⟩
        have hE2' : Ext w1 w2 := Ext.trans (by (repeat (first | with_reducible assumption | with_reducible exact Ext.refl _ | with_reducible apply Ext.alloc | with_reducible apply Ext.drew)); first | done | fail) hE2
        obtain ⟨A2, c2, e2, -, -⟩ := hr2.form
        rw [List.length_map] at e2
        subst e2
        have HR2 := Lib.hid hr2
        have HE2 := Lib.hid hE2'
        have hz2 := hE2'.size
        have d2 : blkOf w2 (w.heap.size + 2) = NV0 := (blkOf_ext hE2' (by omega)).trans b2
        have KS : Hid (∀ W, Ext w2 W → (fun w' => blkOf w' w.heap.size = NV (.slice Al cs.length cl) (.slice Ah hs.length ch) x.s x.t x.d (.slice Ak x.ks.length ck) ∧ w'.cell? ⟨w.heap.size + 1, 2, none⟩ = some (iV ab)) W) := Lib.hid (fun W h => KB.out W (HE2.out.trans h))
        have KR : Hid (∀ W b, w1.heap.size ≤ b → ∀ cz, (fun w' => blkOf w' w.heap.size = NV (.slice Al cs.length cl) (.slice Ah hs.length ch) x.s x.t x.d (.slice Ak x.ks.length ck) ∧ w'.cell? ⟨w.heap.size + 1, 2, none⟩ = some (iV ab)) W → (fun w' => blkOf w' w.heap.size = NV (.slice Al cs.length cl) (.slice Ah hs.length ch) x.s x.t x.d (.slice Ak x.ks.length ck) ∧ w'.cell? ⟨w.heap.size + 1, 2, none⟩ = some (iV ab)) (W.setRow b cz)) := Lib.hid (fun W b hb cz h => ⟨(blkOf_setRow_other (by omega)).trans h.1, (cell_kept (setRow_other _ _ _ _ (by omega))).trans h.2⟩)
        clear hr2
        refine hK.out _ _ ?_ (fun hHeld => ?_)
        · first | exact KB.out _ (by (repeat (first | with_reducible assumption | with_reducible exact Ext.refl _ | with_reducible apply Ext.alloc | with_reducible apply Ext.drew)); first | done | fail) | exact KS.out _ (by (repeat (first | with_reducible assumption | with_reducible exact Ext.refl _ | with_reducible apply Ext.alloc | with_reducible apply Ext.drew)); first | done | fail) | exact KR.out _ _ (KS.out _ (by (repeat (first | with_reducible assumption | with_reducible exact Ext.refl _ | with_reducible apply Ext.alloc | with_reducible apply Ext.drew)); first | done | fail))
        clear hK K
        try simp only [Act.put, List.setIfInBounds_toArray, List.set_cons_zero, List.set_cons_succ]
        refine wpAnyH_take (i := 6) (v := ?_) (oper_at rfl) (by kernel_rfl) (by kernel_rfl) (by kernel_rfl) (fun _ _ _ h => h) (Or.inl ⟨by rfl, ?_⟩) hHeld ?_
        rotate_left
        · (intro ww hSw; (try dsimp only at hSw); go_simp; try (with_reducible rfl))
        try simp only [Act.put, List.setIfInBounds_toArray, List.set_cons_zero, List.set_cons_succ]
        refine wpAnyH_take (i := 7) (v := ?_) (oper_at rfl) (by kernel_rfl) (by kernel_rfl) (by kernel_rfl) (fun _ _ _ h => h) (Or.inl ⟨by rfl, ?_⟩) hHeld ?_
        rotate_left
        · (intro ww hSw; (try dsimp only at hSw); go_simp; try (with_reducible rfl))
        try simp only [Act.put, List.setIfInBounds_toArray, List.set_cons_zero, List.set_cons_succ]
        refine wpAnyH_take (i := 8) (v := ?_) (oper_at rfl) (by kernel_rfl) (by kernel_rfl) (by kernel_rfl) (fun _ _ _ h => h) (Or.inl ⟨by rfl, ?_⟩) hHeld ?_
        rotate_left
        · (intro ww hSw; (try dsimp only at hSw); go_simp; try (with_reducible rfl))
        try simp only [Act.put, List.setIfInBounds_toArray, List.set_cons_zero, List.set_cons_succ]
        refine wpAnyH_take (i := 9) (v := ?_) (oper_at rfl) (by kernel_rfl) (by kernel_rfl) (by kernel_rfl) (fun _ _ _ h => h) (Or.inl ⟨by rfl, ?_⟩) hHeld ?_
        rotate_left
        · (intro ww hSw; (try dsimp only at hSw); go_simp; try (with_reducible rfl))
        try simp only [Act.put, List.setIfInBounds_toArray, List.set_cons_zero, List.set_cons_succ]
        refine wpAnyH_ready (rs := [10]) (by kernel_rfl) (by simp) (AllReadyH.cons (oper_at rfl) (fun K hK => ?_) AllReadyH.nil)
        go_simp
        refine hK.out _ _ ?_ (fun hHeld => ?_)
        · first | exact KB.out _ (by (repeat (first | with_reducible assumption | with_reducible exact Ext.refl _ | with_reducible apply Ext.alloc | with_reducible apply Ext.drew)); first | done | fail) | exact KS.out _ (by (repeat (first | with_reducible assumption | with_reducible exact Ext.refl _ | with_reducible apply Ext.alloc | with_reducible apply Ext.drew)); first | done | fail) | exact KR.out _ _ (KS.out _ (by (repeat (first | with_reducible assumption | with_reducible exact Ext.refl _ | with_reducible apply Ext.alloc | with_reducible apply Ext.drew)); first | done | fail))
        clear hK K
        try simp only [Act.put, List.setIfInBounds_toArray, List.set_cons_zero, List.set_cons_succ]
        refine wpAnyH_ready (rs := [11]) (by kernel_rfl) (by simp) (AllReadyH.cons (oper_at rfl) (fun K hK => ?_) AllReadyH.nil)
        go_simp
        refine hK.out _ _ ?_ (fun hHeld => ?_)
        · exact KR.out _ _ (by omega) _ (KS.out _ (by (repeat (first | with_reducible assumption | with_reducible exact Ext.refl _ | with_reducible apply Ext.alloc | with_reducible apply Ext.drew)); first | done | fail))
        clear hK K
        try simp only [Act.put, List.setIfInBounds_toArray, List.set_cons_zero, List.set_cons_succ]
        refine wpAnyH_take (i := 12) (v := ?_) (oper_at rfl) (by kernel_rfl) (by kernel_rfl) (by kernel_rfl) (fun _ _ _ h => h) (Or.inl ⟨by rfl, ?_⟩) hHeld ?_
        rotate_left
        · (intro ww hSw; (try dsimp only at hSw); go_simp; try (with_reducible rfl))
        try simp only [Act.put, List.setIfInBounds_toArray, List.set_cons_zero, List.set_cons_succ]
        refine wpAnyH_take (i := 13) (v := ?_) (oper_at rfl) (by kernel_rfl) (by kernel_rfl) (by kernel_rfl) (fun _ _ _ h => h) (Or.inl ⟨by rfl, ?_⟩) hHeld ?_
        rotate_left
        · (intro ww hSw; (try dsimp only at hSw); go_simp; try (with_reducible rfl))
        try simp only [Act.put, List.setIfInBounds_toArray, List.set_cons_zero, List.set_cons_succ]
        refine wpAnyH_done (by kernel_rfl) ?_ _
        refine NoPanic.normal ?_
        go_wp2_with fail
        go_meet
        have hsb : blkOf (w2.alloc (.cells NV0 32)) w2.heap.size = NV0 := blkOf_new
        have hbb : blkOf (w2.alloc (.cells NV0 32)) (w.heap.size + 2) = NV0 := (blkOf_alloc (by omega) _).trans d2
        exact ⟨w2.heap.size, A2, _, c2, rfl, rfl, rfl, by omega, hz2, blkOf_setRow_same (by rw [hsb, NV_size]), (blkOf_setRow_other (by omega)).trans hbb, (HR2.out.ext ((Ext.refl _).alloc _)).setFar (by rw [hsb, NV_size]) _, (HE2.out.alloc _).setRow hz2 _⟩
      · go_simp
        refine hK.out _ _ ?_ (fun hHeld => ?_)
        · first | exact KB.out _ (by (repeat (first | with_reducible assumption | with_reducible exact Ext.refl _ | with_reducible apply Ext.alloc | with_reducible apply Ext.drew)); first | done | fail) | exact KS.out _ (by (repeat (first | with_reducible assumption | with_reducible exact Ext.refl _ | with_reducible apply Ext.alloc | with_reducible apply Ext.drew)); first | done | fail) | exact KR.out _ _ (KS.out _ (by (repeat (first | with_reducible assumption | with_reducible exact Ext.refl _ | with_reducible apply Ext.alloc | with_reducible apply Ext.drew)); first | done | fail))
        clear hK K
        try simp only [Act.put, List.setIfInBounds_toArray, List.set_cons_zero, List.set_cons_succ]
        refine wpAnyH_ready (rs := [5]) (by kernel_rfl) (by simp) (AllReadyH.cons (oper_at rfl) (fun K hK => ?_) AllReadyH.nil)
        go_simp
        go_at_call 55
        refine (TM1.out _ (by (repeat (first | with_reducible assumption | with_reducible exact Ext.refl _ | with_reducible apply Ext.alloc | with_reducible apply Ext.drew)); first | done | fail)).mono ?_
        rintro e2 w2 ⟨kv2, rfl, hr2, hE2⟩
        have hE2' : Ext w1 w2 := Ext.trans (by (repeat (first | with_reducible assumption | with_reducible exact Ext.refl _ | with_reducible apply Ext.alloc | with_reducible apply Ext.drew)); first | done | fail) hE2
        obtain ⟨A2, c2, e2, -, -⟩ := hr2.form
        rw [List.length_map] at e2
        subst e2
        have HR2 := Lib.hid hr2
        have HE2 := Lib.hid hE2'
        have hz2 := hE2'.size
        have d2 : blkOf w2 (w.heap.size + 2) = NV0 := (blkOf_ext hE2' (by omega)).trans b2
        have KS : Hid (∀ W, Ext w2 W → (fun w' => blkOf w' w.heap.size = NV (.slice Al cs.length cl) (.slice Ah hs.length ch) x.s x.t x.d (.slice Ak x.ks.length ck) ∧ w'.cell? ⟨w.heap.size + 1, 2, none⟩ = some (iV ab)) W) := Lib.hid (fun W h => KB.out W (HE2.out.trans h))
        have KR : Hid (∀ W b, w1.heap.size ≤ b → ∀ cz, (fun w' => blkOf w' w.heap.size = NV (.slice Al cs.length cl) (.slice Ah hs.length ch) x.s x.t x.d (.slice Ak x.ks.length ck) ∧ w'.cell? ⟨w.heap.size + 1, 2, none⟩ = some (iV ab)) W → (fun w' => blkOf w' w.heap.size = NV (.slice Al cs.length cl) (.slice Ah hs.length ch) x.s x.t x.d (.slice Ak x.ks.length ck) ∧ w'.cell? ⟨w.heap.size + 1, 2, none⟩ = some (iV ab)) (W.setRow b cz)) := Lib.hid (fun W b hb cz h => ⟨(blkOf_setRow_other (by omega)).trans h.1, (cell_kept (setRow_other _ _ _ _ (by omega))).trans h.2⟩)
        clear hr2
        have d3 : blkOf w2 w1.heap.size = NV0 := (blkOf_ext hE2 (by simp)).trans (blkOf_newE (by simp))
        refine hK.out _ _ ?_ (fun hHeld => ?_)
        · first | exact KB.out _ (by (repeat (first | with_reducible assumption | with_reducible exact Ext.refl _ | with_reducible apply Ext.alloc | with_reducible apply Ext.drew)); first | done | fail) | exact KS.out _ (by (repeat (first | with_reducible assumption | with_reducible exact Ext.refl _ | with_reducible apply Ext.alloc | with_reducible apply Ext.drew)); first | done | fail) | exact KR.out _ _ (KS.out _ (by (repeat (first | with_reducible assumption | with_reducible exact Ext.refl _ | with_reducible apply Ext.alloc | with_reducible apply Ext.drew)); first | done | fail))
        clear hK K
        try simp only [Act.put, List.setIfInBounds_toArray, List.set_cons_zero, List.set_cons_succ]
        refine wpAnyH_take (i := 6) (v := ?_) (oper_at rfl) (by kernel_rfl) (by kernel_rfl) (by kernel_rfl) (fun _ _ _ h => h) (Or.inl ⟨by rfl, ?_⟩) hHeld ?_
        rotate_left
        · (intro ww hSw; (try dsimp only at hSw); go_simp; try (with_reducible rfl))
        try simp only [Act.put, List.setIfInBounds_toArray, List.set_cons_zero, List.set_cons_succ]
        refine wpAnyH_take (i := 7) (v := ?_) (oper_at rfl) (by kernel_rfl) (by kernel_rfl) (by kernel_rfl) (fun _ _ _ h => h) (Or.inl ⟨by rfl, ?_⟩) hHeld ?_
        rotate_left
        · (intro ww hSw; (try dsimp only at hSw); go_simp; try (with_reducible rfl))
        try simp only [Act.put, List.setIfInBounds_toArray, List.set_cons_zero, List.set_cons_succ]
        refine wpAnyH_take (i := 8) (v := ?_) (oper_at rfl) (by kernel_rfl) (by kernel_rfl) (by kernel_rfl) (fun _ _ _ h => h) (Or.inl ⟨by rfl, ?_⟩) hHeld ?_
        rotate_left
        · (intro ww hSw; (try dsimp only at hSw); go_simp; try (with_reducible rfl))
        try simp only [Act.put, List.setIfInBounds_toArray, List.set_cons_zero, List.set_cons_succ]
        refine wpAnyH_take (i := 9) (v := ?_) (oper_at rfl) (by kernel_rfl) (by kernel_rfl) (by kernel_rfl) (fun _ _ _ h => h) (Or.inl ⟨by rfl, ?_⟩) hHeld ?_
        rotate_left
        · (intro ww hSw; (try dsimp only at hSw); go_simp; try (with_reducible rfl))
        try simp only [Act.put, List.setIfInBounds_toArray, List.set_cons_zero, List.set_cons_succ]
        refine wpAnyH_ready (rs := [11]) (by kernel_rfl) (by simp) (AllReadyH.cons (oper_at rfl) (fun K hK => ?_) AllReadyH.nil)
        go_simp
        refine hK.out _ _ ?_ (fun hHeld => ?_)
        · exact KR.out _ _ (by omega) _ (KS.out _ (by (repeat (first | with_reducible assumption | with_reducible exact Ext.refl _ | with_reducible apply Ext.alloc | with_reducible apply Ext.drew)); first | done | fail))
        clear hK K
        try simp only [Act.put, List.setIfInBounds_toArray, List.set_cons_zero, List.set_cons_succ]
        refine wpAnyH_take (i := 12) (v := ?_) (oper_at rfl) (by kernel_rfl) (by kernel_rfl) (by kernel_rfl) (fun _ _ _ h => h) (Or.inl ⟨by rfl, ?_⟩) hHeld ?_
        rotate_left
        · (intro ww hSw; (try dsimp only at hSw); go_simp; try (with_reducible rfl))
        try simp only [Act.put, List.setIfInBounds_toArray, List.set_cons_zero, List.set_cons_succ]
        refine wpAnyH_take (i := 13) (v := ?_) (oper_at rfl) (by kernel_rfl) (by kernel_rfl) (by kernel_rfl) (fun _ _ _ h => h) (Or.inl ⟨by rfl, ?_⟩) hHeld ?_
        rotate_left
        · (intro ww hSw; (try dsimp only at hSw); go_simp; try (with_reducible rfl))
        try simp only [Act.put, List.setIfInBounds_toArray, List.set_cons_zero, List.set_cons_succ]
        refine wpAnyH_done (by kernel_rfl) ?_ _
        refine NoPanic.normal ?_
        go_wp2_with fail
        go_meet
        exact ⟨w1.heap.size, A2, _, c2, rfl, rfl, rfl, by omega, Nat.le_refl _, blkOf_setRow_same (by rw [d3, NV_size]), (blkOf_setRow_other (by omega)).trans d2, HR2.out.setFar (by rw [d3, NV_size]) _, HE2.out.setRow (Nat.le_refl _) _⟩
    · go_simp
      refine hK.out _ _ ?_ (fun hHeld => ?_)
      · first | exact KB.out _ (by (repeat (first | with_reducible assumption | with_reducible exact Ext.refl _ | with_reducible apply Ext.alloc | with_reducible apply Ext.drew)); first | done | fail) | exact KS.out _ (by (repeat (first | with_reducible assumption | with_reducible exact Ext.refl _ | with_reducible apply Ext.alloc | with_reducible apply Ext.drew)); first | done | fail) | exact KR.out _ _ (KS.out _ (by (repeat (first | with_reducible assumption | with_reducible exact Ext.refl _ | with_reducible apply Ext.alloc | with_reducible apply Ext.drew)); first | done | fail))
      clear hK K
      try simp only [Act.put, List.setIfInBounds_toArray, List.set_cons_zero, List.set_cons_succ]
      refine wpAnyH_ready (rs := [4]) (by kernel_rfl) (by simp) (AllReadyH.cons (oper_at rfl) (fun K hK => ?_) AllReadyH.nil)
      go_simp
      go_at_call 40
      refine (M50.out _).mono ?_
      rintro em wm ⟨rfl, rfl⟩
      refine hK.out _ _ ?_ (fun hHeld => ?_)
      · first | exact KB.out _ (by (repeat (first | with_reducible assumption | with_reducible exact Ext.refl _ | with_reducible apply Ext.alloc | with_reducible apply Ext.drew)); first | done | fail) | exact KS.out _ (by (repeat (first | with_reducible assumption | with_reducible exact Ext.refl _ | with_reducible apply Ext.alloc | with_reducible apply Ext.drew)); first | done | fail) | exact KR.out _ _ (KS.out _ (by (repeat (first | with_reducible assumption | with_reducible exact Ext.refl _ | with_reducible apply Ext.alloc | with_reducible apply Ext.drew)); first | done | fail))
      clear hK K
      try simp only [Act.put, List.setIfInBounds_toArray, List.set_cons_zero, List.set_cons_succ]
      refine wpAnyH_ready (rs := [5]) (by kernel_rfl) (by simp) (AllReadyH.cons (oper_at rfl) (fun K hK => ?_) AllReadyH.nil)
      go_simp
      go_at_call 55
      refine (TM1.out _ (by (repeat (first | with_reducible assumption | with_reducible exact Ext.refl _ | with_reducible apply Ext.alloc | with_reducible apply Ext.drew)); first | done | fail)).mono ?_
      rintro e2 w2 ⟨kv2, rfl, hr2, hE2⟩
      have hE2' : Ext w1 w2 := Ext.trans (by (repeat (first | with_reducible assumption | with_reducible exact Ext.refl _ | with_reducible apply Ext.alloc | with_reducible apply Ext.drew)); first | done | fail) hE2
      obtain ⟨A2, c2, e2, -, -⟩ := hr2.form
      rw [List.length_map] at e2
      subst e2
      have HR2 := Lib.hid hr2
      have HE2 := Lib.hid hE2'
      have hz2 := hE2'.size
      have d2 : blkOf w2 (w.heap.size + 2) = NV0 := (blkOf_ext hE2' (by omega)).trans b2
      have KS : Hid (∀ W, Ext w2 W → (fun w' => blkOf w' w.heap.size = NV (.slice Al cs.length cl) (.slice Ah hs.length ch) x.s x.t x.d (.slice Ak x.ks.length ck) ∧ w'.cell? ⟨w.heap.size + 1, 2, none⟩ = some (iV ab)) W) := Lib.hid (fun W h => KB.out W (HE2.out.trans h))
      have KR : Hid (∀ W b, w1.heap.size ≤ b → ∀ cz, (fun w' => blkOf w' w.heap.size = NV (.slice Al cs.length cl) (.slice Ah hs.length ch) x.s x.t x.d (.slice Ak x.ks.length ck) ∧ w'.cell? ⟨w.heap.size + 1, 2, none⟩ = some (iV ab)) W → (fun w' => blkOf w' w.heap.size = NV (.slice Al cs.length cl) (.slice Ah hs.length ch) x.s x.t x.d (.slice Ak x.ks.length ck) ∧ w'.cell? ⟨w.heap.size + 1, 2, none⟩ = some (iV ab)) (W.setRow b cz)) := Lib.hid (fun W b hb cz h => ⟨(blkOf_setRow_other (by omega)).trans h.1, (cell_kept (setRow_other _ _ _ _ (by omega))).trans h.2⟩)
      clear hr2
      have d3 : blkOf w2 w1.heap.size = NV0 := (blkOf_ext hE2 (by simp)).trans (blkOf_newE (by simp))
      refine hK.out _ _ ?_ (fun hHeld => ?_)
      · first | exact KB.out _ (by (repeat (first | with_reducible assumption | with_reducible exact Ext.refl _ | with_reducible apply Ext.alloc | with_reducible apply Ext.drew)); first | done | fail) | exact KS.out _ (by (repeat (first | with_reducible assumption | with_reducible exact Ext.refl _ | with_reducible apply Ext.alloc | with_reducible apply Ext.drew)); first | done | fail) | exact KR.out _ _ (KS.out _ (by (repeat (first | with_reducible assumption | with_reducible exact Ext.refl _ | with_reducible apply Ext.alloc | with_reducible apply Ext.drew)); first | done | fail))
      clear hK K
      try simp only [Act.put, List.setIfInBounds_toArray, List.set_cons_zero, List.set_cons_succ]
      refine wpAnyH_take (i := 6) (v := ?_) (oper_at rfl) (by kernel_rfl) (by kernel_rfl) (by kernel_rfl) (fun _ _ _ h => h) (Or.inl ⟨by rfl, ?_⟩) hHeld ?_
      rotate_left
      · (intro ww hSw; (try dsimp only at hSw); go_simp; try (with_reducible rfl))
      try simp only [Act.put, List.setIfInBounds_toArray, List.set_cons_zero, List.set_cons_succ]
      refine wpAnyH_take (i := 7) (v := ?_) (oper_at rfl) (by kernel_rfl) (by kernel_rfl) (by kernel_rfl) (fun _ _ _ h => h) (Or.inl ⟨by rfl, ?_⟩) hHeld ?_
      rotate_left
      · (intro ww hSw; (try dsimp only at hSw); go_simp; try (with_reducible rfl))
      try simp only [Act.put, List.setIfInBounds_toArray, List.set_cons_zero, List.set_cons_succ]
      refine wpAnyH_take (i := 8) (v := ?_) (oper_at rfl) (by kernel_rfl) (by kernel_rfl) (by kernel_rfl) (fun _ _ _ h => h) (Or.inl ⟨by rfl, ?_⟩) hHeld ?_
      rotate_left
      · (intro ww hSw; (try dsimp only at hSw); go_simp; try (with_reducible rfl))
      try simp only [Act.put, List.setIfInBounds_toArray, List.set_cons_zero, List.set_cons_succ]
      refine wpAnyH_take (i := 9) (v := ?_) (oper_at rfl) (by kernel_rfl) (by kernel_rfl) (by kernel_rfl) (fun _ _ _ h => h) (Or.inl ⟨by rfl, ?_⟩) hHeld ?_
      rotate_left
      · (intro ww hSw; (try dsimp only at hSw); go_simp; try (with_reducible rfl))
      try simp only [Act.put, List.setIfInBounds_toArray, List.set_cons_zero, List.set_cons_succ]
      refine wpAnyH_ready (rs := [11]) (by kernel_rfl) (by simp) (AllReadyH.cons (oper_at rfl) (fun K hK => ?_) AllReadyH.nil)
      go_simp
      refine hK.out _ _ ?_ (fun hHeld => ?_)
      · exact KR.out _ _ (by omega) _ (KS.out _ (by (repeat (first | with_reducible assumption | with_reducible exact Ext.refl _ | with_reducible apply Ext.alloc | with_reducible apply Ext.drew)); first | done | fail))
      clear hK K
      try simp only [Act.put, List.setIfInBounds_toArray, List.set_cons_zero, List.set_cons_succ]
      refine wpAnyH_take (i := 12) (v := ?_) (oper_at rfl) (by kernel_rfl) (by kernel_rfl) (by kernel_rfl) (fun _ _ _ h => h) (Or.inl ⟨by rfl, ?_⟩) hHeld ?_
      rotate_left
      · (intro ww hSw; (try dsimp only at hSw); go_simp; try (with_reducible rfl))
      try simp only [Act.put, List.setIfInBounds_toArray, List.set_cons_zero, List.set_cons_succ]
      refine wpAnyH_take (i := 13) (v := ?_) (oper_at rfl) (by kernel_rfl) (by kernel_rfl) (by kernel_rfl) (fun _ _ _ h => h) (Or.inl ⟨by rfl, ?_⟩) hHeld ?_
      rotate_left
      · (intro ww hSw; (try dsimp only at hSw); go_simp; try (with_reducible rfl))
      try simp only [Act.put, List.setIfInBounds_toArray, List.set_cons_zero, List.set_cons_succ]
      refine wpAnyH_done (by kernel_rfl) ?_ _
      refine NoPanic.normal ?_
      go_wp2_with fail
      go_meet
      exact ⟨w1.heap.size, A2, _, c2, rfl, rfl, rfl, by omega, Nat.le_refl _, blkOf_setRow_same (by rw [d3, NV_size]), (blkOf_setRow_other (by omega)).trans d2, HR2.out.setFar (by rw [d3, NV_size]) _, HE2.out.setRow (Nat.le_refl _) _⟩
  case rest =>
    obtain ⟨w3, rfl⟩ : ∃ w3, w3 = wc := ⟨_, rfl⟩
    obtain ⟨b, A, nn, cx, rfl, rfl, rfl, hbne, hbw, d1, d2, hr3, hE3⟩ := hcut
    have D2 := Lib.hid d2
    have HR3 := Lib.hid hr3
    have HE3 := Lib.hid hE3
    clear hr3 hE3 b0 b2 a2
    go_wp2_with fail
    generalize hwz : w3.setRow (w.heap.size + 2) _ = wz
    have hhz : ∀ i, i ≠ w.heap.size + 2 → wz.heap[i]? = w3.heap[i]? := fun i hi => by rw [← hwz]; exact setRow_other _ _ _ _ hi
    have bz : blkOf wz (w.heap.size + 2) = NV (.slice Al cs.length cl) (.slice Ah hs.length ch) y.s y.t y.d (.slice A nn cx) := by rw [← hwz]; exact blkOf_setRow_same (by rw [D2.out, NV_size])
    have hEz : Exc g r w wz := by rw [← hwz]; exact (HE1.out.trans (HE3.out.exc g r)).setRow (Nat.le_add_right _ 2) _
    have hRz : Row 4 wz B 58 (.slice A nn cx) (y.ks.map encK) := by rw [← hwz]; exact HR3.out.setFar (by rw [D2.out, NV_size]) _
    refine bodyPost_ret (res32b Tryz.results20 (g := w.heap.size + 2) rfl rfl bz NV_size) rfl ?_
    refine ⟨_, by simp, ⟨HN.out.to HN1.out hEz ((hhz g (Ne.symm ng2)).trans (HE3.out.block g hg1)) ((hhz r (Ne.symm nr2)).trans (HE3.out.block r (by omega))), HRC.out.exc hEz, HRH.out.exc hEz, hRz, Nat.lt_of_lt_of_le hgB hEz.size, Nat.lt_of_lt_of_le hrB hEz.size, Nat.le_trans hBw hEz.size⟩, hEz⟩
end Go.Proofs.YtehmpbaiefbemaaGreat
