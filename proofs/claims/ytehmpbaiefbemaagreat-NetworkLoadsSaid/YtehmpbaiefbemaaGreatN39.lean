/- One call: disk operations. -/
import Derived.Test.YtehmpbaiefbemaaGreatN36
namespace Go.Proofs.YtehmpbaiefbemaaGreat
open Go.RowKit
attribute [local go_sem ↓] Go.wp_at_zero Go.wp_at_succ
attribute [local go_sem ↓] eq73 ld32 st32 al32
attribute [local go_sem] run_eq73 run_ld32 run_st32n run_al32 blkOf_drew blkOf_setRow_same blkOf_setRow_other NV_size blkOf_alloc blkOf_new
set_option maxRecDepth 100000 in
set_option maxHeartbeats 8000000 in
theorem do_disk (g r B : Nat) (cv hv lv kh kv : Value) (cp cs : List Ch) (os hs : List Jh) (x : St) (a : Ac) (av : Value) (w : World) (H : Both w g r B cv hv lv kh kv cp cs os hs x) (G : Good cp cs x) (hA : Stay g r (fun W => ArgsAt W av a.args) w) (hag : agrF cp os cs hs a x) (hk : modF a.kd 6 = 4) :
    Calls Tryz.prog 20 #[.pointer (some ⟨g, 0, none⟩), .agg (NV lv kh x.s x.t x.d kv), acV a av] w (RetDo g r B cv hv lv kh cp cs os hs (doF cs hs a x) w) := by
  obtain ⟨hNet, hrc, hrh, hrk, hgB, hrB, hBw⟩ := H
  obtain ⟨A0, c0, rfl, -, -, -⟩ := hA.now.at_
  rw [List.length_map] at hA ⊢
  have HN := Lib.hid hNet
  have HRC := Lib.hid hrc
  have HRH := Lib.hid hrh
  have HRK := Lib.hid hrk
  have HAR := Lib.hid hA
  have HG := Lib.hid G
  obtain ⟨Al, cl, rfl, -, -, -⟩ := hrc.now.read
  obtain ⟨Ah, ch, rfl, -, -, -⟩ := hrh.now.sl.read
  obtain ⟨Ak, ck, rfl, -, -, -⟩ := hrk.sl.read
  rw [List.length_map, List.length_map, List.length_map] at *
  have hgl := hNet.lt
  have hrl := hNet.rlt
  obtain ⟨kd, aa, ab, an, act, args⟩ := a
  simp only [] at *
  have m4r := modF_range (a := aa) (n := 4) (by omega)
  have m9r := modF_range (a := an) (n := 9) (by omega)
  have M4 := Lib.hid (fun W => mod_any aa 4 W (by omega) (by omega))
  have M9 := Lib.hid (fun W => mod_any an 9 W (by omega) (by omega))
  have M6 := Lib.hid (fun W => mod_any kd 6 W (by omega) (by omega))
  obtain ⟨cI, hcI⟩ : ∃ cI, cF ⟨kd, aa, ab, an, act, args⟩ = cI := ⟨_, rfl⟩
  have hcI2 := hcI
  unfold cF at hcI2
  simp only [] at hcI2
  have hag2 : diskF cp (cF ⟨kd, aa, ab, an, act, args⟩) (modF act 8 - 1) x = diskF cs (cF ⟨kd, aa, ab, an, act, args⟩) (modF act 8 - 1) x ∧ exeF cp (cF ⟨kd, aa, ab, an, act, args⟩) (modF ab 4 - 1) x = exeF cs (cF ⟨kd, aa, ab, an, act, args⟩) (modF ab 4 - 1) x := by
    unfold agrF at hag
    rw [if_neg (by rw [hk]; decide), if_pos hk] at hag
    exact hag
  have HD : Hid (doF cs hs ⟨kd, aa, ab, an, act, args⟩ x = exeF cs (cF ⟨kd, aa, ab, an, act, args⟩) (modF ab 4 - 1) x) := Lib.hid (by unfold doF; rw [if_neg (by rw [hk]; decide), if_pos hk])
  rw [HD.out]
  rw [hcI] at hag2 ⊢
  have r8 := modF_range (a := act) (n := 8) (by omega)
  have r4 := modF_range (a := ab) (n := 4) (by omega)
  have N8 := Lib.hid (fun W => mod_any act 8 W (by omega) (by omega))
  have N4 := Lib.hid (fun W => mod_any ab 4 W (by omega) (by omega))
  obtain ⟨m8, e8⟩ : ∃ m, modF act 8 = m := ⟨_, rfl⟩
  obtain ⟨f4, ef⟩ : ∃ m, modF ab 4 = m := ⟨_, rfl⟩
  rw [e8] at hag2 r8 N8
  rw [ef] at hag2 r4 N4 ⊢
  obtain ⟨r8a, r8b⟩ := r8
  obtain ⟨r4a, r4b⟩ := r4
  obtain ⟨k8, hk8⟩ : ∃ k, m8 - 1 = k := ⟨_, rfl⟩
  obtain ⟨k4, hk4⟩ : ∃ k, f4 - 1 = k := ⟨_, rfl⟩
  have hw8 : IntKind.i64.wrap (m8 - 1) = k8 := by rw [hk8]; exact IntWalk.i64_in _ (by omega)
  have hw4 : IntKind.i64.wrap (f4 - 1) = k4 := by rw [hk4]; exact IntWalk.i64_in _ (by omega)
  rw [hk8, hk4] at hag2
  rw [hk4]
  have hb8 : -1 ≤ k8 ∧ k8 ≤ 6 := by omega
  have hb4 : -1 ≤ k4 ∧ k4 ≤ 2 := by omega
  obtain ⟨b8a, b8b⟩ := hb8
  obtain ⟨b4a, b4b⟩ := hb4
  rw [hk] at M6
  have HAG1 := Lib.hid hag2.1
  have HAG2 := Lib.hid hag2.2
  clear hag2 hk HD e8 ef hk8 hk4
  obtain ⟨m4, e4⟩ : ∃ m, modF aa 4 = m := ⟨_, rfl⟩
  obtain ⟨m9, e9⟩ : ∃ m, modF an 9 = m := ⟨_, rfl⟩
  rw [e4] at m4r M4 hcI2
  rw [e9] at m9r M9 hcI2
  have hq : Int.tdiv m9 8 = m9 / 8 := Int.tdiv_eq_ediv_of_nonneg m9r.1
  have hcI3 : m4 - m9 / 8 = cI := by rw [← hcI2, hq]
  have hcr : -10 ≤ cI ∧ cI ≤ 10 := by omega
  obtain ⟨q9, hq9⟩ : ∃ q, Int.tdiv m9 8 = q := ⟨_, rfl⟩
  have hqw : IntKind.i64.wrap q9 = q9 := by
    have h9 : q9 = m9 / 8 := by rw [← hq9, hq]
    exact IntWalk.i64_in _ (by omega)
  have hcq : m4 - q9 = cI := by rw [← hcI2, hq9]
  have hcw : IntKind.i64.wrap (m4 - q9) = cI := by rw [hcq]; exact IntWalk.i64_in _ (by omega)
  have HCI := Lib.hid hcI
  clear hNet hrc hrh hrk hA G hag hcI hcI2 hcI3 e4 e9 hq hcq
  obtain ⟨m4a, m4b⟩ := m4r
  obtain ⟨m9a, m9b⟩ := m9r
  obtain ⟨cra, crb⟩ := hcr
  go_enter Tryz.func20, Tryz.ntmps20
  go_upto_region 1 with fail
  generalize hwB : ((w.alloc _).alloc _).alloc _ = wB
  obtain ⟨hE, b0, b1, b2, hsB⟩ := letter3 hwB
  have a0 : wB.cell? ⟨w.heap.size + 1, 0, none⟩ = some (iV kd) := blkOf_cell (by rw [b1]; rfl)
  have a1 : wB.cell? ⟨w.heap.size + 1, 1, none⟩ = some (iV aa) := blkOf_cell (by rw [b1]; rfl)
  have a2 : wB.cell? ⟨w.heap.size + 1, 2, none⟩ = some (iV ab) := blkOf_cell (by rw [b1]; rfl)
  have a3 : wB.cell? ⟨w.heap.size + 1, 3, none⟩ = some (iV an) := blkOf_cell (by rw [b1]; rfl)
  have a4 : wB.cell? ⟨w.heap.size + 1, 4, none⟩ = some (iV act) := blkOf_cell (by rw [b1]; rfl)
  have a5 : wB.cell? ⟨w.heap.size + 1, 5, none⟩ = some (.slice A0 args.length c0) := blkOf_cell (by rw [b1]; rfl)
  have HE := Lib.hid hE
  have HSB := Lib.hid hsB
  clear hwB hE b1
  refine wp_region_noPanic ?_
  refine wp_region_held_drew (S := (fun ww => ww = wB.drew)) (by kernel_rfl) ?_ (fun hHeld => ?_)
  · rfl
  refine wpAnyH_take (i := 0) (v := ?_) (oper_at rfl) (by kernel_rfl) (by kernel_rfl) (by kernel_rfl) (fun _ _ _ h => h) (Or.inl ⟨by rfl, ?_⟩) hHeld ?_
  rotate_left
  · (intro ww hSw; (try dsimp only at hSw); go_simp; try (with_reducible rfl))
  try simp only [Act.put, List.setIfInBounds_toArray, List.set_cons_zero, List.set_cons_succ]
  refine wpAnyH_take (i := 1) (v := ?_) (oper_at rfl) (by kernel_rfl) (by kernel_rfl) (by kernel_rfl) (fun _ _ _ h => h) (Or.inl ⟨by rfl, ?_⟩) hHeld ?_
  rotate_left
  · (intro ww hSw; (try dsimp only at hSw); go_simp; try (with_reducible rfl))
  try simp only [Act.put, List.setIfInBounds_toArray, List.set_cons_zero, List.set_cons_succ]
  refine wpAnyH_take (i := 3) (v := ?_) (oper_at rfl) (by kernel_rfl) (by kernel_rfl) (by kernel_rfl) (fun _ _ _ h => h) (Or.inl ⟨by rfl, ?_⟩) hHeld ?_
  rotate_left
  · (intro ww hSw; (try dsimp only at hSw); go_simp; try (with_reducible rfl))
  try simp only [Act.put, List.setIfInBounds_toArray, List.set_cons_zero, List.set_cons_succ]
  refine wpAnyH_take (i := 4) (v := ?_) (oper_at rfl) (by kernel_rfl) (by kernel_rfl) (by kernel_rfl) (fun _ _ _ h => h) (Or.inl ⟨by rfl, ?_⟩) hHeld ?_
  rotate_left
  · (intro ww hSw; (try dsimp only at hSw); go_simp; try (with_reducible rfl))
  try simp only [Act.put, List.setIfInBounds_toArray, List.set_cons_zero, List.set_cons_succ]
  refine wpAnyH_ready (rs := [2]) (by kernel_rfl) (by simp) (AllReadyH.cons (oper_at rfl) (fun K hK => ?_) AllReadyH.nil)
  go_simp
  go_at_call 40
  refine (M4.out _).mono ?_
  rintro em wm ⟨rfl, rfl⟩
  refine hK.out _ _ ?_ (fun hHeld => ?_)
  · rfl
  clear hK K
  try simp only [Act.put, List.setIfInBounds_toArray, List.set_cons_zero, List.set_cons_succ]
  refine wpAnyH_ready (rs := [5]) (by kernel_rfl) (by simp) (AllReadyH.cons (oper_at rfl) (fun K hK => ?_) AllReadyH.nil)
  go_simp
  go_at_call 40
  refine (M9.out _).mono ?_
  rintro em wm ⟨rfl, rfl⟩
  refine hK.out _ _ ?_ (fun hHeld => ?_)
  · rfl
  clear hK K
  try simp only [Act.put, List.setIfInBounds_toArray, List.set_cons_zero, List.set_cons_succ]
  refine wpAnyH_take (i := 6) (v := ?_) (oper_at rfl) (by kernel_rfl) (by kernel_rfl) (by kernel_rfl) (fun _ _ _ h => h) (Or.inl ⟨by rfl, ?_⟩) hHeld ?_
  rotate_left
  · (intro ww hSw; (try dsimp only at hSw); go_simp; try (with_reducible rfl))
  try simp only [Act.put, List.setIfInBounds_toArray, List.set_cons_zero, List.set_cons_succ]
  refine wpAnyH_take (i := 7) (v := ?_) (oper_at rfl) (by kernel_rfl) (by kernel_rfl) (by kernel_rfl) (fun _ _ _ h => h) (Or.inl ⟨by rfl, ?_⟩) hHeld ?_
  rotate_left
  · (intro ww hSw; (try dsimp only at hSw); go_simp; try (with_reducible rfl))
  try simp only [Act.put, List.setIfInBounds_toArray, List.set_cons_zero, List.set_cons_succ]
  refine wpAnyH_take (i := 8) (v := ?_) (oper_at rfl) (by kernel_rfl) (by kernel_rfl) (by kernel_rfl) (fun _ _ _ h => h) (Or.inl ⟨by rfl, ?_⟩) hHeld ?_
  rotate_left
  · (intro ww hSw; (try dsimp only at hSw); go_simp; try (with_reducible rfl))
  try simp only [Act.put, List.setIfInBounds_toArray, List.set_cons_zero, List.set_cons_succ]
  refine wpAnyH_done (by kernel_rfl) ?_ _
  refine NoPanic.normal ?_
  generalize hwC : wB.drew = wC
  have hEC : Ext wB wC := by rw [← hwC]; exact (Ext.refl _).drew
  have b0 := (blkOf_ext hEC (by rw [HSB.out]; omega)).trans b0
  have b2 : blkOf wC (w.heap.size + 2) = NV0 := (blkOf_ext hEC (by rw [HSB.out]; omega)).trans b2
  have a0 := hEC.cell a0
  have a1 := hEC.cell a1
  have a2 := hEC.cell a2
  have a3 := hEC.cell a3
  have a4 := hEC.cell a4
  have a5 := hEC.cell a5
  have hsC : w.heap.size + 2 < wC.heap.size := by have := hEC.size; rw [HSB.out] at this; omega
  have HEC := Lib.hid (HE.out.trans hEC)
  have HNC := Lib.hid (HN.out.ext HEC.out)
  have hgC : g < wC.heap.size := by omega
  have ng0 : w.heap.size ≠ g := by omega
  have nr0 : w.heap.size ≠ r := by omega
  have ng1 : w.heap.size + 1 ≠ g := by omega
  have nr1 : w.heap.size + 1 ≠ r := by omega
  have ng2 : w.heap.size + 2 ≠ g := by omega
  have nr2 : w.heap.size + 2 ≠ r := by omega
  clear hwC hEC HSB hHeld M4 M9 hsB
  go_wp2_with fail
  refine (M6.out _).mono ?_
  rintro em wm ⟨rfl, rfl⟩
  have CT := Lib.hid (disk24_any g r cv hv cp os x cI k8 wC HNC.out HG.out.lenP (HG.out.bd.mono (by omega)) HG.out.keyP)
  have CD := Lib.hid (fun W (hW : Ext wC W) => rdisk_any _ (.slice Ah hs.length ch) (.slice Ak x.ks.length ck) cs x cI k8 W (HRC.out W ((HEC.out.exc g r).trans (hW.exc g r))) HG.out.ascR HG.out.d0R (HG.out.bd.mono (by omega)) (by omega) (by omega))
  rw [HAG1.out] at CT
  have hfl : (diskF cs cI k8 x).2.length ≤ 1000000 := by
    rw [← HAG1.out]
    unfold diskF
    split
    · rw [List.length_map]
      have := fail_len cp cI (x.d cI.toNat) k8
      have := HG.out.lenP
      omega
    · simp
  generalize diskF cs cI k8 x = dr at *
  obtain ⟨bs, fl⟩ := dr
  simp only [] at CT CD hfl
  go_wp2_with fail
  refine (N8.out _).mono ?_
  rintro em wm ⟨rfl, rfl⟩
  go_wp2_with fail
  refine CT.out.mono ?_
  rintro e1 w1 ⟨v1, rfl, hr1, hE1⟩
  obtain ⟨A1, c1, rfl, -, -, RA1⟩ := hr1.sl.read
  rw [List.length_map] at RA1 ⊢
  have HRA := Lib.hid RA1
  have b0 := (blkOf_ext hE1 (by omega)).trans b0
  have b2 : blkOf w1 (w.heap.size + 2) = NV0 := (blkOf_ext hE1 (by omega)).trans b2
  have a2 := hE1.cell a2
  have a4 := hE1.cell a4
  have hs1 : w.heap.size + 2 < w1.heap.size := Nat.lt_of_lt_of_le hsC hE1.size
  have HC1 := Lib.hid hE1
  have HE1 := Lib.hid (HEC.out.trans hE1)
  clear hr1 RA1 hE1 CT a0 a1 a3 a5
  go_upto_region 9 with fail
  have KB : Hid (∀ W, Ext w1 W → (fun w' => blkOf w' w.heap.size = NV (.slice Al cs.length cl) (.slice Ah hs.length ch) x.s x.t x.d (.slice Ak x.ks.length ck) ∧ w'.cell? ⟨w.heap.size + 1, 4, none⟩ = some (iV act)) W) := Lib.hid (fun W h => ⟨(blkOf_ext h (by omega)).trans b0, h.cell a4⟩)
  refine wp_region_noPanic ?_
  refine wp_region_held_drew (S := (fun w' => blkOf w' w.heap.size = NV (.slice Al cs.length cl) (.slice Ah hs.length ch) x.s x.t x.d (.slice Ak x.ks.length ck) ∧ w'.cell? ⟨w.heap.size + 1, 4, none⟩ = some (iV act))) (by kernel_rfl) ?_ (fun hHeld => ?_)
  · exact KB.out _ (by (repeat (first | with_reducible assumption | with_reducible exact Ext.refl _ | with_reducible apply Ext.alloc | with_reducible apply Ext.drew)); first | done | fail)
  refine wpAnyH_take (i := 0) (v := ?_) (oper_at rfl) (by kernel_rfl) (by kernel_rfl) (by kernel_rfl) (fun _ _ _ h => h) (Or.inl ⟨by rfl, ?_⟩) hHeld ?_
  rotate_left
  · (intro ww hSw; (try dsimp only at hSw); go_simp; try (with_reducible rfl))
  try simp only [Act.put, List.setIfInBounds_toArray, List.set_cons_zero, List.set_cons_succ]
  refine wpAnyH_take (i := 1) (v := ?_) (oper_at rfl) (by kernel_rfl) (by kernel_rfl) (by kernel_rfl) (fun _ _ _ h => h) (Or.inl ⟨by rfl, ?_⟩) hHeld ?_
  rotate_left
  · (intro ww hSw; (try dsimp only at hSw); go_simp; try (with_reducible rfl))
  try simp only [Act.put, List.setIfInBounds_toArray, List.set_cons_zero, List.set_cons_succ]
  refine wpAnyH_take (i := 2) (v := ?_) (oper_at rfl) (by kernel_rfl) (by kernel_rfl) (by kernel_rfl) (fun _ _ _ h => h) (Or.inl ⟨by rfl, ?_⟩) hHeld ?_
  rotate_left
  · (intro ww hSw; (try dsimp only at hSw); go_simp; try (with_reducible rfl))
  try simp only [Act.put, List.setIfInBounds_toArray, List.set_cons_zero, List.set_cons_succ]
  refine wpAnyH_take (i := 3) (v := ?_) (oper_at rfl) (by kernel_rfl) (by kernel_rfl) (by kernel_rfl) (fun _ _ _ h => h) (Or.inl ⟨by rfl, ?_⟩) hHeld ?_
  rotate_left
  · (intro ww hSw; (try dsimp only at hSw); go_simp; try (with_reducible rfl))
  try simp only [Act.put, List.setIfInBounds_toArray, List.set_cons_zero, List.set_cons_succ]
  refine wpAnyH_ready (rs := [4]) (by kernel_rfl) (by simp) (AllReadyH.cons (oper_at rfl) (fun K hK => ?_) AllReadyH.nil)
  go_simp
  go_at_call 40
  refine (N8.out _).mono ?_
  rintro em wm ⟨rfl, rfl⟩
  refine hK.out _ _ ?_ (fun hHeld => ?_)
  · exact KB.out _ (by (repeat (first | with_reducible assumption | with_reducible exact Ext.refl _ | with_reducible apply Ext.alloc | with_reducible apply Ext.drew)); first | done | fail)
  clear hK K
  try simp only [Act.put, List.setIfInBounds_toArray, List.set_cons_zero, List.set_cons_succ]
  refine wpAnyH_take (i := 5) (v := ?_) (oper_at rfl) (by kernel_rfl) (by kernel_rfl) (by kernel_rfl) (fun _ _ _ h => h) (Or.inl ⟨by rfl, ?_⟩) hHeld ?_
  rotate_left
  · (intro ww hSw; (try dsimp only at hSw); go_simp; try (with_reducible rfl))
  try simp only [Act.put, List.setIfInBounds_toArray, List.set_cons_zero, List.set_cons_succ]
  refine wpAnyH_ready (rs := [6]) (by kernel_rfl) (by simp) (AllReadyH.cons (oper_at rfl) (fun K hK => ?_) AllReadyH.nil)
  go_simp
  go_at_call 56
  refine (CD.out _ (HC1.out.trans (by (repeat (first | with_reducible assumption | with_reducible exact Ext.refl _ | with_reducible apply Ext.alloc | with_reducible apply Ext.drew)); first | done | fail))).mono ?_
  rintro e2 w2 ⟨v2, rfl, hr2, hE2⟩
  have hX2 : Ext w1 w2 := Ext.trans (by (repeat (first | with_reducible assumption | with_reducible exact Ext.refl _ | with_reducible apply Ext.alloc | with_reducible apply Ext.drew)); first | done | fail) hE2
  have HX2 := Lib.hid hX2
  have HR2 := Lib.hid hr2
  clear hr2 hE2
  refine hK.out _ _ ?_ (fun hHeld => ?_)
  · exact KB.out _ (by (repeat (first | with_reducible assumption | with_reducible exact Ext.refl _ | with_reducible apply Ext.alloc | with_reducible apply Ext.drew)); first | done | fail)
  clear hK K
  try simp only [Act.put, List.setIfInBounds_toArray, List.set_cons_zero, List.set_cons_succ]
  refine wpAnyH_take (i := 7) (v := ?_) (oper_at rfl) (by kernel_rfl) (by kernel_rfl) (by kernel_rfl) (fun _ _ _ h => h) (Or.inl ⟨by rfl, ?_⟩) hHeld ?_
  rotate_left
  · (intro ww hSw; (try dsimp only at hSw); go_simp; try (with_reducible rfl))
  try simp only [Act.put, List.setIfInBounds_toArray, List.set_cons_zero, List.set_cons_succ]
  refine wpAnyH_take (i := 8) (v := ?_) (oper_at rfl) (by kernel_rfl) (by kernel_rfl) (by kernel_rfl) (fun _ _ _ h => h) (Or.inl ⟨by rfl, ?_⟩) hHeld ?_
  rotate_left
  · (intro ww hSw; (try dsimp only at hSw); go_simp; try (with_reducible rfl))
  try simp only [Act.put, List.setIfInBounds_toArray, List.set_cons_zero, List.set_cons_succ]
  refine wpAnyH_take (i := 9) (v := ?_) (oper_at rfl) (by kernel_rfl) (by kernel_rfl) (by kernel_rfl) (fun _ _ _ h => h) (Or.inl ⟨by rfl, ?_⟩) hHeld ?_
  rotate_left
  · (intro ww hSw; (try dsimp only at hSw); go_simp; try (with_reducible rfl))
  try simp only [Act.put, List.setIfInBounds_toArray, List.set_cons_zero, List.set_cons_succ]
  refine wpAnyH_take (i := 10) (v := ?_) (oper_at rfl) (by kernel_rfl) (by kernel_rfl) (by kernel_rfl) (fun _ _ _ h => h) (Or.inl ⟨by rfl, ?_⟩) hHeld ?_
  rotate_left
  · (intro ww hSw; (try dsimp only at hSw); go_simp; try (with_reducible rfl))
  try simp only [Act.put, List.setIfInBounds_toArray, List.set_cons_zero, List.set_cons_succ]
  refine wpAnyH_take (i := 11) (v := ?_) (oper_at rfl) (by kernel_rfl) (by kernel_rfl) (by kernel_rfl) (fun _ _ _ h => h) (Or.inl ⟨by rfl, ?_⟩) hHeld ?_
  rotate_left
  · (intro ww hSw; (try dsimp only at hSw); go_simp; try (with_reducible rfl))
  try simp only [Act.put, List.setIfInBounds_toArray, List.set_cons_zero, List.set_cons_succ]
  refine wpAnyH_done (by kernel_rfl) ?_ _
  refine NoPanic.normal ?_
  obtain ⟨A2, c2, rfl, -, -, RA2⟩ := HR2.out.sl.read
  rw [List.length_map] at RA2 ⊢
  have HRB := Lib.hid RA2
  have b0 := (blkOf_ext HX2.out (by omega)).trans b0
  have b2 : blkOf w2 (w.heap.size + 2) = NV0 := (blkOf_ext HX2.out (by omega)).trans b2
  have a2 := HX2.out.cell a2
  have hs2 : w.heap.size + 2 < w2.heap.size := Nat.lt_of_lt_of_le hs1 HX2.out.size
  have HC2 := Lib.hid (HC1.out.trans HX2.out)
  have HE2 := Lib.hid (HE1.out.trans HX2.out)
  clear RA2 HR2 a4 HC1 HE1 hHeld KB
  go_wp2_with fail
  go_loopw [107] (fun i wr => ∃ j : Nat, j ≤ fl.length ∧ i = iV (j : Int) ∧ Ext w2 wr) (fun i _ => fl.length - (intOf i).toNat)
  case atStart => exact ⟨0, by omega, rfl, Ext.refl _⟩
  case round =>
    obtain ⟨j, hj, rfl, hX⟩ := hrel
    have HX := Lib.hid hX
    have b0 := (blkOf_ext hX (by omega)).trans b0
    have b2 : blkOf wr (w.heap.size + 2) = NV0 := (blkOf_ext hX (by omega)).trans b2
    have a2 := hX.cell a2
    have hsr : w.heap.size + 2 < wr.heap.size := Nat.lt_of_lt_of_le hs2 hX.size
    clear hX
    by_cases hlt : j < fl.length
    · obtain ⟨bp, op, rfl, hbp, cP⟩ := HRA.out wr (HX2.out.trans HX.out) j hlt (by omega)
      obtain ⟨bq, oq, rfl, hbq, cQ⟩ := HRB.out wr HX.out j hlt (by omega)
      obtain ⟨y, hy⟩ : ∃ y, fl.getD j 0 = y := ⟨_, rfl⟩
      have hyg : (fl.map fun x => [iV x]).getD j [] = [iV y] := by
        rw [List.getD_eq_getElem?_getD, List.getElem?_map, List.getElem?_eq_getElem hlt, ← hy, List.getD_eq_getElem?_getD, List.getElem?_eq_getElem hlt]
        rfl
      rw [hyg] at cP cQ
      have p0 := cP 0 _ (by omega) rfl
      have q0 := cQ 0 _ (by omega) rfl
      rw [Nat.add_zero, Nat.mul_one] at p0 q0
      have hjl : (j : Int) < (fl.length : Int) := by omega
      clear cP cQ hyg hy b0 b2 a2
      go_upto_region 15 with fail
      refine wp_region_noPanic ?_
      refine wp_region_held_drew (S := (fun w' => w'.cell? ⟨bp, op + j, none⟩ = some (iV y) ∧ w'.cell? ⟨bq, oq + j, none⟩ = some (iV y))) (by kernel_rfl) ?_ (fun hHeld => ?_)
      · exact ⟨p0, q0⟩
      refine wpAnyH_take (i := 0) (v := ?_) (oper_at rfl) (by kernel_rfl) (by kernel_rfl) (by kernel_rfl) (fun _ _ _ h => h) (Or.inl ⟨by rfl, ?_⟩) hHeld ?_
      rotate_left
      · (intro ww hSw; (try dsimp only at hSw); go_simp; try (with_reducible rfl))
      try simp only [Act.put, List.setIfInBounds_toArray, List.set_cons_zero, List.set_cons_succ]
      refine wpAnyH_take (i := 1) (v := ?_) (oper_at rfl) (by kernel_rfl) (by kernel_rfl) (by kernel_rfl) (fun _ _ _ h => h) (Or.inl ⟨by rfl, ?_⟩) hHeld ?_
      rotate_left
      · (intro ww hSw; (try dsimp only at hSw); go_simp; try (with_reducible rfl))
      try simp only [Act.put, List.setIfInBounds_toArray, List.set_cons_zero, List.set_cons_succ]
      refine wpAnyH_take (i := 2) (v := ?_) (oper_at rfl) (by kernel_rfl) (by kernel_rfl) (by kernel_rfl) (fun _ _ _ h => h) (Or.inl ⟨by rfl, ?_⟩) hHeld ?_
      rotate_left
      · (intro ww hSw; (try dsimp only at hSw); go_simp; try (with_reducible rfl))
      try simp only [Act.put, List.setIfInBounds_toArray, List.set_cons_zero, List.set_cons_succ]
      refine wpAnyH_take (i := 3) (v := ?_) (oper_at rfl) (by kernel_rfl) (by kernel_rfl) (by kernel_rfl) (fun _ _ _ h => h) (Or.inl ⟨by rfl, ?_⟩) hHeld ?_
      rotate_left
      · (intro ww hSw; (try dsimp only at hSw); go_simp; try (with_reducible rfl))
      try simp only [Act.put, List.setIfInBounds_toArray, List.set_cons_zero, List.set_cons_succ]
      refine wpAnyH_take (i := 4) (v := ?_) (oper_at rfl) (by kernel_rfl) (by kernel_rfl) (by kernel_rfl) (fun _ _ _ h => h) (Or.inl ⟨by rfl, ?_⟩) hHeld ?_
      rotate_left
      · (intro ww hSw; (try dsimp only at hSw); go_simp; try (with_reducible rfl))
      try simp only [Act.put, List.setIfInBounds_toArray, List.set_cons_zero, List.set_cons_succ]
      refine wpAnyH_take (i := 5) (v := ?_) (oper_at rfl) (by kernel_rfl) (by kernel_rfl) (by kernel_rfl) (fun _ _ _ h => h) (Or.inl ⟨by rfl, ?_⟩) hHeld ?_
      rotate_left
      · (intro ww hSw; (try dsimp only at hSw); go_simp; try (with_reducible rfl))
      try simp only [Act.put, List.setIfInBounds_toArray, List.set_cons_zero, List.set_cons_succ]
      refine wpAnyH_take (i := 6) (v := ?_) (oper_at rfl) (by kernel_rfl) (by kernel_rfl) (by kernel_rfl) (fun _ _ _ h => h) (Or.inl ⟨by rfl, ?_⟩) hHeld ?_
      rotate_left
      · (intro ww hSw; (try dsimp only at hSw); go_simp; try (with_reducible rfl))
      try simp only [Act.put, List.setIfInBounds_toArray, List.set_cons_zero, List.set_cons_succ]
      refine wpAnyH_take (i := 7) (v := ?_) (oper_at rfl) (by kernel_rfl) (by kernel_rfl) (by kernel_rfl) (fun _ _ _ h => h) (Or.inl ⟨by rfl, ?_⟩) hHeld ?_
      rotate_left
      · (intro ww hSw; (try dsimp only at hSw); go_simp; try (with_reducible rfl))
      try simp only [Act.put, List.setIfInBounds_toArray, List.set_cons_zero, List.set_cons_succ]
      refine wpAnyH_take (i := 8) (v := .bool false) (oper_at rfl) (by kernel_rfl) (by kernel_rfl) (by kernel_rfl) (fun _ _ _ h => h) (Or.inl ⟨by rfl, ?_⟩) hHeld ?_
      · (intro ww hSw; (try dsimp only at hSw); go_simp; try (with_reducible rfl))
      try simp only [Act.put, List.setIfInBounds_toArray, List.set_cons_zero, List.set_cons_succ]
      refine wpAnyH_done (by kernel_rfl) ?_ _
      refine NoPanic.normal ?_
      go_wp2_with fail
      exact ⟨⟨j + 1, by omega, by go_num, HX.out.drew⟩, by simp [intOf]; omega⟩
    · obtain rfl : j = fl.length := by omega
      have HEW := Lib.hid (HE2.out.trans HX.out)
      have CE := Lib.hid (executed25_any g r cv hv cp os x cI k4 wr (HNC.out.ext (HC2.out.trans HX.out)) HG.out.lenP (HG.out.bd.mono (by omega)) HG.out.keyP (by omega))
      have TM := Lib.hid (fun kv2 W (hW : Exc g r w W) (hr : Row 4 W B 58 kv2 (x.ks.map encK)) => rexecuted_any _ _ kv2 cs x B cI k4 W (HRC.out W hW) ⟨Ah, hs.length, ch, rfl⟩ hr HG.out.ascR HG.out.d0R HG.out.asc (by have := HG.out.ksl; omega) (Nat.le_trans hBw hW.size) (HG.out.bd.mono (by omega)) (by omega))
      rw [HAG2.out] at CE
      generalize exeF cs cI k4 x = y at *
      clear HRA HRB CD
      go_wp2_with fail
      refine (N4.out _).mono ?_
      rintro em wm ⟨rfl, rfl⟩
      go_wp2_with fail
      refine CE.out.mono ?_
      rintro e3 w3 ⟨rfl, hN3, hE3⟩
      have b0 := (hE3.blk (by omega) ng0 nr0).trans b0
      have b2 : blkOf w3 (w.heap.size + 2) = NV0 := (hE3.blk (by omega) ng2 nr2).trans b2
      have a2 := hE3.cellb a2 ng1 nr1
      have hs3 : w.heap.size + 2 < w3.heap.size := by have := hE3.size; omega
      have HN3 := Lib.hid hN3
      have HE3 := Lib.hid ((HEW.out.exc g r).trans hE3)
      have HR3 := Lib.hid (HRK.out.excN HN.out HE3.out)
      have hg3 : g < w3.heap.size := by omega
      have TM3 := Lib.hid (fun W (hW : Ext w3 W) => TM.out (.slice Ak x.ks.length ck) W (HE3.out.trans (hW.exc g r)) (HR3.out.ext hW))
      clear hN3 hE3 CE TM HEW
      go_upto_region 19 with fail
      have KB : Hid (∀ W, Ext w3 W → (fun w' => blkOf w' w.heap.size = NV (.slice Al cs.length cl) (.slice Ah hs.length ch) x.s x.t x.d (.slice Ak x.ks.length ck) ∧ w'.cell? ⟨w.heap.size + 1, 2, none⟩ = some (iV ab)) W) := Lib.hid (fun W h => ⟨(blkOf_ext h (by omega)).trans b0, h.cell a2⟩)
      refine wp_region_noPanic ?_
      refine wp_region_held_drew (S := (fun w' => blkOf w' w.heap.size = NV (.slice Al cs.length cl) (.slice Ah hs.length ch) x.s x.t x.d (.slice Ak x.ks.length ck) ∧ w'.cell? ⟨w.heap.size + 1, 2, none⟩ = some (iV ab))) (by kernel_rfl) ?_ (fun hHeld => ?_)
      · exact KB.out _ (by (repeat (first | with_reducible assumption | with_reducible exact Ext.refl _ | with_reducible apply Ext.alloc | with_reducible apply Ext.drew)); first | done | fail)
      refine wpAnyH_take (i := 0) (v := ?_) (oper_at rfl) (by kernel_rfl) (by kernel_rfl) (by kernel_rfl) (fun _ _ _ h => h) (Or.inl ⟨by rfl, ?_⟩) hHeld ?_
      rotate_left
      · (intro ww hSw; (try dsimp only at hSw); go_simp; try (with_reducible rfl))
      try simp only [Act.put, List.setIfInBounds_toArray, List.set_cons_zero, List.set_cons_succ]
      refine wpAnyH_take (i := 1) (v := ?_) (oper_at rfl) (by kernel_rfl) (by kernel_rfl) (by kernel_rfl) (fun _ _ _ h => h) (Or.inl ⟨by rfl, ?_⟩) hHeld ?_
      rotate_left
      · (intro ww hSw; (try dsimp only at hSw); go_simp; try (with_reducible rfl))
      try simp only [Act.put, List.setIfInBounds_toArray, List.set_cons_zero, List.set_cons_succ]
      refine wpAnyH_take (i := 2) (v := ?_) (oper_at rfl) (by kernel_rfl) (by kernel_rfl) (by kernel_rfl) (fun _ _ _ h => h) (Or.inl ⟨by rfl, ?_⟩) hHeld ?_
      rotate_left
      · (intro ww hSw; (try dsimp only at hSw); go_simp; try (with_reducible rfl))
      try simp only [Act.put, List.setIfInBounds_toArray, List.set_cons_zero, List.set_cons_succ]
      refine wpAnyH_take (i := 3) (v := ?_) (oper_at rfl) (by kernel_rfl) (by kernel_rfl) (by kernel_rfl) (fun _ _ _ h => h) (Or.inl ⟨by rfl, ?_⟩) hHeld ?_
      rotate_left
      · (intro ww hSw; (try dsimp only at hSw); go_simp; try (with_reducible rfl))
      try simp only [Act.put, List.setIfInBounds_toArray, List.set_cons_zero, List.set_cons_succ]
      refine wpAnyH_ready (rs := [4]) (by kernel_rfl) (by simp) (AllReadyH.cons (oper_at rfl) (fun K hK => ?_) AllReadyH.nil)
      go_simp
      go_at_call 40
      refine (N4.out _).mono ?_
      rintro em wm ⟨rfl, rfl⟩
      refine hK.out _ _ ?_ (fun hHeld => ?_)
      · exact KB.out _ (by (repeat (first | with_reducible assumption | with_reducible exact Ext.refl _ | with_reducible apply Ext.alloc | with_reducible apply Ext.drew)); first | done | fail)
      clear hK K
      try simp only [Act.put, List.setIfInBounds_toArray, List.set_cons_zero, List.set_cons_succ]
      refine wpAnyH_take (i := 5) (v := ?_) (oper_at rfl) (by kernel_rfl) (by kernel_rfl) (by kernel_rfl) (fun _ _ _ h => h) (Or.inl ⟨by rfl, ?_⟩) hHeld ?_
      rotate_left
      · (intro ww hSw; (try dsimp only at hSw); go_simp; try (with_reducible rfl))
      try simp only [Act.put, List.setIfInBounds_toArray, List.set_cons_zero, List.set_cons_succ]
      refine wpAnyH_ready (rs := [6]) (by kernel_rfl) (by simp) (AllReadyH.cons (oper_at rfl) (fun K hK => ?_) AllReadyH.nil)
      go_simp
      go_at_call 58
      refine (TM3.out _ (by (repeat (first | with_reducible assumption | with_reducible exact Ext.refl _ | with_reducible apply Ext.alloc | with_reducible apply Ext.drew)); first | done | fail)).mono ?_
      rintro e4 w4 ⟨kv4, rfl, hr4, hE4⟩
      have hX4 : Ext w3 w4 := Ext.trans (by (repeat (first | with_reducible assumption | with_reducible exact Ext.refl _ | with_reducible apply Ext.alloc | with_reducible apply Ext.drew)); first | done | fail) hE4
      obtain ⟨A4, c4, e4, -, -⟩ := hr4.form
      rw [List.length_map] at e4
      subst e4
      have HR4 := Lib.hid hr4
      have HX4 := Lib.hid hX4
      have d4 : blkOf w4 (w.heap.size + 2) = NV0 := (blkOf_ext hX4 (by omega)).trans b2
      have D4 := Lib.hid d4
      have KS := Lib.hid (KB.out _ hX4)
      clear hr4 hE4
      refine hK.out _ _ ?_ (fun hHeld => ?_)
      · exact KS.out
      clear hK K
      try simp only [Act.put, List.setIfInBounds_toArray, List.set_cons_zero, List.set_cons_succ]
      refine wpAnyH_ready (rs := [7]) (by kernel_rfl) (by simp) (AllReadyH.cons (oper_at rfl) (fun K hK => ?_) AllReadyH.nil)
      go_simp
      refine hK.out _ _ ?_ (fun hHeld => ?_)
      · exact ⟨(blkOf_setRow_other (by omega)).trans KS.out.1, (cell_kept (setRow_other _ _ _ _ (by omega))).trans KS.out.2⟩
      clear hK K
      try simp only [Act.put, List.setIfInBounds_toArray, List.set_cons_zero, List.set_cons_succ]
      refine wpAnyH_take (i := 8) (v := ?_) (oper_at rfl) (by kernel_rfl) (by kernel_rfl) (by kernel_rfl) (fun _ _ _ h => h) (Or.inl ⟨by rfl, ?_⟩) hHeld ?_
      rotate_left
      · (intro ww hSw; (try dsimp only at hSw); go_simp; try (with_reducible rfl))
      try simp only [Act.put, List.setIfInBounds_toArray, List.set_cons_zero, List.set_cons_succ]
      refine wpAnyH_done (by kernel_rfl) ?_ _
      refine NoPanic.normal ?_
      generalize hwz : w4.setRow (w.heap.size + 2) _ = wz at *
      have hhz : ∀ i, i ≠ w.heap.size + 2 → wz.heap[i]? = w4.heap[i]? := fun i hi => by rw [← hwz]; exact setRow_other _ _ _ _ hi
      have bz : blkOf wz (w.heap.size + 2) = NV (.slice Al cs.length cl) (.slice Ah hs.length ch) y.s y.t y.d (.slice A4 y.ks.length c4) := by rw [← hwz]; exact blkOf_setRow_same (by rw [D4.out, NV_size])
      have hEz : Exc g r w wz := by rw [← hwz]; exact (HE3.out.trans (HX4.out.exc g r)).setRow (Nat.le_add_right _ 2) _
      have hRz : Row 4 wz B 58 (.slice A4 y.ks.length c4) (y.ks.map encK) := by rw [← hwz]; exact HR4.out.setFar (by rw [D4.out, NV_size]) _
      have BZ := Lib.hid bz
      clear hwz hHeld KB KS bz
      go_wp2_with fail
      refine bodyPost_ret (res32b Tryz.results20 (g := w.heap.size + 2) rfl rfl BZ.out NV_size) rfl ?_
      exact ⟨_, rfl, ⟨HN.out.to HN3.out hEz ((hhz g (Ne.symm ng2)).trans (HX4.out.block g hg3)) ((hhz r (Ne.symm nr2)).trans (HX4.out.block r (by omega))), HRC.out.exc hEz, HRH.out.exc hEz, hRz, Nat.lt_of_lt_of_le hgB hEz.size, Nat.lt_of_lt_of_le hrB hEz.size, Nat.le_trans hBw hEz.size⟩, hEz⟩
end Go.Proofs.YtehmpbaiefbemaaGreat
