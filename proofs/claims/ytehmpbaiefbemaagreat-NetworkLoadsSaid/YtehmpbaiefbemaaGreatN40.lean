/- One call: a message. -/
import Derived.Test.YtehmpbaiefbemaaGreatN36
namespace Go.Proofs.YtehmpbaiefbemaaGreat
open Go.RowKit
attribute [local go_sem ↓] Go.wp_at_zero Go.wp_at_succ
attribute [local go_sem ↓] eq73 ld32 st32 al32
attribute [local go_sem] run_eq73 run_ld32 run_st32n run_al32 blkOf_drew blkOf_setRow_same blkOf_setRow_other NV_size blkOf_alloc blkOf_new
theorem sendF_ts {cs : List Ch} {hs : List Jh} {f t tick lat : Int} {x : St} : (sendF cs hs f t tick lat x).2.2.length ≤ 2 := by
  unfold sendF
  repeat (first | (split; skip) | simp)
theorem argsTake {w : World} {A : Option Addr} {n c m : Nat} {xs : List Int} (h : ArgsAt w (.slice A n c) xs) (hm : m ≤ xs.length) : ArgsAt w (.slice A m c) (xs.take m) := by
  obtain ⟨A', c', e, h1, h2, hy⟩ := h.at_
  simp only [Value.slice.injEq] at e
  obtain ⟨rfl, -, rfl⟩ := e
  rw [List.length_map] at h1
  refine ⟨⟨A, c, by rw [List.length_map, List.length_take, Nat.min_eq_left hm], by rw [List.length_map, List.length_take]; omega, h2, fun h0 => ?_⟩, Wide.map (f := fun x : Int => [iV x]) (fun _ => rfl) _⟩
  have hfl : ∀ l : List Int, (l.map fun x => [iV x]).flatten = l.map iV := fun l => by induction l with
    | nil => rfl
    | cons a l ih => rw [List.map_cons, List.flatten_cons, ih]; rfl
  rw [hfl] at h0 ⊢
  rw [hfl] at hy
  rw [List.length_map, List.length_take] at h0
  obtain ⟨b, o, e1, hb, hc⟩ := hy (by rw [List.length_map]; omega)
  refine ⟨b, o, e1, hb, fun j u hj => hc j u ?_⟩
  rw [List.getElem?_map, List.getElem?_take] at hj
  split at hj
  · rw [List.getElem?_map]; exact hj
  · simp at hj
set_option maxRecDepth 100000 in
set_option maxHeartbeats 8000000 in
theorem do_send (g r B : Nat) (cv hv lv kh kv : Value) (cp cs : List Ch) (os hs : List Jh) (x : St) (a : Ac) (av : Value) (w : World) (H : Both w g r B cv hv lv kh kv cp cs os hs x) (G : Good cp cs x) (hA : Stay g r (fun W => ArgsAt W av a.args) w) (hag : agrF cp os cs hs a x) (hk : modF a.kd 6 ≠ 3 ∧ modF a.kd 6 ≠ 4 ∧ modF a.kd 6 ≠ 5) :
    Calls Tryz.prog 20 #[.pointer (some ⟨g, 0, none⟩), .agg (NV lv kh x.s x.t x.d kv), acV a av] w (RetDo g r B cv hv lv kh cp cs os hs (doF cs hs a x) w) := by
  obtain ⟨hNet, hrc, hrh, hrk, hgB, hrB, hBw⟩ := H
  obtain ⟨A0, c0, rfl, -, -, -⟩ := hA.now.at_
  rw [List.length_map] at hA ⊢
  have HN := Lib.hid hNet
  have HRC := Lib.hid hrc
  have HRH := Lib.hid hrh
  have HRK := Lib.hid hrk
  have HAR := Lib.hid hA
  have HG := Lib.hid G
  obtain ⟨Al, cl, rfl, -, -, -⟩ := hrc.now.read
  obtain ⟨Ah, ch, rfl, -, -, -⟩ := hrh.now.sl.read
  obtain ⟨Ak, ck, rfl, -, -, -⟩ := hrk.sl.read
  rw [List.length_map, List.length_map, List.length_map] at *
  have hgl := hNet.lt
  have hrl := hNet.rlt
  obtain ⟨kd, aa, ab, an, act, args⟩ := a
  simp only [] at *
  have m4r := modF_range (a := aa) (n := 4) (by omega)
  have m9r := modF_range (a := an) (n := 9) (by omega)
  have M4 := Lib.hid (fun W => mod_any aa 4 W (by omega) (by omega))
  have M9 := Lib.hid (fun W => mod_any an 9 W (by omega) (by omega))
  have M6 := Lib.hid (fun W => mod_any kd 6 W (by omega) (by omega))
  obtain ⟨cI, hcI⟩ : ∃ cI, cF ⟨kd, aa, ab, an, act, args⟩ = cI := ⟨_, rfl⟩
  have hcI2 := hcI
  unfold cF at hcI2
  simp only [] at hcI2
  have hag2 : sendF cp os (cF ⟨kd, aa, ab, an, act, args⟩) (modF ab 3) (modF an 20) (modF act 6 - 1) x = sendF cs hs (cF ⟨kd, aa, ab, an, act, args⟩) (modF ab 3) (modF an 20) (modF act 6 - 1) x := by
    unfold agrF at hag
    rw [if_neg hk.1, if_neg hk.2.1, if_neg hk.2.2] at hag
    exact hag
  have HD : Hid (doF cs hs ⟨kd, aa, ab, an, act, args⟩ x = (sendF cs hs (cF ⟨kd, aa, ab, an, act, args⟩) (modF ab 3) (modF an 20) (modF act 6 - 1) x).1) := Lib.hid (by unfold doF; rw [if_neg hk.1, if_neg hk.2.1, if_neg hk.2.2])
  rw [HD.out]
  rw [hcI] at hag2 ⊢
  have r3 := modF_range (a := ab) (n := 3) (by omega)
  have r20 := modF_range (a := an) (n := 20) (by omega)
  have r6 := modF_range (a := act) (n := 6) (by omega)
  have N3 := Lib.hid (fun W => mod_any ab 3 W (by omega) (by omega))
  have N20 := Lib.hid (fun W => mod_any an 20 W (by omega) (by omega))
  have N6 := Lib.hid (fun W => mod_any act 6 W (by omega) (by omega))
  have N8 := Lib.hid (fun W => mod_any an 8 W (by omega) (by omega))
  obtain ⟨p3, ep⟩ : ∃ m, modF ab 3 = m := ⟨_, rfl⟩
  obtain ⟨t20, et⟩ : ∃ m, modF an 20 = m := ⟨_, rfl⟩
  obtain ⟨m6, e6⟩ : ∃ m, modF act 6 = m := ⟨_, rfl⟩
  obtain ⟨h8, e8⟩ : ∃ m, modF an 8 = m := ⟨_, rfl⟩
  rw [ep, et, e6] at hag2
  rw [ep] at r3 N3
  rw [et] at r20 N20
  rw [e6] at r6 N6
  rw [e8] at N8
  rw [ep, et, e6]
  obtain ⟨r6a, r6b⟩ := r6
  obtain ⟨r20a, r20b⟩ := r20
  obtain ⟨l6, hl6⟩ : ∃ k, m6 - 1 = k := ⟨_, rfl⟩
  have hw6 : IntKind.i64.wrap (m6 - 1) = l6 := by rw [hl6]; exact IntWalk.i64_in _ (by omega)
  rw [hl6] at hag2
  rw [hl6]
  have hb6 : -1 ≤ l6 ∧ l6 ≤ 4 := by omega
  obtain ⟨b6a, b6b⟩ := hb6
  obtain ⟨kk, ekk⟩ : ∃ k, modF kd 6 = k := ⟨_, rfl⟩
  rw [ekk] at M6 hk
  obtain ⟨hk3, hk4, hk5⟩ := hk
  have HAG := Lib.hid hag2
  obtain ⟨mm, hmm⟩ : ∃ mm, min args.length 4 = mm := ⟨_, rfl⟩
  have hmin : min ((args.length : Nat) : Int) 4 = (mm : Int) := by omega
  have hm0 : 0 ≤ (mm : Int) := by omega
  have hml : mm ≤ args.length := by omega
  have hcap : args.length ≤ c0 := by
    obtain ⟨A', c', q1, q2, -, -⟩ := hA.now.at_
    rw [List.length_map] at q1 q2
    simp only [Value.slice.injEq] at q1
    obtain ⟨-, -, rfl⟩ := q1
    exact q2
  have hmc : (mm : Int) ≤ c0 := by omega
  have HTL : Hid ((args.take mm).length = mm) := Lib.hid (by rw [List.length_take]; omega)
  have HAT : Hid (Stay g r (fun W => ArgsAt W (.slice A0 mm c0) (args.take mm)) w) := Lib.hid (fun W hW => argsTake (hA W hW) hml)
  clear hag2 HD ep et e6 e8 hl6 ekk hmm hcap r3
  obtain ⟨m4, e4⟩ : ∃ m, modF aa 4 = m := ⟨_, rfl⟩
  obtain ⟨m9, e9⟩ : ∃ m, modF an 9 = m := ⟨_, rfl⟩
  rw [e4] at m4r M4 hcI2
  rw [e9] at m9r M9 hcI2
  have hq : Int.tdiv m9 8 = m9 / 8 := Int.tdiv_eq_ediv_of_nonneg m9r.1
  have hcI3 : m4 - m9 / 8 = cI := by rw [← hcI2, hq]
  have hcr : -10 ≤ cI ∧ cI ≤ 10 := by omega
  obtain ⟨q9, hq9⟩ : ∃ q, Int.tdiv m9 8 = q := ⟨_, rfl⟩
  have hqw : IntKind.i64.wrap q9 = q9 := by
    have h9 : q9 = m9 / 8 := by rw [← hq9, hq]
    exact IntWalk.i64_in _ (by omega)
  have hcq : m4 - q9 = cI := by rw [← hcI2, hq9]
  have hcw : IntKind.i64.wrap (m4 - q9) = cI := by rw [hcq]; exact IntWalk.i64_in _ (by omega)
  have HCI := Lib.hid hcI
  clear hNet hrc hrh hrk hA G hag hcI hcI2 hcI3 e4 e9 hq hcq
  obtain ⟨m4a, m4b⟩ := m4r
  obtain ⟨m9a, m9b⟩ := m9r
  obtain ⟨cra, crb⟩ := hcr
  go_enter Tryz.func20, Tryz.ntmps20
  go_upto_region 1 with fail
  generalize hwB : ((w.alloc _).alloc _).alloc _ = wB
  obtain ⟨hE, b0, b1, b2, hsB⟩ := letter3 hwB
  have a0 : wB.cell? ⟨w.heap.size + 1, 0, none⟩ = some (iV kd) := blkOf_cell (by rw [b1]; rfl)
  have a1 : wB.cell? ⟨w.heap.size + 1, 1, none⟩ = some (iV aa) := blkOf_cell (by rw [b1]; rfl)
  have a2 : wB.cell? ⟨w.heap.size + 1, 2, none⟩ = some (iV ab) := blkOf_cell (by rw [b1]; rfl)
  have a3 : wB.cell? ⟨w.heap.size + 1, 3, none⟩ = some (iV an) := blkOf_cell (by rw [b1]; rfl)
  have a4 : wB.cell? ⟨w.heap.size + 1, 4, none⟩ = some (iV act) := blkOf_cell (by rw [b1]; rfl)
  have a5 : wB.cell? ⟨w.heap.size + 1, 5, none⟩ = some (.slice A0 args.length c0) := blkOf_cell (by rw [b1]; rfl)
  have HE := Lib.hid hE
  have HSB := Lib.hid hsB
  clear hwB hE b1
  refine wp_region_noPanic ?_
  refine wp_region_held_drew (S := (fun ww => ww = wB.drew)) (by kernel_rfl) ?_ (fun hHeld => ?_)
  · rfl
  refine wpAnyH_take (i := 0) (v := ?_) (oper_at rfl) (by kernel_rfl) (by kernel_rfl) (by kernel_rfl) (fun _ _ _ h => h) (Or.inl ⟨by rfl, ?_⟩) hHeld ?_
  rotate_left
  · (intro ww hSw; (try dsimp only at hSw); go_simp; try (with_reducible rfl))
  try simp only [Act.put, List.setIfInBounds_toArray, List.set_cons_zero, List.set_cons_succ]
  refine wpAnyH_take (i := 1) (v := ?_) (oper_at rfl) (by kernel_rfl) (by kernel_rfl) (by kernel_rfl) (fun _ _ _ h => h) (Or.inl ⟨by rfl, ?_⟩) hHeld ?_
  rotate_left
  · (intro ww hSw; (try dsimp only at hSw); go_simp; try (with_reducible rfl))
  try simp only [Act.put, List.setIfInBounds_toArray, List.set_cons_zero, List.set_cons_succ]
  refine wpAnyH_take (i := 3) (v := ?_) (oper_at rfl) (by kernel_rfl) (by kernel_rfl) (by kernel_rfl) (fun _ _ _ h => h) (Or.inl ⟨by rfl, ?_⟩) hHeld ?_
  rotate_left
  · (intro ww hSw; (try dsimp only at hSw); go_simp; try (with_reducible rfl))
  try simp only [Act.put, List.setIfInBounds_toArray, List.set_cons_zero, List.set_cons_succ]
  refine wpAnyH_take (i := 4) (v := ?_) (oper_at rfl) (by kernel_rfl) (by kernel_rfl) (by kernel_rfl) (fun _ _ _ h => h) (Or.inl ⟨by rfl, ?_⟩) hHeld ?_
  rotate_left
  · (intro ww hSw; (try dsimp only at hSw); go_simp; try (with_reducible rfl))
  try simp only [Act.put, List.setIfInBounds_toArray, List.set_cons_zero, List.set_cons_succ]
  refine wpAnyH_ready (rs := [2]) (by kernel_rfl) (by simp) (AllReadyH.cons (oper_at rfl) (fun K hK => ?_) AllReadyH.nil)
  go_simp
  go_at_call 40
  refine (M4.out _).mono ?_
  rintro em wm ⟨rfl, rfl⟩
  refine hK.out _ _ ?_ (fun hHeld => ?_)
  · rfl
  clear hK K
  try simp only [Act.put, List.setIfInBounds_toArray, List.set_cons_zero, List.set_cons_succ]
  refine wpAnyH_ready (rs := [5]) (by kernel_rfl) (by simp) (AllReadyH.cons (oper_at rfl) (fun K hK => ?_) AllReadyH.nil)
  go_simp
  go_at_call 40
  refine (M9.out _).mono ?_
  rintro em wm ⟨rfl, rfl⟩
  refine hK.out _ _ ?_ (fun hHeld => ?_)
  · rfl
  clear hK K
  try simp only [Act.put, List.setIfInBounds_toArray, List.set_cons_zero, List.set_cons_succ]
  refine wpAnyH_take (i := 6) (v := ?_) (oper_at rfl) (by kernel_rfl) (by kernel_rfl) (by kernel_rfl) (fun _ _ _ h => h) (Or.inl ⟨by rfl, ?_⟩) hHeld ?_
  rotate_left
  · (intro ww hSw; (try dsimp only at hSw); go_simp; try (with_reducible rfl))
  try simp only [Act.put, List.setIfInBounds_toArray, List.set_cons_zero, List.set_cons_succ]
  refine wpAnyH_take (i := 7) (v := ?_) (oper_at rfl) (by kernel_rfl) (by kernel_rfl) (by kernel_rfl) (fun _ _ _ h => h) (Or.inl ⟨by rfl, ?_⟩) hHeld ?_
  rotate_left
  · (intro ww hSw; (try dsimp only at hSw); go_simp; try (with_reducible rfl))
  try simp only [Act.put, List.setIfInBounds_toArray, List.set_cons_zero, List.set_cons_succ]
  refine wpAnyH_take (i := 8) (v := ?_) (oper_at rfl) (by kernel_rfl) (by kernel_rfl) (by kernel_rfl) (fun _ _ _ h => h) (Or.inl ⟨by rfl, ?_⟩) hHeld ?_
  rotate_left
  · (intro ww hSw; (try dsimp only at hSw); go_simp; try (with_reducible rfl))
  try simp only [Act.put, List.setIfInBounds_toArray, List.set_cons_zero, List.set_cons_succ]
  refine wpAnyH_done (by kernel_rfl) ?_ _
  refine NoPanic.normal ?_
  generalize hwC : wB.drew = wC
  have hEC : Ext wB wC := by rw [← hwC]; exact (Ext.refl _).drew
  have b0 := (blkOf_ext hEC (by rw [HSB.out]; omega)).trans b0
  have b2 : blkOf wC (w.heap.size + 2) = NV0 := (blkOf_ext hEC (by rw [HSB.out]; omega)).trans b2
  have a0 := hEC.cell a0
  have a1 := hEC.cell a1
  have a2 := hEC.cell a2
  have a3 := hEC.cell a3
  have a4 := hEC.cell a4
  have a5 := hEC.cell a5
  have hsC : w.heap.size + 2 < wC.heap.size := by have := hEC.size; rw [HSB.out] at this; omega
  have HEC := Lib.hid (HE.out.trans hEC)
  have HNC := Lib.hid (HN.out.ext HEC.out)
  have hgC : g < wC.heap.size := by omega
  have ng0 : w.heap.size ≠ g := by omega
  have nr0 : w.heap.size ≠ r := by omega
  have ng1 : w.heap.size + 1 ≠ g := by omega
  have nr1 : w.heap.size + 1 ≠ r := by omega
  have ng2 : w.heap.size + 2 ≠ g := by omega
  have nr2 : w.heap.size + 2 ≠ r := by omega
  clear hwC hEC HSB hHeld M4 M9 hsB
  go_wp2_with fail
  refine (M6.out _).mono ?_
  rintro em wm ⟨rfl, rfl⟩
  go_upto_region 24 with fail
  refine wp_region_noPanic ?_
  refine wp_region_held_drew (S := (fun ww => ww = wC.drew)) (by kernel_rfl) ?_ (fun hHeld => ?_)
  · rfl
  refine wpAnyH_take (i := 0) (v := ?_) (oper_at rfl) (by kernel_rfl) (by kernel_rfl) (by kernel_rfl) (fun _ _ _ h => h) (Or.inl ⟨by rfl, ?_⟩) hHeld ?_
  rotate_left
  · (intro ww hSw; (try dsimp only at hSw); go_simp; try (with_reducible rfl))
  try simp only [Act.put, List.setIfInBounds_toArray, List.set_cons_zero, List.set_cons_succ]
  refine wpAnyH_take (i := 1) (v := ?_) (oper_at rfl) (by kernel_rfl) (by kernel_rfl) (by kernel_rfl) (fun _ _ _ h => h) (Or.inl ⟨by rfl, ?_⟩) hHeld ?_
  rotate_left
  · (intro ww hSw; (try dsimp only at hSw); go_simp; try (with_reducible rfl))
  try simp only [Act.put, List.setIfInBounds_toArray, List.set_cons_zero, List.set_cons_succ]
  refine wpAnyH_take (i := 3) (v := ?_) (oper_at rfl) (by kernel_rfl) (by kernel_rfl) (by kernel_rfl) (fun _ _ _ h => h) (Or.inl ⟨by rfl, ?_⟩) hHeld ?_
  rotate_left
  · (intro ww hSw; (try dsimp only at hSw); go_simp; try (with_reducible rfl))
  try simp only [Act.put, List.setIfInBounds_toArray, List.set_cons_zero, List.set_cons_succ]
  refine wpAnyH_take (i := 4) (v := ?_) (oper_at rfl) (by kernel_rfl) (by kernel_rfl) (by kernel_rfl) (fun _ _ _ h => h) (Or.inl ⟨by rfl, ?_⟩) hHeld ?_
  rotate_left
  · (intro ww hSw; (try dsimp only at hSw); go_simp; try (with_reducible rfl))
  try simp only [Act.put, List.setIfInBounds_toArray, List.set_cons_zero, List.set_cons_succ]
  refine wpAnyH_take (i := 6) (v := ?_) (oper_at rfl) (by kernel_rfl) (by kernel_rfl) (by kernel_rfl) (fun _ _ _ h => h) (Or.inl ⟨by rfl, ?_⟩) hHeld ?_
  rotate_left
  · (intro ww hSw; (try dsimp only at hSw); go_simp; try (with_reducible rfl))
  try simp only [Act.put, List.setIfInBounds_toArray, List.set_cons_zero, List.set_cons_succ]
  refine wpAnyH_take (i := 7) (v := ?_) (oper_at rfl) (by kernel_rfl) (by kernel_rfl) (by kernel_rfl) (fun _ _ _ h => h) (Or.inl ⟨by rfl, ?_⟩) hHeld ?_
  rotate_left
  · (intro ww hSw; (try dsimp only at hSw); go_simp; try (with_reducible rfl))
  try simp only [Act.put, List.setIfInBounds_toArray, List.set_cons_zero, List.set_cons_succ]
  refine wpAnyH_take (i := 10) (v := ?_) (oper_at rfl) (by kernel_rfl) (by kernel_rfl) (by kernel_rfl) (fun _ _ _ h => h) (Or.inl ⟨by rfl, ?_⟩) hHeld ?_
  rotate_left
  · (intro ww hSw; (try dsimp only at hSw); go_simp; try (with_reducible rfl))
  try simp only [Act.put, List.setIfInBounds_toArray, List.set_cons_zero, List.set_cons_succ]
  refine wpAnyH_take (i := 11) (v := ?_) (oper_at rfl) (by kernel_rfl) (by kernel_rfl) (by kernel_rfl) (fun _ _ _ h => h) (Or.inl ⟨by rfl, ?_⟩) hHeld ?_
  rotate_left
  · (intro ww hSw; (try dsimp only at hSw); go_simp; try (with_reducible rfl))
  try simp only [Act.put, List.setIfInBounds_toArray, List.set_cons_zero, List.set_cons_succ]
  refine wpAnyH_ready (rs := [2]) (by kernel_rfl) (by simp) (AllReadyH.cons (oper_at rfl) (fun K hK => ?_) AllReadyH.nil)
  go_simp
  go_at_call 40
  refine (N3.out _).mono ?_
  rintro em wm ⟨rfl, rfl⟩
  refine hK.out _ _ ?_ (fun hHeld => ?_)
  · rfl
  clear hK K
  try simp only [Act.put, List.setIfInBounds_toArray, List.set_cons_zero, List.set_cons_succ]
  refine wpAnyH_ready (rs := [5]) (by kernel_rfl) (by simp) (AllReadyH.cons (oper_at rfl) (fun K hK => ?_) AllReadyH.nil)
  go_simp
  go_at_call 40
  refine (N20.out _).mono ?_
  rintro em wm ⟨rfl, rfl⟩
  refine hK.out _ _ ?_ (fun hHeld => ?_)
  · rfl
  clear hK K
  try simp only [Act.put, List.setIfInBounds_toArray, List.set_cons_zero, List.set_cons_succ]
  refine wpAnyH_ready (rs := [8]) (by kernel_rfl) (by simp) (AllReadyH.cons (oper_at rfl) (fun K hK => ?_) AllReadyH.nil)
  go_simp
  go_at_call 40
  refine (N6.out _).mono ?_
  rintro em wm ⟨rfl, rfl⟩
  refine hK.out _ _ ?_ (fun hHeld => ?_)
  · rfl
  clear hK K
  try simp only [Act.put, List.setIfInBounds_toArray, List.set_cons_zero, List.set_cons_succ]
  refine wpAnyH_take (i := 9) (v := ?_) (oper_at rfl) (by kernel_rfl) (by kernel_rfl) (by kernel_rfl) (fun _ _ _ h => h) (Or.inl ⟨by rfl, ?_⟩) hHeld ?_
  rotate_left
  · (intro ww hSw; (try dsimp only at hSw); go_simp; try (with_reducible rfl))
  try simp only [Act.put, List.setIfInBounds_toArray, List.set_cons_zero, List.set_cons_succ]
  refine wpAnyH_ready (rs := [12]) (by kernel_rfl) (by simp) (AllReadyH.cons (oper_at rfl) (fun K hK => ?_) AllReadyH.nil)
  go_simp
  go_at_call 40
  refine (N8.out _).mono ?_
  rintro em wm ⟨rfl, rfl⟩
  refine hK.out _ _ ?_ (fun hHeld => ?_)
  · rfl
  clear hK K
  try simp only [Act.put, List.setIfInBounds_toArray, List.set_cons_zero, List.set_cons_succ]
  refine wpAnyH_take (i := 13) (v := ?_) (oper_at rfl) (by kernel_rfl) (by kernel_rfl) (by kernel_rfl) (fun _ _ _ h => h) (Or.inl ⟨by rfl, ?_⟩) hHeld ?_
  rotate_left
  · (intro ww hSw; (try dsimp only at hSw); go_simp; try (with_reducible rfl))
  try simp only [Act.put, List.setIfInBounds_toArray, List.set_cons_zero, List.set_cons_succ]
  refine wpAnyH_take (i := 14) (v := ?_) (oper_at rfl) (by kernel_rfl) (by kernel_rfl) (by kernel_rfl) (fun _ _ _ h => h) (Or.inl ⟨by rfl, ?_⟩) hHeld ?_
  rotate_left
  · (intro ww hSw; (try dsimp only at hSw); go_simp; try (with_reducible rfl))
  try simp only [Act.put, List.setIfInBounds_toArray, List.set_cons_zero, List.set_cons_succ]
  refine wpAnyH_take (i := 15) (v := ?_) (oper_at rfl) (by kernel_rfl) (by kernel_rfl) (by kernel_rfl) (fun _ _ _ h => h) (Or.inl ⟨by rfl, ?_⟩) hHeld ?_
  rotate_left
  · (intro ww hSw; (try dsimp only at hSw); go_simp; try (with_reducible rfl))
  try simp only [Act.put, List.setIfInBounds_toArray, List.set_cons_zero, List.set_cons_succ]
  refine wpAnyH_take (i := 16) (v := ?_) (oper_at rfl) (by kernel_rfl) (by kernel_rfl) (by kernel_rfl) (fun _ _ _ h => h) (Or.inl ⟨by rfl, ?_⟩) hHeld ?_
  rotate_left
  · (intro ww hSw; (try dsimp only at hSw); go_simp; try (with_reducible rfl))
  try simp only [Act.put, List.setIfInBounds_toArray, List.set_cons_zero, List.set_cons_succ]
  refine wpAnyH_done (by kernel_rfl) ?_ _
  refine NoPanic.normal ?_
  generalize hwD : wC.drew = wD
  have hED : Ext wC wD := by rw [← hwD]; exact (Ext.refl _).drew
  have b0 := (blkOf_ext hED (by omega)).trans b0
  have b2 : blkOf wD (w.heap.size + 2) = NV0 := (blkOf_ext hED (by omega)).trans b2
  have a5 := hED.cell a5
  have hsD : w.heap.size + 2 < wD.heap.size := Nat.lt_of_lt_of_le hsC hED.size
  have HED := Lib.hid (HEC.out.trans hED)
  have HND := Lib.hid (HNC.out.ext hED)
  clear hwD hED a0 a1 a2 a3 a4 hHeld HEC HNC
  have CT := Lib.hid (send12_any g r cv hv cp os x cI p3 h8 t20 l6 (args.take mm) (.slice A0 mm c0) wD HND.out HG.out.ascP HG.out.lenP (HG.out.bd.mono (by omega)) HG.out.smP (by omega) (by omega) (by omega) (by omega) (HAT.out.exc (HED.out.exc g r)) (by rw [HTL.out]; omega))
  have TM := Lib.hid (fun kv2 W (hW : Exc g r w W) (hr : Row 4 W B 58 kv2 (x.ks.map encK)) => rsend_any _ _ kv2 cs hs x B cI p3 t20 l6 W (HRC.out W hW) (HRH.out W hW) hr HG.out.ascR HG.out.asc (by have := HG.out.ksl; omega) (Nat.le_trans hBw hW.size) (HG.out.bd.mono (by omega)) HG.out.smR (by omega) (by omega) (by omega) (by omega))
  rw [HAG.out] at CT
  have hts := sendF_ts (cs := cs) (hs := hs) (f := cI) (t := p3) (tick := t20) (lat := l6) (x := x)
  generalize sendF cs hs cI p3 t20 l6 x = res at *
  obtain ⟨y, ord, ts⟩ := res
  simp only [] at CT TM hts ⊢
  go_wp2_with fail
  refine CT.out.mono ?_
  rintro e1 w1 ⟨v1, js, rfl, hjs, hAr, hN1, hE1⟩
  obtain ⟨A1, c1, e1, -, -⟩ := hAr.row.form
  rw [List.length_map] at e1
  subst e1
  have hjl : js.length = ts.length := by have := congrArg List.length hjs; simpa using this
  rw [hjl]
  rw [hjl] at hAr
  have b0 := (hE1.blk (by omega) ng0 nr0).trans b0
  have b2 : blkOf w1 (w.heap.size + 2) = NV0 := (hE1.blk (by omega) ng2 nr2).trans b2
  have hs1 : w.heap.size + 2 < w1.heap.size := Nat.lt_of_lt_of_le hsD hE1.size
  have HAr := Lib.hid hAr
  have HJS := Lib.hid hjs
  have HJL := Lib.hid hjl
  have HN1 := Lib.hid hN1
  have HE1 := Lib.hid ((HED.out.exc g r).trans hE1)
  have HR1 := Lib.hid (HRK.out.excN HN.out HE1.out)
  have hg1 : g < w1.heap.size := by omega
  have TM1 := Lib.hid (TM.out (.slice Ak x.ks.length ck) w1 HE1.out HR1.out)
  clear hAr hjs hjl hN1 hE1 CT TM a5 HND HED
  go_wp2_with fail
  refine TM1.out.mono ?_
  rintro e2 w2 ⟨kv2, v2, rfl, hr2, hS2, hE2⟩
  obtain ⟨A2, c2, e2, -, -⟩ := hr2.form
  rw [List.length_map] at e2
  subst e2
  obtain ⟨As, cs2, rfl, -, -, RS⟩ := hS2.read
  rw [List.length_map] at RS ⊢
  have HRS := Lib.hid RS
  have HR2 := Lib.hid hr2
  have HE2 := Lib.hid hE2
  have b2 : blkOf w2 (w.heap.size + 2) = NV0 := (blkOf_ext hE2 (by omega)).trans b2
  have hs2 : w.heap.size + 2 < w2.heap.size := Nat.lt_of_lt_of_le hs1 hE2.size
  clear hr2 hS2 RS hE2 TM1 b0
  go_upto_region 28 with fail
  generalize hw3 : (w2.alloc (.cells NV0 32)).setRow w2.heap.size _ = w3
  have hE3 : Ext w2 w3 := by rw [← hw3]; exact ((Ext.refl _).alloc _).setRow (Nat.le_refl _) _
  have d3 : blkOf w3 w2.heap.size = NV (.slice Al cs.length cl) (.slice Ah hs.length ch) y.s y.t y.d (.slice A2 y.ks.length c2) := by rw [← hw3]; exact blkOf_setRow_same (by rw [blkOf_new, NV_size])
  have b2 : blkOf w3 (w.heap.size + 2) = NV0 := (blkOf_ext hE3 (by omega)).trans b2
  have HX3 := Lib.hid (HE2.out.trans hE3)
  have HR3 := Lib.hid (HR2.out.ext hE3)
  have HX23 := Lib.hid hE3
  have hz3 : w2.heap.size < w3.heap.size := blkOf_lt (by rw [d3, NV_size]; omega)
  clear hw3 hE3 HR2
  go_wp2_with fail
  go_loopw [211] (fun i wr => ∃ j : Nat, j ≤ ts.length ∧ i = iV (j : Int) ∧ Ext w3 wr) (fun i _ => ts.length - (intOf i).toNat)
  case atStart => exact ⟨0, by omega, rfl, Ext.refl _⟩
  case round =>
    as_aux_lemma =>
    obtain ⟨j, hj, rfl, hX⟩ := hrel
    have HX := Lib.hid hX
    have d3 := (blkOf_ext hX hz3).trans d3
    have b2 : blkOf wr (w.heap.size + 2) = NV0 := (blkOf_ext hX (by omega)).trans b2
    have hzr : w2.heap.size < wr.heap.size := Nat.lt_of_lt_of_le hz3 hX.size
    have hX1 := HX3.out.trans hX
    clear hX
    by_cases hlt : j < ts.length
    · obtain ⟨A', c', e', -, -, RJ⟩ := (HAr.out.row.sl.ext hX1).read
      rw [List.length_map, HJL.out] at e' RJ
      simp only [Value.slice.injEq] at e'
      obtain ⟨rfl, -, rfl⟩ := e'
      obtain ⟨bp, op, rfl, hbp, cP⟩ := RJ wr (Ext.refl _) j hlt (by omega)
      obtain ⟨bq, oq, rfl, hbq, cQ⟩ := HRS.out wr (HX23.out.trans HX.out) j hlt (by omega)
      obtain ⟨yj, hyj⟩ : ∃ yj, js.getD j Ja0 = yj := ⟨_, rfl⟩
      have hjj : j < js.length := by rw [HJL.out]; exact hlt
      rw [encJ_at hjj yj hyj] at cP
      obtain ⟨tj, htj⟩ : ∃ t, ts.getD j 0 = t := ⟨_, rfl⟩
      have hyg : (ts.map fun x => [iV x]).getD j [] = [iV tj] := by
        rw [List.getD_eq_getElem?_getD, List.getElem?_map, List.getElem?_eq_getElem hlt, ← htj, List.getD_eq_getElem?_getD, List.getElem?_eq_getElem hlt]
        rfl
      rw [hyg] at cQ
      have hy1 : yj.1 = (tj, h8, args.take mm) := by
        have h := congrArg (fun l => l[j]?) HJS.out
        simp only [List.getElem?_map, List.getElem?_eq_getElem hjj, List.getElem?_eq_getElem hlt, Option.map_some, Option.some.injEq] at h
        rw [← hyj, ← htj, List.getD_eq_getElem?_getD, List.getD_eq_getElem?_getD, List.getElem?_eq_getElem hjj, List.getElem?_eq_getElem hlt]
        exact h
      have hym := getD_memJ hjj
      rw [hyj] at hym
      have hja := (HAr.out.args yj hym).sl.ext hX1
      obtain ⟨⟨yt, yh, ya⟩, yv⟩ := yj
      simp only [Prod.mk.injEq] at hy1
      obtain ⟨rfl, rfl, rfl⟩ := hy1
      obtain ⟨Ay, dy, ey, -, -, -⟩ := hja.read
      rw [List.length_map] at ey
      simp only [] at ey
      subst ey
      have p0 := cP 0 _ (by omega) rfl
      have p1 := cP 1 _ (by omega) rfl
      have p2 := cP 2 _ (by omega) rfl
      have q0 := cQ 0 _ (by omega) rfl
      rw [Nat.add_zero] at p0 q0
      rw [Nat.mul_one] at q0
      have hjl1 : (j : Int) < (ts.length : Int) := by omega
      have CA := Lib.hid (fun W (hW : Ext wr W) => sameArgs_ok (args.take mm) _ _ W (SlAt.ext hja hW) (HAT.out W (HE1.out.trans ((hX1.trans hW).exc g r))) (by rw [HTL.out]; omega))
      rw [HTL.out] at CA p2
      clear cP cQ hyg hyj htj hym hja RJ d3 b2 hjj hX1
      go_upto_region 33 with fail
      have KB : Hid (∀ W, Ext wr W → (fun w' => Ext wr w' ∧ w'.cell? ⟨bp, op + j * 3, none⟩ = some (iV yt) ∧ w'.cell? ⟨bp, op + j * 3 + 1, none⟩ = some (iV yh) ∧ w'.cell? ⟨bp, op + j * 3 + 2, none⟩ = some (.slice Ay mm dy) ∧ w'.cell? ⟨bq, oq + j, none⟩ = some (iV yt)) W) := Lib.hid (fun W h => ⟨h, h.cell p0, h.cell p1, h.cell p2, h.cell q0⟩)
      refine wp_region_noPanic ?_
      refine wp_region_held_drew (S := (fun w' => Ext wr w' ∧ w'.cell? ⟨bp, op + j * 3, none⟩ = some (iV yt) ∧ w'.cell? ⟨bp, op + j * 3 + 1, none⟩ = some (iV yh) ∧ w'.cell? ⟨bp, op + j * 3 + 2, none⟩ = some (.slice Ay mm dy) ∧ w'.cell? ⟨bq, oq + j, none⟩ = some (iV yt))) (by kernel_rfl) ?_ (fun hHeld => ?_)
      · exact KB.out _ (by (repeat (first | with_reducible assumption | with_reducible exact Ext.refl _ | with_reducible apply Ext.alloc | with_reducible apply Ext.drew)); first | done | fail)
      refine wpAnyH_take (i := 0) (v := ?_) (oper_at rfl) (by kernel_rfl) (by kernel_rfl) (by kernel_rfl) (fun _ _ _ h => h) (Or.inl ⟨by rfl, ?_⟩) hHeld ?_
      rotate_left
      · (intro ww hSw; (try dsimp only at hSw); go_simp; try (with_reducible rfl))
      try simp only [Act.put, List.setIfInBounds_toArray, List.set_cons_zero, List.set_cons_succ]
      refine wpAnyH_take (i := 1) (v := ?_) (oper_at rfl) (by kernel_rfl) (by kernel_rfl) (by kernel_rfl) (fun _ _ _ h => h) (Or.inl ⟨by rfl, ?_⟩) hHeld ?_
      rotate_left
      · (intro ww hSw; (try dsimp only at hSw); go_simp; try (with_reducible rfl))
      try simp only [Act.put, List.setIfInBounds_toArray, List.set_cons_zero, List.set_cons_succ]
      refine wpAnyH_take (i := 2) (v := ?_) (oper_at rfl) (by kernel_rfl) (by kernel_rfl) (by kernel_rfl) (fun _ _ _ h => h) (Or.inl ⟨by rfl, ?_⟩) hHeld ?_
      rotate_left
      · (intro ww hSw; (try dsimp only at hSw); go_simp; try (with_reducible rfl))
      try simp only [Act.put, List.setIfInBounds_toArray, List.set_cons_zero, List.set_cons_succ]
      refine wpAnyH_take (i := 3) (v := ?_) (oper_at rfl) (by kernel_rfl) (by kernel_rfl) (by kernel_rfl) (fun _ _ _ h => h) (Or.inl ⟨by rfl, ?_⟩) hHeld ?_
      rotate_left
      · (intro ww hSw; (try dsimp only at hSw); go_simp; try (with_reducible rfl))
      try simp only [Act.put, List.setIfInBounds_toArray, List.set_cons_zero, List.set_cons_succ]
      refine wpAnyH_take (i := 4) (v := ?_) (oper_at rfl) (by kernel_rfl) (by kernel_rfl) (by kernel_rfl) (fun _ _ _ h => h) (Or.inl ⟨by rfl, ?_⟩) hHeld ?_
      rotate_left
      · (intro ww hSw; (try dsimp only at hSw); go_simp; try (with_reducible rfl))
      try simp only [Act.put, List.setIfInBounds_toArray, List.set_cons_zero, List.set_cons_succ]
      refine wpAnyH_take (i := 5) (v := ?_) (oper_at rfl) (by kernel_rfl) (by kernel_rfl) (by kernel_rfl) (fun _ _ _ h => h) (Or.inl ⟨by rfl, ?_⟩) hHeld ?_
      rotate_left
      · (intro ww hSw; (try dsimp only at hSw); go_simp; try (with_reducible rfl))
      try simp only [Act.put, List.setIfInBounds_toArray, List.set_cons_zero, List.set_cons_succ]
      refine wpAnyH_take (i := 6) (v := ?_) (oper_at rfl) (by kernel_rfl) (by kernel_rfl) (by kernel_rfl) (fun _ _ _ h => h) (Or.inl ⟨by rfl, ?_⟩) hHeld ?_
      rotate_left
      · (intro ww hSw; (try dsimp only at hSw); go_simp; try (with_reducible rfl))
      try simp only [Act.put, List.setIfInBounds_toArray, List.set_cons_zero, List.set_cons_succ]
      refine wpAnyH_take (i := 7) (v := ?_) (oper_at rfl) (by kernel_rfl) (by kernel_rfl) (by kernel_rfl) (fun _ _ _ h => h) (Or.inl ⟨by rfl, ?_⟩) hHeld ?_
      rotate_left
      · (intro ww hSw; (try dsimp only at hSw); go_simp; try (with_reducible rfl))
      try simp only [Act.put, List.setIfInBounds_toArray, List.set_cons_zero, List.set_cons_succ]
      refine wpAnyH_take (i := 8) (v := ?_) (oper_at rfl) (by kernel_rfl) (by kernel_rfl) (by kernel_rfl) (fun _ _ _ h => h) (Or.inl ⟨by rfl, ?_⟩) hHeld ?_
      rotate_left
      · (intro ww hSw; (try dsimp only at hSw); go_simp; try (with_reducible rfl))
      try simp only [Act.put, List.setIfInBounds_toArray, List.set_cons_zero, List.set_cons_succ]
      refine wpAnyH_take (i := 9) (v := .bool false) (oper_at rfl) (by kernel_rfl) (by kernel_rfl) (by kernel_rfl) (fun _ _ _ h => h) (Or.inl ⟨by rfl, ?_⟩) hHeld ?_
      · (intro ww hSw; (try dsimp only at hSw); go_simp; try (with_reducible rfl))
      try simp only [Act.put, List.setIfInBounds_toArray, List.set_cons_zero, List.set_cons_succ]
      refine wpAnyH_take (i := 10) (v := .bool false) (oper_at rfl) (by kernel_rfl) (by kernel_rfl) (by kernel_rfl) (fun _ _ _ h => h) (Or.inl ⟨by rfl, ?_⟩) hHeld ?_
      · (intro ww hSw; (try dsimp only at hSw); go_simp; try (with_reducible rfl))
      try simp only [Act.put, List.setIfInBounds_toArray, List.set_cons_zero, List.set_cons_succ]
      refine wpAnyH_take (i := 11) (v := ?_) (oper_at rfl) (by kernel_rfl) (by kernel_rfl) (by kernel_rfl) (fun _ _ _ h => h) (Or.inl ⟨by rfl, ?_⟩) hHeld ?_
      rotate_left
      · (intro ww hSw; (try dsimp only at hSw); go_simp; try (with_reducible rfl))
      try simp only [Act.put, List.setIfInBounds_toArray, List.set_cons_zero, List.set_cons_succ]
      refine wpAnyH_take (i := 12) (v := ?_) (oper_at rfl) (by kernel_rfl) (by kernel_rfl) (by kernel_rfl) (fun _ _ _ h => h) (Or.inl ⟨by rfl, ?_⟩) hHeld ?_
      rotate_left
      · (intro ww hSw; (try dsimp only at hSw); go_simp; try (with_reducible rfl))
      try simp only [Act.put, List.setIfInBounds_toArray, List.set_cons_zero, List.set_cons_succ]
      refine wpAnyH_take (i := 13) (v := ?_) (oper_at rfl) (by kernel_rfl) (by kernel_rfl) (by kernel_rfl) (fun _ _ _ h => h) (Or.inl ⟨by rfl, ?_⟩) hHeld ?_
      rotate_left
      · (intro ww hSw; (try dsimp only at hSw); go_simp; try (with_reducible rfl))
      try simp only [Act.put, List.setIfInBounds_toArray, List.set_cons_zero, List.set_cons_succ]
      refine wpAnyH_take (i := 14) (v := ?_) (oper_at rfl) (by kernel_rfl) (by kernel_rfl) (by kernel_rfl) (fun _ _ _ h => h) (Or.inl ⟨by rfl, ?_⟩) hHeld ?_
      rotate_left
      · (intro ww hSw; (try dsimp only at hSw); go_simp; try (with_reducible rfl))
      try simp only [Act.put, List.setIfInBounds_toArray, List.set_cons_zero, List.set_cons_succ]
      refine wpAnyH_take (i := 15) (v := ?_) (oper_at rfl) (by kernel_rfl) (by kernel_rfl) (by kernel_rfl) (fun _ _ _ h => h) (Or.inl ⟨by rfl, ?_⟩) hHeld ?_
      rotate_left
      · (intro ww hSw; (try dsimp only at hSw); go_simp; try (with_reducible rfl))
      try simp only [Act.put, List.setIfInBounds_toArray, List.set_cons_zero, List.set_cons_succ]
      refine wpAnyH_take (i := 16) (v := ?_) (oper_at rfl) (by kernel_rfl) (by kernel_rfl) (by kernel_rfl) (fun _ _ _ h => h) (Or.inl ⟨by rfl, ?_⟩) hHeld ?_
      rotate_left
      · (intro ww hSw; (try dsimp only at hSw); go_simp; try (with_reducible rfl))
      try simp only [Act.put, List.setIfInBounds_toArray, List.set_cons_zero, List.set_cons_succ]
      refine wpAnyH_take (i := 17) (v := .bool false) (oper_at rfl) (by kernel_rfl) (by kernel_rfl) (by kernel_rfl) (fun _ _ _ h => h) (Or.inl ⟨by rfl, ?_⟩) hHeld ?_
      · (intro ww hSw; (try dsimp only at hSw); go_simp; try (with_reducible rfl))
      try simp only [Act.put, List.setIfInBounds_toArray, List.set_cons_zero, List.set_cons_succ]
      refine wpAnyH_take (i := 18) (v := .bool false) (oper_at rfl) (by kernel_rfl) (by kernel_rfl) (by kernel_rfl) (fun _ _ _ h => h) (Or.inl ⟨by rfl, ?_⟩) hHeld ?_
      · (intro ww hSw; (try dsimp only at hSw); go_simp; try (with_reducible rfl))
      try simp only [Act.put, List.setIfInBounds_toArray, List.set_cons_zero, List.set_cons_succ]
      refine wpAnyH_take (i := 19) (v := .bool false) (oper_at rfl) (by kernel_rfl) (by kernel_rfl) (by kernel_rfl) (fun _ _ _ h => h) (Or.inl ⟨by rfl, ?_⟩) hHeld ?_
      · (intro ww hSw; (try dsimp only at hSw); go_simp; try (with_reducible rfl))
      try simp only [Act.put, List.setIfInBounds_toArray, List.set_cons_zero, List.set_cons_succ]
      refine wpAnyH_take (i := 20) (v := ?_) (oper_at rfl) (by kernel_rfl) (by kernel_rfl) (by kernel_rfl) (fun _ _ _ h => h) (Or.inl ⟨by rfl, ?_⟩) hHeld ?_
      rotate_left
      · (intro ww hSw; (try dsimp only at hSw); go_simp; try (with_reducible rfl))
      try simp only [Act.put, List.setIfInBounds_toArray, List.set_cons_zero, List.set_cons_succ]
      refine wpAnyH_take (i := 21) (v := ?_) (oper_at rfl) (by kernel_rfl) (by kernel_rfl) (by kernel_rfl) (fun _ _ _ h => h) (Or.inl ⟨by rfl, ?_⟩) hHeld ?_
      rotate_left
      · (intro ww hSw; (try dsimp only at hSw); go_simp; try (with_reducible rfl))
      try simp only [Act.put, List.setIfInBounds_toArray, List.set_cons_zero, List.set_cons_succ]
      refine wpAnyH_take (i := 22) (v := ?_) (oper_at rfl) (by kernel_rfl) (by kernel_rfl) (by kernel_rfl) (fun _ _ _ h => h) (Or.inl ⟨by rfl, ?_⟩) hHeld ?_
      rotate_left
      · (intro ww hSw; (try dsimp only at hSw); go_simp; try (with_reducible rfl))
      try simp only [Act.put, List.setIfInBounds_toArray, List.set_cons_zero, List.set_cons_succ]
      refine wpAnyH_take (i := 23) (v := ?_) (oper_at rfl) (by kernel_rfl) (by kernel_rfl) (by kernel_rfl) (fun _ _ _ h => h) (Or.inl ⟨by rfl, ?_⟩) hHeld ?_
      rotate_left
      · (intro ww hSw; (try dsimp only at hSw); go_simp; try (with_reducible rfl))
      try simp only [Act.put, List.setIfInBounds_toArray, List.set_cons_zero, List.set_cons_succ]
      refine wpAnyH_take (i := 24) (v := ?_) (oper_at rfl) (by kernel_rfl) (by kernel_rfl) (by kernel_rfl) (fun _ _ _ h => h) (Or.inl ⟨by rfl, ?_⟩) hHeld ?_
      rotate_left
      · (intro ww hSw; (try dsimp only at hSw); go_simp; try (with_reducible rfl))
      try simp only [Act.put, List.setIfInBounds_toArray, List.set_cons_zero, List.set_cons_succ]
      refine wpAnyH_take (i := 25) (v := ?_) (oper_at rfl) (by kernel_rfl) (by kernel_rfl) (by kernel_rfl) (fun _ _ _ h => h) (Or.inl ⟨by rfl, ?_⟩) hHeld ?_
      rotate_left
      · (intro ww hSw; (try dsimp only at hSw); go_simp; try (with_reducible rfl))
      try simp only [Act.put, List.setIfInBounds_toArray, List.set_cons_zero, List.set_cons_succ]
      refine wpAnyH_ready (rs := [26]) (by kernel_rfl) (by simp) (AllReadyH.cons (oper_at rfl) (fun K hK => ?_) AllReadyH.nil)
      go_simp
      go_at_call 62
      refine (CA.out _ (by (repeat (first | with_reducible assumption | with_reducible exact Ext.refl _ | with_reducible apply Ext.alloc | with_reducible apply Ext.drew)); first | done | fail)).mono ?_
      rintro e5 w5 ⟨rfl, hE5⟩
      have hX5 : Ext wr w5 := Ext.trans (by (repeat (first | with_reducible assumption | with_reducible exact Ext.refl _ | with_reducible apply Ext.alloc | with_reducible apply Ext.drew)); first | done | fail) hE5
      have HX5 := Lib.hid hX5
      clear hE5
      refine hK.out _ _ ?_ (fun hHeld => ?_)
      · exact KB.out _ (by (repeat (first | with_reducible assumption | with_reducible exact Ext.refl _ | with_reducible apply Ext.alloc | with_reducible apply Ext.drew)); first | done | fail)
      clear hK K
      try simp only [Act.put, List.setIfInBounds_toArray, List.set_cons_zero, List.set_cons_succ]
      refine wpAnyH_take (i := 27) (v := .bool false) (oper_at rfl) (by kernel_rfl) (by kernel_rfl) (by kernel_rfl) (fun _ _ _ h => h) (Or.inl ⟨by rfl, ?_⟩) hHeld ?_
      · (intro ww hSw; (try dsimp only at hSw); go_simp; try (with_reducible rfl))
      try simp only [Act.put, List.setIfInBounds_toArray, List.set_cons_zero, List.set_cons_succ]
      refine wpAnyH_take (i := 28) (v := .bool false) (oper_at rfl) (by kernel_rfl) (by kernel_rfl) (by kernel_rfl) (fun _ _ _ h => h) (Or.inl ⟨by rfl, ?_⟩) hHeld ?_
      · (intro ww hSw; (try dsimp only at hSw); go_simp; try (with_reducible rfl))
      try simp only [Act.put, List.setIfInBounds_toArray, List.set_cons_zero, List.set_cons_succ]
      refine wpAnyH_done (by kernel_rfl) ?_ _
      refine NoPanic.normal ?_
      go_wp2_with fail
      exact ⟨⟨j + 1, by omega, by go_num, HX.out.trans HX5.out⟩, by simp [intOf]; omega⟩
    · obtain rfl : j = ts.length := by omega
      have B2 := Lib.hid b2
      have HRR := Lib.hid (HR3.out.ext HX.out)
      go_wp2_with fail
      generalize hwz : wr.setRow (w.heap.size + 2) _ = wz
      have hhz : ∀ i, i ≠ w.heap.size + 2 → wz.heap[i]? = wr.heap[i]? := fun i hi => by rw [← hwz]; exact setRow_other _ _ _ _ hi
      have bz : blkOf wz (w.heap.size + 2) = NV (.slice Al cs.length cl) (.slice Ah hs.length ch) y.s y.t y.d (.slice A2 y.ks.length c2) := by rw [← hwz]; exact blkOf_setRow_same (by rw [B2.out, NV_size])
      have hEz : Exc g r w wz := by rw [← hwz]; exact (HE1.out.trans (hX1.exc g r)).setRow (Nat.le_add_right _ 2) _
      have hRz : Row 4 wz B 58 (.slice A2 y.ks.length c2) (y.ks.map encK) := by rw [← hwz]; exact HRR.out.setFar (by rw [B2.out, NV_size]) _
      refine bodyPost_ret (res32b Tryz.results20 (g := w.heap.size + 2) rfl rfl bz NV_size) rfl ?_
      exact ⟨_, rfl, ⟨HN.out.to HN1.out hEz ((hhz g (Ne.symm ng2)).trans (hX1.block g hg1)) ((hhz r (Ne.symm nr2)).trans (hX1.block r (by omega))), HRC.out.exc hEz, HRH.out.exc hEz, hRz, Nat.lt_of_lt_of_le hgB hEz.size, Nat.lt_of_lt_of_le hrB hEz.size, Nat.le_trans hBw hEz.size⟩, hEz⟩
end Go.Proofs.YtehmpbaiefbemaaGreat
