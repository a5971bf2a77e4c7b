/- The walk over the law's act: Fork. -/
import Derived.Test.YthnmhdabdiennaaDoorR12
namespace Go.Proofs.YthnmhdabdiennaaDoor
open Go.RowKit
attribute [local go_sem ↓] Go.wp_at_zero Go.wp_at_succ
attribute [local go_sem ↓] ld36 ld34 ld38 st36 st38 st32 al36 al38 bu36 bu32 bu38 bs23
attribute [local go_sem] run_ld36 run_st36 run_al36 blkOf_drew blkOf_setRow_same blkOf_setRow_other RV_size run_bu36 blkOf_new blkOf_old
attribute [local go_sem] cellRow run_bu38 run_al38 run_st38 run_ld38 blkOf_setRow_same8 PV_size blkOf_new2' run_bs0 run_bs1 run_bs2
set_option maxRecDepth 100000 in
set_option maxHeartbeats 16000000 in
theorem act_fork (k : Nat) (zs : List Z) (v : Value) (xk xa xb xp : Nat) (w : World) (h : PsAt w v zs) (hr : ∀ z ∈ zs, Rel k z.2.2) (hk : k ≤ 70) (hl : zs.length ≤ 100) (h0 : 0 < zs.length) (bk : xk < 256) (ba : xa < 256) (bb : xb < 256) (bp : xp < 256) (hk0 : xk % 5 = 0) :
    Calls Tryd.prog 28 #[v, .agg #[.int .u8 (xk : Int), .int .u8 (xa : Int), .int .u8 (xb : Int), .int .u8 (xp : Int)], .bool false] w (RetAct k zs.length w) := by
  obtain ⟨⟨A, c, rfl, hlc, hcm, hR⟩, hZ⟩ := h
  unfold maxLen at hcm
  obtain ⟨g, rfl, hab, -⟩ := hR h0
  have PS : Hid (PsAt w (.slice (some ⟨g, 0, none⟩) zs.length c) zs) := Lib.hid ⟨⟨_, _, rfl, hlc, hcm, hR⟩, hZ⟩
  have HR := Lib.hid hR
  have HZ := Lib.hid hZ
  have HRL := Lib.hid hr
  clear hR hZ hr
  obtain ⟨n, hn⟩ : ∃ n, zs.length = n := ⟨_, rfl⟩
  obtain ⟨a, ha⟩ : ∃ a, xa % n = a := ⟨_, rfl⟩
  obtain ⟨b, hb⟩ : ∃ b, xb % n = b := ⟨_, rfl⟩
  have HN := Lib.hid hn
  rw [hn] at PS hl h0 hlc ⊢
  have an : a < n := by rw [← ha]; exact Nat.mod_lt _ h0
  have bn : b < n := by rw [← hb]; exact Nat.mod_lt _ h0
  have ma : ((xa : Int)).tmod (n : Int) = (a : Int) := by rw [Int.tmod_eq_emod_of_nonneg (by omega), ← ha]; simp
  have mb : ((xb : Int)).tmod (n : Int) = (b : Int) := by rw [Int.tmod_eq_emod_of_nonneg (by omega), ← hb]; simp
  have wa : IntKind.i64.wrap (a : Int) = (a : Int) := IntWalk.i64_in _ (by omega)
  have wb : IntKind.i64.wrap (b : Int) = (b : Int) := IntWalk.i64_in _ (by omega)
  have wxa : IntKind.i64.wrap (xa : Int) = (xa : Int) := IntWalk.i64_in _ (by omega)
  have wxb : IntKind.i64.wrap (xb : Int) = (xb : Int) := IntWalk.i64_in _ (by omega)
  have nz : ((n : Int) == 0) = false := by simp; omega
  have nz' : ((n : Int) = 0) = False := by simp; omega
  clear ha hb hn
  go_enter Tryd.func28, Tryd.ntmps28
  go_wp2_with fail
  go_quiet (fail)
  clear ma mb wa wb wxa wxb
  go_upto_if 52 with (fail)
  generalize hW : (w.alloc (.cells #[.int .u8 (xk : Int), .int .u8 (xa : Int), .int .u8 (xb : Int), .int .u8 (xp : Int)] 49)).drewN nq = w0
  obtain ⟨E0, d0, d3, hg⟩ := letter4 hW
  clear hW
  have WO := Lib.hid (fun w' (hx : Ext w w') => without_any zs (.slice (some ⟨g, 0, none⟩) n c) a a w' (PS.out.ext hx) (by have := HN.out; omega))
  go_cut [11] (fun r wx => Rest zs w0 r wx)
  case first =>
    have HR0 : Hid (Rest zs w0 (.slice (some ⟨g, 0, none⟩) n c) w0) := Lib.hid ⟨zs, PS.out.ext E0, fun _ h => h, Nat.le_refl _, Ext.refl _⟩
    rcases Nat.mod_two_eq_zero_or_one xp with hp | hp
    · have tp : (((xp : Nat) : Int) % 2 == 0) = true := by simp; omega
      clear hp
      go_wp2_with fail
      refine (WO.out _ E0).mono ?_
      rintro e1 w1 ⟨v1, ys, rfl, h1, h2, h3, h4⟩
      go_wp2_with fail
      go_meet
      exact ⟨ys, h1, h2, h3, h4⟩
    · have tp : (((xp : Nat) : Int) % 2 == 0) = false := by simp; omega
      clear hp
      go_wp2_with fail
      go_meet
      exact HR0.out
  case rest =>
    obtain ⟨ys, hy1, hy2, hy3, hy4⟩ := hcut
    obtain ⟨wA, hwA⟩ : ∃ wA, wA = wc := ⟨_, rfl⟩
    subst hwA
    have EC := E0.trans hy4
    replace d0 := hy4.cell d0
    replace d3 := hy4.cell d3
    have zg := hy4.size
    have hzg : w.heap.size < wA.heap.size := by omega
    have HY1 := Lib.hid hy1
    have HY2 := Lib.hid hy2
    rw [HN.out] at hy3
    have al : a < zs.length := by rw [HN.out]; exact an
    obtain ⟨z, hza⟩ : ∃ z, zs[a]? = some z := ⟨_, List.getElem?_eq_getElem al⟩
    have HQ : Hid (∀ w', Ext wA w' → w'.cell? ⟨g, a * 514, none⟩ = some (.pointer z.1) ∧ w'.cell? ⟨g, a * 514 + 1, none⟩ = some (.pointer z.2.1) ∧ (ldS 36 (.pointer (some ⟨g, a * 514 + 2, none⟩))).run Tryd.prog w' = .ok (.agg (RV z.2.2.o z.2.2.s)) w') := Lib.hid (fun w' hx => ((HR.out.ext (EC.trans hx)).parts hza))
    have za := List.mem_of_getElem? hza
    have hp := Lib.hid ((HZ.out _ za).ext EC)
    have hr := Lib.hid (HRL.out _ za)
    have q1 : (0 : Int) ≤ (a : Int) := Int.natCast_nonneg _
    have q2 : (a : Int) < (n : Int) := by omega
    clear hy1 hy2 hy4 WO E0 hza za al hg
    obtain ⟨p, q, x⟩ := z
    simp only [] at hp hr HQ
    obtain ⟨c0, c1, c2⟩ := HQ.out wA (Ext.refl _)
    have tk : (((xk : Nat) : Int) % 5 == 0) = true := by simp; omega
    go_wp2_with fail
    refine (zfork k x p q wA hp.out hr.out).mono ?_
    rintro e1 w1 ⟨p1, q1, p2, q2, rfl, s1, s2, hE1⟩
    have S1 := Lib.hid s1
    have S2 := Lib.hid s2
    clear s1 s2
    go_upto_region 8 with (fail)
    generalize hW : (w1.alloc (Obj.cells #[.pointer p1, .pointer q1] 31)).alloc (Obj.cells #[.pointer p2, .pointer q2] 31) = w2
    obtain ⟨E2, a0, a1, b0, b1, z1, z0, -, -⟩ := letter22 hW
    clear hW c0 c1 c2 d0 d3
    have L2 := (HQ.out w2 (hE1.trans E2)).2.2
    go_wp2_with fail
    refine (rfork_any x.o x.s w2).mono ?_
    clear L2
    intro e3 w3 hFk
    rcases fk_cases hr.out hFk with ⟨oa, ob, ⟨rfl, hE3⟩, ra, rb⟩ | ⟨rfl, hE3⟩
    case inr =>
      clear hFk
      go_wp2_with fail
      go_ret3
      have EE : Ext w ((((w3.alloc (.cells RV0 36)).alloc (.cells RV0 36)).setRow w3.heap.size (RV x.o x.s)).setRow (w3.heap.size + 1) (RV x.o x.s)) :=
        ((((((EC.trans hE1).trans E2).trans hE3).alloc _).alloc _).setRow (by have := EC.size; have := hE1.size; have := E2.size; have := hE3.size; omega) _).setRow (by have := EC.size; have := hE1.size; have := E2.size; have := hE3.size; omega) _
      exact ⟨_, zs, false, rfl, PS.out.ext EE, fun z hz => (HRL.out z hz).mono (by omega), by rw [HN.out]; exact h0, by rw [HN.out]; omega, EE⟩
    clear hFk
    have RA := Lib.hid ra
    have RB := Lib.hid rb
    clear ra rb
    have y1 := EC.size
    have y2 := hE1.size
    have y3 := E2.size
    have y4 := hE3.size
    go_upto_region 11 with (fail)
    generalize hW3 : (((w3.alloc (.cells RV0 36)).alloc (.cells RV0 36)).setRow w3.heap.size (RV oa x.s)).setRow (w3.heap.size + 1) (RV ob x.s) = w4
    have t1 : blkOf w4 w3.heap.size = RV oa x.s := by
      rw [← hW3, blkOf_setRow_other (by omega), blkOf_setRow_same (by rw [blkOf_old (by simp), blkOf_new, RV_size])]
    have t2 : blkOf w4 (w3.heap.size + 1) = RV ob x.s := by
      rw [← hW3, blkOf_setRow_same (by rw [blkOf_setRow_other (by omega), blkOf_new2', RV_size])]
    have E4 : Ext w3 w4 := by rw [← hW3]; exact (((((Ext.refl _).alloc _).alloc _).setRow (by omega) _).setRow (by omega) _)
    clear hW3
    have y5 := E4.size
    have X4 := E2.trans (hE3.trans E4)
    have X24 := hE3.trans E4
    replace a0 := X24.cell a0
    replace a1 := X24.cell a1
    replace b0 := X24.cell b0
    replace b1 := X24.cell b1
    have g1 : w1.heap.size < w4.heap.size := by omega
    have g2 : w1.heap.size + 1 < w4.heap.size := by omega
    have g3 := blkOf_lt (w := w4) (g := w3.heap.size) (by rw [t1, RV_size]; decide)
    have g4 := blkOf_lt (w := w4) (g := w3.heap.size + 1) (by rw [t2, RV_size]; decide)
    clear X24
    have m1 : w3.heap.size < w4.heap.size + 1 := by omega
    have m2 : w3.heap.size + 1 < w4.heap.size + 1 := by omega
    have m3 : w3.heap.size ≠ w4.heap.size := by omega
    have m4 : w3.heap.size + 1 ≠ w4.heap.size := by omega
    have m5 : w3.heap.size ≠ w4.heap.size + 1 := by omega
    have m6 : w3.heap.size + 1 ≠ w4.heap.size + 1 := by omega
    have m7 : w1.heap.size < w4.heap.size + 1 := by omega
    have m8 : w1.heap.size + 1 < w4.heap.size + 1 := by omega
    have m9 : w1.heap.size ≠ w4.heap.size := by omega
    have m10 : w1.heap.size + 1 ≠ w4.heap.size := by omega
    have m11 : w1.heap.size ≠ w4.heap.size + 1 := by omega
    have m12 : w1.heap.size + 1 ≠ w4.heap.size + 1 := by omega
    go_cut [18, 19] (fun s18 s19 wx => ∃ h h' : Nat, s18 = .pointer (some ⟨h, 0, none⟩) ∧ s19 = .pointer (some ⟨h', 0, none⟩) ∧ TwoAt w4 h h' (PV p1 q1 oa x.s) (PV p2 q2 ob x.s) wx)
    case first =>
      go_region
      all_goals go_wp2_with fail
      all_goals go_meet
      · exact ⟨_, _, rfl, rfl, TwoAt.make (((Ext.refl _).alloc _).alloc _).drew (by rw [blkOf_drew, blkOf_old (by simp), blkOf_new, PV_size]) (by rw [blkOf_drew, blkOf_new2', PV_size]) (by omega) (by omega) (by omega)⟩
      · exact ⟨_, _, rfl, rfl, TwoAt.make (((Ext.refl _).alloc _).alloc _).drew (by rw [blkOf_drew, blkOf_new2', PV_size]) (by rw [blkOf_drew, blkOf_old (by simp), blkOf_new, PV_size]) (by omega) (by omega) (by omega)⟩
    case rest =>
      obtain ⟨h18, h19, rfl, rfl, E5, k1, k2⟩ := hcut
      obtain ⟨w5, hw5⟩ : ∃ w5, w5 = wc := ⟨_, rfl⟩
      subst hw5
      have X5 := X4.trans E5
      have XA := hE1.trans X5
      have y6 := E5.size
      have l18 := blkOf_lt (w := w5) (g := h18) (by rw [k1, PV_size]; decide)
      have l19 := blkOf_lt (w := w5) (g := h19) (by rw [k2, PV_size]; decide)
      clear a0 a1 b0 b1 t1 t2 g1 g2 g3 g4 m1 m2 m3 m4 m5 m6 m7 m8 m9 m10 m11 m12 z0 z1
      have PA := Lib.hid (fun w' (hx : Ext w5 w') => show PpAt w' p1 q1 ⟨x.i.split.1, x.t, oa, x.s⟩ from ⟨S1.out.1.ext (X5.trans hx), S1.out.2.ext (X5.trans hx)⟩)
      have PB := Lib.hid (fun w' (hx : Ext w5 w') => show PpAt w' p2 q2 ⟨x.i.split.2, x.t, ob, x.s⟩ from ⟨S2.out.1.ext (X5.trans hx), S2.out.2.ext (X5.trans hx)⟩)
      have SA := Lib.hid (fun w' (hx : Ext w5 w') => lsame_any k ⟨x.i.split.1, x.t, oa, x.s⟩ p1 q1 w' (PA.out w' hx) RA.out (by omega))
      have SB := Lib.hid (fun w' (hx : Ext w5 w') => lsame_any k ⟨x.i.split.2, x.t, ob, x.s⟩ p2 q2 w' (PB.out w' hx) RB.out (by omega))
      simp only [] at SA SB
      have HPS := Lib.hid (fun W (hx : Ext w5 W) => HY1.out.ext (XA.trans hx))
      clear S1 S2 X4 X5 E4 E5 E2 hE3
      go_wp2_with fail
      go_region_held3 (fun w' => Ext w5 w' ∧ ∀ b, b < w5.heap.size → blkOf w' b = blkOf w5 b)
        (refine Ext.heldB ?_ <;> repeat (first | assumption | exact Ext.refl _ | apply Ext.alloc | apply Ext.drew | apply Ext.drewN))
        (first
          | (refine app_first (w5 := w5) (by rfl) (.tmp 91) (.tmp 92) (by rfl) (by rfl) (by repeat (first | assumption | exact Ext.refl _ | apply Ext.drew | apply Ext.drewN | apply Ext.alloc)) (by first | exact Nat.le_refl _ | exact Nat.le_succ _) (by first | exact heap_alloc_new _ _ | exact heap_alloc2_old _ _ _ | exact heap_alloc2_new _ _ _) (by rfl) (HPS.out _ (by repeat (first | assumption | exact Ext.refl _ | apply Ext.drew | apply Ext.drewN | apply Ext.alloc))) (by omega) ?_; intro v6 w6 hR6 hX6 hG6; (try have hnx : w6.heap[w5.heap.size + 1]? = some (.cells (PV p1 q1 oa x.s ++ PV p2 q2 ob x.s) 38 (0, 0)) := heap_kept hG6 (heap_alloc2_new _ _ _) rfl (by simp)); (try have hnx : w6.heap[w5.heap.size]? = some (.cells (PV p1 q1 oa x.s ++ PV p2 q2 ob x.s) 38 (0, 0)) := heap_kept hG6 (heap_alloc2_old _ _ _) rfl (by simp)))
          | (refine app_next (w5 := w5) (ys := ys) (news := [(p1, q1, ⟨x.i.split.1, x.t, oa, x.s⟩), (p2, q2, ⟨x.i.split.2, x.t, ob, x.s⟩)]) (cs := (PV p1 q1 oa x.s ++ PV p2 q2 ob x.s)) (by rfl) (.tmp 93) (.tmp 96) (by rfl) (by rfl) (by repeat (first | assumption | exact Ext.refl _ | apply Ext.drew | apply Ext.drewN | apply Ext.alloc)) (PRow.ext hR6 (by repeat (first | assumption | exact Ext.refl _ | apply Ext.drew | apply Ext.drewN | apply Ext.alloc))) (by rfl) (by first | exact heap_alloc_new _ _ | exact hnx) (flat2 _ _ _ _ _ _ _ _ _ _ _ _) (by simp) (by simp; omega) ?_; intro v7 w7 hR7 hX7)
          | (go_at_call 52; go_split_ands; (with_reducible refine (SA.out _ (by assumption)).mono ?_); rintro e8 w8 ⟨rfl, hb8⟩; have hE8 : Ext w5 w8 := Ext.trans (by assumption) hb8)
          | (go_at_call 52; go_split_ands; (with_reducible refine (SB.out _ (by assumption)).mono ?_); rintro e9 w9 ⟨rfl, hb9⟩; have hE9 : Ext w5 w9 := Ext.trans (by assumption) hb9))
      all_goals go_wp2_with fail
      all_goals go_ret3
      all_goals
        refine fin_act (hR7.ext (hb8.trans hb9)) (((HPS.out _ (Ext.refl _)).ext hE9).zs) HY2.out HRL.out ?_ hy3 (by simp) ((EC.trans XA).trans hE9)
        intro z hz
        simp only [List.mem_cons, List.not_mem_nil, or_false] at hz
        rcases hz with rfl | rfl
        · exact ⟨PA.out _ hE9, RA.out.mono (by omega)⟩
        · exact ⟨PB.out _ hE9, RB.out.mono (by omega)⟩
end Go.Proofs.YthnmhdabdiennaaDoor
