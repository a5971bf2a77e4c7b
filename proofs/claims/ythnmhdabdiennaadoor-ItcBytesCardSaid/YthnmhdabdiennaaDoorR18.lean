/- The walk over the law's act: Event. -/
import Derived.Test.YthnmhdabdiennaaDoorR12
namespace Go.Proofs.YthnmhdabdiennaaDoor
open Go.RowKit
attribute [local go_sem ↓] Go.wp_at_zero Go.wp_at_succ
attribute [local go_sem ↓] ld36 ld34 ld38 st36 st38 st32 al36 al38 bu36 bu32 bu38 bs23
attribute [local go_sem] run_ld36 run_st36 run_al36 blkOf_drew blkOf_setRow_same blkOf_setRow_other RV_size run_bu36 blkOf_new blkOf_old
attribute [local go_sem] cellRow run_bu38 run_al38 run_st38 run_ld38 blkOf_setRow_same8 PV_size blkOf_new2' run_bs0 run_bs1 run_bs2
set_option maxRecDepth 100000 in
set_option maxHeartbeats 16000000 in
theorem act_event (k : Nat) (zs : List Z) (v : Value) (xk xa xb xp : Nat) (w : World) (h : PsAt w v zs) (hr : ∀ z ∈ zs, Rel k z.2.2) (hk : k ≤ 70) (hl : zs.length ≤ 100) (h0 : 0 < zs.length) (bk : xk < 256) (ba : xa < 256) (bb : xb < 256) (bp : xp < 256) (hk0 : xk % 5 ≠ 0) (hk3 : xk % 5 ≠ 3) (hk4 : xk % 5 ≠ 4) :
    Calls Tryd.prog 28 #[v, .agg #[.int .u8 (xk : Int), .int .u8 (xa : Int), .int .u8 (xb : Int), .int .u8 (xp : Int)], .bool false] w (RetAct k zs.length w) := by
  obtain ⟨⟨A, c, rfl, hlc, hcm, hR⟩, hZ⟩ := h
  unfold maxLen at hcm
  obtain ⟨g, rfl, hab, -⟩ := hR h0
  have PS : Hid (PsAt w (.slice (some ⟨g, 0, none⟩) zs.length c) zs) := Lib.hid ⟨⟨_, _, rfl, hlc, hcm, hR⟩, hZ⟩
  have HR := Lib.hid hR
  have HZ := Lib.hid hZ
  have HRL := Lib.hid hr
  clear hR hZ hr
  obtain ⟨n, hn⟩ : ∃ n, zs.length = n := ⟨_, rfl⟩
  obtain ⟨a, ha⟩ : ∃ a, xa % n = a := ⟨_, rfl⟩
  obtain ⟨b, hb⟩ : ∃ b, xb % n = b := ⟨_, rfl⟩
  have HN := Lib.hid hn
  rw [hn] at PS hl h0 hlc ⊢
  have an : a < n := by rw [← ha]; exact Nat.mod_lt _ h0
  have bn : b < n := by rw [← hb]; exact Nat.mod_lt _ h0
  have ma : ((xa : Int)).tmod (n : Int) = (a : Int) := by rw [Int.tmod_eq_emod_of_nonneg (by omega), ← ha]; simp
  have mb : ((xb : Int)).tmod (n : Int) = (b : Int) := by rw [Int.tmod_eq_emod_of_nonneg (by omega), ← hb]; simp
  have wa : IntKind.i64.wrap (a : Int) = (a : Int) := IntWalk.i64_in _ (by omega)
  have wb : IntKind.i64.wrap (b : Int) = (b : Int) := IntWalk.i64_in _ (by omega)
  have wxa : IntKind.i64.wrap (xa : Int) = (xa : Int) := IntWalk.i64_in _ (by omega)
  have wxb : IntKind.i64.wrap (xb : Int) = (xb : Int) := IntWalk.i64_in _ (by omega)
  have nz : ((n : Int) == 0) = false := by simp; omega
  have nz' : ((n : Int) = 0) = False := by simp; omega
  clear ha hb hn
  go_enter Tryd.func28, Tryd.ntmps28
  go_wp2_with fail
  go_quiet (fail)
  clear ma mb wa wb wxa wxb
  go_upto_if 52 with (fail)
  generalize hW : (w.alloc (.cells #[.int .u8 (xk : Int), .int .u8 (xa : Int), .int .u8 (xb : Int), .int .u8 (xp : Int)] 49)).drewN nq = w0
  obtain ⟨E0, d0, d3, hg⟩ := letter4 hW
  clear hW
  have WO := Lib.hid (fun w' (hx : Ext w w') => without_any zs (.slice (some ⟨g, 0, none⟩) n c) a a w' (PS.out.ext hx) (by have := HN.out; omega))
  go_cut [11] (fun r wx => Rest zs w0 r wx)
  case first =>
    have HR0 : Hid (Rest zs w0 (.slice (some ⟨g, 0, none⟩) n c) w0) := Lib.hid ⟨zs, PS.out.ext E0, fun _ h => h, Nat.le_refl _, Ext.refl _⟩
    rcases Nat.mod_two_eq_zero_or_one xp with hp | hp
    · have tp : (((xp : Nat) : Int) % 2 == 0) = true := by simp; omega
      clear hp
      go_wp2_with fail
      refine (WO.out _ E0).mono ?_
      rintro e1 w1 ⟨v1, ys, rfl, h1, h2, h3, h4⟩
      go_wp2_with fail
      go_meet
      exact ⟨ys, h1, h2, h3, h4⟩
    · have tp : (((xp : Nat) : Int) % 2 == 0) = false := by simp; omega
      clear hp
      go_wp2_with fail
      go_meet
      exact HR0.out
  case rest =>
    obtain ⟨ys, hy1, hy2, hy3, hy4⟩ := hcut
    obtain ⟨wA, hwA⟩ : ∃ wA, wA = wc := ⟨_, rfl⟩
    subst hwA
    have EC := E0.trans hy4
    replace d0 := hy4.cell d0
    replace d3 := hy4.cell d3
    have zg := hy4.size
    have hzg : w.heap.size < wA.heap.size := by omega
    have HY1 := Lib.hid hy1
    have HY2 := Lib.hid hy2
    rw [HN.out] at hy3
    have al : a < zs.length := by rw [HN.out]; exact an
    obtain ⟨z, hza⟩ : ∃ z, zs[a]? = some z := ⟨_, List.getElem?_eq_getElem al⟩
    have HQ : Hid (∀ w', Ext wA w' → w'.cell? ⟨g, a * 514, none⟩ = some (.pointer z.1) ∧ w'.cell? ⟨g, a * 514 + 1, none⟩ = some (.pointer z.2.1) ∧ (ldS 36 (.pointer (some ⟨g, a * 514 + 2, none⟩))).run Tryd.prog w' = .ok (.agg (RV z.2.2.o z.2.2.s)) w') := Lib.hid (fun w' hx => ((HR.out.ext (EC.trans hx)).parts hza))
    have za := List.mem_of_getElem? hza
    have hp := Lib.hid ((HZ.out _ za).ext EC)
    have hr := Lib.hid (HRL.out _ za)
    have q1 : (0 : Int) ≤ (a : Int) := Int.natCast_nonneg _
    have q2 : (a : Int) < (n : Int) := by omega
    clear hy1 hy2 hy4 WO E0 hza za al hg
    obtain ⟨p, q, x⟩ := z
    simp only [] at hp hr HQ
    obtain ⟨c0, c1, c2⟩ := HQ.out wA (Ext.refl _)
    have tk0 : (((xk : Nat) : Int) % 5 == 0) = false := by simp; omega
    have tk3 : (((xk : Nat) : Int) % 5 == 3) = false := by simp; omega
    have tk4 : (((xk : Nat) : Int) % 5 == 4) = false := by simp; omega
    cases hz : x.i.isZero with
    | true =>
      have HC : Hid (cnt x.o 0 256 = 0) := Lib.hid (hr.out.cnt0.2 hz)
      go_wp2_with fail
      refine (zevent0 x p q wA hp.out hz).mono ?_
      rintro e1 w1 ⟨p1, q1, rfl, s1, hE1⟩
      have S1 := Lib.hid s1
      clear s1 hz
      go_upto_region 29 with (fail)
      generalize hW : w1.alloc (Obj.cells #[.pointer p1, .pointer q1] 31) = w2
      have E2 : Ext w1 w2 := by rw [← hW]; simp
      have a0 : w2.cell? ⟨w1.heap.size, 0, none⟩ = some (.pointer p1) := by rw [← hW]; exact new_at _ _ _ _ _ rfl
      have a1 : w2.cell? ⟨w1.heap.size, 1, none⟩ = some (.pointer q1) := by rw [← hW]; exact new_at _ _ _ _ _ rfl
      clear hW c0 c1 c2 d0 d3
      have L2 := (HQ.out w2 (hE1.trans E2)).2.2
      go_wp2_with fail
      refine (revent_any x.o x.s w2 (hr.out.big (by omega))).mono ?_
      clear L2
      rintro e3 w3 (⟨hc, rfl, hE3⟩ | ⟨hc, rfl, hE3⟩)
      case inr => exact absurd HC.out (by omega)
      have y1 := EC.size
      have y2 := hE1.size
      have y3 := E2.size
      have y4 := hE3.size
      replace a0 := hE3.cell a0
      replace a1 := hE3.cell a1
      have g1 : w1.heap.size < w3.heap.size := by have := World.block_lt_of_cell? w3 _ a0; exact this
      have g2 : w1.heap.size ≠ w3.heap.size := by omega
      clear hc
      go_wp2_with fail
      have X3 : Ext w1 ((w3.alloc (.cells RV0 36)).setRow w3.heap.size (RV x.o x.s)) := ((E2.trans hE3).alloc _).setRow (by omega) _
      refine (zequal0 p1 q1 _ (S1.out.1.ext X3) (S1.out.2.ext X3)).mono ?_
      rintro e4 w4 ⟨rfl, hE4⟩
      go_wp2_with fail
      go_ret3
      have EE := EC.trans (hE1.trans (X3.trans hE4))
      exact ⟨_, zs, true, rfl, PS.out.ext EE, fun z hz => (HRL.out z hz).mono (by omega), by rw [HN.out]; exact h0, by rw [HN.out]; omega, EE⟩
    | false =>
      have HC : Hid (0 < cnt x.o 0 256) := Lib.hid (by
        rcases Nat.eq_zero_or_pos (cnt x.o 0 256) with h | h
        · rw [hr.out.cnt0.1 h] at hz; cases hz
        · exact h)
      have RA := Lib.hid (hr.out.event hz)
      go_wp2_with fail
      refine (zevent k x p q wA hp.out hr.out (by omega) hz).mono ?_
      rintro e1 w1 ⟨p1, q1, rfl, s1, hE1⟩
      have S1 := Lib.hid s1
      clear s1 hz
      go_upto_region 29 with (fail)
      generalize hW : w1.alloc (Obj.cells #[.pointer p1, .pointer q1] 31) = w2
      have E2 : Ext w1 w2 := by rw [← hW]; simp
      have a0 : w2.cell? ⟨w1.heap.size, 0, none⟩ = some (.pointer p1) := by rw [← hW]; exact new_at _ _ _ _ _ rfl
      have a1 : w2.cell? ⟨w1.heap.size, 1, none⟩ = some (.pointer q1) := by rw [← hW]; exact new_at _ _ _ _ _ rfl
      clear hW c0 c1 c2 d0 d3
      have L2 := (HQ.out w2 (hE1.trans E2)).2.2
      go_wp2_with fail
      refine (revent_any x.o x.s w2 (hr.out.big (by omega))).mono ?_
      clear L2
      rintro e3 w3 (⟨hc, rfl, hE3⟩ | ⟨hc, rfl, hE3⟩)
      case inl => exact absurd HC.out (by omega)
      have y1 := EC.size
      have y2 := hE1.size
      have y3 := E2.size
      have y4 := hE3.size
      replace a0 := hE3.cell a0
      replace a1 := hE3.cell a1
      have g1 : w1.heap.size < w3.heap.size := by have := World.block_lt_of_cell? w3 _ a0; exact this
      have g2 : w1.heap.size ≠ w3.heap.size := by omega
      clear hc
      generalize eventR x.o x.s = s' at *
      go_upto_region 32 with (fail)
      generalize hW3 : (w3.alloc (.cells RV0 36)).setRow w3.heap.size (RV x.o s') = w4
      have t1 : blkOf w4 w3.heap.size = RV x.o s' := by rw [← hW3, blkOf_setRow_same (by rw [blkOf_new, RV_size])]
      have E4 : Ext w3 w4 := by rw [← hW3]; exact ((Ext.refl _).alloc _).setRow (by omega) _
      clear hW3
      have X4 := E2.trans (hE3.trans E4)
      replace a0 := E4.cell a0
      replace a1 := E4.cell a1
      have y5 := E4.size
      have g3 := blkOf_lt (w := w4) (g := w3.heap.size) (by rw [t1, RV_size]; decide)
      go_upto_region 33 with (fail)
      generalize hW5 : (w4.alloc (.cells PV0 38)).setRow w4.heap.size (PV p1 q1 x.o s') = w5
      have k1 : blkOf w5 w4.heap.size = PV p1 q1 x.o s' := by rw [← hW5, blkOf_setRow_same8 (by rw [blkOf_new, PV_size])]
      have E5 : Ext w4 w5 := by rw [← hW5]; exact ((Ext.refl _).alloc _).setRow (by omega) _
      clear hW5
      have X5 := X4.trans E5
      have XA := hE1.trans X5
      have l18 := blkOf_lt (w := w5) (g := w4.heap.size) (by rw [k1, PV_size]; decide)
      have y6 := E5.size
      clear a0 a1 t1 g1 g2 g3
      generalize w4.heap.size = h32 at *
      have PA := Lib.hid (fun w' (hx : Ext w5 w') => show PpAt w' p1 q1 ⟨x.i, eventT x.i x.t, x.o, s'⟩ from ⟨S1.out.1.ext (X5.trans hx), S1.out.2.ext (X5.trans hx)⟩)
      have SA := Lib.hid (fun w' (hx : Ext w5 w') => lsame_any (k + 1) ⟨x.i, eventT x.i x.t, x.o, s'⟩ p1 q1 w' (PA.out w' hx) RA.out (by omega))
      simp only [] at SA
      have HPS := Lib.hid (fun W (hx : Ext w5 W) => HY1.out.ext (XA.trans hx))
      clear S1 X4 X5 E4 E5 E2 hE3
      go_wp2_with fail
      go_region_held3 (fun w' => Ext w5 w' ∧ ∀ b, b < w5.heap.size → blkOf w' b = blkOf w5 b)
        (refine Ext.heldB ?_ <;> repeat (first | assumption | exact Ext.refl _ | apply Ext.alloc | apply Ext.drew | apply Ext.drewN))
        (first
          | (refine app_first (w5 := w5) (by rfl) (.tmp 260) (.tmp 261) (by rfl) (by rfl) (by repeat (first | assumption | exact Ext.refl _ | apply Ext.drew | apply Ext.drewN | apply Ext.alloc)) (by first | exact Nat.le_refl _ | exact Nat.le_succ _) (by first | exact heap_alloc_new _ _ | exact heap_alloc2_old _ _ _ | exact heap_alloc2_new _ _ _) (by rfl) (HPS.out _ (by repeat (first | assumption | exact Ext.refl _ | apply Ext.drew | apply Ext.drewN | apply Ext.alloc))) (by omega) ?_; intro v6 w6 hR6 hX6 hG6; (try have hnx : w6.heap[w5.heap.size + 1]? = some (.cells (PV p1 q1 x.o s') 38 (0, 0)) := heap_kept hG6 (heap_alloc2_new _ _ _) rfl (by simp)); (try have hnx : w6.heap[w5.heap.size]? = some (.cells (PV p1 q1 x.o s') 38 (0, 0)) := heap_kept hG6 (heap_alloc2_old _ _ _) rfl (by simp)))
          | (refine app_next (w5 := w5) (ys := ys) (news := [(p1, q1, ⟨x.i, eventT x.i x.t, x.o, s'⟩)]) (cs := (PV p1 q1 x.o s')) (by rfl) (.tmp 262) (.tmp 264) (by rfl) (by rfl) (by repeat (first | assumption | exact Ext.refl _ | apply Ext.drew | apply Ext.drewN | apply Ext.alloc)) (PRow.ext hR6 (by repeat (first | assumption | exact Ext.refl _ | apply Ext.drew | apply Ext.drewN | apply Ext.alloc))) (by rfl) (by first | exact heap_alloc_new _ _ | exact hnx) (flat1 _ _ _ _ _ _) (by simp) (by simp; omega) ?_; intro v7 w7 hR7 hX7)
          | (go_at_call 52; go_split_ands; (with_reducible refine (SA.out _ (by assumption)).mono ?_); rintro e8 w8 ⟨rfl, hb8⟩; have hE8 : Ext w5 w8 := Ext.trans (by assumption) hb8))
      all_goals go_wp2_with fail
      all_goals go_ret3
      all_goals
        refine fin_act (hR7.ext hb8) (((HPS.out _ (Ext.refl _)).ext hE8).zs) HY2.out HRL.out ?_ hy3 (by simp) ((EC.trans XA).trans hE8)
        intro z hz
        simp only [List.mem_cons, List.not_mem_nil, or_false] at hz
        obtain rfl := hz
        exact ⟨PA.out _ hE8, RA.out⟩
end Go.Proofs.YthnmhdabdiennaaDoor
