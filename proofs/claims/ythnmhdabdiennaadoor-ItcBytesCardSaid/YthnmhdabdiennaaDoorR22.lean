/- The walk over the law's act: Join of a stamp with itself. -/
import Derived.Test.YthnmhdabdiennaaDoorR12
namespace Go.Proofs.YthnmhdabdiennaaDoor
open Go.RowKit
attribute [local go_sem ↓] Go.wp_at_zero Go.wp_at_succ
attribute [local go_sem ↓] ld36 ld34 ld38 st36 st38 st32 al36 al38 bu36 bu32 bu38 bs23
attribute [local go_sem] run_ld36 run_st36 run_al36 blkOf_drew blkOf_setRow_same blkOf_setRow_other RV_size run_bu36 blkOf_new blkOf_old
attribute [local go_sem] cellRow run_bu38 run_al38 run_st38 run_ld38 blkOf_setRow_same8 PV_size blkOf_new2' run_bs0 run_bs1 run_bs2
set_option maxRecDepth 100000 in
set_option maxHeartbeats 16000000 in
theorem act_join_same (k : Nat) (zs : List Z) (v : Value) (xk xa xb xp : Nat) (w : World) (h : PsAt w v zs) (hr : ∀ z ∈ zs, Rel k z.2.2) (hk : k ≤ 70) (hl : zs.length ≤ 100) (h0 : 0 < zs.length) (bk : xk < 256) (ba : xa < 256) (bb : xb < 256) (bp : xp < 256) (hk3 : xk % 5 = 3) (heq : Hid (xa % zs.length = xb % zs.length)) :
    Calls Tryd.prog 28 #[v, .agg #[.int .u8 (xk : Int), .int .u8 (xa : Int), .int .u8 (xb : Int), .int .u8 (xp : Int)], .bool false] w (RetAct k zs.length w) := by
  obtain ⟨⟨A, c, rfl, hlc, hcm, hR⟩, hZ⟩ := h
  unfold maxLen at hcm
  obtain ⟨g, rfl, hab, -⟩ := hR h0
  have PS : Hid (PsAt w (.slice (some ⟨g, 0, none⟩) zs.length c) zs) := Lib.hid ⟨⟨_, _, rfl, hlc, hcm, hR⟩, hZ⟩
  have HR := Lib.hid hR
  have HZ := Lib.hid hZ
  have HRL := Lib.hid hr
  clear hR hZ hr
  obtain ⟨n, hn⟩ : ∃ n, zs.length = n := ⟨_, rfl⟩
  obtain ⟨a, ha⟩ : ∃ a, xa % n = a := ⟨_, rfl⟩
  rw [hn, ha] at heq
  have hb := heq.out.symm
  have HN := Lib.hid hn
  rw [hn] at PS hl h0 hlc ⊢
  have an : a < n := by rw [← ha]; exact Nat.mod_lt _ h0
  have bn : a < n := an
  have ma : ((xa : Int)).tmod (n : Int) = (a : Int) := by rw [Int.tmod_eq_emod_of_nonneg (by omega), ← ha]; simp
  have mb : ((xb : Int)).tmod (n : Int) = (a : Int) := by rw [Int.tmod_eq_emod_of_nonneg (by omega), ← hb]; simp
  have wa : IntKind.i64.wrap (a : Int) = (a : Int) := IntWalk.i64_in _ (by omega)
  have wxa : IntKind.i64.wrap (xa : Int) = (xa : Int) := IntWalk.i64_in _ (by omega)
  have wxb : IntKind.i64.wrap (xb : Int) = (xb : Int) := IntWalk.i64_in _ (by omega)
  have nz : ((n : Int) == 0) = false := by simp; omega
  have nz' : ((n : Int) = 0) = False := by simp; omega
  clear ha hb hn heq bn
  go_enter Tryd.func28, Tryd.ntmps28
  go_wp2_with fail
  go_quiet (fail)
  clear ma mb wa wxa wxb
  go_upto_if 52 with (fail)
  generalize hW : (w.alloc (.cells #[.int .u8 (xk : Int), .int .u8 (xa : Int), .int .u8 (xb : Int), .int .u8 (xp : Int)] 49)).drewN nq = w0
  obtain ⟨E0, d0, d3, hg⟩ := letter4 hW
  clear hW
  have WO := Lib.hid (fun w' (hx : Ext w w') => without_any zs (.slice (some ⟨g, 0, none⟩) n c) a a w' (PS.out.ext hx) (by have := HN.out; omega))
  go_cut [11] (fun r wx => Rest zs w0 r wx)
  case first =>
    as_aux_lemma =>
      have HR0 : Hid (Rest zs w0 (.slice (some ⟨g, 0, none⟩) n c) w0) := Lib.hid ⟨zs, PS.out.ext E0, fun _ h => h, Nat.le_refl _, Ext.refl _⟩
      rcases Nat.mod_two_eq_zero_or_one xp with hp | hp
      · have tp : (((xp : Nat) : Int) % 2 == 0) = true := by simp; omega
        clear hp
        go_wp2_with fail
        refine (WO.out _ E0).mono ?_
        rintro e1 w1 ⟨v1, ys, rfl, h1, h2, h3, h4⟩
        go_wp2_with fail
        go_meet
        exact ⟨ys, h1, h2, h3, h4⟩
      · have tp : (((xp : Nat) : Int) % 2 == 0) = false := by simp; omega
        clear hp
        go_wp2_with fail
        go_meet
        exact HR0.out
  case rest =>
    obtain ⟨ys, hy1, hy2, hy3, hy4⟩ := hcut
    obtain ⟨wA, hwA⟩ : ∃ wA, wA = wc := ⟨_, rfl⟩
    subst hwA
    have EC := E0.trans hy4
    replace d0 := hy4.cell d0
    replace d3 := hy4.cell d3
    have zg := hy4.size
    have hzg : w.heap.size < wA.heap.size := by omega
    have HY1 := Lib.hid hy1
    have HY2 := Lib.hid hy2
    rw [HN.out] at hy3
    have al : a < zs.length := by rw [HN.out]; exact an
    obtain ⟨z, hza⟩ : ∃ z, zs[a]? = some z := ⟨_, List.getElem?_eq_getElem al⟩
    have HQ : Hid (∀ w', Ext wA w' → w'.cell? ⟨g, a * 514, none⟩ = some (.pointer z.1) ∧ w'.cell? ⟨g, a * 514 + 1, none⟩ = some (.pointer z.2.1) ∧ (ldS 36 (.pointer (some ⟨g, a * 514 + 2, none⟩))).run Tryd.prog w' = .ok (.agg (RV z.2.2.o z.2.2.s)) w') := Lib.hid (fun w' hx => ((HR.out.ext (EC.trans hx)).parts hza))
    have za := List.mem_of_getElem? hza
    have hp := Lib.hid ((HZ.out _ za).ext EC)
    have hr := Lib.hid (HRL.out _ za)
    have q1 : (0 : Int) ≤ (a : Int) := Int.natCast_nonneg _
    have q2 : (a : Int) < (n : Int) := by omega
    clear hy1 hy2 hy4 WO E0 hza za al hg
    obtain ⟨p, q, x⟩ := z
    simp only [] at hp hr HQ
    obtain ⟨c0, c1, c2⟩ := HQ.out wA (Ext.refl _)
    have tk0 : (((xk : Nat) : Int) % 5 == 0) = false := by simp; omega
    have tk3 : (((xk : Nat) : Int) % 5 == 3) = true := by simp; omega
    have tab : (((a : Nat) : Int) == ((a : Nat) : Int)) = true := by simp
    have KQ := Lib.hid (fun w' (hx : Ext wA w') => (⟨hx, (HQ.out w' hx).1, (HQ.out w' hx).2.1⟩ : Ext wA w' ∧ w'.cell? ⟨g, a * 514, none⟩ = some (.pointer p) ∧ w'.cell? ⟨g, a * 514 + 1, none⟩ = some (.pointer q)))
    have AN := Lib.hid (fun w' (hx : Ext wA w') => zanon x p q w' (hp.out.ext hx))
    have hga : g < wA.heap.size := by have := EC.size; omega
    cases hz : x.i.isZero with
    | true =>
      have JN := Lib.hid (fun w' (hx : Ext wA w') => zjoin k x x .zero p q p q w' (hp.out.ext hx) (hp.out.ext hx) hr.out hr.out (by omega) (hr.out.self.1 hz))
      rw [hz] at AN
      clear hz
      go_upto_region 15 with (fail)
      clear d0
      go_cut [21] (fun s21 wx => s21 = .int .i64 0 ∧ Ext wA wx)
      case first =>
        as_aux_lemma =>
          go_region_held3 (fun w' => Ext wA w' ∧ w'.cell? ⟨g, a * 514, none⟩ = some (.pointer p) ∧ w'.cell? ⟨g, a * 514 + 1, none⟩ = some (.pointer q))
            (refine KQ.out _ ?_ <;> repeat (first | assumption | exact Ext.refl _ | apply Ext.alloc | apply Ext.drew | apply Ext.drewN | (refine Ext.set ?_ (by first | exact Nat.le_refl _ | omega | (simp; done)) _)))
            ((go_at_call 14; go_split_ands; refine (JN.out _ (by assumption)).mono ?_; rintro e1 w1 ⟨p1, q1, rfl, hp1, hb1⟩; have HP1 := Lib.hid hp1; clear hp1; have hE1 : Ext wA w1 := Ext.trans (by assumption) hb1; obtain ⟨hcc, hff⟩ := hb1.both; have hz1 := hE1.size; (try (refine (fun (_ : wA.heap.size < w1.heap.size) => ?_) ?_; rotate_left; (have hzz := hb1.size; simp at hzz; omega)))))
          all_goals go_wp2_with fail
          all_goals go_meet
          all_goals first
            | exact ⟨rfl, hE1.alloc _⟩
            | exact ⟨rfl, (hE1.set (Nat.le_refl _) _).set (Nat.le_refl _) _⟩
      case rest =>
        as_aux_lemma =>
          obtain ⟨rfl, EB⟩ := hcut
          obtain ⟨wB, hwB⟩ : ∃ wB, wB = wc := ⟨_, rfl⟩
          subst hwB
          replace c0 := EB.cell c0
          replace c1 := EB.cell c1
          clear c2
          go_wp2_with fail
          refine (AN.out _ EB).mono ?_
          rintro e4 w4 ⟨rfl, hE4⟩
          go_wp2_with fail
          go_ret3
          have EE := EC.trans (EB.trans hE4)
          exact ⟨_, zs, true, rfl, PS.out.ext EE, fun z hz => (HRL.out z hz).mono (by omega), by rw [HN.out]; exact h0, by rw [HN.out]; omega, EE⟩
    | false =>
      have JN := Lib.hid (fun w' (hx : Ext wA w') => zjoin0 x x p q p q w' (hp.out.ext hx) (hp.out.ext hx) (hr.out.self.2 hz))
      rw [hz] at AN
      clear hz
      go_upto_region 15 with (fail)
      clear d0
      go_cut [21] (fun s21 wx => s21 = .int .i64 11 ∧ Ext wA wx)
      case first =>
        as_aux_lemma =>
          go_region_held3 (fun w' => Ext wA w' ∧ w'.cell? ⟨g, a * 514, none⟩ = some (.pointer p) ∧ w'.cell? ⟨g, a * 514 + 1, none⟩ = some (.pointer q))
            (refine KQ.out _ ?_ <;> repeat (first | assumption | exact Ext.refl _ | apply Ext.alloc | apply Ext.drew | apply Ext.drewN | (refine Ext.set ?_ (by first | exact Nat.le_refl _ | omega | (simp; done)) _)))
            ((go_at_call 14; go_split_ands; refine (JN.out _ (by assumption)).mono ?_; rintro e1 w1 ⟨p1, q1, rfl, hp1, hb1⟩; have HP1 := Lib.hid hp1; clear hp1; have hE1 : Ext wA w1 := Ext.trans (by assumption) hb1; obtain ⟨hcc, hff⟩ := hb1.both; have hz1 := hE1.size; (try (refine (fun (_ : wA.heap.size < w1.heap.size) => ?_) ?_; rotate_left; (have hzz := hb1.size; simp at hzz; omega)))))
          all_goals go_wp2_with fail
          all_goals go_meet
          all_goals first
            | exact ⟨rfl, hE1.alloc _⟩
            | exact ⟨rfl, (hE1.set (Nat.le_refl _) _).set (Nat.le_refl _) _⟩
      case rest =>
        as_aux_lemma =>
          obtain ⟨rfl, EB⟩ := hcut
          obtain ⟨wB, hwB⟩ : ∃ wB, wB = wc := ⟨_, rfl⟩
          subst hwB
          replace c0 := EB.cell c0
          replace c1 := EB.cell c1
          clear c2
          go_wp2_with fail
          refine (AN.out _ EB).mono ?_
          rintro e4 w4 ⟨rfl, hE4⟩
          go_wp2_with fail
          go_ret3
          have EE := EC.trans (EB.trans hE4)
          exact ⟨_, zs, true, rfl, PS.out.ext EE, fun z hz => (HRL.out z hz).mono (by omega), by rw [HN.out]; exact h0, by rw [HN.out]; omega, EE⟩
end Go.Proofs.YthnmhdabdiennaaDoor
