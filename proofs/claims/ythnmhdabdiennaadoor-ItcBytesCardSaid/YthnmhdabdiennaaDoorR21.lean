/- The walk over the law's act: Join. -/
import Derived.Test.YthnmhdabdiennaaDoorR20
namespace Go.Proofs.YthnmhdabdiennaaDoor
open Go.RowKit
attribute [local go_sem ↓] Go.wp_at_zero Go.wp_at_succ
attribute [local go_sem ↓] ld36 ld34 ld38 st36 st38 st32 al36 al38 bu36 bu32 bu38 bs23
attribute [local go_sem] run_ld36 run_st36 run_al36 blkOf_drew blkOf_setRow_same blkOf_setRow_other RV_size run_bu36 blkOf_new blkOf_old
attribute [local go_sem] cellRow run_bu38 run_al38 run_st38 run_ld38 blkOf_setRow_same8 PV_size blkOf_new2' run_bs0 run_bs1 run_bs2
set_option maxRecDepth 100000 in
set_option maxHeartbeats 16000000 in
theorem act_join_some (k : Nat) (zs : List Z) (v : Value) (xk xa xb xp : Nat) (w : World) (h : PsAt w v zs) (hr : ∀ z ∈ zs, Rel k z.2.2) (hk : k ≤ 70) (hl : zs.length ≤ 100) (h0 : 0 < zs.length) (bk : xk < 256) (ba : xa < 256) (bb : xb < 256) (bp : xp < 256) (hk3 : xk % 5 = 3) (hne : Hid (xa % zs.length ≠ xb % zs.length)) (zz : IdT) (hsum : Hid (∀ (y y' : Z), zs[xa % zs.length]? = some y → zs[xb % zs.length]? = some y' → y.2.2.i.sum y'.2.2.i = some zz)) :
    Calls Tryd.prog 28 #[v, .agg #[.int .u8 (xk : Int), .int .u8 (xa : Int), .int .u8 (xb : Int), .int .u8 (xp : Int)], .bool false] w (RetAct k zs.length w) := by
  obtain ⟨⟨A, c, rfl, hlc, hcm, hR⟩, hZ⟩ := h
  unfold maxLen at hcm
  obtain ⟨g, rfl, hab, -⟩ := hR h0
  have PS : Hid (PsAt w (.slice (some ⟨g, 0, none⟩) zs.length c) zs) := Lib.hid ⟨⟨_, _, rfl, hlc, hcm, hR⟩, hZ⟩
  have HR := Lib.hid hR
  have HZ := Lib.hid hZ
  have HRL := Lib.hid hr
  clear hR hZ hr
  obtain ⟨n, hn⟩ : ∃ n, zs.length = n := ⟨_, rfl⟩
  rw [hn] at hne hsum
  obtain ⟨a, ha⟩ : ∃ a, xa % n = a := ⟨_, rfl⟩
  obtain ⟨b, hb⟩ : ∃ b, xb % n = b := ⟨_, rfl⟩
  rw [ha, hb] at hne hsum
  have HN := Lib.hid hn
  rw [hn] at PS hl h0 hlc ⊢
  have an : a < n := by rw [← ha]; exact Nat.mod_lt _ h0
  have bn : b < n := by rw [← hb]; exact Nat.mod_lt _ h0
  have ma : ((xa : Int)).tmod (n : Int) = (a : Int) := by rw [Int.tmod_eq_emod_of_nonneg (by omega), ← ha]; simp
  have mb : ((xb : Int)).tmod (n : Int) = (b : Int) := by rw [Int.tmod_eq_emod_of_nonneg (by omega), ← hb]; simp
  have wa : IntKind.i64.wrap (a : Int) = (a : Int) := IntWalk.i64_in _ (by omega)
  have wb : IntKind.i64.wrap (b : Int) = (b : Int) := IntWalk.i64_in _ (by omega)
  have wxa : IntKind.i64.wrap (xa : Int) = (xa : Int) := IntWalk.i64_in _ (by omega)
  have wxb : IntKind.i64.wrap (xb : Int) = (xb : Int) := IntWalk.i64_in _ (by omega)
  have nz : ((n : Int) == 0) = false := by simp; omega
  have nz' : ((n : Int) = 0) = False := by simp; omega
  clear ha hb hn
  go_enter Tryd.func28, Tryd.ntmps28
  go_wp2_with fail
  go_quiet (fail)
  clear ma mb wa wb wxa wxb
  go_upto_if 52 with (fail)
  generalize hW : (w.alloc (.cells #[.int .u8 (xk : Int), .int .u8 (xa : Int), .int .u8 (xb : Int), .int .u8 (xp : Int)] 49)).drewN nq = w0
  obtain ⟨E0, d0, d3, hg⟩ := letter4 hW
  clear hW
  have WO := Lib.hid (fun w' (hx : Ext w w') => without_any zs (.slice (some ⟨g, 0, none⟩) n c) a a w' (PS.out.ext hx) (by have := HN.out; omega))
  go_cut [11] (fun r wx => Rest zs w0 r wx)
  case first =>
    as_aux_lemma =>
      have HR0 : Hid (Rest zs w0 (.slice (some ⟨g, 0, none⟩) n c) w0) := Lib.hid ⟨zs, PS.out.ext E0, fun _ h => h, Nat.le_refl _, Ext.refl _⟩
      rcases Nat.mod_two_eq_zero_or_one xp with hp | hp
      · have tp : (((xp : Nat) : Int) % 2 == 0) = true := by simp; omega
        clear hp
        go_wp2_with fail
        refine (WO.out _ E0).mono ?_
        rintro e1 w1 ⟨v1, ys, rfl, h1, h2, h3, h4⟩
        go_wp2_with fail
        go_meet
        exact ⟨ys, h1, h2, h3, h4⟩
      · have tp : (((xp : Nat) : Int) % 2 == 0) = false := by simp; omega
        clear hp
        go_wp2_with fail
        go_meet
        exact HR0.out
  case rest =>
    obtain ⟨ys, hy1, hy2, hy3, hy4⟩ := hcut
    obtain ⟨wA, hwA⟩ : ∃ wA, wA = wc := ⟨_, rfl⟩
    subst hwA
    have EC := E0.trans hy4
    replace d0 := hy4.cell d0
    replace d3 := hy4.cell d3
    have zg := hy4.size
    have hzg : w.heap.size < wA.heap.size := by omega
    have HY1 := Lib.hid hy1
    have HY2 := Lib.hid hy2
    rw [HN.out] at hy3
    have al : a < zs.length := by rw [HN.out]; exact an
    obtain ⟨z, hza⟩ : ∃ z, zs[a]? = some z := ⟨_, List.getElem?_eq_getElem al⟩
    have HQ : Hid (∀ w', Ext wA w' → w'.cell? ⟨g, a * 514, none⟩ = some (.pointer z.1) ∧ w'.cell? ⟨g, a * 514 + 1, none⟩ = some (.pointer z.2.1) ∧ (ldS 36 (.pointer (some ⟨g, a * 514 + 2, none⟩))).run Tryd.prog w' = .ok (.agg (RV z.2.2.o z.2.2.s)) w') := Lib.hid (fun w' hx => ((HR.out.ext (EC.trans hx)).parts hza))
    have za := List.mem_of_getElem? hza
    have hp := Lib.hid ((HZ.out _ za).ext EC)
    have hr := Lib.hid (HRL.out _ za)
    have q1 : (0 : Int) ≤ (a : Int) := Int.natCast_nonneg _
    have q2 : (a : Int) < (n : Int) := by omega
    clear hy1 hy2 hy4 WO E0 za al hg
    obtain ⟨p, q, x⟩ := z
    simp only [] at hp hr HQ
    obtain ⟨c0, c1, c2⟩ := HQ.out wA (Ext.refl _)
    have bl : b < zs.length := by rw [HN.out]; exact bn
    obtain ⟨z', hzb⟩ : ∃ z, zs[b]? = some z := ⟨_, List.getElem?_eq_getElem bl⟩
    have HQ' : Hid (∀ w', Ext wA w' → w'.cell? ⟨g, b * 514, none⟩ = some (.pointer z'.1) ∧ w'.cell? ⟨g, b * 514 + 1, none⟩ = some (.pointer z'.2.1) ∧ (ldS 36 (.pointer (some ⟨g, b * 514 + 2, none⟩))).run Tryd.prog w' = .ok (.agg (RV z'.2.2.o z'.2.2.s)) w') := Lib.hid (fun w' hx => ((HR.out.ext (EC.trans hx)).parts hzb))
    have zb := List.mem_of_getElem? hzb
    have hp' := Lib.hid ((HZ.out _ zb).ext EC)
    have hr' := Lib.hid (HRL.out _ zb)
    have q3 : (0 : Int) ≤ (b : Int) := Int.natCast_nonneg _
    have q4 : (b : Int) < (n : Int) := by omega
    have hga : g < wA.heap.size := by have := EC.size; omega
    clear zb bl
    have hs := hsum.out _ _ hza hzb
    clear hza hzb hsum
    simp only [] at hs
    obtain ⟨p', q', x'⟩ := z'
    simp only [] at hp' hr' HQ'
    have tk0 : (((xk : Nat) : Int) % 5 == 0) = false := by simp; omega
    have tk3 : (((xk : Nat) : Int) % 5 == 3) = true := by simp; omega
    have KQ := Lib.hid (fun w' (hx : Ext wA w') => (⟨hx, (HQ.out w' hx).1, (HQ.out w' hx).2.1, (HQ'.out w' hx).1, (HQ'.out w' hx).2.1⟩ : Ext wA w' ∧ w'.cell? ⟨g, a * 514, none⟩ = some (.pointer p) ∧ w'.cell? ⟨g, a * 514 + 1, none⟩ = some (.pointer q) ∧ w'.cell? ⟨g, b * 514, none⟩ = some (.pointer p') ∧ w'.cell? ⟨g, b * 514 + 1, none⟩ = some (.pointer q')))
    have tab := beqF hne.out
    obtain ⟨e0, e1, e2⟩ := HQ'.out wA (Ext.refl _)
    have CL : Hid (¬ Clash x.o x'.o) := Lib.hid (fun h => by rw [(hr.out.clash hr'.out).2 h] at hs; cases hs)
    have JN := Lib.hid (fun w' (hx : Ext wA w') => zjoin k x x' zz p q p' q' w' (hp.out.ext hx) (hp'.out.ext hx) hr.out hr'.out (by omega) hs)
    have RJ := Lib.hid (fun w' => (rjoin_any x.o x'.o x.s x'.s w' (hr.out.big (by omega)).u (hr'.out.big (by omega)).u).mono fun e w'' h => show RetRB (fun j => x.o j || x'.o j) (fun j => max (x.s j) (x'.s j)) true w' e w'' from h.elim (fun h => absurd h.1 CL.out) (fun h => h.2))
    have RA := Lib.hid (hr.out.join hr'.out hs)
    clear hs
    generalize (fun j => x.o j || x'.o j) = oj at *
    generalize (fun j => max (x.s j) (x'.s j)) = sj at *
    go_upto_region 17 with (fail)
    clear d0
    go_cut [22, 23] (fun s22 s23 wx => ∃ (h : Nat) (qa qb : Option Addr), s22 = .pointer (some ⟨h, 0, none⟩) ∧ s23 = .int .i64 0 ∧ JBox wA h qa qb zz (mergeF 16 x.t x'.t) wx)
    case first =>
      as_aux_lemma =>
        go_region_held3 (fun w' => Ext wA w' ∧ w'.cell? ⟨g, a * 514, none⟩ = some (.pointer p) ∧ w'.cell? ⟨g, a * 514 + 1, none⟩ = some (.pointer q) ∧ w'.cell? ⟨g, b * 514, none⟩ = some (.pointer p') ∧ w'.cell? ⟨g, b * 514 + 1, none⟩ = some (.pointer q'))
          (refine KQ.out _ ?_ <;> repeat (first | assumption | exact Ext.refl _ | apply Ext.alloc | apply Ext.drew | apply Ext.drewN | (refine Ext.set ?_ (by first | exact Nat.le_refl _ | omega | (simp; done)) _)))
          ((go_at_call 14; go_split_ands; refine (JN.out _ (by assumption)).mono ?_; rintro e1 w1 ⟨p1, q1, rfl, hp1, hb1⟩; have HP1 := Lib.hid hp1; clear hp1; have hE1 : Ext wA w1 := Ext.trans (by assumption) hb1; obtain ⟨hcc, hff⟩ := hb1.both; have hz1 := hE1.size; (try (refine (fun (_ : wA.heap.size < w1.heap.size) => ?_) ?_; rotate_left; (have hzz := hb1.size; simp at hzz; omega)))))
        all_goals go_wp2_with fail
        all_goals go_meet
        all_goals first
          | exact ⟨_, p1, q1, rfl, rfl, hE1.alloc _, new_at _ _ _ _ _ rfl, new_at _ _ _ _ _ rfl, HP1.out.1.ext ((Ext.refl _).alloc _), HP1.out.2.ext ((Ext.refl _).alloc _)⟩
          | (have BL := box_late2 hb1 HP1.out; exact ⟨_, p1, q1, rfl, rfl, BL.1, BL.2.1, BL.2.2.1, BL.2.2.2⟩)
    case rest =>
      obtain ⟨h22, qa, qb, rfl, rfl, EB, a0, a1, hst⟩ := hcut
      obtain ⟨wB, hwB⟩ : ∃ wB, wB = wc := ⟨_, rfl⟩
      subst hwB
      have HST := Lib.hid hst
      clear hst c0 c1 c2 e0 e1 e2
      replace d3 := EB.cell d3
      have KB := Lib.hid (fun w' (hx : Ext wB w') => (⟨hx, (HQ.out w' (EB.trans hx)).2.2, (HQ'.out w' (EB.trans hx)).2.2⟩ : Ext wB w' ∧ (ldS 36 (.pointer (some ⟨g, a * 514 + 2, none⟩))).run Tryd.prog w' = .ok (.agg (RV x.o x.s)) w' ∧ (ldS 36 (.pointer (some ⟨g, b * 514 + 2, none⟩))).run Tryd.prog w' = .ok (.agg (RV x'.o x'.s)) w'))
      have yB := EB.size
      have l22 : h22 < wB.heap.size := World.block_lt_of_cell? wB _ a0
      go_upto_region 18 with (fail)
      go_cut [24, 25] (fun s24 s25 wx => ∃ h : Nat, s24 = .pointer (some ⟨h, 0, none⟩) ∧ s25 = .bool true ∧ RBox wB h oj sj wx)
      case first =>
        as_aux_lemma =>
          go_region_held3 (fun w' => Ext wB w' ∧ (ldS 36 (.pointer (some ⟨g, a * 514 + 2, none⟩))).run Tryd.prog w' = .ok (.agg (RV x.o x.s)) w' ∧ (ldS 36 (.pointer (some ⟨g, b * 514 + 2, none⟩))).run Tryd.prog w' = .ok (.agg (RV x'.o x'.s)) w')
            (refine KB.out _ ?_ <;> repeat (first | assumption | exact Ext.refl _ | apply Ext.alloc | apply Ext.drew | apply Ext.drewN | (refine Ext.setRow ?_ (by first | exact Nat.le_refl _ | omega | (simp; done)) _)))
            ((go_at_call 53; go_split_ands; refine (RJ.out _).mono ?_; rintro e2 w2 ⟨rfl, hb2⟩; have hE2 : Ext wB w2 := Ext.trans (by assumption) hb2; have hB2 := hb2.heldB.2; have hz2 := hE2.size; (try (refine (fun (_ : wB.heap.size < w2.heap.size) => ?_) ?_; rotate_left; (have hzz := hb2.size; simp at hzz; omega)))))
          all_goals go_wp2_with fail
          all_goals go_meet
          all_goals first
            | exact ⟨_, rfl, rfl, RBox.soon hE2⟩
            | exact ⟨_, rfl, rfl, RBox.late hb2⟩
      case rest =>
        obtain ⟨h24, rfl, rfl, ED, ld, k24⟩ := hcut
        obtain ⟨wD, hwD⟩ : ∃ wD, wD = wc := ⟨_, rfl⟩
        subst hwD
        replace a0 := ED.cell a0
        replace a1 := ED.cell a1
        replace d3 := ED.cell d3
        have yD := ED.size
        have l24 := blkOf_lt (w := wD) (g := h24) (by rw [k24, RV_size]; decide)
        have WO := Lib.hid (fun w' (hx : Ext w w') => without_any zs (.slice (some ⟨g, 0, none⟩) n c) a b w' (PS.out.ext hx) (by have := HN.out; omega))
        have XD := EC.trans (EB.trans ED)
        go_upto_if 181 with (fail)
        go_cut [11] (fun r wx => Rest zs wD r wx)
        case first =>
          as_aux_lemma =>
            have HR0 : Hid (Rest zs wD u11 wD) := Lib.hid ⟨ys, HY1.out.ext (EB.trans ED), HY2.out, by rw [HN.out]; exact hy3, Ext.refl _⟩
            rcases Nat.mod_two_eq_zero_or_one xp with hp2 | hp2
            · have tp : (((xp : Nat) : Int) % 2 == 0) = true := by simp; omega
              clear hp2
              go_wp2_with fail
              refine (WO.out _ XD).mono ?_
              rintro e1 w1 ⟨v1, yz, rfl, h1, h2, h3, h4⟩
              go_wp2_with fail
              go_meet
              exact ⟨yz, h1, h2, h3, h4⟩
            · have tp : (((xp : Nat) : Int) % 2 == 0) = false := by simp; omega
              clear hp2
              go_wp2_with fail
              go_meet
              exact HR0.out
        case rest =>
          obtain ⟨yz, hy1', hy2', hy3', hy4'⟩ := hcut
          obtain ⟨wE, hwE⟩ : ∃ wE, wE = wc := ⟨_, rfl⟩
          subst hwE
          have HY1' := Lib.hid hy1'
          have HY2' := Lib.hid hy2'
          rw [HN.out] at hy3'
          have yE := hy4'.size
          replace a0 := hy4'.cell a0
          replace a1 := hy4'.cell a1
          rw [← blkOf_ext hy4' (by omega)] at k24
          have EE := hy4'
          clear hy1' hy2' hy4' WO
          go_upto_region 24 with (fail)
          generalize hW5 : (wE.alloc (.cells PV0 38)).setRow wE.heap.size (PV qa qb oj sj) = w5
          have k1 : blkOf w5 wE.heap.size = PV qa qb oj sj := by rw [← hW5, blkOf_setRow_same8 (by rw [blkOf_new, PV_size])]
          have E5 : Ext wE w5 := by rw [← hW5]; exact ((Ext.refl _).alloc _).setRow (by omega) _
          clear hW5
          have X5 := ED.trans (EE.trans E5)
          have XW := XD.trans (EE.trans E5)
          have l18 := blkOf_lt (w := w5) (g := wE.heap.size) (by rw [k1, PV_size]; decide)
          clear a0 a1 k24
          generalize wE.heap.size = h26 at *
          have PA := Lib.hid (fun w' (hx : Ext w5 w') => show PpAt w' qa qb ⟨zz, mergeF 16 x.t x'.t, oj, sj⟩ from ⟨HST.out.1.ext (X5.trans hx), HST.out.2.ext (X5.trans hx)⟩)
          have SA := Lib.hid (fun w' (hx : Ext w5 w') => lsame_any k ⟨zz, mergeF 16 x.t x'.t, oj, sj⟩ qa qb w' (PA.out w' hx) RA.out (by omega))
          simp only [] at SA
          have HPS := Lib.hid (fun W (hx : Ext w5 W) => HY1'.out.ext (E5.trans hx))
          go_wp2_with fail
          go_region_held3 (fun w' => Ext w5 w' ∧ ∀ b, b < w5.heap.size → blkOf w' b = blkOf w5 b)
            (refine Ext.heldB ?_ <;> repeat (first | assumption | exact Ext.refl _ | apply Ext.alloc | apply Ext.drew | apply Ext.drewN))
            (first
              | (refine app_first (w5 := w5) (by rfl) (.tmp 189) (.tmp 190) (by rfl) (by rfl) (by repeat (first | assumption | exact Ext.refl _ | apply Ext.drew | apply Ext.drewN | apply Ext.alloc)) (by first | exact Nat.le_refl _ | exact Nat.le_succ _) (by first | exact heap_alloc_new _ _ | exact heap_alloc2_old _ _ _ | exact heap_alloc2_new _ _ _) (by rfl) (HPS.out _ (by repeat (first | assumption | exact Ext.refl _ | apply Ext.drew | apply Ext.drewN | apply Ext.alloc))) (by omega) ?_; intro v6 w6 hR6 hX6 hG6; (try have hnx : w6.heap[w5.heap.size + 1]? = some (.cells (PV qa qb oj sj) 38 (0, 0)) := heap_kept hG6 (heap_alloc2_new _ _ _) rfl (by simp)); (try have hnx : w6.heap[w5.heap.size]? = some (.cells (PV qa qb oj sj) 38 (0, 0)) := heap_kept hG6 (heap_alloc2_old _ _ _) rfl (by simp)))
              | (refine app_next (w5 := w5) (ys := yz) (news := [(qa, qb, ⟨zz, mergeF 16 x.t x'.t, oj, sj⟩)]) (cs := (PV qa qb oj sj)) (by rfl) (.tmp 191) (.tmp 193) (by rfl) (by rfl) (by repeat (first | assumption | exact Ext.refl _ | apply Ext.drew | apply Ext.drewN | apply Ext.alloc)) (PRow.ext hR6 (by repeat (first | assumption | exact Ext.refl _ | apply Ext.drew | apply Ext.drewN | apply Ext.alloc))) (by rfl) (by first | exact heap_alloc_new _ _ | exact hnx) (flat1 _ _ _ _ _ _) (by simp) (by simp; omega) ?_; intro v7 w7 hR7 hX7)
              | (go_at_call 52; go_split_ands; (with_reducible refine (SA.out _ (by assumption)).mono ?_); rintro e8 w8 ⟨rfl, hb8⟩; have hE8 : Ext w5 w8 := Ext.trans (by assumption) hb8))
          all_goals go_wp2_with fail
          all_goals go_ret3
          all_goals
            refine fin_act (hR7.ext hb8) (((HPS.out _ (Ext.refl _)).ext hE8).zs) HY2'.out HRL.out ?_ hy3' (by simp) (XW.trans hE8)
            intro z hz
            simp only [List.mem_cons, List.not_mem_nil, or_false] at hz
            obtain rfl := hz
            exact ⟨PA.out _ hE8, RA.out.mono (by omega)⟩

end Go.Proofs.YthnmhdabdiennaaDoor
