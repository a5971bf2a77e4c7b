/- The walk over the law's act: Join. -/
import Derived.Test.YthnmhdabdiennaaDoorR12
namespace Go.Proofs.YthnmhdabdiennaaDoor
open Go.RowKit
attribute [local go_sem ↓] Go.wp_at_zero Go.wp_at_succ
attribute [local go_sem ↓] ld36 ld34 ld38 st36 st38 st32 al36 al38 bu36 bu32 bu38 bs23
attribute [local go_sem] run_ld36 run_st36 run_al36 blkOf_drew blkOf_setRow_same blkOf_setRow_other RV_size run_bu36 blkOf_new blkOf_old
attribute [local go_sem] cellRow run_bu38 run_al38 run_st38 run_ld38 blkOf_setRow_same8 PV_size blkOf_new2' run_bs0 run_bs1 run_bs2
theorem box_late2 {w3 w4 : World} {x y : Value} {qa qb : Option Addr} {i : IdT} {t : EvT} (hbb : Ext (w3.alloc (.cells #[x, y] 31)).drew w4) (hp : IdAt w4 (.pointer qa) i ∧ SeenAt w4 (.pointer qb) t) :
    Ext w3 ((w4.setCell ⟨w3.heap.size, 0, none⟩ (.pointer qa)).setCell ⟨w3.heap.size, 1, none⟩ (.pointer qb)) ∧
    ((w4.setCell ⟨w3.heap.size, 0, none⟩ (.pointer qa)).setCell ⟨w3.heap.size, 1, none⟩ (.pointer qb)).cell? ⟨w3.heap.size, 0, none⟩ = some (.pointer qa) ∧
    ((w4.setCell ⟨w3.heap.size, 0, none⟩ (.pointer qa)).setCell ⟨w3.heap.size, 1, none⟩ (.pointer qb)).cell? ⟨w3.heap.size, 1, none⟩ = some (.pointer qb) ∧
    (IdAt ((w4.setCell ⟨w3.heap.size, 0, none⟩ (.pointer qa)).setCell ⟨w3.heap.size, 1, none⟩ (.pointer qb)) (.pointer qa) i ∧ SeenAt ((w4.setCell ⟨w3.heap.size, 0, none⟩ (.pointer qa)).setCell ⟨w3.heap.size, 1, none⟩ (.pointer qb)) (.pointer qb) t) := by
  have E : Ext w3 w4 := Ext.trans (((Ext.refl w3).alloc _).drew) hbb
  have T : typ w4 w3.heap.size = some 31 := hbb.typ (typ_new w3 _ _)
  have c0 : w4.cell? ⟨w3.heap.size, 0, none⟩ = some x := hbb.cell (new_at w3 _ _ _ _ rfl)
  have c1 : w4.cell? ⟨w3.heap.size, 1, none⟩ = some y := hbb.cell (new_at w3 _ _ _ _ rfl)
  have ne : (⟨w3.heap.size, 0, none⟩ : Addr) ≠ ⟨w3.heap.size, 1, none⟩ := by simp
  have K := (Kp.far (a := ⟨w3.heap.size, 0, none⟩) (u := .pointer qa) T (by decide) (by decide)).trans (Kp.far (a := ⟨w3.heap.size, 1, none⟩) (u := .pointer qb) (by rw [typ_set]; exact T) (by decide) (by decide))
  exact ⟨(E.set (Nat.le_refl _) _).set (Nat.le_refl _) _, by rw [set_other (Ne.symm ne), set_same c0], by rw [set_same (by rw [set_other ne]; exact c1)], hp.1.kp K, hp.2.kp K⟩
/-- The result of the program's Join in a box. -/
def JBox (wA : World) (h : Nat) (qa qb : Option Addr) (i : IdT) (t : EvT) (wx : World) : Prop := Ext wA wx ∧ wx.cell? ⟨h, 0, none⟩ = some (.pointer qa) ∧ wx.cell? ⟨h, 1, none⟩ = some (.pointer qb) ∧ (IdAt wx (.pointer qa) i ∧ SeenAt wx (.pointer qb) t)
/-- The result of the reference's Join in a box. -/
def RBox (wA : World) (h : Nat) (o : Nat → Bool) (s : Nat → Nat) (wx : World) : Prop := Ext wA wx ∧ wA.heap.size ≤ h ∧ blkOf wx h = RV o s
theorem RBox.late {wA w1 : World} {o : Nat → Bool} {s : Nat → Nat} (hb1 : Ext (wA.alloc (.cells RV0 36)).drew w1) : RBox wA wA.heap.size o s (w1.setRow wA.heap.size (RV o s)) :=
  ⟨(Ext.trans (((Ext.refl wA).alloc _).drew) hb1).setRow (Nat.le_refl _) _, Nat.le_refl _, blkOf_setRow_same (by rw [blkOf_ext hb1 (by simp)]; show (blkOf (wA.alloc (.cells RV0 36)) wA.heap.size).size = 512; rw [blkOf_new, RV_size])⟩
theorem RBox.soon {wA w1 : World} {o : Nat → Bool} {s : Nat → Nat} (hb1 : Ext wA w1) : RBox wA w1.heap.size o s ((w1.alloc (.cells RV0 36)).setRow w1.heap.size (RV o s)) :=
  ⟨(hb1.alloc _).setRow hb1.size _, hb1.size, blkOf_setRow_same (by rw [blkOf_new, RV_size])⟩
set_option maxRecDepth 100000 in
set_option maxHeartbeats 16000000 in
theorem act_join_none (k : Nat) (zs : List Z) (v : Value) (xk xa xb xp : Nat) (w : World) (h : PsAt w v zs) (hr : ∀ z ∈ zs, Rel k z.2.2) (hk : k ≤ 70) (hl : zs.length ≤ 100) (h0 : 0 < zs.length) (bk : xk < 256) (ba : xa < 256) (bb : xb < 256) (bp : xp < 256) (hk3 : xk % 5 = 3) (hne : Hid (xa % zs.length ≠ xb % zs.length)) (hsum : Hid (∀ (y y' : Z), zs[xa % zs.length]? = some y → zs[xb % zs.length]? = some y' → y.2.2.i.sum y'.2.2.i = none)) :
    Calls Tryd.prog 28 #[v, .agg #[.int .u8 (xk : Int), .int .u8 (xa : Int), .int .u8 (xb : Int), .int .u8 (xp : Int)], .bool false] w (RetAct k zs.length w) := by
  obtain ⟨⟨A, c, rfl, hlc, hcm, hR⟩, hZ⟩ := h
  unfold maxLen at hcm
  obtain ⟨g, rfl, hab, -⟩ := hR h0
  have PS : Hid (PsAt w (.slice (some ⟨g, 0, none⟩) zs.length c) zs) := Lib.hid ⟨⟨_, _, rfl, hlc, hcm, hR⟩, hZ⟩
  have HR := Lib.hid hR
  have HZ := Lib.hid hZ
  have HRL := Lib.hid hr
  clear hR hZ hr
  obtain ⟨n, hn⟩ : ∃ n, zs.length = n := ⟨_, rfl⟩
  rw [hn] at hne hsum
  obtain ⟨a, ha⟩ : ∃ a, xa % n = a := ⟨_, rfl⟩
  obtain ⟨b, hb⟩ : ∃ b, xb % n = b := ⟨_, rfl⟩
  rw [ha, hb] at hne hsum
  have HN := Lib.hid hn
  rw [hn] at PS hl h0 hlc ⊢
  have an : a < n := by rw [← ha]; exact Nat.mod_lt _ h0
  have bn : b < n := by rw [← hb]; exact Nat.mod_lt _ h0
  have ma : ((xa : Int)).tmod (n : Int) = (a : Int) := by rw [Int.tmod_eq_emod_of_nonneg (by omega), ← ha]; simp
  have mb : ((xb : Int)).tmod (n : Int) = (b : Int) := by rw [Int.tmod_eq_emod_of_nonneg (by omega), ← hb]; simp
  have wa : IntKind.i64.wrap (a : Int) = (a : Int) := IntWalk.i64_in _ (by omega)
  have wb : IntKind.i64.wrap (b : Int) = (b : Int) := IntWalk.i64_in _ (by omega)
  have wxa : IntKind.i64.wrap (xa : Int) = (xa : Int) := IntWalk.i64_in _ (by omega)
  have wxb : IntKind.i64.wrap (xb : Int) = (xb : Int) := IntWalk.i64_in _ (by omega)
  have nz : ((n : Int) == 0) = false := by simp; omega
  have nz' : ((n : Int) = 0) = False := by simp; omega
  clear ha hb hn
  go_enter Tryd.func28, Tryd.ntmps28
  go_wp2_with fail
  go_quiet (fail)
  clear ma mb wa wb wxa wxb
  go_upto_if 52 with (fail)
  generalize hW : (w.alloc (.cells #[.int .u8 (xk : Int), .int .u8 (xa : Int), .int .u8 (xb : Int), .int .u8 (xp : Int)] 49)).drewN nq = w0
  obtain ⟨E0, d0, d3, hg⟩ := letter4 hW
  clear hW
  have WO := Lib.hid (fun w' (hx : Ext w w') => without_any zs (.slice (some ⟨g, 0, none⟩) n c) a a w' (PS.out.ext hx) (by have := HN.out; omega))
  go_cut [11] (fun r wx => Rest zs w0 r wx)
  case first =>
    as_aux_lemma =>
      have HR0 : Hid (Rest zs w0 (.slice (some ⟨g, 0, none⟩) n c) w0) := Lib.hid ⟨zs, PS.out.ext E0, fun _ h => h, Nat.le_refl _, Ext.refl _⟩
      rcases Nat.mod_two_eq_zero_or_one xp with hp | hp
      · have tp : (((xp : Nat) : Int) % 2 == 0) = true := by simp; omega
        clear hp
        go_wp2_with fail
        refine (WO.out _ E0).mono ?_
        rintro e1 w1 ⟨v1, ys, rfl, h1, h2, h3, h4⟩
        go_wp2_with fail
        go_meet
        exact ⟨ys, h1, h2, h3, h4⟩
      · have tp : (((xp : Nat) : Int) % 2 == 0) = false := by simp; omega
        clear hp
        go_wp2_with fail
        go_meet
        exact HR0.out
  case rest =>
    obtain ⟨ys, hy1, hy2, hy3, hy4⟩ := hcut
    obtain ⟨wA, hwA⟩ : ∃ wA, wA = wc := ⟨_, rfl⟩
    subst hwA
    have EC := E0.trans hy4
    replace d0 := hy4.cell d0
    replace d3 := hy4.cell d3
    have zg := hy4.size
    have hzg : w.heap.size < wA.heap.size := by omega
    have HY1 := Lib.hid hy1
    have HY2 := Lib.hid hy2
    rw [HN.out] at hy3
    have al : a < zs.length := by rw [HN.out]; exact an
    obtain ⟨z, hza⟩ : ∃ z, zs[a]? = some z := ⟨_, List.getElem?_eq_getElem al⟩
    have HQ : Hid (∀ w', Ext wA w' → w'.cell? ⟨g, a * 514, none⟩ = some (.pointer z.1) ∧ w'.cell? ⟨g, a * 514 + 1, none⟩ = some (.pointer z.2.1) ∧ (ldS 36 (.pointer (some ⟨g, a * 514 + 2, none⟩))).run Tryd.prog w' = .ok (.agg (RV z.2.2.o z.2.2.s)) w') := Lib.hid (fun w' hx => ((HR.out.ext (EC.trans hx)).parts hza))
    have za := List.mem_of_getElem? hza
    have hp := Lib.hid ((HZ.out _ za).ext EC)
    have hr := Lib.hid (HRL.out _ za)
    have q1 : (0 : Int) ≤ (a : Int) := Int.natCast_nonneg _
    have q2 : (a : Int) < (n : Int) := by omega
    clear hy1 hy2 hy4 WO E0 za al hg
    obtain ⟨p, q, x⟩ := z
    simp only [] at hp hr HQ
    obtain ⟨c0, c1, c2⟩ := HQ.out wA (Ext.refl _)
    have bl : b < zs.length := by rw [HN.out]; exact bn
    obtain ⟨z', hzb⟩ : ∃ z, zs[b]? = some z := ⟨_, List.getElem?_eq_getElem bl⟩
    have HQ' : Hid (∀ w', Ext wA w' → w'.cell? ⟨g, b * 514, none⟩ = some (.pointer z'.1) ∧ w'.cell? ⟨g, b * 514 + 1, none⟩ = some (.pointer z'.2.1) ∧ (ldS 36 (.pointer (some ⟨g, b * 514 + 2, none⟩))).run Tryd.prog w' = .ok (.agg (RV z'.2.2.o z'.2.2.s)) w') := Lib.hid (fun w' hx => ((HR.out.ext (EC.trans hx)).parts hzb))
    have zb := List.mem_of_getElem? hzb
    have hp' := Lib.hid ((HZ.out _ zb).ext EC)
    have hr' := Lib.hid (HRL.out _ zb)
    have q3 : (0 : Int) ≤ (b : Int) := Int.natCast_nonneg _
    have q4 : (b : Int) < (n : Int) := by omega
    have hga : g < wA.heap.size := by have := EC.size; omega
    clear zb bl
    have hs := hsum.out _ _ hza hzb
    clear hza hzb hsum
    simp only [] at hs
    obtain ⟨p', q', x'⟩ := z'
    simp only [] at hp' hr' HQ'
    have tk0 : (((xk : Nat) : Int) % 5 == 0) = false := by simp; omega
    have tk3 : (((xk : Nat) : Int) % 5 == 3) = true := by simp; omega
    have KQ := Lib.hid (fun w' (hx : Ext wA w') => (⟨hx, (HQ.out w' hx).1, (HQ.out w' hx).2.1, (HQ'.out w' hx).1, (HQ'.out w' hx).2.1⟩ : Ext wA w' ∧ w'.cell? ⟨g, a * 514, none⟩ = some (.pointer p) ∧ w'.cell? ⟨g, a * 514 + 1, none⟩ = some (.pointer q) ∧ w'.cell? ⟨g, b * 514, none⟩ = some (.pointer p') ∧ w'.cell? ⟨g, b * 514 + 1, none⟩ = some (.pointer q')))
    have tab := beqF hne.out
    obtain ⟨e0, e1, e2⟩ := HQ'.out wA (Ext.refl _)
    have CL : Hid (Clash x.o x'.o) := Lib.hid ((hr.out.clash hr'.out).1 hs)
    have JN := Lib.hid (fun w' (hx : Ext wA w') => zjoin0 x x' p q p' q' w' (hp.out.ext hx) (hp'.out.ext hx) hs)
    have RJ := Lib.hid (fun w' => (rjoin_any x.o x'.o x.s x'.s w' (hr.out.big (by omega)).u (hr'.out.big (by omega)).u).mono fun e w'' h => show RetRB (fun _ => false) (fun _ => 0) false w' e w'' from h.elim (fun h => h.2) (fun h => absurd CL.out h.1))
    clear hs
    go_upto_region 17 with (fail)
    clear d0
    go_cut [22, 23] (fun s22 s23 wx => ∃ (h : Nat) (qa qb : Option Addr), s22 = .pointer (some ⟨h, 0, none⟩) ∧ s23 = .int .i64 11 ∧ JBox wA h qa qb .zero (.leaf 0) wx)
    case first =>
      as_aux_lemma =>
        go_region_held3 (fun w' => Ext wA w' ∧ w'.cell? ⟨g, a * 514, none⟩ = some (.pointer p) ∧ w'.cell? ⟨g, a * 514 + 1, none⟩ = some (.pointer q) ∧ w'.cell? ⟨g, b * 514, none⟩ = some (.pointer p') ∧ w'.cell? ⟨g, b * 514 + 1, none⟩ = some (.pointer q'))
          (refine KQ.out _ ?_ <;> repeat (first | assumption | exact Ext.refl _ | apply Ext.alloc | apply Ext.drew | apply Ext.drewN | (refine Ext.set ?_ (by first | exact Nat.le_refl _ | omega | (simp; done)) _)))
          ((go_at_call 14; go_split_ands; refine (JN.out _ (by assumption)).mono ?_; rintro e1 w1 ⟨p1, q1, rfl, hp1, hb1⟩; have HP1 := Lib.hid hp1; clear hp1; have hE1 : Ext wA w1 := Ext.trans (by assumption) hb1; obtain ⟨hcc, hff⟩ := hb1.both; have hz1 := hE1.size; (try (refine (fun (_ : wA.heap.size < w1.heap.size) => ?_) ?_; rotate_left; (have hzz := hb1.size; simp at hzz; omega)))))
        all_goals go_wp2_with fail
        all_goals go_meet
        all_goals first
          | exact ⟨_, p1, q1, rfl, rfl, hE1.alloc _, new_at _ _ _ _ _ rfl, new_at _ _ _ _ _ rfl, HP1.out.1.ext ((Ext.refl _).alloc _), HP1.out.2.ext ((Ext.refl _).alloc _)⟩
          | (have BL := box_late2 hb1 HP1.out; exact ⟨_, p1, q1, rfl, rfl, BL.1, BL.2.1, BL.2.2.1, BL.2.2.2⟩)
    case rest =>
      obtain ⟨h22, qa, qb, rfl, rfl, EB, a0, a1, hst⟩ := hcut
      obtain ⟨wB, hwB⟩ : ∃ wB, wB = wc := ⟨_, rfl⟩
      subst hwB
      have HST := Lib.hid hst
      clear hst c0 c1 c2 e0 e1 e2
      replace d3 := EB.cell d3
      have KB := Lib.hid (fun w' (hx : Ext wB w') => (⟨hx, (HQ.out w' (EB.trans hx)).2.2, (HQ'.out w' (EB.trans hx)).2.2⟩ : Ext wB w' ∧ (ldS 36 (.pointer (some ⟨g, a * 514 + 2, none⟩))).run Tryd.prog w' = .ok (.agg (RV x.o x.s)) w' ∧ (ldS 36 (.pointer (some ⟨g, b * 514 + 2, none⟩))).run Tryd.prog w' = .ok (.agg (RV x'.o x'.s)) w'))
      have yB := EB.size
      have l22 : h22 < wB.heap.size := World.block_lt_of_cell? wB _ a0
      go_upto_region 18 with (fail)
      go_cut [24, 25] (fun s24 s25 wx => ∃ h : Nat, s24 = .pointer (some ⟨h, 0, none⟩) ∧ s25 = .bool false ∧ RBox wB h (fun _ => false) (fun _ => 0) wx)
      case first =>
        as_aux_lemma =>
          go_region_held3 (fun w' => Ext wB w' ∧ (ldS 36 (.pointer (some ⟨g, a * 514 + 2, none⟩))).run Tryd.prog w' = .ok (.agg (RV x.o x.s)) w' ∧ (ldS 36 (.pointer (some ⟨g, b * 514 + 2, none⟩))).run Tryd.prog w' = .ok (.agg (RV x'.o x'.s)) w')
            (refine KB.out _ ?_ <;> repeat (first | assumption | exact Ext.refl _ | apply Ext.alloc | apply Ext.drew | apply Ext.drewN | (refine Ext.setRow ?_ (by first | exact Nat.le_refl _ | omega | (simp; done)) _)))
            ((go_at_call 53; go_split_ands; refine (RJ.out _).mono ?_; rintro e2 w2 ⟨rfl, hb2⟩; have hE2 : Ext wB w2 := Ext.trans (by assumption) hb2; have hB2 := hb2.heldB.2; have hz2 := hE2.size; (try (refine (fun (_ : wB.heap.size < w2.heap.size) => ?_) ?_; rotate_left; (have hzz := hb2.size; simp at hzz; omega)))))
          all_goals go_wp2_with fail
          all_goals go_meet
          all_goals first
            | exact ⟨_, rfl, rfl, RBox.soon hE2⟩
            | exact ⟨_, rfl, rfl, RBox.late hb2⟩
      case rest =>
        obtain ⟨h24, rfl, rfl, ED, ld, k24⟩ := hcut
        obtain ⟨wD, hwD⟩ : ∃ wD, wD = wc := ⟨_, rfl⟩
        subst hwD
        replace a0 := ED.cell a0
        replace a1 := ED.cell a1
        go_wp2_with fail
        refine (zequal0 qa qb wD (HST.out.1.ext ED) (HST.out.2.ext ED)).mono ?_
        rintro e4 w4 ⟨rfl, hE4⟩
        go_wp2_with fail
        go_ret3
        have EE := EC.trans (EB.trans (ED.trans hE4))
        exact ⟨_, zs, true, rfl, PS.out.ext EE, fun z hz => (HRL.out z hz).mono (by omega), by rw [HN.out]; exact h0, by rw [HN.out]; omega, EE⟩

end Go.Proofs.YthnmhdabdiennaaDoor
