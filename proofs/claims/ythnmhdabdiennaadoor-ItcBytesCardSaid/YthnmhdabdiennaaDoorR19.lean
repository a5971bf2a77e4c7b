/- The walk over the law's act: Peek. -/
import Derived.Test.YthnmhdabdiennaaDoorR12
namespace Go.Proofs.YthnmhdabdiennaaDoor
open Go.RowKit
attribute [local go_sem ↓] Go.wp_at_zero Go.wp_at_succ
attribute [local go_sem ↓] ld36 ld34 ld38 st36 st38 st32 al36 al38 bu36 bu32 bu38 bs23
attribute [local go_sem] run_ld36 run_st36 run_al36 blkOf_drew blkOf_setRow_same blkOf_setRow_other RV_size run_bu36 blkOf_new blkOf_old
attribute [local go_sem] cellRow run_bu38 run_al38 run_st38 run_ld38 blkOf_setRow_same8 PV_size blkOf_new2' run_bs0 run_bs1 run_bs2
theorem kp_setRow {w : World} {h T : Nat} {cs : Array Value} (k : typ w h = some T) (h1 : T ≠ 77) (h2 : T ≠ 103) : Kp w (w.setRow h cs) := fun b T' hb hT => by
  rw [setRow_other]
  rintro rfl
  rw [k] at hb
  have := Option.some.inj hb
  omega
theorem late8 {wA w2 : World} {h : Nat} {X : Array Value} (ht : typ w2 h = some 38) (hb : (blkOf w2 h).size = 514) (hle : wA.heap.size ≤ h) (hE : Ext wA w2) : Ext wA (w2.setRow h X) ∧ blkOf (w2.setRow h X) h = X ∧ Kp w2 (w2.setRow h X) :=
  ⟨hE.setRow hle _, blkOf_setRow_same8 hb, kp_setRow ht (by decide) (by decide)⟩
theorem PpAt.kp {w w' : World} (h : Kp w w') {p q : Option Addr} {x : Pr} (k : PpAt w p q x) : PpAt w' p q x := ⟨k.1.kp h, k.2.kp h⟩
/-- A pair in a new block, and its stamp. -/
def OneAt (wA : World) (h : Nat) (p q : Option Addr) (x : Pr) (wx : World) : Prop := Ext wA wx ∧ blkOf wx h = PV p q x.o x.s ∧ PpAt wx p q x
theorem OneAt.o1 {wA w1 w2 : World} {p q : Option Addr} {x : Pr} (hb1 : Ext (wA.alloc (.cells PV0 38)).drew w1) (hb2 : Ext w1 w2) (hp : PpAt w1 p q x) : OneAt wA wA.heap.size p q x (w2.setRow wA.heap.size (PV p q x.o x.s)) := by
  have E1 : Ext wA w1 := Ext.trans (((Ext.refl wA).alloc _).drew) hb1
  have z1 : wA.heap.size < w1.heap.size := by have := hb1.size; simp at this; omega
  have k1 : blkOf w1 wA.heap.size = PV0 := by rw [blkOf_ext hb1 (by simp)]; exact blkOf_new
  obtain ⟨a, b, c⟩ := late8 (wA := wA) (w2 := w2) (h := wA.heap.size) (X := PV p q x.o x.s) (hb2.typ (hb1.typ (typ_new wA _ _))) (by rw [blkOf_ext hb2 z1, k1, PV_size]) (Nat.le_refl _) (E1.trans hb2)
  exact ⟨a, b, (hp.ext hb2).kp c⟩
theorem OneAt.o2 {wA w1 w2 : World} {p q : Option Addr} {x : Pr} (hb1 : Ext wA w1) (hb2 : Ext (w1.alloc (.cells PV0 38)) w2) (hp : PpAt w1 p q x) : OneAt wA w1.heap.size p q x (w2.setRow w1.heap.size (PV p q x.o x.s)) := by
  have E2 : Ext w1 w2 := Ext.trans ((Ext.refl w1).alloc _) hb2
  obtain ⟨a, b, c⟩ := late8 (wA := wA) (w2 := w2) (h := w1.heap.size) (X := PV p q x.o x.s) (hb2.typ (typ_new w1 _ _)) (by rw [blkOf_ext hb2 (by simp), blkOf_new, PV_size]) hb1.size (hb1.trans E2)
  exact ⟨a, b, (hp.ext E2).kp c⟩
theorem OneAt.o3 {wA w1 w2 : World} {p q : Option Addr} {x : Pr} (hb1 : Ext wA w1) (hb2 : Ext w1 w2) (hp : PpAt w1 p q x) : OneAt wA w2.heap.size p q x ((w2.alloc (.cells PV0 38)).setRow w2.heap.size (PV p q x.o x.s)) := by
  have E2 := hb1.trans hb2
  obtain ⟨a, b, c⟩ := late8 (wA := wA) (w2 := w2.alloc (.cells PV0 38)) (h := w2.heap.size) (X := PV p q x.o x.s) (typ_new w2 _ _) (by rw [blkOf_new, PV_size]) E2.size (E2.alloc _)
  exact ⟨a, b, (((hp.ext hb2)).ext ((Ext.refl _).alloc _)).kp c⟩
set_option maxRecDepth 100000 in
set_option maxHeartbeats 16000000 in
theorem act_peek (k : Nat) (zs : List Z) (v : Value) (xk xa xb xp : Nat) (w : World) (h : PsAt w v zs) (hr : ∀ z ∈ zs, Rel k z.2.2) (hk : k ≤ 70) (hl : zs.length ≤ 100) (h0 : 0 < zs.length) (bk : xk < 256) (ba : xa < 256) (bb : xb < 256) (bp : xp < 256) (hk4 : xk % 5 = 4) :
    Calls Tryd.prog 28 #[v, .agg #[.int .u8 (xk : Int), .int .u8 (xa : Int), .int .u8 (xb : Int), .int .u8 (xp : Int)], .bool false] w (RetAct k zs.length w) := by
  obtain ⟨⟨A, c, rfl, hlc, hcm, hR⟩, hZ⟩ := h
  unfold maxLen at hcm
  obtain ⟨g, rfl, hab, -⟩ := hR h0
  have PS : Hid (PsAt w (.slice (some ⟨g, 0, none⟩) zs.length c) zs) := Lib.hid ⟨⟨_, _, rfl, hlc, hcm, hR⟩, hZ⟩
  have HR := Lib.hid hR
  have HZ := Lib.hid hZ
  have HRL := Lib.hid hr
  clear hR hZ hr
  obtain ⟨n, hn⟩ : ∃ n, zs.length = n := ⟨_, rfl⟩
  obtain ⟨a, ha⟩ : ∃ a, xa % n = a := ⟨_, rfl⟩
  obtain ⟨b, hb⟩ : ∃ b, xb % n = b := ⟨_, rfl⟩
  have HN := Lib.hid hn
  rw [hn] at PS hl h0 hlc ⊢
  have an : a < n := by rw [← ha]; exact Nat.mod_lt _ h0
  have bn : b < n := by rw [← hb]; exact Nat.mod_lt _ h0
  have ma : ((xa : Int)).tmod (n : Int) = (a : Int) := by rw [Int.tmod_eq_emod_of_nonneg (by omega), ← ha]; simp
  have mb : ((xb : Int)).tmod (n : Int) = (b : Int) := by rw [Int.tmod_eq_emod_of_nonneg (by omega), ← hb]; simp
  have wa : IntKind.i64.wrap (a : Int) = (a : Int) := IntWalk.i64_in _ (by omega)
  have wb : IntKind.i64.wrap (b : Int) = (b : Int) := IntWalk.i64_in _ (by omega)
  have wxa : IntKind.i64.wrap (xa : Int) = (xa : Int) := IntWalk.i64_in _ (by omega)
  have wxb : IntKind.i64.wrap (xb : Int) = (xb : Int) := IntWalk.i64_in _ (by omega)
  have nz : ((n : Int) == 0) = false := by simp; omega
  have nz' : ((n : Int) = 0) = False := by simp; omega
  clear ha hb hn
  go_enter Tryd.func28, Tryd.ntmps28
  go_wp2_with fail
  go_quiet (fail)
  clear ma mb wa wb wxa wxb
  go_upto_if 52 with (fail)
  generalize hW : (w.alloc (.cells #[.int .u8 (xk : Int), .int .u8 (xa : Int), .int .u8 (xb : Int), .int .u8 (xp : Int)] 49)).drewN nq = w0
  obtain ⟨E0, d0, d3, hg⟩ := letter4 hW
  clear hW
  have WO := Lib.hid (fun w' (hx : Ext w w') => without_any zs (.slice (some ⟨g, 0, none⟩) n c) a a w' (PS.out.ext hx) (by have := HN.out; omega))
  go_cut [11] (fun r wx => Rest zs w0 r wx)
  case first =>
    have HR0 : Hid (Rest zs w0 (.slice (some ⟨g, 0, none⟩) n c) w0) := Lib.hid ⟨zs, PS.out.ext E0, fun _ h => h, Nat.le_refl _, Ext.refl _⟩
    rcases Nat.mod_two_eq_zero_or_one xp with hp | hp
    · have tp : (((xp : Nat) : Int) % 2 == 0) = true := by simp; omega
      clear hp
      go_wp2_with fail
      refine (WO.out _ E0).mono ?_
      rintro e1 w1 ⟨v1, ys, rfl, h1, h2, h3, h4⟩
      go_wp2_with fail
      go_meet
      exact ⟨ys, h1, h2, h3, h4⟩
    · have tp : (((xp : Nat) : Int) % 2 == 0) = false := by simp; omega
      clear hp
      go_wp2_with fail
      go_meet
      exact HR0.out
  case rest =>
    obtain ⟨ys, hy1, hy2, hy3, hy4⟩ := hcut
    obtain ⟨wA, hwA⟩ : ∃ wA, wA = wc := ⟨_, rfl⟩
    subst hwA
    have EC := E0.trans hy4
    replace d0 := hy4.cell d0
    replace d3 := hy4.cell d3
    have zg := hy4.size
    have hzg : w.heap.size < wA.heap.size := by omega
    have HY1 := Lib.hid hy1
    have HY2 := Lib.hid hy2
    rw [HN.out] at hy3
    have al : a < zs.length := by rw [HN.out]; exact an
    obtain ⟨z, hza⟩ : ∃ z, zs[a]? = some z := ⟨_, List.getElem?_eq_getElem al⟩
    have HQ : Hid (∀ w', Ext wA w' → w'.cell? ⟨g, a * 514, none⟩ = some (.pointer z.1) ∧ w'.cell? ⟨g, a * 514 + 1, none⟩ = some (.pointer z.2.1) ∧ (ldS 36 (.pointer (some ⟨g, a * 514 + 2, none⟩))).run Tryd.prog w' = .ok (.agg (RV z.2.2.o z.2.2.s)) w') := Lib.hid (fun w' hx => ((HR.out.ext (EC.trans hx)).parts hza))
    have za := List.mem_of_getElem? hza
    have hp := Lib.hid ((HZ.out _ za).ext EC)
    have hr := Lib.hid (HRL.out _ za)
    have q1 : (0 : Int) ≤ (a : Int) := Int.natCast_nonneg _
    have q2 : (a : Int) < (n : Int) := by omega
    clear hy1 hy2 hy4 WO E0 hza za al hg
    obtain ⟨p, q, x⟩ := z
    simp only [] at hp hr HQ
    obtain ⟨c0, c1, c2⟩ := HQ.out wA (Ext.refl _)
    have tk0 : (((xk : Nat) : Int) % 5 == 0) = false := by simp; omega
    have tk3 : (((xk : Nat) : Int) % 5 == 3) = false := by simp; omega
    have tk4 : (((xk : Nat) : Int) % 5 == 4) = true := by simp; omega
    have KQ := Lib.hid (fun w' (hx : Ext wA w') => (⟨hx, HQ.out w' hx⟩ : Ext wA w' ∧ w'.cell? ⟨g, a * 514, none⟩ = some (.pointer p) ∧ w'.cell? ⟨g, a * 514 + 1, none⟩ = some (.pointer q) ∧ (ldS 36 (.pointer (some ⟨g, a * 514 + 2, none⟩))).run Tryd.prog w' = .ok (.agg (RV x.o x.s)) w'))
    have ZP := Lib.hid (fun w' (hx : Ext wA w') => zpeek x p q w' (hp.out.ext hx))
    have ZR := Lib.hid (fun w' => rpeek_any x.o x.s w')
    have RA := Lib.hid hr.out.peek
    go_upto_region 26 with (fail)
    clear d0 d3
    go_cut [27] (fun s27 wx => ∃ (h : Nat) (p1 q1 : Option Addr), s27 = .pointer (some ⟨h, 0, none⟩) ∧ OneAt wA h p1 q1 ⟨.zero, x.t, fun _ => false, x.s⟩ wx)
    case first =>
      go_region_held3 (fun w' => Ext wA w' ∧ w'.cell? ⟨g, a * 514, none⟩ = some (.pointer p) ∧ w'.cell? ⟨g, a * 514 + 1, none⟩ = some (.pointer q) ∧ (ldS 36 (.pointer (some ⟨g, a * 514 + 2, none⟩))).run Tryd.prog w' = .ok (.agg (RV x.o x.s)) w')
        (refine KQ.out _ ?_ <;> repeat (first | assumption | exact Ext.refl _ | apply Ext.alloc | apply Ext.drew | apply Ext.drewN | (refine Ext.setRow ?_ (by first | exact Nat.le_refl _ | omega | (simp; done)) _)))
        (first
          | (go_at_call 19; go_split_ands; refine (ZP.out _ (by assumption)).mono ?_; rintro e1 w1 ⟨p1, q1, rfl, hp1, hb1⟩; have HP1 := Lib.hid hp1; clear hp1; have hE1 : Ext wA w1 := Ext.trans (by assumption) hb1; have hB1 := hb1.heldB.2; have hz1 := hE1.size; (try (refine (fun (_ : wA.heap.size < w1.heap.size) => ?_) ?_; rotate_left; (have hzz := hb1.size; simp at hzz; omega))))
          | (go_at_call 54; go_split_ands; refine (ZR.out _).mono ?_; rintro e2 w2 ⟨rfl, hb2⟩; have hE2 : Ext wA w2 := Ext.trans (by assumption) hb2; have hB2 := hb2.heldB.2; have hz2 := hE2.size; (try (refine (fun (_ : wA.heap.size < w2.heap.size) => ?_) ?_; rotate_left; (have hzz := hb2.size; simp at hzz; omega)))))
      all_goals go_wp2_with fail
      all_goals go_meet
      all_goals first
        | exact ⟨_, p1, q1, rfl, OneAt.o3 hE1 hb2 (show PpAt w1 p1 q1 ⟨.zero, x.t, fun _ => false, x.s⟩ from HP1.out)⟩
        | exact ⟨_, p1, q1, rfl, OneAt.o2 hE1 hb2 (show PpAt w1 p1 q1 ⟨.zero, x.t, fun _ => false, x.s⟩ from HP1.out)⟩
        | exact ⟨_, p1, q1, rfl, OneAt.o1 hb1 hb2 (show PpAt w1 p1 q1 ⟨.zero, x.t, fun _ => false, x.s⟩ from HP1.out)⟩
    case rest =>
      obtain ⟨h18, p1, q1, rfl, E5, k1, pp⟩ := hcut
      simp only [] at k1
      obtain ⟨w5, hw5⟩ : ∃ w5, w5 = wc := ⟨_, rfl⟩
      subst hw5
      have l18 := blkOf_lt (w := w5) (g := h18) (by rw [k1, PV_size]; decide)
      have PI := Lib.hid (fun w' (hx : Ext w5 w') => pairIn (w := w') (by rw [blkOf_ext hx l18]; exact k1))
      have PA := Lib.hid (fun w' (hx : Ext w5 w') => pp.ext hx)
      have SA := Lib.hid (fun w' (hx : Ext w5 w') => lsame_any k ⟨.zero, x.t, fun _ => false, x.s⟩ p1 q1 w' (PA.out w' hx) RA.out (by omega))
      have SB := Lib.hid (fun w' (hx : Ext w5 w') => zanon ⟨.zero, x.t, fun _ => false, x.s⟩ p1 q1 w' (PA.out w' hx))
      simp only [IdT.isZero] at SA SB
      have HPS := Lib.hid (fun W (hx : Ext w5 W) => PS.out.ext ((EC.trans E5).trans hx))
      have i0 := (PI.out w5 (Ext.refl _)).c0
      have i1 := (PI.out w5 (Ext.refl _)).c1
      have HK := Lib.hid (fun w' (hx : Ext w5 w') => (⟨hx, hx.heldB.2, (PI.out w' hx).c0, (PI.out w' hx).c1⟩ : Ext w5 w' ∧ (∀ b, b < w5.heap.size → blkOf w' b = blkOf w5 b) ∧ w'.cell? ⟨h18, 0, none⟩ = some (.pointer p1) ∧ w'.cell? ⟨h18, 1, none⟩ = some (.pointer q1)))
      have HN' := HN.out
      have hzl : zs.length ≤ 100 := by omega
      clear HN' c0 c1 c2
      go_wp2_with fail
      go_region_held3 (fun w' => Ext w5 w' ∧ (∀ b, b < w5.heap.size → blkOf w' b = blkOf w5 b) ∧ w'.cell? ⟨h18, 0, none⟩ = some (.pointer p1) ∧ w'.cell? ⟨h18, 1, none⟩ = some (.pointer q1))
        (refine HK.out _ ?_ <;> repeat (first | assumption | exact Ext.refl _ | apply Ext.alloc | apply Ext.drew | apply Ext.drewN))
        (first
          | (refine app_first (w5 := w5) (by rfl) (.tmp 216) (.tmp 217) (by rfl) (by rfl) (by repeat (first | assumption | exact Ext.refl _ | apply Ext.drew | apply Ext.drewN | apply Ext.alloc)) (by first | exact Nat.le_refl _ | exact Nat.le_succ _) (by first | exact heap_alloc_new _ _ | exact heap_alloc2_old _ _ _ | exact heap_alloc2_new _ _ _) (by rfl) (HPS.out _ (by repeat (first | assumption | exact Ext.refl _ | apply Ext.drew | apply Ext.drewN | apply Ext.alloc))) (by omega) ?_; intro v6 w6 hR6 hX6 hG6; (try have hnx : w6.heap[w5.heap.size + 1]? = some (.cells (PV p1 q1 (fun _ => false) x.s) 38 (0, 0)) := heap_kept hG6 (heap_alloc2_new _ _ _) rfl (by simp)); (try have hnx : w6.heap[w5.heap.size]? = some (.cells (PV p1 q1 (fun _ => false) x.s) 38 (0, 0)) := heap_kept hG6 (heap_alloc2_old _ _ _) rfl (by simp)))
          | (refine app_next (w5 := w5) (ys := zs) (news := [(p1, q1, ⟨.zero, x.t, fun _ => false, x.s⟩)]) (cs := (PV p1 q1 (fun _ => false) x.s)) (by rfl) (.tmp 218) (.tmp 220) (by rfl) (by rfl) (by repeat (first | assumption | exact Ext.refl _ | apply Ext.drew | apply Ext.drewN | apply Ext.alloc)) (PRow.ext hR6 (by repeat (first | assumption | exact Ext.refl _ | apply Ext.drew | apply Ext.drewN | apply Ext.alloc))) (by rfl) (by first | exact heap_alloc_new _ _ | exact hnx) (flat1 _ _ _ _ _ _) (by simp) (by simp; omega) ?_; intro v7 w7 hR7 hX7)
          | (go_at_call 52; go_split_ands; (with_reducible refine (SA.out _ (by assumption)).mono ?_); rintro e8 w8 ⟨rfl, hb8⟩; have hE8 : Ext w5 w8 := Ext.trans (by assumption) hb8)
          | (go_at_call 16; go_split_ands; refine (SB.out _ (by assumption)).mono ?_; rintro e9 w9 ⟨rfl, hb9⟩; have hE9 : Ext w5 w9 := Ext.trans (by assumption) hb9))
      all_goals go_wp2_with fail
      all_goals go_ret3
      all_goals
        refine fin_act (hR7.ext (hb8.trans hb9)) (((HPS.out _ (Ext.refl _)).ext hE9).zs) (fun _ h => h) HRL.out ?_ (Nat.le_of_eq HN.out) (by simp) ((EC.trans E5).trans hE9)
        intro z hz
        simp only [List.mem_cons, List.not_mem_nil, or_false] at hz
        obtain rfl := hz
        exact ⟨PA.out _ hE9, RA.out.mono (by omega)⟩
end Go.Proofs.YthnmhdabdiennaaDoor
