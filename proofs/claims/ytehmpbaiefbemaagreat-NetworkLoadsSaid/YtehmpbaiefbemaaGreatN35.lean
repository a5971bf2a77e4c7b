/- The walk over begin. -/
import Derived.Test.YtehmpbaiefbemaaGreatN34
import Derived.Test.YtehmpbaiefbemaaGreatN18
import Derived.Laws.Tables
namespace Go.Proofs.YtehmpbaiefbemaaGreat
open Go.RowKit
attribute [local go_sem ↓] Go.wp_at_zero Go.wp_at_succ
attribute [local go_sem ↓] ld32 st32 al32 bu32
attribute [local go_sem] run_ld32 run_st32n run_al32 blkOf_drew blkOf_setRow_same blkOf_setRow_other NV_size blkOf_alloc
abbrev Z : Nat → Nat := fun _ => 0
abbrev St0 : St := ⟨Z, Z, Z, []⟩
theorem run_bu32 (w : World) (A B : Option Addr) (n c m d : Nat) : (buS 32 #[(0, .slice A n c), (1, .slice B m d)]).run Tryz.prog w = .ok (.agg (NV (.slice A n c) (.slice B m d) Z Z Z nilS)) w := by
  unfold buS
  refine run_build w 32 _ _ ?_
  unfold NV
  kernel_rfl
attribute [local go_sem] run_bu32
theorem res_tc {fn : Func} {p u : Tmp} (h : fn.results = #[.tmp u, .cell p 32]) {tmps : Array Value} {w : World} {g : Nat} {cs : Array Value} {x : Value} (hp : tmps.getD p undef = .pointer (some ⟨g, 0, none⟩)) (hx : tmps.getD u undef = x) (hb : blkOf w g = cs) (hz : cs.size = 83) :
    (results fn tmps).run Tryz.prog w = .ok (.tuple #[x, .agg cs]) w := by
  have e : (results fn tmps).run Tryz.prog w = ((asAddr (tmps.getD p undef)).run Tryz.prog w).andThen fun a w₁ => ((loadVar 32 a).run Tryz.prog w₁).andThen fun v w₂ => .ok (.tuple #[tmps.getD u undef, v]) w₂ := by
    simp only [results, h]
    simp [Sem.run_bind, Result.andThen]
  rw [e, hp, hx]
  simp [asAddr, run_lv32 hb hz]
theorem errA_ok : ∀ (hs : List Jh) (seen : List Ms), (∀ h ∈ hs, OkH h) → (seen ++ hs.map (·.1)).Nodup → errA seen hs = 0
  | [], _, _, _ => rfl
  | h :: hs, seen, ho, hn => by
    rw [List.map_cons] at hn
    rw [errA, (ho h (by simp)).valid, if_neg (by decide), if_neg (fun hm => by
      rw [List.nodup_append] at hn
      exact hn.2.2 _ hm _ (by simp) rfl)]
    exact errA_ok hs _ (fun x hx => ho x (by simp [hx])) (by simpa using hn)
theorem Dis.nodup {hs : List Jh} (h : Dis hs) : (hs.map (·.1)).Nodup := by
  rw [List.nodup_iff_pairwise_ne, List.pairwise_map, List.pairwise_iff_getElem]
  intro i j hi hj hij
  have := h i j hij hj
  rwa [List.getD_eq_getElem?_getD, List.getD_eq_getElem?_getD, List.getElem?_eq_getElem hi, List.getElem?_eq_getElem hj] at this
theorem errF_ok {hs : List Jh} (ho : ∀ h ∈ hs, OkH h) (hd : Dis hs) (hl : hs.length ≤ 16) : errF hs = 0 := by
  unfold errF
  rw [if_neg (by omega)]
  exact errA_ok hs [] ho (by simpa using hd.nodup)
theorem chsF_ok (rs : List Raw) : OkL (chsF rs) ∧ (chsF rs).length ≤ 12 := by rw [← chsTo_end]; exact chsTo_ok rs 12
def RetBg (rs : List Raw) (nh : Nat) (w : World) (e : Ending) (w' : World) : Prop :=
  ∃ (g r : Nat) (cv hv lv kh : Value) (os hs : List Jh), e = .returned (.tuple #[.pointer (some ⟨g, 0, none⟩), .agg (NV lv kh Z Z Z nilS)]) ∧ Net w' g r cv hv (chsF rs) os St0 ∧ Stay g r (fun W => CsAt W lv (chsF rs)) w' ∧ Stay g r (fun W => HsAt W kh hs) w' ∧
    os.map plH = hs.map plH ∧ (∀ h ∈ hs, OkH h) ∧ Dis hs ∧ hs.length ≤ min 4 nh ∧ w.heap.size ≤ g ∧ w.heap.size ≤ r ∧ Ext w w'
/-- As RetBg, and plainly which holds they are. -/
def RetBd (rs : List Raw) (ds : List Jh) (w : World) (e : Ending) (w' : World) : Prop :=
  ∃ (g r : Nat) (cv hv lv kh : Value) (os hs : List Jh), e = .returned (.tuple #[.pointer (some ⟨g, 0, none⟩), .agg (NV lv kh Z Z Z nilS)]) ∧ Net w' g r cv hv (chsF rs) os St0 ∧ Stay g r (fun W => CsAt W lv (chsF rs)) w' ∧ Stay g r (fun W => HsAt W kh hs) w' ∧
    os.map plH = hs.map plH ∧ (∀ h ∈ hs, OkH h) ∧ Dis hs ∧ hs.length ≤ min 4 ds.length ∧ hs.map plH = hsF ds 20 ∧ w.heap.size ≤ g ∧ w.heap.size ≤ r ∧ Ext w w'
set_option maxRecDepth 100000 in
set_option maxHeartbeats 4000000 in
theorem begin9_det (rs : List Raw) (ds : List Jh) (cV hV : Value) (w : World) (hc : Raws w cV rs) (hk : ∀ r ∈ rs, r.kd < 256) (hh : HsAt w hV ds) : Calls Tryz.prog 5 #[.agg #[cV, hV]] w (RetBd rs ds w) := by
  have CC := Lib.hid (fun W (hW : Ext w W) => choices_any rs cV W (hc.ext hW) hk)
  have CO := Lib.hid (fun W (hW : Ext w W) => holds28_det ds hV W (hh.ext hW))
  obtain ⟨Ac, cc, rfl, -, -, -⟩ := hc.read
  obtain ⟨Ah, ch, rfl, -, -, -⟩ := hh.sl.read
  rw [List.length_map, List.length_map] at *
  obtain ⟨cs, hcs⟩ : ∃ cs, chsF rs = cs := ⟨_, rfl⟩
  have hok := chsF_ok rs
  unfold RetBd
  rw [hcs] at CC hok ⊢
  obtain ⟨hok, hcl⟩ := hok
  have HOK := Lib.hid hok
  clear hc hk hh hcs hok
  go_enter Tryz.func5, Tryz.ntmps5
  go_upto_region 1 with fail
  generalize hwB : (w.alloc (.cells #[.slice Ac rs.length cc, .slice Ah ds.length ch] 25)).alloc (.cells NV0 32) = wB
  obtain ⟨hE, b0, b1, hsB⟩ := letter2 hwB
  have c0 : wB.cell? ⟨w.heap.size, 0, none⟩ = some (.slice Ac rs.length cc) := blkOf_cell (by rw [b0]; rfl)
  have c1 : wB.cell? ⟨w.heap.size, 1, none⟩ = some (.slice Ah ds.length ch) := blkOf_cell (by rw [b0]; rfl)
  have HE := Lib.hid hE
  clear hwB hE b0
  have KB : Hid (∀ W, Ext wB W → (fun w' => Ext wB w' ∧ w'.cell? ⟨w.heap.size, 0, none⟩ = some (.slice Ac rs.length cc) ∧ w'.cell? ⟨w.heap.size, 1, none⟩ = some (.slice Ah ds.length ch)) W) := Lib.hid (fun W h => ⟨h, h.cell c0, h.cell c1⟩)
  refine wp_region_noPanic ?_
  refine wp_region_held_drew (S := (fun w' => Ext wB w' ∧ w'.cell? ⟨w.heap.size, 0, none⟩ = some (.slice Ac rs.length cc) ∧ w'.cell? ⟨w.heap.size, 1, none⟩ = some (.slice Ah ds.length ch))) (by kernel_rfl) ?_ (fun hHeld => ?_)
  · exact KB.out _ (by (repeat (first | with_reducible assumption | with_reducible exact Ext.refl _ | with_reducible apply Ext.alloc | with_reducible apply Ext.drew)); first | done | fail)
  refine wpAnyH_take (i := 0) (v := ?_) (oper_at rfl) (by kernel_rfl) (by kernel_rfl) (by kernel_rfl) (fun _ _ _ h => h) (Or.inl ⟨by rfl, ?_⟩) hHeld ?_
  rotate_left
  · (intro ww hSw; (try dsimp only at hSw); go_simp; try (with_reducible rfl))
  try simp only [Act.put, List.setIfInBounds_toArray, List.set_cons_zero, List.set_cons_succ]
  refine wpAnyH_take (i := 1) (v := ?_) (oper_at rfl) (by kernel_rfl) (by kernel_rfl) (by kernel_rfl) (fun _ _ _ h => h) (Or.inl ⟨by rfl, ?_⟩) hHeld ?_
  rotate_left
  · (intro ww hSw; (try dsimp only at hSw); go_simp; try (with_reducible rfl))
  try simp only [Act.put, List.setIfInBounds_toArray, List.set_cons_zero, List.set_cons_succ]
  refine wpAnyH_take (i := 3) (v := ?_) (oper_at rfl) (by kernel_rfl) (by kernel_rfl) (by kernel_rfl) (fun _ _ _ h => h) (Or.inl ⟨by rfl, ?_⟩) hHeld ?_
  rotate_left
  · (intro ww hSw; (try dsimp only at hSw); go_simp; try (with_reducible rfl))
  try simp only [Act.put, List.setIfInBounds_toArray, List.set_cons_zero, List.set_cons_succ]
  refine wpAnyH_take (i := 4) (v := ?_) (oper_at rfl) (by kernel_rfl) (by kernel_rfl) (by kernel_rfl) (fun _ _ _ h => h) (Or.inl ⟨by rfl, ?_⟩) hHeld ?_
  rotate_left
  · (intro ww hSw; (try dsimp only at hSw); go_simp; try (with_reducible rfl))
  try simp only [Act.put, List.setIfInBounds_toArray, List.set_cons_zero, List.set_cons_succ]
  refine wpAnyH_ready (rs := [2]) (by kernel_rfl) (by simp) (AllReadyH.cons (oper_at rfl) (fun K hK => ?_) AllReadyH.nil)
  go_simp
  go_at_call 14
  refine (CC.out _ (HE.out.trans (by (repeat (first | with_reducible assumption | with_reducible exact Ext.refl _ | with_reducible apply Ext.alloc | with_reducible apply Ext.drew)); first | done | fail))).mono ?_
  rintro e1 w1 ⟨t1, rfl, hr1, hE1⟩
  have hE1' : Ext wB w1 := Ext.trans (by (repeat (first | with_reducible assumption | with_reducible exact Ext.refl _ | with_reducible apply Ext.alloc | with_reducible apply Ext.drew)); first | done | fail) hE1
  obtain ⟨A1, c1', e1, -, -⟩ := hr1.form
  rw [List.length_map] at e1
  subst e1
  have hr1 := hr1.base (B' := w.heap.size + 2) (by show w.heap.size + 2 ≤ wB.heap.size; omega)
  have HR1 := Lib.hid hr1
  clear hr1 hE1
  refine hK.out _ _ ?_ (fun hHeld => ?_)
  · exact KB.out _ (by (repeat (first | with_reducible assumption | with_reducible exact Ext.refl _ | with_reducible apply Ext.alloc | with_reducible apply Ext.drew)); first | done | fail)
  clear hK K
  try simp only [Act.put, List.setIfInBounds_toArray, List.set_cons_zero, List.set_cons_succ]
  refine wpAnyH_ready (rs := [5]) (by kernel_rfl) (by simp) (AllReadyH.cons (oper_at rfl) (fun K hK => ?_) AllReadyH.nil)
  go_simp
  go_at_call 15
  refine (CO.out _ (HE.out.trans (by (repeat (first | with_reducible assumption | with_reducible exact Ext.refl _ | with_reducible apply Ext.alloc | with_reducible apply Ext.drew)); first | done | fail))).mono ?_
  rintro e2 w2 ⟨t2, hs, rfl, hO, hOKH, hDis, hln, hdp, hE2⟩
  have hE2' : Ext w1 w2 := Ext.trans (by (repeat (first | with_reducible assumption | with_reducible exact Ext.refl _ | with_reducible apply Ext.alloc | with_reducible apply Ext.drew)); first | done | fail) hE2
  obtain ⟨A2, c2, e2, -, -⟩ := hO.row.form
  rw [List.length_map] at e2
  subst e2
  have E12 : Hid (Ext wB w2) := Lib.hid (hE1'.trans hE2')
  have HT1 := Lib.hid (HR1.out.ext hE2')
  have hBw : w.heap.size + 2 ≤ w1.heap.size := by have := hE1'.size; omega
  have HT2 := Lib.hid hO
  have HOKH := Lib.hid hOKH
  have HDIS := Lib.hid hDis
  have HDP := Lib.hid hdp
  have E12' := E12.out
  clear hO hOKH hDis hdp hE2 HR1
  refine hK.out _ _ ?_ (fun hHeld => ?_)
  · exact KB.out _ (by (repeat (first | with_reducible assumption | with_reducible exact Ext.refl _ | with_reducible apply Ext.alloc | with_reducible apply Ext.drew)); first | done | fail)
  clear hK K
  try simp only [Act.put, List.setIfInBounds_toArray, List.set_cons_zero, List.set_cons_succ]
  refine wpAnyH_take (i := 6) (v := ?_) (oper_at rfl) (by kernel_rfl) (by kernel_rfl) (by kernel_rfl) (fun _ _ _ h => h) (Or.inl ⟨by rfl, ?_⟩) hHeld ?_
  rotate_left
  · (intro ww hSw; (try dsimp only at hSw); go_simp; try (with_reducible rfl))
  try simp only [Act.put, List.setIfInBounds_toArray, List.set_cons_zero, List.set_cons_succ]
  refine wpAnyH_take (i := 7) (v := ?_) (oper_at rfl) (by kernel_rfl) (by kernel_rfl) (by kernel_rfl) (fun _ _ _ h => h) (Or.inl ⟨by rfl, ?_⟩) hHeld ?_
  rotate_left
  · (intro ww hSw; (try dsimp only at hSw); go_simp; try (with_reducible rfl))
  try simp only [Act.put, List.setIfInBounds_toArray, List.set_cons_zero, List.set_cons_succ]
  refine wpAnyH_done (by kernel_rfl) ?_ _
  refine NoPanic.normal ?_
  clear E12' hHeld KB
  have b1 : blkOf w2 (w.heap.size + 1) = NV0 := (blkOf_ext E12.out (by omega)).trans b1
  have hz2 : w.heap.size + 1 < w2.heap.size := by have := E12.out.size; omega
  have CS := Lib.hid (newSet_any cs _ w2 HT1.out.sl HOK.out (by omega))
  clear c0 c1
  go_wp2_with fail
  refine CS.out.mono ?_
  rintro e3 w3 ⟨t3, rfl, hr3, hE3⟩
  obtain ⟨A3, c3, e3, -, -⟩ := hr3.form
  rw [List.length_map] at e3
  subst e3
  have hE4 : Ext w2 (w3.alloc (.cells #[.slice A3 cs.length c3] 51)) := hE3.alloc _
  have CNW := Lib.hid (new14_any A3 cs.length c3 hs _ (w3.alloc (.cells #[.slice A3 cs.length c3] 51)) (HT2.out.hs.ext hE4))
  have HR3 := Lib.hid (hr3.ext ((Ext.refl w3).alloc (.cells #[.slice A3 cs.length c3] 51)))
  have HE4 := Lib.hid hE4
  have b1 : blkOf (w3.alloc (.cells #[.slice A3 cs.length c3] 51)) (w.heap.size + 1) = NV0 := (blkOf_ext hE4 hz2).trans b1
  have hz4 : w.heap.size + 1 < (w3.alloc (.cells #[.slice A3 cs.length c3] 51)).heap.size := Nat.lt_of_lt_of_le hz2 hE4.size
  clear hr3 hE3 hE4 CS
  go_wp2_with fail
  generalize hw4 : w3.alloc (.cells #[.slice A3 cs.length c3] 51) = w4 at *
  refine CNW.out.mono ?_
  rintro e5 w5 hret
  rcases hret with ⟨g, r, nv, os, rfl, -, hg1, hg2, hg3, hblk, hmk, hos, hpl, hE5⟩ | ⟨-, her, -⟩
  · obtain ⟨Ao, co, eo, -, -⟩ := hos.row.form
    rw [List.length_map] at eo
    subst eo
    have b1 : blkOf w5 (w.heap.size + 1) = NV0 := (blkOf_ext hE5 hz4).trans b1
    have B1 := Lib.hid b1
    have HBLK := Lib.hid hblk
    have HMK := Lib.hid hmk
    have HOS := Lib.hid hos
    have HPL := Lib.hid hpl
    have HE5 := Lib.hid hE5
    have hw45 := hE5.size
    have hgr : g ≠ r := by omega
    have h0g : w.heap.size + 1 ≠ g := by omega
    have h0r : r ≠ w.heap.size + 1 := by omega
    clear hblk hmk hos hpl hE5 CNW hw4
    go_wp2_with fail
    generalize hw6 : w5.setRow (w.heap.size + 1) _ = w6
    have hh6 : ∀ i, i ≠ w.heap.size + 1 → w6.heap[i]? = w5.heap[i]? := fun i hi => by rw [← hw6]; exact setRow_other _ _ _ _ hi
    have hs6 : w6.heap.size = w5.heap.size := by rw [← hw6]; exact setRow_size _ _ _
    have b6 : blkOf w6 (w.heap.size + 1) = NV (.slice A1 cs.length c1') (.slice A2 hs.length c2) Z Z Z nilS := by rw [← hw6]; exact blkOf_setRow_same (by rw [B1.out, NV_size])
    have hE46 : Ext w w6 := by
      rw [← hw6]
      exact (HE.out.trans (E12.out.trans (HE4.out.trans HE5.out))).setRow (Nat.le_add_right _ 1) _
    have hT2 : HsAt w6 _ hs := (HT2.out.kept (w' := w6) (fun i hi1 hi2 => by
      rw [hh6 i (by omega), HE5.out.block i (Nat.lt_of_lt_of_le hi2 HE4.out.size), HE4.out.block i hi2])).hs
    have hwl : w.heap.size ≤ w4.heap.size := by omega
    refine bodyPost_ret (res_tc Tryz.results5 (g := w.heap.size + 1) rfl rfl b6 NV_size) rfl ?_
    have hEw : ∀ W, Exc g r w6 W → (∀ i, i < w4.heap.size → i ≠ w.heap.size + 1 → W.heap[i]? = w4.heap[i]?) := fun W hW i hi hne => by
      rw [hW.block i (by have := HE5.out.size; omega) (by omega) (by omega), hh6 i hne, HE5.out.block i hi]
    refine ⟨g, r, .slice A3 cs.length c3, .slice Ao os.length co, _, _, os, hs, rfl, ⟨(blkOf_kept (hh6 g (Ne.symm h0g))).trans HBLK.out, ⟨[], HMK.out.kept (hh6 r h0r), by simp⟩, ?_, ?_, hgr⟩, ?_, ?_, HPL.out, HOKH.out, HDIS.out, hln, HDP.out, by omega, by omega, hE46⟩
    · intro W hW
      exact (HR3.out.kept fun i hi => hEw W hW i (HR3.out.lt i hi).2 (by have := (HR3.out.lt i hi).1; omega)).sl
    · intro W hW
      refine (HOS.out.kept fun i hi1 hi2 => ?_).hs
      rw [hW.block i (by omega) (by omega) (by omega), hh6 i (by omega)]
    · intro W hW
      refine (HT1.out.kept fun i hi => ?_).sl
      have h1 := HT1.out.lt i hi
      rw [hEw W hW i (Nat.lt_of_lt_of_le h1.2 HE4.out.size) (by omega), HE4.out.block i h1.2]
    · intro W hW
      refine (HT2.out.kept fun i hi1 hi2 => ?_).hs
      rw [hEw W hW i (Nat.lt_of_lt_of_le hi2 HE4.out.size) (by omega), HE4.out.block i hi2]
  · exact absurd (errF_ok HOKH.out HDIS.out (by omega)) her
theorem begin9_any (rs : List Raw) (ds : List Jh) (cV hV : Value) (w : World) (hc : Raws w cV rs) (hk : ∀ r ∈ rs, r.kd < 256) (hh : HsAt w hV ds) : Calls Tryz.prog 5 #[.agg #[cV, hV]] w (RetBg rs ds.length w) :=
  (begin9_det rs ds cV hV w hc hk hh).mono fun _ _ ⟨g, r, cv, hv, lv, kh, os, hs, h1, h2, h3, h4, h5, h6, h7, h8, _, h9⟩ => ⟨g, r, cv, hv, lv, kh, os, hs, h1, h2, h3, h4, h5, h6, h7, h8, h9⟩
end Go.Proofs.YtehmpbaiefbemaaGreat
