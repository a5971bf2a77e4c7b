/- The walk over NetworkCopies. -/
import Derived.Test.YtehmpbaiefbemaaGreatH6
import Derived.Deep.Cut
namespace Go.Proofs.YtehmpbaiefbemaaGreat
open Go.RowKit
attribute [local go_sem ↓] Go.wp_at_zero Go.wp_at_succ
attribute [local go_sem ↓] ld32 st32 al32 ld29 ld28 eq29 eq28
attribute [local go_sem] run_ld32 run_st32n run_al32 blkOf_drew blkOf_setRow_same blkOf_setRow_other NV_size blkOf_alloc blkOf_new run_eq29 run_eq28
set_option maxRecDepth 100000 in
set_option maxHeartbeats 8000000 in
theorem copies_law (rs : List Raw) (ds : List Jh) (al ml : List (Ac × Value)) (cV hV lV mV : Value) (w : World) (hc : Raws w cV rs) (hk : ∀ r ∈ rs, r.kd < 256) (hh : HsAt w hV ds) (ha : AsAt w lV al) (hm : AsAt w mV ml) : Calls Tryz.prog 3 #[.agg #[cV, hV], lV, mV] w (RetV (.bool true) w) := by
  have CB := Lib.hid (fun W (hW : Ext w W) => begin9_any rs ds cV hV W (hc.ext hW) hk (hh.ext hW))
  have HA := Lib.hid ha
  have HM := Lib.hid hm
  obtain ⟨Ac', cc, rfl, -, -, -⟩ := hc.read
  obtain ⟨Ah', ch, rfl, -, -, -⟩ := hh.sl.read
  obtain ⟨Aa, ca, rfl, -, -, -⟩ := ha.sl.read
  obtain ⟨Am, cm, rfl, -, -, -⟩ := hm.sl.read
  rw [List.length_map] at *
  rw [List.length_map] at *
  rw [List.length_map] at *
  rw [List.length_map] at *
  clear hc hh ha hm
  go_enter Tryz.func3, Tryz.ntmps3
  go_wp2_with fail
  generalize hwB : w.alloc _ = wB
  have hE : Ext w wB := by rw [← hwB]; exact (Ext.refl _).alloc _
  have HE := Lib.hid hE
  clear hwB hE
  refine (CB.out _ HE.out).mono ?_
  rintro e2 w2 ⟨g, r, cv, hv, lv, kh, os, hs, rfl, hN, hrc, hrh, hpl, hok, hdis, hln, hg, hr, hE⟩
  obtain ⟨cs, hcs⟩ : ∃ cs, chsF rs = cs := ⟨_, rfl⟩
  have hokc := chsF_ok rs
  rw [hcs] at hokc hN hrc
  have HST := Lib.hid (hokc.1.sta (by have := hokc.2; omega))
  have HCL : Hid (cs.length ≤ 1000) := Lib.hid (by have := hokc.2; omega)
  have HC50 : Hid (cs.length ≤ 12) := Lib.hid hokc.2
  have HSO := Lib.hid (os_small hpl hok)
  have HPL := Lib.hid hpl
  have HOL : Hid (os.length ≤ 1000) := Lib.hid (by have h1 := congrArg List.length hpl; simp only [List.length_map] at h1; omega)
  have HN2 := Lib.hid hN
  have HRC2 := Lib.hid hrc
  have HRH2 := Lib.hid hrh
  obtain ⟨Al, cl, rfl, -, -, -⟩ := hrc.now.read
  obtain ⟨Ak, ck, rfl, -, -, -⟩ := hrh.now.sl.read
  have hgw : w.heap.size ≤ g := Nat.le_trans HE.out.size hg
  have hrw : w.heap.size ≤ r := Nat.le_trans HE.out.size hr
  have HE2 := Lib.hid (HE.out.trans hE)
  have NGZ : Hid (g < w2.heap.size ∧ r < w2.heap.size) := Lib.hid ⟨hN.lt, hN.rlt⟩
  rw [List.length_map, List.length_map] at *
  clear hN hrc hrh hpl hok hdis hln hE CB hcs hokc hg hr
  go_upto_region 2 with fail
  generalize hw3 : (w2.alloc (.cells NV0 32)).setRow w2.heap.size _ = w3
  have hE3 : Ext w2 w3 := by rw [← hw3]; exact ((Ext.refl _).alloc _).setRow (Nat.le_refl _) _
  have d3 : blkOf w3 w2.heap.size = NV (.slice Al cs.length cl) (.slice Ak hs.length ck) Z Z Z nilS := by rw [← hw3]; exact blkOf_setRow_same (by rw [blkOf_new, NV_size])
  have hz3 : w2.heap.size < w3.heap.size := blkOf_lt (by rw [d3, NV_size]; omega)
  have HE3 := Lib.hid hE3
  clear hw3 hE3
  go_wp2_with fail
  refine (awake10_any w3).mono ?_
  rintro e4 w4 ⟨rfl, hE4⟩
  have d4 := (blkOf_ext hE4 hz3).trans d3
  have HE24 := Lib.hid (HE3.out.trans hE4)
  have HE4 := Lib.hid (HE2.out.trans HE24.out)
  have HN4 := Lib.hid (HN2.out.ext HE24.out)
  have HRC4 := Lib.hid (HRC2.out.exc (HE24.out.exc g r))
  have HRH4 := Lib.hid (HRH2.out.exc (HE24.out.exc g r))
  have HZ4 : Hid (w2.heap.size < w4.heap.size) := Lib.hid (Nat.lt_of_lt_of_le hz3 hE4.size)
  have HB4 := Lib.hid (show Both w4 g r w2.heap.size cv hv (.slice Al cs.length cl) (.slice Ak hs.length ck) nilS cs cs os hs St0 from ⟨HN4.out, HRC4.out, HRH4.out, Row.nil _ _ _ _, HN4.out.lt, HN4.out.rlt, Nat.le_of_lt HZ4.out⟩)
  have CP := Lib.hid (play20_any g r w2.heap.size cv hv (.slice Al cs.length cl) (.slice Ak hs.length ck) nilS (.slice Aa al.length ca) cs cs os hs St0 0 al w4 HB4.out HST.out (inv0 cs) (by omega) (fun W hW => HA.out.ext (hW.ext HE4.out hgw hrw)) (fun i _ _ => agrF_same HPL.out _ _))
  have HI5 := Lib.hid (stF_inv (hs := hs) (al := al) (inv0 cs) (min al.length 30) (Nat.min_le_left _ _))
  clear hE4 d3 hz3 HB4 HE3 HN2 HRC2 HRH2
  go_wp2_with fail
  refine CP.out.mono ?_
  rintro e5 w5 ⟨kv5, rfl, hB5, hE5⟩
  obtain ⟨A5, c5, e5, -, -⟩ := hB5.rk.form
  rw [List.length_map] at e5
  subst e5
  have HB5 := Lib.hid hB5
  have HX5 := Lib.hid (hE5.ext HE4.out hgw hrw)
  have HZ5 : Hid (w2.heap.size < w5.heap.size) := Lib.hid (Nat.lt_of_lt_of_le HZ4.out hE5.size)
  generalize hy : stF cs hs al St0 (min al.length 30) = y at *
  have HKL : Hid (y.ks.length ≤ 50) := Lib.hid (Nat.le_trans HI5.out.len (by have := HC50.out; omega))
  clear hB5 hE5 CP d4 hy
  go_upto_region 5 with fail
  generalize hw6 : (w5.alloc (.cells NV0 32)).setRow w5.heap.size _ = w6
  have hE6 : Ext w5 w6 := by rw [← hw6]; exact ((Ext.refl _).alloc _).setRow (Nat.le_refl _) _
  have d6 : blkOf w6 w5.heap.size = NV (.slice Al cs.length cl) (.slice Ak hs.length ck) y.s y.t y.d (.slice A5 y.ks.length c5) := by rw [← hw6]; exact blkOf_setRow_same (by rw [blkOf_new, NV_size])
  have hz6 : w5.heap.size < w6.heap.size := blkOf_lt (by rw [d6, NV_size]; omega)
  have HB6 := Lib.hid (HB5.out.ext hE6)
  have HX6 := Lib.hid (HX5.out.trans hE6)
  have HN6 := Lib.hid HB6.out.net
  have D6 := Lib.hid d6
  have HZ6 := Lib.hid hz6
  have CC := Lib.hid (copy22_any g r cv hv cs os y w6 HN6.out)
  clear hw6 hE6 d6 hz6 HB5 HX5
  go_wp2_with fail
  refine CC.out.mono ?_
  rintro e7 w7 ⟨g', r', rfl, hg', hr', hM7, hE7⟩
  have HGP : Hid (w6.heap.size ≤ g' ∧ w6.heap.size ≤ r') := Lib.hid ⟨hg', hr'⟩
  have HM7 := Lib.hid hM7
  have HE7 := Lib.hid hE7
  have EQ1 : Hid (∀ W, Ext w7 W → Calls Tryz.prog 9 #[.pointer (some ⟨g', 0, none⟩), .pointer (some ⟨g, 0, none⟩)] W (RetV (.bool true) W)) := Lib.hid (fun W hW => by
    have h := equal26_any g' r' g r cv hv cs os y y W (HM7.out.ext hW) (HN6.out.ext (HE7.out.trans hW)) HI5.out.asc HI5.out.asc (by have := HKL.out; omega) (by have := HKL.out; omega) HCL.out HOL.out HSO.out
    rw [eqSt_self] at h
    exact h)
  have EQ2 : Hid (∀ W, Ext w7 W → Calls Tryz.prog 9 #[.pointer (some ⟨g, 0, none⟩), .pointer (some ⟨g', 0, none⟩)] W (RetV (.bool true) W)) := Lib.hid (fun W hW => by
    have h := equal26_any g r g' r' cv hv cs os y y W (HN6.out.ext (HE7.out.trans hW)) (HM7.out.ext hW) HI5.out.asc HI5.out.asc (by have := HKL.out; omega) (by have := HKL.out; omega) HCL.out HOL.out HSO.out
    rw [eqSt_self] at h
    exact h)
  clear hg' hr' hM7 hE7 CC
  go_wp2_with fail
  refine (EQ1.out _ (Ext.refl _)).mono ?_
  rintro e8 w8 ⟨rfl, hE8⟩
  have HE8 := Lib.hid hE8
  go_wp2_with fail
  refine (EQ2.out _ HE8.out).mono ?_
  rintro e9 w9 ⟨rfl, hE9⟩
  have HE79 := Lib.hid (HE8.out.trans hE9)
  have HE69 := Lib.hid (HE7.out.trans HE79.out)
  have d9 : blkOf w9 w5.heap.size = NV (.slice Al cs.length cl) (.slice Ak hs.length ck) y.s y.t y.d (.slice A5 y.ks.length c5) := (blkOf_ext HE69.out HZ6.out).trans D6.out
  have HD9 := Lib.hid d9
  have HX9 := Lib.hid (HX6.out.trans HE69.out)
  have hgw' : w.heap.size ≤ g' ∧ w.heap.size ≤ r' := by have h1 := HX6.out.size; have h2 := HGP.out; omega
  obtain ⟨hgp, hrp⟩ := hgw'
  have HM9 := Lib.hid (HM7.out.ext HE79.out)
  have HB9 := Lib.hid (show Both w9 g' r' w2.heap.size cv hv (.slice Al cs.length cl) (.slice Ak hs.length ck) (.slice A5 y.ks.length c5) cs cs os hs y from ⟨HM9.out, fun W hW => HB6.out.rc W ((hW.ext HE69.out HGP.out.1 HGP.out.2).exc g r), fun W hW => HB6.out.rh W ((hW.ext HE69.out HGP.out.1 HGP.out.2).exc g r), HB6.out.rk.ext HE69.out, HM9.out.lt, HM9.out.rlt, Nat.le_trans HB6.out.Bw HE69.out.size⟩)
  have CP := Lib.hid (play20_any g' r' w2.heap.size cv hv (.slice Al cs.length cl) (.slice Ak hs.length ck) (.slice A5 y.ks.length c5) (.slice Am ml.length cm) cs cs os hs y _ ml w9 HB9.out HST.out HI5.out (by omega) (fun W hW => HM.out.ext (hW.ext HX9.out hgp hrp)) (fun i _ _ => agrF_same HPL.out _ _))
  have HI10 := Lib.hid (stF_inv (hs := hs) (al := ml) HI5.out (min ml.length 30) (Nat.min_le_left _ _))
  have HSUB := Lib.hid (stF_sub (cs := cs) (hs := hs) (al := ml) (x := y) (min ml.length 30) (Nat.min_le_left _ _))
  clear hE8 hE9 EQ1 EQ2 HE8
  go_wp2_with fail
  refine CP.out.mono ?_
  rintro e10 w10 ⟨kv10, rfl, hB10, hE10⟩
  obtain ⟨A10, c10, e10, -, -⟩ := hB10.rk.form
  rw [List.length_map] at e10
  subst e10
  have HB10 := Lib.hid hB10
  have HE10 := Lib.hid hE10
  obtain ⟨z, hz⟩ : ∃ z, stF cs hs ml y (min ml.length 30) = z := ⟨_, rfl⟩
  rw [hz] at HB10 HI10 HSUB ⊢
  have HZL : Hid (z.ks.length ≤ 50) := Lib.hid (Nat.le_trans HI10.out.len (by have := HC50.out; omega))
  have HEQ := Lib.hid (eqSt_len HI5.out.asc HI10.out.asc HSUB.out)
  have HZZ := Lib.hid hz
  have NGP : Hid (w5.heap.size ≠ g' ∧ w5.heap.size ≠ r') := Lib.hid (by have h1 := HGP.out; have h2 := HZ6.out; omega)
  have HE610 := Lib.hid (hE10.ext HE69.out HGP.out.1 HGP.out.2)
  clear hB10 hE10 CP d9 hz
  go_upto_region 9 with fail
  generalize hwE : (w10.alloc (.cells NV0 32)).setRow w10.heap.size _ = wE
  have hEE : Ext w10 wE := by rw [← hwE]; exact ((Ext.refl _).alloc _).setRow (Nat.le_refl _) _
  have dE : blkOf wE w10.heap.size = NV (.slice Al cs.length cl) (.slice Ak hs.length ck) z.s z.t z.d (.slice A10 z.ks.length c10) := by rw [← hwE]; exact blkOf_setRow_same (by rw [blkOf_new, NV_size])
  have DE := Lib.hid dE
  have HZE : Hid (w10.heap.size < wE.heap.size) := Lib.hid (blkOf_lt (by rw [dE, NV_size]; omega))
  have HE6E := Lib.hid (HE610.out.trans hEE)
  have HM10 := Lib.hid (HB10.out.net.ext hEE)
  have HNE := Lib.hid (Net.ext HN6.out HE6E.out)
  have D5E : Hid (blkOf wE w5.heap.size = NV (.slice Al cs.length cl) (.slice Ak hs.length ck) y.s y.t y.d (.slice A5 y.ks.length c5)) := Lib.hid ((blkOf_ext HE6E.out HZ6.out).trans D6.out)
  have HK5 := Lib.hid (HB6.out.rk.sl.ext HE6E.out)
  have CN := Lib.hid (fun W (hW : Ext wE W) => consumed19_any g r cv hv cs os y W (HNE.out.ext hW) HI5.out.asc (by have := HKL.out; omega))
  have CK := Lib.hid (fun W t (hW : Ext wE W) (h1 : KsAt W t y.ks) => sameKeys_ok y.ks t (.slice A5 y.ks.length c5) W h1 (SlAt.ext HK5.out hW) (by have := HKL.out; omega))
  have k82 : wE.cell? ⟨w5.heap.size, 82, none⟩ = some (.slice A5 y.ks.length c5) := blkOf_cell (by rw [D5E.out]; exact NV_82)
  have KB : Hid (∀ w', Ext wE w' → (fun w' => Ext wE w' ∧ w'.cell? ⟨w5.heap.size, 82, none⟩ = some (.slice A5 y.ks.length c5)) w') := Lib.hid fun W hW => ⟨hW, hW.cell k82⟩
  clear hwE hEE dE k82
  refine wp_region_noPanic ?_
  refine wp_region_held_drew (S := (fun w' => Ext wE w' ∧ w'.cell? ⟨w5.heap.size, 82, none⟩ = some (.slice A5 y.ks.length c5))) (by kernel_rfl) ?_ (fun hHeld => ?_)
  · exact KB.out _ (by (repeat (first | with_reducible assumption | with_reducible exact Ext.refl _ | with_reducible apply Ext.alloc | with_reducible apply Ext.drew)); first | done | fail)
  refine wpAnyH_take (i := 0) (v := ?_) (oper_at rfl) (by kernel_rfl) (by kernel_rfl) (by kernel_rfl) (fun _ _ _ h => h) (Or.inl ⟨by rfl, ?_⟩) hHeld ?_
  rotate_left
  · (intro ww hSw; (try dsimp only at hSw); go_simp; try (with_reducible rfl))
  try simp only [Act.put, List.setIfInBounds_toArray, List.set_cons_zero, List.set_cons_succ]
  refine wpAnyH_take (i := 1) (v := ?_) (oper_at rfl) (by kernel_rfl) (by kernel_rfl) (by kernel_rfl) (fun _ _ _ h => h) (Or.inl ⟨by rfl, ?_⟩) hHeld ?_
  rotate_left
  · (intro ww hSw; (try dsimp only at hSw); go_simp; try (with_reducible rfl))
  try simp only [Act.put, List.setIfInBounds_toArray, List.set_cons_zero, List.set_cons_succ]
  refine wpAnyH_take (i := 2) (v := ?_) (oper_at rfl) (by kernel_rfl) (by kernel_rfl) (by kernel_rfl) (fun _ _ _ h => h) (Or.inl ⟨by rfl, ?_⟩) hHeld ?_
  rotate_left
  · (intro ww hSw; (try dsimp only at hSw); go_simp; try (with_reducible rfl))
  try simp only [Act.put, List.setIfInBounds_toArray, List.set_cons_zero, List.set_cons_succ]
  refine wpAnyH_take (i := 3) (v := ?_) (oper_at rfl) (by kernel_rfl) (by kernel_rfl) (by kernel_rfl) (fun _ _ _ h => h) (Or.inl ⟨by rfl, ?_⟩) hHeld ?_
  rotate_left
  · (intro ww hSw; (try dsimp only at hSw); go_simp; try (with_reducible rfl))
  try simp only [Act.put, List.setIfInBounds_toArray, List.set_cons_zero, List.set_cons_succ]
  refine wpAnyH_take (i := 5) (v := ?_) (oper_at rfl) (by kernel_rfl) (by kernel_rfl) (by kernel_rfl) (fun _ _ _ h => h) (Or.inl ⟨by rfl, ?_⟩) hHeld ?_
  rotate_left
  · (intro ww hSw; (try dsimp only at hSw); go_simp; try (with_reducible rfl))
  try simp only [Act.put, List.setIfInBounds_toArray, List.set_cons_zero, List.set_cons_succ]
  refine wpAnyH_take (i := 6) (v := ?_) (oper_at rfl) (by kernel_rfl) (by kernel_rfl) (by kernel_rfl) (fun _ _ _ h => h) (Or.inl ⟨by rfl, ?_⟩) hHeld ?_
  rotate_left
  · (intro ww hSw; (try dsimp only at hSw); go_simp; try (with_reducible rfl))
  try simp only [Act.put, List.setIfInBounds_toArray, List.set_cons_zero, List.set_cons_succ]
  refine wpAnyH_ready (rs := [4]) (by kernel_rfl) (by simp) (AllReadyH.cons (oper_at rfl) (fun K hK => ?_) AllReadyH.nil)
  go_simp
  go_at_call 11
  refine (CN.out _ (by (repeat (first | with_reducible assumption | with_reducible exact Ext.refl _ | with_reducible apply Ext.alloc | with_reducible apply Ext.drew)); first | done | fail)).mono ?_
  rintro ef wf ⟨tf, rfl, hrf, hEf⟩
  have hXf : Ext wE wf := Ext.trans (by (repeat (first | with_reducible assumption | with_reducible exact Ext.refl _ | with_reducible apply Ext.alloc | with_reducible apply Ext.drew)); first | done | fail) hEf
  obtain ⟨Af, cf, ef, -, -⟩ := hrf.form
  rw [List.length_map] at ef
  subst ef
  have HTF := Lib.hid hrf.sl
  clear hrf hEf
  refine hK.out _ _ ?_ (fun hHeld => ?_)
  · exact KB.out _ (by (repeat (first | with_reducible assumption | with_reducible exact Ext.refl _ | with_reducible apply Ext.alloc | with_reducible apply Ext.drew)); first | done | fail)
  clear hK K
  try simp only [Act.put, List.setIfInBounds_toArray, List.set_cons_zero, List.set_cons_succ]
  refine wpAnyH_ready (rs := [7]) (by kernel_rfl) (by simp) (AllReadyH.cons (oper_at rfl) (fun K hK => ?_) AllReadyH.nil)
  go_simp
  go_at_call 10
  refine (CK.out _ _ (by (repeat (first | with_reducible assumption | with_reducible exact Ext.refl _ | with_reducible apply Ext.alloc | with_reducible apply Ext.drew)); first | done | fail) (HTF.out.ext (by (repeat (first | with_reducible assumption | with_reducible exact Ext.refl _ | with_reducible apply Ext.alloc | with_reducible apply Ext.drew)); first | done | fail))).mono ?_
  rintro eg wg ⟨rfl, hEg⟩
  have hXg : Ext wE wg := Ext.trans (by (repeat (first | with_reducible assumption | with_reducible exact Ext.refl _ | with_reducible apply Ext.alloc | with_reducible apply Ext.drew)); first | done | fail) hEg
  clear hEg hXf
  refine hK.out _ _ ?_ (fun hHeld => ?_)
  · exact KB.out _ (by (repeat (first | with_reducible assumption | with_reducible exact Ext.refl _ | with_reducible apply Ext.alloc | with_reducible apply Ext.drew)); first | done | fail)
  clear hK K
  try simp only [Act.put, List.setIfInBounds_toArray, List.set_cons_zero, List.set_cons_succ]
  refine wpAnyH_take (i := 8) (v := ?_) (oper_at rfl) (by kernel_rfl) (by kernel_rfl) (by kernel_rfl) (fun _ _ _ h => h) (Or.inl ⟨by rfl, ?_⟩) hHeld ?_
  rotate_left
  · (intro ww hSw; (try dsimp only at hSw); go_simp; try (with_reducible rfl))
  try simp only [Act.put, List.setIfInBounds_toArray, List.set_cons_zero, List.set_cons_succ]
  refine wpAnyH_take (i := 9) (v := ?_) (oper_at rfl) (by kernel_rfl) (by kernel_rfl) (by kernel_rfl) (fun _ _ _ h => h) (Or.inl ⟨by rfl, ?_⟩) hHeld ?_
  rotate_left
  · (intro ww hSw; (try dsimp only at hSw); go_simp; try (with_reducible rfl))
  try simp only [Act.put, List.setIfInBounds_toArray, List.set_cons_zero, List.set_cons_succ]
  refine wpAnyH_done (by kernel_rfl) ?_ _
  refine NoPanic.normal ?_
  iterate 6 (try clear hHeld)
  have HXG := Lib.hid hXg
  clear hXg KB CK CN
  go_upto_region 11 with fail
  generalize hwH : wg = wH at *
  have h5 : blkOf wH w5.heap.size = NV (.slice Al cs.length cl) (.slice Ak hs.length ck) y.s y.t y.d (.slice A5 y.ks.length c5) := (blkOf_ext HXG.out (Nat.lt_of_lt_of_le HZ6.out HE6E.out.size)).trans D5E.out
  have h10 : blkOf wH w10.heap.size = NV (.slice Al cs.length cl) (.slice Ak hs.length ck) z.s z.t z.d (.slice A10 z.ks.length c10) := (blkOf_ext HXG.out HZE.out).trans DE.out
  have HH5 := Lib.hid h5
  have HH10 := Lib.hid h10
  go_cut [13] (fun s wx => s = .bool (eqSt y z) ∧ wx = wH)
  case first =>
    have l1 := run_ld29 h5
    have l2 := run_ld28t h5
    have l3 := run_ld28d h5
    have l4 : wH.cell? ⟨w5.heap.size, 82, none⟩ = some (.slice A5 y.ks.length c5) := blkOf_cell (by rw [h5]; exact NV_82)
    have m1 := run_ld29 h10
    have m2 := run_ld28t h10
    have m3 := run_ld28d h10
    have m4 : wH.cell? ⟨w10.heap.size, 82, none⟩ = some (.slice A10 z.ks.length c10) := blkOf_cell (by rw [h10]; exact NV_82)
    clear h5 h10
    obtain ⟨ey, hey⟩ : ∃ e, eqSt y z = e := ⟨_, rfl⟩
    have HY := Lib.hid (HEQ.out.symm.trans hey)
    have HEY := Lib.hid hey
    clear hey
    cases hb1 : eqAA y.s z.s with
    | false =>
      have HF : Hid (ey = false) := Lib.hid (by rw [← HY.out, hb1]; rfl)
      go_wp2_with fail
      go_meet
      exact ⟨by rw [HEY.out, HF.out], rfl⟩
    | true =>
      cases hb2 : eqA y.t z.t 8 with
      | false =>
        have HF : Hid (ey = false) := Lib.hid (by rw [← HY.out, hb1, hb2]; rfl)
        go_wp2_with fail
        go_meet
        exact ⟨by rw [HEY.out, HF.out], rfl⟩
      | true =>
        cases hb3 : eqA y.d z.d 8 with
        | false =>
          have HF : Hid (ey = false) := Lib.hid (by rw [← HY.out, hb1, hb2, hb3]; rfl)
          go_wp2_with fail
          go_meet
          exact ⟨by rw [HEY.out, HF.out], rfl⟩
        | true =>
          obtain ⟨b4, hb4⟩ : ∃ b, decide (y.ks.length = z.ks.length) = b := ⟨_, rfl⟩
          have HF : Hid (ey = b4) := Lib.hid (by rw [← HY.out, hb1, hb2, hb3, hb4]; rfl)
          have hb6 : ((y.ks.length : Int) == (z.ks.length : Int)) = b4 := by rw [← hb4, Bool.eq_iff_iff, beq_iff_eq, decide_eq_true_iff]; omega
          go_wp2_with fail
          go_meet
          exact ⟨by rw [HEY.out, HF.out]; first | done | rw [hb6], rfl⟩
  case rest =>
    obtain ⟨rfl, rfl⟩ := hcut
    obtain ⟨ey, hey⟩ : ∃ e, eqSt y z = e := ⟨_, rfl⟩
    have HNH := Lib.hid (HNE.out.ext HXG.out)
    have HMH := Lib.hid (HM10.out.ext HXG.out)
    have te : (ey != ey) = false := by cases ey <;> rfl
    have EQ3 : Hid (Calls Tryz.prog 9 #[.pointer (some ⟨g, 0, none⟩), .pointer (some ⟨g', 0, none⟩)] wc (RetV (.bool ey) wc)) := Lib.hid (by
      have h := equal26_any g r g' r' cv hv cs os y z wc HNH.out HMH.out HI5.out.asc HI10.out.asc (by have := HKL.out; omega) (by have := HZL.out; omega) HCL.out HOL.out HSO.out
      rw [hey] at h
      exact h)
    rw [hey]
    clear hey h5 h10
    go_wp2_with fail
    refine EQ3.out.mono ?_
    rintro e12 w12 ⟨rfl, hE12⟩
    have HE612 := Lib.hid (HE6E.out.trans (HXG.out.trans hE12))
    have d12 : blkOf w12 w5.heap.size = NV (.slice Al cs.length cl) (.slice Ak hs.length ck) y.s y.t y.d (.slice A5 y.ks.length c5) := (blkOf_ext HE612.out HZ6.out).trans D6.out
    have HB12 := Lib.hid (HB6.out.ext HE612.out)
    have HM12 := Lib.hid (HMH.out.ext hE12)
    have HX12 := Lib.hid (HX6.out.trans HE612.out)
    have CP := Lib.hid (play20_any g r w2.heap.size cv hv (.slice Al cs.length cl) (.slice Ak hs.length ck) (.slice A5 y.ks.length c5) (.slice Am ml.length cm) cs cs os hs y _ ml w12 HB12.out HST.out HI5.out (by omega) (fun W hW => HM.out.ext (hW.ext HX12.out hgw hrw)) (fun i _ _ => agrF_same HPL.out _ _))
    rw [HZZ.out] at CP
    clear hE12 EQ3
    go_wp2_with fail
    refine CP.out.mono ?_
    rintro e13 w13 ⟨kv13, rfl, hB13, hE13⟩
    obtain ⟨A13, c13, e13, -, -⟩ := hB13.rk.form
    rw [List.length_map] at e13
    subst e13
    have HN13 := Lib.hid hB13.net
    have HX13 := Lib.hid (hE13.ext HX12.out hgw hrw)
    have K613 := Lib.hid ((HE612.out.exc g r).trans hE13)
    have HGN : Hid (g < w6.heap.size ∧ r < w6.heap.size) := Lib.hid ⟨HN6.out.lt, HN6.out.rlt⟩
    have HM13 := Lib.hid (Net.side HM12.out (hE13.block g' HM12.out.lt (by have h1 := HGP.out; have h2 := HGN.out; omega) (by have h1 := HGP.out; have h2 := HGN.out; omega)) (hE13.block r' HM12.out.rlt (by have h1 := HGP.out; have h2 := HGN.out; omega) (by have h1 := HGP.out; have h2 := HGN.out; omega)) (fun W hW => HN6.out.ch W (Exc.over K613.out hW HGP.out.1 HGP.out.2)) (fun W hW => HN6.out.ho W (Exc.over K613.out hW HGP.out.1 HGP.out.2)))
    have EQ4 : Hid (∀ W, Ext w13 W → Calls Tryz.prog 9 #[.pointer (some ⟨g, 0, none⟩), .pointer (some ⟨g', 0, none⟩)] W (RetV (.bool true) W)) := Lib.hid (fun W hW => by
      have h := equal26_any g r g' r' cv hv cs os z z W (HN13.out.ext hW) (HM13.out.ext hW) HI10.out.asc HI10.out.asc (by have := HZL.out; omega) (by have := HZL.out; omega) HCL.out HOL.out HSO.out
      rw [eqSt_self] at h
      exact h)
    clear hB13 hE13 CP d12
    go_wp2_with fail
    refine (EQ4.out _ (by (repeat (first | with_reducible assumption | with_reducible exact Ext.refl _ | with_reducible apply Ext.alloc | with_reducible apply Ext.drew)); first | done | fail)).mono ?_
    rintro e14 w14 ⟨rfl, hE14⟩
    have HF := Lib.hid (HX13.out.trans (Ext.trans (by (repeat (first | with_reducible assumption | with_reducible exact Ext.refl _ | with_reducible apply Ext.alloc | with_reducible apply Ext.drew)); first | done | fail) hE14))
    clear hE14
    go_wp2_with fail
    go_ret
    exact ⟨rfl, HF.out⟩
end Go.Proofs.YtehmpbaiefbemaaGreat
