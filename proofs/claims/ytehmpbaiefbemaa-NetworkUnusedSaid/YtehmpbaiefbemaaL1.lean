/- The law NetworkPlays, walked. -/
import Derived.Test.YtehmpbaiefbemaaN43
namespace Go.Proofs.Ytehmpbaiefbemaa
open Go.RowKit
attribute [local go_sem ↓] Go.wp_at_zero Go.wp_at_succ
attribute [local go_sem ↓] eq73 ld32 st32 al32
attribute [local go_sem] run_eq73 run_ld32 run_st32n run_al32 blkOf_drew blkOf_setRow_same blkOf_setRow_other NV_size blkOf_alloc blkOf_new
/-- Two holds with the same messages say the same. -/
theorem hasB_pl {os hs : List Jh} (h : os.map plH = hs.map plH) (m : Ms) : hasB os m = hasB hs m := by
  have e : hasB os m = true ↔ hasB hs m = true := by rw [hasB_iff, hasB_iff, hasM_pl h, hasM_iff]
  cases h1 : hasB os m <;> cases h2 : hasB hs m <;> simp_all
theorem sendF_pl {cs : List Ch} {os hs : List Jh} (h : os.map plH = hs.map plH) (f t tick lat : Int) (x : St) : sendF cs os f t tick lat x = sendF cs hs f t tick lat x := by
  unfold sendF
  simp only [hasB_pl h]
theorem agrF_same {cs : List Ch} {os hs : List Jh} (h : os.map plH = hs.map plH) (a : Ac) (x : St) : agrF cs os cs hs a x := by
  unfold agrF
  split
  · rfl
  · split
    · exact ⟨rfl, rfl⟩
    · split
      · rfl
      · exact sendF_pl h _ _ _ _ _
theorem inv0 (cs : List Ch) : Inv cs St0 0 := ⟨by simp [Asc], by simp, fun i => ⟨Nat.le_refl _, Nat.le_refl _, Nat.le_refl _⟩⟩
/-- Behind begin both stand side by side. -/
theorem both0 {w : World} {g r : Nat} {cv hv lv kh : Value} {cs : List Ch} {os hs : List Jh} (hN : Net w g r cv hv cs os St0) (h1 : Stay g r (fun W => CsAt W lv cs) w) (h2 : Stay g r (fun W => HsAt W kh hs) w) : Both w g r w.heap.size cv hv lv kh nilS cs cs os hs St0 :=
  ⟨hN, h1, h2, Row.nil _ _ _ _, hN.lt, hN.rlt, Nat.le_refl _⟩
set_option maxRecDepth 100000 in
set_option maxHeartbeats 8000000 in
theorem plays_law (rs : List Raw) (ds : List Jh) (al : List (Ac × Value)) (cV hV lV : Value) (w : World) (hc : Raws w cV rs) (hk : ∀ r ∈ rs, r.kd < 256) (hh : HsAt w hV ds) (ha : AsAt w lV al) : Calls Try.prog 5 #[.agg #[cV, hV], lV] w (RetV (.bool true) w) := by
  have CB := Lib.hid (fun W (hW : Ext w W) => begin9_any rs ds cV hV W (hc.ext hW) hk (hh.ext hW))
  have HA := Lib.hid ha
  obtain ⟨Ac', cc, rfl, -, -, -⟩ := hc.read
  obtain ⟨Ah', ch, rfl, -, -, -⟩ := hh.sl.read
  obtain ⟨Aa, ca, rfl, -, -, -⟩ := ha.sl.read
  rw [List.length_map] at *
  rw [List.length_map] at *
  rw [List.length_map] at *
  clear hc hh ha
  go_enter Try.func5, Try.ntmps5
  go_wp2_with fail
  generalize hwB : w.alloc _ = wB
  have hE : Ext w wB := by rw [← hwB]; exact (Ext.refl _).alloc _
  have HE := Lib.hid hE
  clear hwB hE
  refine (CB.out _ HE.out).mono ?_
  rintro e2 w2 ⟨g, r, cv, hv, lv, kh, os, hs, rfl, hN, hrc, hrh, hpl, hok, hdis, hln, hg, hr, hE⟩
  have HBO := Lib.hid (both0 hN hrc hrh)
  obtain ⟨cs, hcs⟩ : ∃ cs, chsF rs = cs := ⟨_, rfl⟩
  have hokc := chsF_ok rs
  rw [hcs] at HBO hokc hN hrc
  have HST := Lib.hid (hokc.1.sta (by have := hokc.2; omega))
  obtain ⟨Al, cl, rfl, -, -, -⟩ := hrc.now.read
  obtain ⟨Ak, ck, rfl, -, -, -⟩ := hrh.now.sl.read
  have hgw : w.heap.size ≤ g := Nat.le_trans HE.out.size hg
  have hrw : w.heap.size ≤ r := Nat.le_trans HE.out.size hr
  have HE2 := Lib.hid (HE.out.trans hE)
  have HPL := Lib.hid hpl
  rw [List.length_map, List.length_map] at *
  clear hN hrc hrh hpl hok hdis hln hE CB hcs hokc
  go_upto_region 2 with fail
  generalize hw3 : (w2.alloc (.cells NV0 32)).setRow w2.heap.size _ = w3
  have hE3 : Ext w2 w3 := by rw [← hw3]; exact ((Ext.refl _).alloc _).setRow (Nat.le_refl _) _
  have d3 : blkOf w3 w2.heap.size = NV (.slice Al cs.length cl) (.slice Ak hs.length ck) Z Z Z nilS := by rw [← hw3]; exact blkOf_setRow_same (by rw [blkOf_new, NV_size])
  have hz3 : w2.heap.size < w3.heap.size := blkOf_lt (by rw [d3, NV_size]; omega)
  have HE3 := Lib.hid (HE2.out.trans hE3)
  have HB3 := Lib.hid (HBO.out.ext hE3)
  clear hw3 hE3 HBO HE2
  go_wp2_with fail
  refine (awake10_any w3).mono ?_
  rintro e4 w4 ⟨rfl, hE4⟩
  have d4 := (blkOf_ext hE4 hz3).trans d3
  have HE4 := Lib.hid (HE3.out.trans hE4)
  have CP := Lib.hid (play20_any g r w2.heap.size cv hv (.slice Al cs.length cl) (.slice Ak hs.length ck) nilS (.slice Aa al.length ca) cs cs os hs St0 0 al w4 (HB3.out.ext hE4) HST.out (inv0 cs) (by omega) (fun W hW => HA.out.ext (hW.ext HE4.out hgw hrw)) (fun i _ _ => agrF_same HPL.out _ _))
  clear hE4 d3 HE3 HB3
  go_wp2_with fail
  refine CP.out.mono ?_
  rintro e5 w5 ⟨kv5, rfl, hB5, hE5⟩
  obtain ⟨A5, c5, e5, -, -⟩ := hB5.rk.form
  rw [List.length_map] at e5
  subst e5
  have HE5 := Lib.hid (hE5.ext HE4.out hgw hrw)
  clear hB5 hE5 CP d4
  generalize stF cs hs al St0 (min al.length 30) = y at *
  go_wp2_with fail
  go_ret
  exact ⟨rfl, (HE5.out.alloc _).setRow HE5.out.size _⟩
end Go.Proofs.Ytehmpbaiefbemaa
