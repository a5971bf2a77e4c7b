/- The reference's get. -/
import Derived.Test.YtehmpbaiefbemaaN19
namespace Go.Proofs.Ytehmpbaiefbemaa
open Go.RowKit
attribute [local go_sem ↓] Go.wp_at_zero Go.wp_at_succ
attribute [local go_sem ↓] eq73
attribute [local go_sem] run_eq73
set_option maxRecDepth 100000 in
set_option maxHeartbeats 4000000 in
theorem get110_any (cl : List Ch) (cs : Array Value) (v : Value) (k : Ky) (w : World) (hz : cs.size = 83) (hc : cs[0]? = some v) (hv : CsAt w v cl) (ha : AscC cl) : Calls Try.prog 110 #[.agg cs, keyV k] w (RetT cl k w) := by
  obtain ⟨A, c, rfl, a1, a2, RA⟩ := hv.read
  rw [List.length_map] at a1 RA hc
  have HR := Lib.hid RA
  have HAS := Lib.hid ha
  have hl : cl.length ≤ 9223372036854775807 := by unfold maxLen at a2; omega
  obtain ⟨k1, k2, k3, k4⟩ := k
  clear RA ha hv
  go_enter Try.func110, Try.ntmps110
  go_upto_region 1 with fail
  generalize hwB : ((w.alloc (.cells cs 32)).alloc (.cells #[kV k1, iV k2, iV k3, iV k4] 73)).alloc (.cells #[.int .u8 0, iV 0, iV 0, iV 0, iV 0, iV 0, .slice none 0 0] 75) = wB
  have h1 : (w.alloc (.cells cs 32)).heap.size = w.heap.size + 1 := by simp
  have h2 : ((w.alloc (.cells cs 32)).alloc (.cells #[kV k1, iV k2, iV k3, iV k4] 73)).heap.size = w.heap.size + 2 := by simp
  have E2 : Ext (w.alloc (.cells cs 32)) wB := by rw [← hwB]; exact ((Ext.refl _).alloc _).alloc _
  have E3 : Ext ((w.alloc (.cells cs 32)).alloc (.cells #[kV k1, iV k2, iV k3, iV k4] 73)) wB := by rw [← hwB]; exact (Ext.refl _).alloc _
  have hE : Ext w wB := ((Ext.refl _).alloc _).trans E2
  have s0 : wB.cell? ⟨w.heap.size, 0, none⟩ = some (.slice A cl.length c) := E2.cell (new_at _ _ _ 0 _ hc)
  have t0 : wB.cell? ⟨w.heap.size + 1, 0, none⟩ = some (kV k1) := by rw [← h1]; exact E3.cell (new_at _ _ _ 0 _ rfl)
  have t1 : wB.cell? ⟨w.heap.size + 1, 1, none⟩ = some (iV k2) := by rw [← h1]; exact E3.cell (new_at _ _ _ 1 _ rfl)
  have t2 : wB.cell? ⟨w.heap.size + 1, 2, none⟩ = some (iV k3) := by rw [← h1]; exact E3.cell (new_at _ _ _ 2 _ rfl)
  have t3 : wB.cell? ⟨w.heap.size + 1, 3, none⟩ = some (iV k4) := by rw [← h1]; exact E3.cell (new_at _ _ _ 3 _ rfl)
  have hb : blkOf wB (w.heap.size + 2) = #[.int .u8 0, iV 0, iV 0, iV 0, iV 0, iV 0, .slice none 0 0] := by rw [← hwB, ← h2]; exact blkOf_new
  have hs : wB.heap.size = w.heap.size + 3 := by rw [← hwB]; simp
  have HT := Lib.hid (⟨t0, t1, t2, t3⟩ : _ ∧ _ ∧ _ ∧ _)
  have HB := Lib.hid hb
  have HE := Lib.hid hE
  clear hwB h1 h2 E2 E3 hE hb t0 t1 t2 t3 hc hz
  go_wp2_with fail
  go_loopw [11] (fun i wr => ∃ j : Nat, j ≤ cl.length ∧ i = iV (j : Int) ∧ (∀ a, a < j → (cl.getD a Ch0).1 ≠ (k1, k2, k3, k4)) ∧ Ext wB wr) (fun i _ => cl.length - (intOf i).toNat)
  case atStart => exact ⟨0, by omega, rfl, fun a h => by omega, Ext.refl _⟩
  case round =>
    obtain ⟨j, hj, rfl, hn, hX⟩ := hrel
    have HN := Lib.hid hn
    have HX := Lib.hid hX
    have hbr : blkOf wr (w.heap.size + 2) = #[.int .u8 0, iV 0, iV 0, iV 0, iV 0, iV 0, .slice none 0 0] := (blkOf_ext hX (by omega)).trans HB.out
    have hsr : w.heap.size + 2 < wr.heap.size := by have := hX.size; omega
    have hsr1 : w.heap.size + 1 < wr.heap.size := by omega
    have HEX := Lib.hid (HE.out.trans hX)
    have HBR := Lib.hid hbr
    clear hX hn hbr s0
    have u0 : wr.cell? ⟨w.heap.size + 2, 0, none⟩ = some (.int .u8 0) := blkOf_cell (by rw [HBR.out]; rfl)
    have u1 : wr.cell? ⟨w.heap.size + 2, 1, none⟩ = some (iV 0) := blkOf_cell (by rw [HBR.out]; rfl)
    have u2 : wr.cell? ⟨w.heap.size + 2, 2, none⟩ = some (iV 0) := blkOf_cell (by rw [HBR.out]; rfl)
    have u3 : wr.cell? ⟨w.heap.size + 2, 3, none⟩ = some (iV 0) := blkOf_cell (by rw [HBR.out]; rfl)
    have u4 : wr.cell? ⟨w.heap.size + 2, 4, none⟩ = some (iV 0) := blkOf_cell (by rw [HBR.out]; rfl)
    have u5 : wr.cell? ⟨w.heap.size + 2, 5, none⟩ = some (iV 0) := blkOf_cell (by rw [HBR.out]; rfl)
    have u6 : wr.cell? ⟨w.heap.size + 2, 6, none⟩ = some (.slice none 0 0) := blkOf_cell (by rw [HBR.out]; rfl)
    have uf : ∀ i, wr.frozen? ⟨w.heap.size + 2, i, none⟩ = false := fun i => blkOf_frozen (by rw [HBR.out]; decide)
    by_cases hlt : j < cl.length
    · obtain ⟨g, o, rfl, hb, cR⟩ := HR.out wr HEX.out j hlt (by omega)
      obtain ⟨x, hx⟩ : ∃ x, cl.getD j Ch0 = x := ⟨_, rfl⟩
      rw [encC_at hlt x hx] at cR
      have HXK := Lib.hid hx
      obtain ⟨⟨x1, x2, x3, x4⟩, x5⟩ := x
      have r0 := cR 0 _ (by omega) rfl
      have r1 := cR 1 _ (by omega) rfl
      have r2 := cR 2 _ (by omega) rfl
      have r3 := cR 3 _ (by omega) rfl
      have r4 := cR 4 _ (by omega) rfl
      have r5 := cR 5 _ (by omega) rfl
      have r6 := cR 6 _ (by omega) rfl
      rw [Nat.add_zero] at r0
      obtain ⟨t0, t1, t2, t3⟩ := HT.out
      have t0 := HX.out.cell t0
      have t1 := HX.out.cell t1
      have t2 := HX.out.cell t2
      have t3 := HX.out.cell t3
      clear cR hx
      cases hbb : eqB (x1, x2, x3, x4) (k1, k2, k3, k4) with
      | true =>
        have hk : ((x1, x2, x3, x4) : Ky) = (k1, k2, k3, k4) := by unfold eqB at hbb; exact of_decide_eq_true hbb
        have HG : Hid (getF cl (k1, k2, k3, k4) = some x5) := Lib.hid (by
          have := getF_at HAS.out hlt (k := (k1, k2, k3, k4)) (by rw [HXK.out]; exact hk)
          rwa [HXK.out] at this)
        simp only [Prod.mk.injEq] at hk
        obtain ⟨rfl, rfl, rfl, rfl⟩ := hk
        have HBB := Lib.hid hbb
        go_wp2_with fail
        refine bodyPost_ret (res75 Try.results110 (g := w.heap.size + 2) (v0 := kV x1) (v1 := iV x2) (v2 := iV x3) (v3 := iV x4) (v4 := iV 0) (v5 := iV x5) (v6 := .slice none 0 0) rfl rfl (by go_simp) (by go_simp) (by go_simp) (by go_simp) (by go_simp) (by go_simp) (by go_simp)) rfl ?_
        rw [RetT, HG.out]
        refine ⟨rfl, ?_⟩
        repeat (first | with_reducible exact HEX.out | with_reducible apply Ext.alloc | with_reducible refine Ext.set ?_ (by first | exact le2 _ | (show _ ≤ _; omega)) _)
      | false =>
        have hk : ((x1, x2, x3, x4) : Ky) ≠ (k1, k2, k3, k4) := by unfold eqB at hbb; exact of_decide_eq_false hbb
        have HK := Lib.hid hk
        have HBB := Lib.hid hbb
        clear hk
        go_wp2_with fail
        exact ⟨⟨j + 1, by omega, by go_num, fun a ha => by
          rcases Nat.lt_or_ge a j with h | h
          · exact HN.out a h
          · obtain rfl : a = j := by omega
            rw [HXK.out]
            exact HK.out, HX.out.alloc _⟩, by simp [intOf]; omega⟩
    · obtain rfl : j = cl.length := by omega
      have HG : Hid (getF cl (k1, k2, k3, k4) = none) := Lib.hid (getF_none.2 fun hm => by
        obtain ⟨y, hy, hye⟩ := List.mem_map.1 hm
        obtain ⟨i, hi', he⟩ := List.getElem_of_mem hy
        have e : cl.getD i Ch0 = y := by rw [List.getD_eq_getElem?_getD, List.getElem?_eq_getElem hi']; exact he
        exact HN.out i hi' (by rw [e]; exact hye))
      go_wp2_with fail
      refine bodyPost_ret (res75 Try.results110 (g := w.heap.size + 2) (v0 := .int .u8 0) (v1 := iV 0) (v2 := iV 0) (v3 := iV 0) (v4 := iV 0) (v5 := iV 0) (v6 := .slice none 0 0) rfl rfl (by go_simp) (by go_simp) (by go_simp) (by go_simp) (by go_simp) (by go_simp) (by go_simp)) rfl ?_
      rw [RetT, HG.out]
      refine ⟨rfl, ?_⟩
      repeat (first | with_reducible exact HEX.out | with_reducible apply Ext.alloc | with_reducible refine Ext.set ?_ (by first | exact le2 _ | (show _ ≤ _; omega)) _)
end Go.Proofs.Ytehmpbaiefbemaa
