/- Stamp, id. -/
import Derived.Test.YtjeclmmikjpinaaDoorC13
namespace Go.Proofs.YtjeclmmikjpinaaDoor
open Go.RowKit
open I (IdT EvT IdAt EvAt SeenAt StAt)
attribute [local go_sem ↓] Go.wp_at_zero Go.wp_at_succ
attribute [local go_sem ↓] ld48 st48 al48 bu48
attribute [local go_sem] run_al48 run_bu48 run_st48n run_sl48
theorem stamp22_ok (g r : Nat) (i : IdT) (t : EvT) (ks : List (List UInt8)) (w : World) (h : BookAt w g r i t ks) : Calls Tryd.prog 13 #[.pointer (some ⟨g, 0, none⟩)] w (I.RetSt i t w) := by
  obtain ⟨qi, qs, hb, hs⟩ := h.st
  have a0 := hb.cell (k := 0) (by decide)
  have a1 := hb.cell (k := 1) (by decide)
  simp only [bkF, if_true, if_false, Nat.one_ne_zero] at a0 a1
  have hg := h.ty.lt
  have HS := Lib.hid hs
  clear h hb hs
  go_enter Tryd.func13, Tryd.ntmps13
  go_upto_region 1 with fail
  generalize hwB : w.alloc (.cells #[.pointer none, .pointer none] 44) = wB
  have HB : Hid (Bk wB w.heap.size 2 (fun _ => .pointer none)) := Lib.hid (by rw [← hwB]; exact bk_new2 w)
  have HE : Hid (Ext w wB) := Lib.hid (by rw [← hwB]; exact (Ext.refl _).alloc _)
  have sB : wB.heap.size = w.heap.size + 1 := by rw [← hwB]; simp
  clear hwB
  have b0 := HE.out.cell a0
  have b1 := HE.out.cell a1
  have f0 := HB.out.frozen 0
  have f1 := HB.out.frozen 1
  have c0 := HB.out.cell (k := 0) (by decide)
  have c1 := HB.out.cell (k := 1) (by decide)
  go_wp2_with fail
  have HX : Hid (Ext w ((wB.setCell ⟨w.heap.size, 0, none⟩ (.pointer qi)).setCell ⟨w.heap.size, 1, none⟩ (.pointer qs))) := Lib.hid ((HE.out.set (Nat.le_refl _) _).set (Nat.le_refl _) _)
  have hb2 := (HB.out.set 0 (.pointer qi)).set 1 (.pointer qs)
  have e2 : arV (upd (upd (fun _ => Value.pointer none) 0 (.pointer qi)) 1 (.pointer qs)) 2 = #[.pointer qi, .pointer qs] := by unfold arV; rfl
  refine bodyPost_ret (resBk Tryd.results13 (g := w.heap.size) rfl hb2 Tryd.underlying44 rfl (by kernel_rfl)) rfl ?_
  rw [e2]
  exact ⟨_, rfl, StAt_ext HX.out HS.out, HX.out⟩
set_option maxRecDepth 100000 in
set_option maxHeartbeats 1000000 in
theorem id6_ok (u v : UInt8) (w : World) (hT : Tab w) : Calls Tryd.prog 11 #[.string ⟨#[u]⟩, .string ⟨#[v]⟩] w (RetId (partsF [[u], [v]]) w) := by
  have HT := Lib.hid hT
  clear hT
  go_enter Tryd.func11, Tryd.ntmps11
  go_upto_region 1 with fail
  generalize hwB : w.alloc (.cells (idA []) 27) = wB
  have HR0 : Hid (Bk wB w.heap.size 32 (idF [])) := Lib.hid (by rw [← hwB]; exact Bk.new (by decide))
  have HE0 : Hid (Ext w wB) := Lib.hid (by rw [← hwB]; exact (Ext.refl _).alloc _)
  clear hwB
  obtain ⟨c1, w1, hcv1, hE1, hS1⟩ := conv938 wB [u] (by simp)
  obtain ⟨c2, w2, hcv2, hE2, hS2⟩ := conv938 w1 [v] (by simp)
  have hcv1 : (convert 9 31 (.string ⟨#[u]⟩)).run Tryd.prog wB = .ok (.slice (some ⟨wB.heap.size, 0, none⟩) 1 c1) w1 := hcv1
  have hcv2 : (convert 9 31 (.string ⟨#[v]⟩)).run Tryd.prog w1 = .ok (.slice (some ⟨w1.heap.size, 0, none⟩) 1 c2) w2 := hcv2
  have HE2 := Lib.hid (HE0.out.trans (hE1.trans hE2))
  have HEB := Lib.hid (hE1.trans hE2)
  have HS1 := Lib.hid (hS1.ext hE2)
  have HS2 := Lib.hid hS2
  clear hE1 hE2 hS1 hS2
  go_wp2_with fail
  generalize hw4 : w2.alloc (.cells #[.slice (some ⟨wB.heap.size, 0, none⟩) 1 c1, .slice (some ⟨w1.heap.size, 0, none⟩) 1 c2] 31) = w4
  have HX : Hid (Ext w2 w4) := Lib.hid (by rw [← hw4]; exact (Ext.refl _).alloc _)
  have HL4 : Hid (Sls w4 w2.heap.size [[u], [v]]) := Lib.hid (by
    intro j x hj
    rcases j with _ | _ | j
    · obtain rfl : [u] = x := by simpa using hj
      exact ⟨_, by rw [← hw4]; exact new_at _ _ _ _ _ rfl, HS1.out.ext HX.out⟩
    · obtain rfl : [v] = x := by simpa using hj
      exact ⟨_, by rw [← hw4]; exact new_at _ _ _ _ _ rfl, HS2.out.ext HX.out⟩
    · simp at hj)
  clear hw4 hcv1 hcv2
  refine (parts_ok [[u], [v]] w2.heap.size w4 HL4.out (HT.out.ext (HE2.out.trans HX.out)) (by simp)).mono ?_
  rintro _ w5 ⟨rfl, hE5⟩
  have HE5 := Lib.hid (HE2.out.trans (HX.out.trans hE5))
  have HRR := Lib.hid (HR0.out.ext (HEB.out.trans (HX.out.trans hE5)))
  clear hE5
  generalize partsF [[u], [v]] = k at *
  have l2 := run_st48 HRR.out k
  go_wp2_with fail
  exact bodyPost_ret (resBk Tryd.results11 (g := w.heap.size) rfl HRR.out.putAll Tryd.underlying27 rfl Tryd.size27) rfl ⟨rfl, Ext.setCells (Nat.le_refl _) _ _ HE5.out⟩
end Go.Proofs.YtjeclmmikjpinaaDoor
