/- A field by value, with bytes of its own. -/
import Derived.Test.YtjedhndhdkiidaaDoorV27
import Derived.Test.YtjedhndhdkiidaaDoorV19
namespace Go.Proofs.YtjedhndhdkiidaaDoor
open Go.RowKit
attribute [local go_sem ↓] Go.wp_at_zero Go.wp_at_succ
attribute [local go_sem] baSize baList run_eqnil38n
attribute [local go_sem ↓] ld75 ld48 ld73 st75 st48 al75 al48 bu75 bu48
attribute [local go_sem] run_al75 run_al48 run_bu48 run_bu75n run_bu75c run_bu75o run_st75n run_st48n run_sl73
/-- A field by value, its bytes newly made. -/
def RetFn (f : Fd) (w : World) (e : Ending) (w' : World) : Prop := ∃ v s, e = .returned (.agg #[sV f.nm, v, s]) ∧ SlN w' w.heap.size v f.vl ∧ SlN w' w.heap.size s f.sl ∧ Ext w w'
set_option maxRecDepth 100000 in
set_option maxHeartbeats 1000000 in
theorem field41_new (x : It) (v : Value) (w : World) (hv : SlB w v x.vl) (hx0 : ItOk x) (ho : x.op = true) : Calls Tryd.prog 41 #[itV x.nm x.op x.cm v x.sl] w (RetFn ⟨x.nm, x.vl, x.sl⟩ w) := by
  have hx := And.intro trivial (hx0.1 ho)
  have HX := Lib.hid hx
  have CV := Lib.hid (fun W (hW : Ext w W) => clone55_new x.vl v W (hv.ext hW) (by have := hx.2.2; omega))
  obtain ⟨A, c, rfl, -, -, -⟩ := hv
  clear hx hx0 ho
  show Calls Tryd.prog 41 #[.agg (itA x.nm x.op x.cm (.slice A x.vl.length c) x.sl)] w _
  go_enter Tryd.func41, Tryd.ntmps41
  go_upto_region 1 with fail
  generalize hw1 : w.alloc (.cells (itA x.nm x.op x.cm (.slice A x.vl.length c) x.sl) 75) = w1
  have HB1 : Hid (Bk w1 w.heap.size 51 (itF x.nm x.op x.cm (.slice A x.vl.length c) x.sl)) := Lib.hid (by rw [← hw1]; exact Bk.new (by decide))
  have HE1 : Hid (Ext w w1) := Lib.hid (by rw [← hw1]; exact (Ext.refl _).alloc _)
  have s1 : w1.heap.size = w.heap.size + 1 := by rw [← hw1]; simp
  clear hw1
  generalize hwB : w1.alloc (.cells #[.string ⟨#[]⟩, .slice none 0 0, .slice none 0 0] 40) = wB
  have HR0 : Hid (Bk wB (w.heap.size + 1) 3 (fun i => if i = 0 then .string ⟨#[]⟩ else nilV)) := Lib.hid (by rw [← hwB, ← s1]; exact ⟨by decide, by rw [blkOf_new]; exact arV_ext rfl (fun i hi => by match i, hi with | 0, _ => rfl | 1, _ => rfl | 2, _ => rfl)⟩)
  have HE0 : Hid (Ext w1 wB) := Lib.hid (by rw [← hwB]; exact (Ext.refl _).alloc _)
  have hz0 : w.heap.size + 1 < wB.heap.size := by rw [← hwB, ← s1]; simp
  clear hwB s1
  have HEW : Hid (Ext w wB) := Lib.hid (HE1.out.trans HE0.out)
  have HBX := Lib.hid (HB1.out.ext HE0.out)
  clear HB1 HE1 HE0
  have CS : Hid (∀ W, Ext wB W → Calls Tryd.prog 55 #[.slice (some ⟨w.heap.size, 35, none⟩) 16 16] W (RetSn x.sl W)) := Lib.hid (fun W hW => by
    refine clone55_new x.sl _ W ⟨_, 16, by rw [HX.out.2.1], by rw [HX.out.2.1]; decide, by unfold maxLen; omega, ?_⟩ (by rw [HX.out.2.1]; decide)
    exact bytes_of_cells HX.out.2.1 fun i hi => by rw [(HBX.out.ext hW).cell (by omega), itF_sl])
  have t0 : wB.cell? ⟨w.heap.size, 0, none⟩ = some (sV x.nm) := HBX.out.cell (by decide)
  have t4 : wB.cell? ⟨w.heap.size, 34, none⟩ = some (.slice A x.vl.length c) := HBX.out.cell (by decide)
  have t0d : wB.drew.cell? ⟨w.heap.size, 0, none⟩ = some (sV x.nm) := t0
  have t4d : wB.drew.cell? ⟨w.heap.size, 34, none⟩ = some (.slice A x.vl.length c) := t4
  go_region_held3 (fun w' => w'.cell? ⟨w.heap.size, 0, none⟩ = some (sV x.nm) ∧ w'.cell? ⟨w.heap.size, 34, none⟩ = some (.slice A x.vl.length c))
    (first
      | with_reducible exact ⟨t0, t4⟩
      | with_reducible exact ⟨t0d, t4d⟩
      | with_reducible exact ⟨t5, r5⟩
      | with_reducible exact ⟨t6, r6⟩
      | (constructor <;> (go_simp; try assumption)))
    (first
      | (go_at_call 55; refine (CV.out _ (HEW.out.trans (by repeat (first | assumption | exact Ext.refl _ | apply Ext.drew | apply Ext.drewN)))).mono ?_; rintro _ w5 ⟨v5, rfl, hs5, hE5⟩; have hX5 : Ext wB w5 := Ext.trans (by repeat (first | assumption | exact Ext.refl _ | apply Ext.drew | apply Ext.drewN)) hE5; have HS5 := Lib.hid hs5; obtain ⟨A5, c5, rfl, -, -, -, -⟩ := hs5; have t5 := hX5.cell t0; have r5 := hX5.cell t4; clear hE5)
      | (go_at_call 55; refine (CS.out _ hX5).mono ?_; rintro _ w6 ⟨v6, rfl, hs6, hE6⟩; have hX6 : Ext wB w6 := hX5.trans hE6; have HS6 := Lib.hid hs6; have HX56 := Lib.hid hE6; obtain ⟨A6, c6, rfl, -, -, -, -⟩ := hs6; have t6 := hX6.cell t0; have r6 := hX6.cell t4; have HR6 := HR0.out.ext hX6; have k0 := HR6.cell (k := 0) (by decide); have k1 := HR6.cell (k := 1) (by decide); have k2 := HR6.cell (k := 2) (by decide); have f0 := HR6.frozen 0; have f1 := HR6.frozen 1; have f2 := HR6.frozen 2; clear hE6))
  go_wp2_with fail
  have hr := set3_ret (sV x.nm) (.slice A5 x.vl.length c5) (.slice A6 x.sl.length c6) Tryd.results41 (HR0.out.ext hX6)
  have HG := set3_exg w6 (w.heap.size + 1) (sV x.nm) (.slice A5 x.vl.length c5) (.slice A6 x.sl.length c6)
  have n5 : SlN (set3 w6 (w.heap.size + 1) (sV x.nm) (.slice A5 x.vl.length c5) (.slice A6 x.sl.length c6)) w.heap.size (.slice A5 x.vl.length c5) x.vl := ((HS5.out.ext HX56.out).far HG hz0).base (Nat.le_trans (Nat.le_succ _) (Nat.le_of_lt hz0))
  have n6 : SlN (set3 w6 (w.heap.size + 1) (sV x.nm) (.slice A5 x.vl.length c5) (.slice A6 x.sl.length c6)) w.heap.size (.slice A6 x.sl.length c6) x.sl := ((HS6.out.base hX5.size).far HG hz0).base (Nat.le_trans (Nat.le_succ _) (Nat.le_of_lt hz0))
  have HW : Ext w (set3 w6 (w.heap.size + 1) (sV x.nm) (.slice A5 x.vl.length c5) (.slice A6 x.sl.length c6)) := HG.ext (HEW.out.trans hX6) (by omega)
  clear HG t6 r6 k0 k1 k2 f0 f1 f2 HR6
  refine bodyPost_ret (hr _ rfl) rfl ?_
  exact ⟨_, _, rfl, n5, n6, HW⟩
end Go.Proofs.YtjedhndhdkiidaaDoor
