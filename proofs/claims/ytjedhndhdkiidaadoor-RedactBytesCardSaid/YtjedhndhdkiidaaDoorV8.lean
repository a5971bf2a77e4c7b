/- Items: their commitments, closed, as fields. -/
import Derived.Test.YtjedhndhdkiidaaDoorV6
import Derived.Test.YtjedhndhdkiidaaDoorR7
namespace Go.Proofs.YtjedhndhdkiidaaDoor
open Go.RowKit
attribute [local go_sem ↓] Go.wp_at_zero Go.wp_at_succ
attribute [local go_sem] baSize baList
attribute [local go_sem ↓] ld75 ld48 ld73 st75 st48 al75 al48 bu75 bu48
attribute [local go_sem] run_al75 run_al48 run_bu48 run_bu75n run_bu75c run_bu75o run_st75n run_st48n
/-- What an item is committed to. -/
def comF (x : It) : List UInt8 := if x.op = true then leafF (x.sl ++ putU x.vl.length ++ x.vl) else x.cm
/-- An item is well formed. -/
def ItOk (x : It) : Prop := (x.op = true → x.sl.length = 16 ∧ x.vl.length ≤ 100000) ∧ (x.op = false → x.cm.length = 32 ∧ x.vl = [] ∧ x.sl = [])
theorem Ext.c1 {wd w' : World} {a : Addr} {u : Value} (h1 : wd.cell? a = some u) (h : Ext wd w') : Ext wd w' ∧ w'.cell? a = some u := ⟨h, h.cell h1⟩
theorem cell_far {w : World} {b g o k : Nat} {vs : List Value} {v : Value} (hg : g ≠ b) (h : w.cell? ⟨g, k, none⟩ = some v) : (w.setCells b o vs).cell? ⟨g, k, none⟩ = some v := by
  unfold World.cell? at h ⊢
  rw [setCells_far hg]
  exact h
theorem run_sl73 (w : World) (g o : Nat) : (Instr.sliceAt 73 (.pointer (some ⟨g, o, none⟩)) none none none).run Tryd.prog w = .ok (.slice (some ⟨g, o, none⟩) 16 16) w := by
  have e1 : Tryd.prog.arrayLen 73 = 16 := by kernel_rfl
  have e2 : Tryd.prog.elem 73 = 5 := by kernel_rfl
  have hs : (sizeOf 5).run Tryd.prog w = .ok 1 w := by kernel_rfl
  rw [run_sliceAt_array_all w 73 ⟨g, o, none⟩ (by rw [e1, e2]; exact Tryd.underlying73), e1, e2, hs]
  simp [Result.andThen, slicedAt, Addr.add]
attribute [local go_sem] run_sl73
theorem one_arV {f : Nat → Value} {n : Nat} (h : ∀ i, i < n → (f i).oneCell' = true) : ∀ v ∈ (arV f n).toList, v.oneCell' = true := by
  have := arV_cells h
  rw [Array.all_eq_true_iff_forall_mem] at this
  intro v hv
  exact this v (by simpa using hv)
theorem one_id (d : List UInt8) : ∀ v ∈ (arV (idF d) 32).toList, v.oneCell' = true := one_arV fun _ _ => rfl
theorem Bk.there {w : World} {g n m : Nat} {f h : Nat → Value} (hb : Bk w g n f) (hm : m ≤ n) : w.there g 0 (arV h m).toList.length := fun j hj => by
  rw [Array.length_toList, arV_size] at hj
  rw [Nat.zero_add]
  exact ⟨by rw [hb.cell (by omega)]; rfl, hb.frozen _⟩
theorem size_id (d : List UInt8) : Option.map (fun x => x.size) (Tryd.prog.info? 48) = some (arV (idF d) 32).toList.length := by
  rw [Array.length_toList, arV_size]
  exact Tryd.size48
set_option maxRecDepth 100000 in
set_option maxHeartbeats 1000000 in
theorem commit60_ok (x : It) (v : Value) (w : World) (hv : SlB w v x.vl) (hT : Tab w) (hx : ItOk x) : Calls Tryd.prog 60 #[itV x.nm x.op x.cm v x.sl] w (RetId (comF x) w) := by
  have HX0 := Lib.hid hx
  have HT := Lib.hid hT
  have HV := Lib.hid hv
  obtain ⟨A, c, rfl, -, -, -⟩ := hv
  clear hT hx
  show Calls Tryd.prog 60 #[.agg (itA x.nm x.op x.cm (.slice A x.vl.length c) x.sl)] w _
  go_enter Tryd.func60, Tryd.ntmps60
  go_upto_region 1 with fail
  generalize hw1 : w.alloc (.cells (itA x.nm x.op x.cm (.slice A x.vl.length c) x.sl) 75) = w1
  have HB1 : Hid (Bk w1 w.heap.size 51 (itF x.nm x.op x.cm (.slice A x.vl.length c) x.sl)) := Lib.hid (by rw [← hw1]; exact Bk.new (by decide))
  have HE1 : Hid (Ext w w1) := Lib.hid (by rw [← hw1]; exact (Ext.refl _).alloc _)
  have s1 : w1.heap.size = w.heap.size + 1 := by rw [← hw1]; simp
  clear hw1
  generalize hwB : w1.alloc (.cells (idA []) 48) = wB
  have HR0 : Hid (Bk wB (w.heap.size + 1) 32 (idF [])) := Lib.hid (by rw [← hwB, ← s1]; exact Bk.new (by decide))
  have HE0 : Hid (Ext w1 wB) := Lib.hid (by rw [← hwB]; exact (Ext.refl _).alloc _)
  have hz0 : w.heap.size + 1 < wB.heap.size := by rw [← hwB, ← s1]; simp
  clear hwB s1
  have HEW : Hid (Ext w wB) := Lib.hid (HE1.out.trans HE0.out)
  have HBX := Lib.hid (HB1.out.ext HE0.out)
  clear HB1 HE1 HE0
  have t1 : wB.cell? ⟨w.heap.size, 1, none⟩ = some (.bool x.op) := HBX.out.cell (by decide)
  by_cases ho : x.op = true
  · rw [ho] at t1
    have HX := Lib.hid (And.intro trivial (HX0.out.1 ho))
    have HC : Hid (comF x = leafF (x.sl ++ putU x.vl.length ++ x.vl)) := Lib.hid (by unfold comF; rw [if_pos ho])
    obtain ⟨zs, hzs⟩ : ∃ zs, x.sl ++ putU x.vl.length ++ x.vl = zs := ⟨_, rfl⟩
    have CP : Hid (∀ W v, Ext w W → SlB W v x.sl → Calls Tryd.prog 43 #[v, .slice A x.vl.length c] W (RetSl zs W)) := Lib.hid (fun W v hW hs => by
      have := putbytes43_any v _ x.sl x.vl W hs (HV.out.ext hW) (by rw [HX.out.2.1]; decide) (by have := HX.out.2.2; omega)
      rw [hzs] at this
      exact this.mono fun _ _ h => h.sl)
    rw [hzs] at HC
    clear ho hzs
    have CS : Hid (∀ W, Ext wB W → Calls Tryd.prog 55 #[.slice (some ⟨w.heap.size, 35, none⟩) 16 16] W (RetSl x.sl W)) := Lib.hid (fun W hW => by
      refine clone55_any x.sl _ W ⟨_, 16, by rw [HX.out.2.1], by rw [HX.out.2.1]; decide, by unfold maxLen; omega, ?_⟩ (by rw [HX.out.2.1]; decide)
      exact bytes_of_cells HX.out.2.1 fun i hi => by rw [(HBX.out.ext hW).cell (by omega), itF_sl])
    have t34 : wB.cell? ⟨w.heap.size, 34, none⟩ = some (.slice A x.vl.length c) := HBX.out.cell (by decide)
    go_wp2_with fail
    have t34d : wB.drew.cell? ⟨w.heap.size, 34, none⟩ = some (.slice A x.vl.length c) := t34
    go_region_held3 (fun w' => w'.cell? ⟨w.heap.size, 34, none⟩ = some (.slice A x.vl.length c))
      (first
        | with_reducible exact t34
        | with_reducible exact t34d
        | with_reducible exact t5
        | with_reducible exact t6
        | with_reducible exact t7
        | with_reducible exact t8)
      (first
        | (go_at_call 55; refine (CS.out _ (by repeat (first | assumption | exact Ext.refl _ | apply Ext.drew | apply Ext.drewN))).mono ?_; rintro _ w5 ⟨v5, rfl, hs5, hE5⟩; have hX5 : Ext wB w5 := Ext.trans (by repeat (first | assumption | exact Ext.refl _ | apply Ext.drew | apply Ext.drewN)) hE5; have HS5 := Lib.hid hs5; obtain ⟨A5, c5, rfl, -, -, -⟩ := hs5; have t5 := hX5.cell t34; clear hE5)
        | (go_at_call 43; refine (CP.out w5 _ (HEW.out.trans hX5) HS5.out).mono ?_; rintro _ w6 ⟨v6, rfl, hr6, hE6⟩; have hX6 : Ext wB w6 := hX5.trans hE6; have HS6 := Lib.hid hr6; obtain ⟨A6, c6, rfl, -, -, -⟩ := HS6.out; have t6 := hX6.cell t34; clear hr6 hE6)
        | (go_at_call 38; refine (leaf38_ok _ _ w6 HS6.out (HT.out.ext (HEW.out.trans hX6))).mono ?_; rintro _ w7 ⟨rfl, hE7⟩; have hX7 : Ext wB w7 := hX6.trans hE7; have o1 := one_id (leafF zs); have sz := size_id (leafF zs); have th := (HR0.out.ext hX7).there (m := 32) (h := idF (leafF zs)) (Nat.le_refl _); have t7 := hX7.cell t34; have t8 := cell_far (b := w.heap.size + 1) (o := 0) (vs := (idA (leafF zs)).toList) (by omega) t7; clear hE7))
    · go_wp2_with fail
      refine bodyPost_ret (resBk Tryd.results60 (g := w.heap.size + 1) rfl (HR0.out.ext hX7).putAll Tryd.underlying48 rfl Tryd.size48) rfl ?_
      rw [HC.out]
      exact ⟨rfl, Ext.setCells (by omega) _ _ (HEW.out.trans hX7)⟩
  · have ho' : x.op = false := by simpa using ho
    rw [ho'] at t1
    have HC : Hid (comF x = x.cm) := Lib.hid (by unfold comF; rw [if_neg ho])
    clear ho ho'
    have l1 : (ldS 48 (.pointer (some ⟨w.heap.size, 2, none⟩))).run Tryd.prog wB = .ok (idV x.cm) wB := run_ld48 fun i hi => by rw [HBX.out.cell (by omega), itF_cm hi]
    have l2 := run_st48 HR0.out x.cm
    go_wp2_with fail
    refine bodyPost_ret (resBk Tryd.results60 (g := w.heap.size + 1) rfl HR0.out.putAll Tryd.underlying48 rfl Tryd.size48) rfl ?_
    rw [HC.out]
    exact ⟨rfl, Ext.setCells (by omega) _ _ HEW.out⟩
end Go.Proofs.YtjedhndhdkiidaaDoor
