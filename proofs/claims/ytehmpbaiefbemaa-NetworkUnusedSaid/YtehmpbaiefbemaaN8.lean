/- network.valid, network.cloneArrival. -/
import Derived.Test.YtehmpbaiefbemaaN7
namespace Go.Proofs.Ytehmpbaiefbemaa
open Go.RowKit
/-- network.valid at a hold that the laws make. -/
theorem valid38_ok (h : Jh) (w : World) (ho : OkH h) (hj : JaAt w h.2.2 h.2.1) : Calls Try.prog 38 #[hV h] w (RetV (.bool true) w) := by
  obtain ⟨⟨f, t, n⟩, js, v⟩ := h
  obtain ⟨⟨f1, f2⟩, ⟨t1, t2⟩, ⟨n1, n2⟩, hl, he, ha⟩ := ho
  obtain ⟨hs, hg⟩ := hj
  simp only [] at f1 f2 t1 t2 n1 n2 hl he ha hs hg
  obtain ⟨A, c, rfl, a1, a2, RA⟩ := hs.read
  rw [List.length_map] at a1 RA ⊢
  have HR := Lib.hid RA
  have HE := Lib.hid he
  have HA := Lib.hid ha
  have HG := Lib.hid hg
  clear RA he ha hg hs
  have i1 := comp_any f
  have i2 := comp_any t
  rw [decide_eq_true (by omega)] at i1 i2
  have I1 := Lib.hid i1
  have I2 := Lib.hid i2
  clear i1 i2
  go_enter Try.func38, Try.ntmps38
  go_wp2_with fail
  refine (I1.out _).mono ?_
  rintro e1 w1 ⟨rfl, rfl⟩
  go_wp2_with fail
  refine (I2.out _).mono ?_
  rintro e1 w1 ⟨rfl, rfl⟩
  go_wp2_with fail
  go_loopw [4, 38] (fun l i wr => ∃ (k : Nat) (m : Int), k ≤ js.length ∧ i = iV (k : Int) ∧ l = iV m ∧ (∀ i, k ≤ i → i < js.length → m ≤ (js.getD i Ja0).1.1) ∧ Ext w wr) (fun _ i _ => js.length - (intOf i).toNat)
  case atStart => exact ⟨0, 1, by omega, rfl, rfl, fun i _ hi => (HE.out _ (getD_memJ hi)).1, (Ext.refl _).alloc _ |>.alloc _⟩
  case round =>
    obtain ⟨k, m, hk, rfl, rfl, hm, hE⟩ := hrel
    have HM := Lib.hid hm
    have HX := Lib.hid hE
    clear hE hm
    by_cases hlt : k < js.length
    · obtain ⟨b, o, rfl, hb, cR⟩ := HR.out wr HX.out k hlt (by omega)
      obtain ⟨x, hx⟩ : ∃ x, js.getD k Ja0 = x := ⟨_, rfl⟩
      rw [encJ_at hlt x hx] at cR
      have b1 := HM.out k (Nat.le_refl _) hlt
      have b2 := HE.out _ (getD_memJ hlt)
      have HN : Hid (∀ i, k + 1 ≤ i → i < js.length → x.1.1 ≤ (js.getD i Ja0).1.1) := Lib.hid (fun i h1 h2 => by rw [← hx]; exact HA.out k i (by omega) h2)
      have g1 := HG.out _ (getD_memJ hlt)
      rw [hx] at b1 b2 g1
      obtain ⟨⟨x1, x2, xs⟩, xv⟩ := x
      obtain ⟨c1, c2, c3, c4, c5⟩ := b2
      obtain ⟨A2, d2, hv, e1, e2, -⟩ := g1.read
      rw [List.length_map] at hv e1
      simp only [] at hv b1 c1 c2 c3 c4 c5
      subst hv
      have r0 := cR 0 _ (by omega) rfl
      have r1 := cR 1 _ (by omega) rfl
      have r2 := cR 2 _ (by omega) rfl
      rw [Nat.add_zero] at r0
      clear cR hx g1
      go_wp2_with fail
      exact ⟨⟨k + 1, x1, by omega, by go_num, rfl, HN.out, HX.out.alloc _⟩, by simp [intOf]; omega⟩
    · go_wp2_with fail
      go_ret
      exact ⟨rfl, HX.out⟩
theorem el36 : El 36 2 (.int .i64 0) 1 8 := ⟨Try.underlying36, by kernel_rfl, rfl, by omega, by omega⟩
theorem one_args (xs : List Int) : ∀ u ∈ (xs.map fun x => [iV x]).flatten, u.oneCell' = true := fun u hu => by
  obtain ⟨x, hx, hux⟩ := List.mem_flatten.1 hu
  obtain ⟨c, _, rfl⟩ := List.mem_map.1 hx
  rw [List.mem_singleton.1 hux]
  rfl
attribute [local go_sem ↓] Go.wp_at_zero Go.wp_at_succ
abbrev aV (j : Ja) : Value := .agg #[iV j.1.1, iV j.1.2.1, j.2]
theorem cloneA_any (x1 x2 : Int) (xs : List Int) (v : Value) (w : World) (hv : ArgsAt w v xs) (hl : xs.length ≤ 4) : Calls Try.prog 32 #[aV ((x1, x2, xs), v)] w fun e w' => ∃ t, e = .returned (aV ((x1, x2, xs), t)) ∧ Row 1 w' w.heap.size 2 t (xs.map fun x => [iV x]) ∧ Ext w w' := by
  obtain ⟨A, c, rfl, h1, h2, hy⟩ := hv.at_
  have hw := hv.wide
  rw [List.length_map] at h1 ⊢
  have HV := Lib.hid hy
  have HW := Lib.hid hw
  have HL : Hid ((xs.map fun x => [iV x]).length = xs.length) := Lib.hid (List.length_map _)
  clear hy hw hv
  go_enter Try.func32, Try.ntmps32
  go_upto_region 1 with fail
  generalize hwB : (w.alloc (.cells #[iV x1, iV x2, .slice A xs.length c] 57)).alloc (.cells #[iV 0, iV 0, .slice none 0 0] 57) = wB
  have hE : Ext w wB := by rw [← hwB]; exact ((Ext.refl _).alloc _).alloc _
  have hs : wB.heap.size = w.heap.size + 2 := by rw [← hwB]; simp
  have k0 : wB.cell? ⟨w.heap.size, 0, none⟩ = some (iV x1) := by rw [← hwB]; exact Ext.cell ((Ext.refl _).alloc _) (new_at _ _ _ 0 _ rfl)
  have k1 : wB.cell? ⟨w.heap.size, 1, none⟩ = some (iV x2) := by rw [← hwB]; exact Ext.cell ((Ext.refl _).alloc _) (new_at _ _ _ 1 _ rfl)
  have k2 : wB.cell? ⟨w.heap.size, 2, none⟩ = some (.slice A xs.length c) := by rw [← hwB]; exact Ext.cell ((Ext.refl _).alloc _) (new_at _ _ _ 2 _ rfl)
  have hh : (w.alloc (.cells #[iV x1, iV x2, .slice A xs.length c] 57)).heap.size = w.heap.size + 1 := by simp
  have m0 : wB.cell? ⟨w.heap.size + 1, 0, none⟩ = some (iV 0) := by rw [← hwB, ← hh]; exact new_at (w.alloc (.cells #[iV x1, iV x2, .slice A xs.length c] 57)) #[iV 0, iV 0, .slice none 0 0] 57 0 _ rfl
  have m1 : wB.cell? ⟨w.heap.size + 1, 1, none⟩ = some (iV 0) := by rw [← hwB, ← hh]; exact new_at (w.alloc (.cells #[iV x1, iV x2, .slice A xs.length c] 57)) #[iV 0, iV 0, .slice none 0 0] 57 1 _ rfl
  have m2 : wB.cell? ⟨w.heap.size + 1, 2, none⟩ = some (.slice none 0 0) := by rw [← hwB, ← hh]; exact new_at (w.alloc (.cells #[iV x1, iV x2, .slice A xs.length c] 57)) #[iV 0, iV 0, .slice none 0 0] 57 2 _ rfl
  have f0 : ∀ i, wB.frozen? ⟨w.heap.size, i, none⟩ = false := fun i => by
    rw [← hwB, World.frozen?_alloc_old _ _ _ (by simp)]
    exact World.frozen?_alloc_at _ _ _ _ rfl
  have f1 : ∀ i, wB.frozen? ⟨w.heap.size + 1, i, none⟩ = false := fun i => by rw [← hwB]; exact World.frozen?_alloc_at _ _ _ _ (by simp)
  clear hwB hh
  go_wp2_with (at_builtin; go_loud (refine wapp el36 rfl (.const (.slice none 0 0)) (.tmp 4) rfl (w5 := wB) (vs := []) (us := xs.map fun x => [iV x]) rfl (Ext.refl _) (Row.nil _ _ _ _) rfl HL.out.symm HW.out (HV.out.ext hE) (one_args xs) (by rw [HL.out]; simp; omega) (by rw [HL.out]; simp; omega) ?_; intro v3 w3 hr3 hE3 hg3 hb3; obtain ⟨T, tc, rfl, tl, tz⟩ := hr3.form; have k0' := hE3.cell k0; have k1' := hE3.cell k1; have k2' := hE3.cell k2; have m0' := hE3.cell m0; have m1' := hE3.cell m1; have m2' := hE3.cell m2; have f0' : w3.frozen? ⟨w.heap.size, 2, none⟩ = false := (Below.frozen hE3 (by show w.heap.size < _; omega)).trans (f0 2); have f10 : w3.frozen? ⟨w.heap.size + 1, 0, none⟩ = false := (Below.frozen hE3 (by show w.heap.size + 1 < _; omega)).trans (f1 0); have f11 : w3.frozen? ⟨w.heap.size + 1, 1, none⟩ = false := (Below.frozen hE3 (by show w.heap.size + 1 < _; omega)).trans (f1 1); have f12 : w3.frozen? ⟨w.heap.size + 1, 2, none⟩ = false := (Below.frozen hE3 (by show w.heap.size + 1 < _; omega)).trans (f1 2); have HR3 := Lib.hid hr3; have HE3 := Lib.hid hE3; clear hr3 hE3 hg3 hb3 k0 k1 k2 m0 m1 m2 f0 f1))
  generalize hWF : (((w3.setCell ⟨w.heap.size, 2, none⟩ (.slice T xs.length tc)).setCell ⟨w.heap.size + 1, 0, none⟩ (.int .i64 x1)).setCell ⟨w.heap.size + 1, 1, none⟩ (.int .i64 x2)).setCell ⟨w.heap.size + 1, 2, none⟩ (.slice T xs.length tc) = WF
  have q0 : WF.cell? ⟨w.heap.size + 1, 0, none⟩ = some (iV x1) := by rw [← hWF]; clear hWF; go_simp
  have q1 : WF.cell? ⟨w.heap.size + 1, 1, none⟩ = some (iV x2) := by rw [← hWF]; clear hWF; go_simp
  have q2 : WF.cell? ⟨w.heap.size + 1, 2, none⟩ = some (.slice T xs.length tc) := by rw [← hWF]; clear hWF; go_simp
  have e3 : ([] ++ xs.map fun x => [iV x]).length = xs.length := by simp
  have hr3 : Row 1 w3 wB.heap.size 2 (.slice T xs.length tc) ([] ++ xs.map fun x => [iV x]) := by
    have h3 := HR3.out
    rw [e3] at h3
    exact h3
  have HRW : Row 1 WF wB.heap.size 2 (.slice T xs.length tc) ([] ++ xs.map fun x => [iV x]) := hr3.kept (fun k hk => by
    have := (hr3.lt k hk).1
    rw [← hWF, Below.heap_setCell _ _ _ _ (by show k ≠ w.heap.size + 1; omega), Below.heap_setCell _ _ _ _ (by show k ≠ w.heap.size + 1; omega), Below.heap_setCell _ _ _ _ (by show k ≠ w.heap.size + 1; omega), Below.heap_setCell _ _ _ _ (by show k ≠ w.heap.size; omega)])
  have HXW : Ext w WF := by rw [← hWF]; exact ((((hE.trans HE3.out).set (by show w.heap.size ≤ w.heap.size; omega) _).set (by show w.heap.size ≤ w.heap.size + 1; omega) _).set (by show w.heap.size ≤ w.heap.size + 1; omega) _).set (by show w.heap.size ≤ w.heap.size + 1; omega) _
  refine bodyPost_ret (v := aV ((x1, x2, xs), .slice T xs.length tc)) (by simp [results, Try.results32, go_sem, q0, q1, q2]) rfl ⟨_, rfl, (HRW.base (by omega)), HXW⟩
end Go.Proofs.Ytehmpbaiefbemaa
