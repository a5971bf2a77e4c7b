/- Keys, failing. -/
import Derived.Test.YtehmpbaiefbemaaGreatN23
namespace Go.Proofs.YtehmpbaiefbemaaGreat
open Go.RowKit
attribute [local go_sem ↓] Go.wp_at_zero Go.wp_at_succ
theorem el30 : El 30 58 (.agg #[.int .u8 0, iV 0, iV 0, iV 0]) 4 32 := ⟨Tryz.underlying30, by kernel_rfl, rfl, by omega, by omega⟩
theorem el80 : El 65 3 (iV 0) 1 8 := ⟨Tryz.underlying65, by kernel_rfl, rfl, by omega, by omega⟩
theorem take_mapD {α β : Type} (d : α) (f : α → β) {l : List α} {k : Nat} (h : k < l.length) : (l.take (k + 1)).map f = (l.take k).map f ++ [f (l.getD k d)] := by
  rw [List.take_succ_eq_append_getElem h, List.map_append, List.getD_eq_getElem?_getD, List.getElem?_eq_getElem h]
  rfl
theorem one_encK {k : Ky} : ∀ u ∈ [encK k].flatten, u.oneCell' = true := by
  intro u hu
  simp [encK] at hu
  rcases hu with rfl | rfl | rfl | rfl <;> rfl
theorem vs1n {w : World} {cs : Array Value} {e n : Nat} (h : n = w.heap.size) : VsAt (w.alloc (.cells cs e)) (some ⟨n, 0, none⟩) cs.toList := by
  subst h
  exact vs1 w cs e
theorem len_takeC {cs : List Ch} {k : Nat} (h : k ≤ cs.length) : ((cs.take k).map fun c => encK c.1).length = k := by rw [List.length_map, List.length_take]; omega
set_option maxRecDepth 100000 in
set_option maxHeartbeats 4000000 in
theorem keys78_any (cs : List Ch) (v : Value) (w : World) (hv : CsAt w v cs) (hl : cs.length ≤ 1000) : Calls Tryz.prog 82 #[.agg #[v]] w fun e w' => ∃ t, e = .returned t ∧ Row 4 w' w.heap.size 58 t (cs.map fun c => encK c.1) ∧ Ext w w' := by
  obtain ⟨A, c, rfl, a1, a2, RA⟩ := hv.read
  rw [List.length_map] at a1 RA ⊢
  have HR := Lib.hid RA
  clear RA hv
  go_enter Tryz.func82, Tryz.ntmps82
  go_upto_region 1 with fail
  generalize hwA : w.alloc (.cells #[.slice A cs.length c] 51) = wA
  have hEA : Ext w wA := by rw [← hwA]; exact (Ext.refl _).alloc _
  have s0 : wA.cell? ⟨w.heap.size, 0, none⟩ = some (.slice A cs.length c) := by rw [← hwA]; exact new_at _ _ _ 0 _ rfl
  have hsA : wA.heap.size = w.heap.size + 1 := by rw [← hwA]; simp
  have HEA := Lib.hid hEA
  have HSA := Lib.hid hsA
  clear hwA hEA hsA
  go_wp2_with (at_make; refine wmake el30 rfl _ _ rfl rfl rfl (m := cs.length) (by omega) (Ext.refl wA) ?_; intro v2 w2 hr2 hE2; have HR2 := Lib.hid hr2; have HE2 := Lib.hid hE2; have s2 := hE2.cell s0; clear hr2 hE2)
  go_loopw [3, 13] (fun t i wr => ∃ k : Nat, k ≤ cs.length ∧ i = iV (k : Int) ∧ Row 4 wr wA.heap.size 58 t ((cs.take k).map fun c => encK c.1) ∧ Ext wA wr) (fun _ i _ => cs.length - (intOf i).toNat)
  case atStart => exact ⟨0, by omega, rfl, HR2.out, HE2.out⟩
  case round =>
    obtain ⟨k, hk, rfl, hr, hE⟩ := hrel
    have HRk := Lib.hid hr
    have HEk := Lib.hid hE
    have HBk : Hid (wA.heap.size ≤ wr.heap.size) := Lib.hid hE.size
    obtain ⟨At, ct, et, -, -⟩ := hr.form
    rw [len_takeC hk] at et
    subst et
    clear hr hE HR2 HE2
    by_cases hlt : k < cs.length
    · obtain ⟨b, o, rfl, hb, cR⟩ := HR.out wr (HEA.out.trans HEk.out) k hlt (by omega)
      obtain ⟨x, hx⟩ : ∃ x, cs.getD k Ch0 = x := ⟨_, rfl⟩
      rw [encC_at hlt x hx] at cR
      have HTK : Hid ((cs.take (k + 1)).map (fun c => encK c.1) = (cs.take k).map (fun c => encK c.1) ++ [encK x.1]) := by rw [take_mapD Ch0 _ hlt, hx]; exact Lib.hid rfl
      have HTL := Lib.hid (len_takeC hk)
      obtain ⟨⟨x1, x2, x3, x4⟩, x5⟩ := x
      have c0 := cR 0 _ (by omega) rfl
      have c1 := cR 1 _ (by omega) rfl
      have c2 := cR 2 _ (by omega) rfl
      have c3 := cR 3 _ (by omega) rfl
      have c4 := cR 4 _ (by omega) rfl
      have c5 := cR 5 _ (by omega) rfl
      have c6 := cR 6 _ (by omega) rfl
      rw [Nat.add_zero] at c0
      clear cR hx
      go_wp2_with (at_builtin; go_loud (refine wappB el30 rfl (.tmp 17) (.tmp 20) rfl (B := wA.heap.size) (vs := (cs.take k).map fun c => encK c.1) (us := [encK (x1, x2, x3, x4)]) rfl (by have := HBk.out; simp; omega) ((HRk.out.ext ((Ext.refl _).alloc _)).ext ((Ext.refl _).alloc _)) rfl rfl (Wide.one rfl) (vs1n (by simp)) one_encK (by rw [HTL.out, List.length_singleton]; omega) (by rw [HTL.out, List.length_singleton]; omega) ?_; intro v3 w3 hr3 hg3 hb3; have HR3 := Lib.hid hr3; have HE3 := Lib.hid (ext_grow ((HEk.out.alloc _).alloc _) hg3 (fun k hk => (HRk.out.lt k hk).1)); clear hr3 hg3 hb3))
      exact ⟨⟨k + 1, by omega, by go_num, by rw [HTK.out]; exact HR3.out, HE3.out⟩, by simp [intOf]; omega⟩
    · obtain rfl : k = cs.length := by omega
      go_wp2_with fail
      go_ret
      exact ⟨_, rfl, by have h := HRk.out; rw [List.take_length] at h; exact h.base (by rw [HSA.out]; omega), HEA.out.trans HEk.out⟩
end Go.Proofs.YtehmpbaiefbemaaGreat
