/- The walk over CasebookNil. -/
import Derived.Test.YtjeclmmikjpinaaGreatDoorC16
namespace Go.Proofs.YtjeclmmikjpinaaGreatDoor
open Go.RowKit
attribute [local go_sem ↓] Go.wp_at_zero Go.wp_at_succ
attribute [local go_sem ↓] ld48 st48 al48 bu48
attribute [local go_sem] run_al48 run_bu48 run_st48n run_sl48
attribute [local go_sem ↓] eq48
attribute [local go_sem] run_eqD
set_option maxRecDepth 100000 in
set_option maxHeartbeats 4000000 in
theorem nil_law (x0 x1 x2 : Value) (s : ByteArray) (A : Option Addr) (l c : Nat) (w : World) (hT : Tab w) : Calls Tryz.prog 3 #[.agg #[x0, x1, x2, .string s, .slice A l c]] w (RetB true w) := by
  have HT := Lib.hid hT
  have h0w := hT.lt
  clear hT
  have CA := Lib.hid (fun W => add_nil s A l c W)
  have CG := Lib.hid (fun k W => get_nil k W)
  go_enter Tryz.func3, Tryz.ntmps3
  go_upto_region 1 with fail
  generalize hwA : w.alloc (.cells #[x0, x1, x2, .string s, .slice A l c] 24) = wA
  have HEA : Hid (Ext w wA) := Lib.hid (by rw [← hwA]; exact (Ext.refl _).alloc _)
  have c3 : wA.cell? ⟨w.heap.size, 3, none⟩ = some (.string s) := by rw [← hwA]; exact new_at _ _ _ _ _ rfl
  have c4 : wA.cell? ⟨w.heap.size, 4, none⟩ = some (.slice A l c) := by rw [← hwA]; exact new_at _ _ _ _ _ rfl
  clear hwA
  go_wp2_with fail
  refine (CA.out _).mono ?_
  rintro _ w1 ⟨rfl, hE1⟩
  have HE1 := Lib.hid (HEA.out.trans hE1)
  clear hE1 CA c3 c4 HEA
  go_upto_region 3 with fail
  generalize hw2 : w1.alloc (.cells (idA []) 27) = w2
  have HN2 := Lib.hid (box_new hw2)
  clear hw2
  have CI := Lib.hid (id6_ok 97 98 w2 (HT.out.ext (HE1.out.trans HN2.out.1)))
  obtain ⟨kq, hkq⟩ : ∃ kq, partsF [[97], [98]] = kq := ⟨_, rfl⟩
  rw [hkq] at CI
  clear hkq
  go_wp2_with fail
  refine CI.out.mono ?_
  rintro _ w3 ⟨rfl, hE3⟩
  have HE3 := Lib.hid hE3
  clear hE3 CI
  go_wp2_with fail
  refine (CG.out _ _).mono ?_
  rintro _ w4 ⟨rfl, hE4⟩
  have HE4 := Lib.hid (HE3.out.trans hE4)
  clear hE4 HE3 CG
  go_upto_region 4 with fail
  generalize hw5 : w4.alloc (.cells #[.string ⟨#[]⟩, .slice none 0 0] 32) = w5
  have HE5 : Hid (Ext w4 w5) := Lib.hid (by rw [← hw5]; exact (Ext.refl _).alloc _)
  have c0 : w5.cell? ⟨w4.heap.size, 0, none⟩ = some (.string ⟨#[]⟩) := by rw [← hw5]; exact new_at _ _ _ _ _ rfl
  have c1 : w5.cell? ⟨w4.heap.size, 1, none⟩ = some (.slice none 0 0) := by rw [← hw5]; exact new_at _ _ _ _ _ rfl
  have hb5 : Bk w5 w1.heap.size 32 (idF []) := HN2.out.2.1.ext (HE4.out.trans HE5.out)
  have HEw := Lib.hid (HE1.out.trans (HN2.out.1.trans (HE4.out.trans HE5.out)))
  have KB : Hid (∀ W, Ext w5 W → (fun w' => (ldS 27 (.pointer (some ⟨w1.heap.size, 0, none⟩))).run Tryz.prog w' = .ok (idV []) w' ∧ w'.cell? ⟨w4.heap.size, 0, none⟩ = some (.string ⟨#[]⟩) ∧ w'.cell? ⟨w4.heap.size, 1, none⟩ = some (.slice none 0 0)) W) := Lib.hid (fun W h => ⟨(hb5.ext h).run_ld48, h.cell c0, h.cell c1⟩)
  have CW : Hid (∀ W, Ext w5 W → Calls Tryz.prog 7 #[] W (RetB true W)) := Lib.hid (fun W h => awake7_ok W (HT.out.ext (HEw.out.trans h)))
  have hself := eqV_self []
  clear hw5 c0 c1 hb5 HE1 HN2 HE4 HE5
  have KX : Hid (∀ W, Ext w5 W → Ext w5 W) := Lib.hid (fun _ h => h)
  go_wp2_with fail
  refine (CW.out _ (Ext.refl _)).mono ?_
  rintro _ ws1 ⟨rfl, hE⟩
  have hX1 : Ext w5 ws1 := Ext.trans (Ext.refl _) hE
  have HX1 := Lib.hid hX1
  obtain ⟨hl1, hc1, hd1⟩ := KB.out _ hX1
  clear hE hX1
  go_wp2_with fail
  refine (close_nil _ _).mono ?_
  rintro _ ws2 ⟨rfl, hE⟩
  have hX2 : Ext w5 ws2 := Ext.trans HX1.out hE
  have HX2 := Lib.hid hX2
  obtain ⟨hl2, hc2, hd2⟩ := KB.out _ hX2
  clear hE hX2
  try clear hl1 hc1 hd1
  go_wp2_with fail
  refine (closed_nil _ _).mono ?_
  rintro _ ws3 ⟨rfl, hE⟩
  have hX3 : Ext w5 ws3 := Ext.trans HX2.out hE
  have HX3 := Lib.hid hX3
  obtain ⟨hl3, hc3, hd3⟩ := KB.out _ hX3
  clear hE hX3
  try clear hl2 hc2 hd2
  go_wp2_with fail
  refine (list_nil _).mono ?_
  rintro _ _ ⟨rfl, rfl⟩
  go_wp2_with fail
  refine (find_nil _ _).mono ?_
  rintro _ ws4 ⟨rfl, hE⟩
  have hX4 : Ext w5 ws4 := Ext.trans HX3.out hE
  have HX4 := Lib.hid hX4
  obtain ⟨hl4, hc4, hd4⟩ := KB.out _ hX4
  clear hE hX4
  try clear hl3 hc3 hd3
  go_wp2_with fail
  refine (bytes_nil _).mono ?_
  rintro _ _ ⟨rfl, rfl⟩
  go_wp2_with fail
  refine (fork_nil _).mono ?_
  rintro _ _ ⟨rfl, rfl⟩
  go_wp2_with fail
  refine (new15_ok _).mono ?_
  rintro _ ws5 ⟨gn, rn, rfl, hbn, hgn, hrn, hE⟩
  have hX5 : Ext w5 ws5 := Ext.trans HX4.out hE
  have HX5 := Lib.hid hX5
  obtain ⟨hl5, hc5, hd5⟩ := KB.out _ hX5
  clear hE hX5
  try clear hl4 hc4 hd4
  clear hbn hgn hrn
  go_wp2_with fail
  refine (merge_nil _ _).mono ?_
  rintro _ ws6 ⟨rfl, hE⟩
  have hX6 : Ext w5 ws6 := Ext.trans HX5.out hE
  have HX6 := Lib.hid hX6
  obtain ⟨hl6, hc6, hd6⟩ := KB.out _ hX6
  clear hE hX6
  try clear hl5 hc5 hd5
  go_wp2_with fail
  refine (root_nil _).mono ?_
  rintro _ ws7 ⟨rfl, hE⟩
  have hX7 : Ext w5 ws7 := Ext.trans HX6.out hE
  have HX7 := Lib.hid hX7
  obtain ⟨hl7, hc7, hd7⟩ := KB.out _ hX7
  clear hE hX7
  try clear hl6 hc6 hd6
  go_wp2_with fail
  go_ret
  exact ⟨rfl, HEw.out.trans HX7.out⟩
end Go.Proofs.YtjeclmmikjpinaaGreatDoor
