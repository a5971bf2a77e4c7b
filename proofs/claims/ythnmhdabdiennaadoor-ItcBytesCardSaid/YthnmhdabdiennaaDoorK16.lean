/- The walks over Text of a stamp and over the law's awake: it returns true. -/
import Derived.Test.YthnmhdabdiennaaDoorK15
namespace Go.Proofs.YthnmhdabdiennaaDoor
open Go.RowKit
attribute [local go_sem ↓] Go.wp_at_zero Go.wp_at_succ
def stText (i : IdT) (t : EvT) : List UInt8 := 40 :: (idText i ++ 59 :: (evText t ++ [41]))
theorem cat5' (x y : List UInt8) : Value.string (ByteArray.mk #[40] ++ ByteArray.mk x.toArray ++ ByteArray.mk #[59] ++ ByteArray.mk y.toArray ++ ByteArray.mk #[41]) = Str (40 :: (x ++ 59 :: (y ++ [41]))) := by
  show Value.string (ByteArray.mk [40].toArray ++ ByteArray.mk x.toArray ++ ByteArray.mk [59].toArray ++ ByteArray.mk y.toArray ++ ByteArray.mk [41].toArray) = _
  simp only [ByteArray.mk_append_mk]
  simp [Str]
set_option maxHeartbeats 2000000 in
theorem sttext_any (ok : Nat → Prop) (i : IdT) (t : EvT) (v : Value) (w : World) (h : StAt w v i t) (ha : t.all ok) (hf : Fmt ok w) (hlen : (stText i t).length ≤ 1099511627776) : Calls Tryd.prog 25 #[v] w (RetT (stText i t) w) := by
  have TA := Lib.hid fun w' (hx : Ext w w') => tree_any i t v w' (h.ext hx)
  have H : Hid (stText i t = 40 :: (idText i ++ 59 :: (evText t ++ [41]))) := rfl
  rw [H.out] at hlen
  simp only [List.length_cons, List.length_append, List.length_nil] at hlen
  obtain ⟨qi, qs, rfl, hi, -⟩ := h
  have IL := Lib.hid fun w' (hx : Ext w w') => idtext_any i _ w' (hi.ext hx) (by omega)
  have IR := Lib.hid fun w' (hx : Ext w w') v' (hv : EvAt w' v' t) => evtext_any ok t v' w' hv ha (hf.ext hx) (by omega)
  clear hi hf ha
  generalize idText i = x at *
  generalize evText t = y at *
  have s1 : ¬ (9223372036854775807 < 1 + x.length) := by omega
  have s2 : ¬ (9223372036854775807 < 1 + x.length + 1) := by omega
  have s3 : ¬ (9223372036854775807 < 1 + x.length + 1 + y.length) := by omega
  have s4 : ¬ (9223372036854775807 < 1 + x.length + 1 + y.length + 1) := by omega
  clear hlen
  go_enter Tryd.func25, Tryd.ntmps25
  go_wp2_with fail
  generalize hW : w.alloc (Obj.cells #[.pointer qi, .pointer qs] 31) = w0
  have E0 : Ext w w0 := by rw [← hW]; simp
  have a0 : w0.cell? ⟨w.heap.size, 0, none⟩ = some (.pointer qi) := by rw [← hW]; simp
  have a1 : w0.cell? ⟨w.heap.size, 1, none⟩ = some (.pointer qs) := by rw [← hW]; simp
  have z0 := World.block_lt_of_cell? _ _ a0
  clear hW
  go_region_held3 (fun w' => Ext w0 w' ∧ ∀ b o, b < w0.heap.size → w'.cell? ⟨b, o, none⟩ = w0.cell? ⟨b, o, none⟩)
    (refine Ext.held ?_ <;> repeat (first | assumption | exact Ext.refl _ | apply Ext.alloc | apply Ext.drew | apply Ext.drewN))
    (first
      | (go_at_call 46; go_split_ands; refine (IL.out _ (E0.trans (by assumption))).mono ?_; rintro e w1 ⟨rfl, hbb⟩; have hE1 : Ext w0 w1 := Ext.trans (by assumption) hbb)
      | (go_at_call 33; go_split_ands; refine (TA.out _ (E0.trans (by assumption))).mono ?_; rintro e w2 ⟨v2, rfl, hv2, hbb⟩; have hE2 : Ext w0 w2 := Ext.trans (by assumption) hbb)
      | (go_at_call 47; go_split_ands; refine (IR.out _ (E0.trans hE2) _ hv2).mono ?_; rintro e w3 ⟨rfl, hbb⟩; have hE3 : Ext w0 w3 := Ext.trans (by assumption) hbb))
  go_wp2_with fail
  go_ret
  refine ⟨?_, E0.trans hE3⟩
  rw [H.out]
  exact congrArg Ending.returned (cat5' x y)
theorem dec0 : Lib.decDigits 0 = [48] := by rw [Lib.decDigits]; rfl
theorem dec1 : Lib.decDigits 1 = [49] := by rw [Lib.decDigits]; rfl
theorem tx1 (v : Value) (w : World) (h : StAt w v .one (.leaf 0)) : Calls Tryd.prog 25 #[v] w (RetT [40, 49, 59, 48, 41] w) := by
  have e : stText .one (.leaf 0) = [40, 49, 59, 48, 41] := by simp [stText, idText, evText, dec0, IdT.one, IdT.isOne]
  rw [← e]
  exact sttext_any (· < 100) _ _ v w h (show (0 : Nat) < 100 by decide) (fmt_ok_small w) (by rw [e]; decide)
theorem tx2 (v : Value) (w : World) (h : StAt w v (.node .one .zero) (.node 0 (.leaf 1) (.leaf 0))) : Calls Tryd.prog 25 #[v] w (RetT [40, 40, 49, 44, 48, 41, 59, 40, 48, 44, 49, 44, 48, 41, 41] w) := by
  have e : stText (.node .one .zero) (.node 0 (.leaf 1) (.leaf 0)) = [40, 40, 49, 44, 48, 41, 59, 40, 48, 44, 49, 44, 48, 41, 41] := by simp [stText, idText, evText, dec0, dec1, IdT.one, IdT.isOne]
  rw [← e]
  exact sttext_any (· < 100) _ _ v w h ⟨(show (0 : Nat) < 100 by decide), (show (1 : Nat) < 100 by decide), (show (0 : Nat) < 100 by decide)⟩ (fmt_ok_small w) (by rw [e]; decide)
theorem tx3 (v : Value) (w : World) (h : StAt w v .one (.node 0 (.leaf 1) (.leaf 0))) : Calls Tryd.prog 25 #[v] w (RetT [40, 49, 59, 40, 48, 44, 49, 44, 48, 41, 41] w) := by
  have e : stText .one (.node 0 (.leaf 1) (.leaf 0)) = [40, 49, 59, 40, 48, 44, 49, 44, 48, 41, 41] := by simp [stText, idText, evText, dec0, dec1, IdT.one, IdT.isOne]
  rw [← e]
  exact sttext_any (· < 100) _ _ v w h ⟨(show (0 : Nat) < 100 by decide), (show (1 : Nat) < 100 by decide), (show (0 : Nat) < 100 by decide)⟩ (fmt_ok_small w) (by rw [e]; decide)
theorem tx4 (v : Value) (w : World) (h : StAt w v .one (.leaf 1)) : Calls Tryd.prog 25 #[v] w (RetT [40, 49, 59, 49, 41] w) := by
  have e : stText .one (.leaf 1) = [40, 49, 59, 49, 41] := by simp [stText, idText, evText, dec1, IdT.one, IdT.isOne]
  rw [← e]
  exact sttext_any (· < 100) _ _ v w h (show (1 : Nat) < 100 by decide) (fmt_ok_small w) (by rw [e]; decide)
def RetF1 (w : World) (e : Ending) (w' : World) : Prop := ∃ v u, e = .returned (.tuple #[v, u, .int .i64 0]) ∧ StAt w' v (.node .one .zero) (.leaf 0) ∧ StAt w' u (.node .zero .one) (.leaf 0) ∧ Ext w w'
theorem aw1 (v : Value) (w : World) (h : StAt w v .one (.leaf 0)) : Calls Tryd.prog 13 #[v] w (RetF1 w) := fork_any .one (.leaf 0) v w h (by decide) true (by decide)
theorem aw2 (v : Value) (w : World) (h : StAt w v (.node .one .zero) (.leaf 0)) : Calls Tryd.prog 18 #[v] w (RetStE (.node .one .zero) (.node 0 (.leaf 1) (.leaf 0)) 0 w) := event_some _ _ v w h rfl (by decide) (by decide) true (by decide)
theorem aw3 (v v' : Value) (w : World) (h : StAt w v (.node .one .zero) (.node 0 (.leaf 1) (.leaf 0))) (k : StAt w v' (.node .zero .one) (.leaf 0)) : Calls Tryd.prog 14 #[v, v'] w (RetStE .one (.node 0 (.leaf 1) (.leaf 0)) 0 w) :=
  join_some 1 _ _ .one _ _ v v' w h k rfl (by decide) (by decide) (by decide) (by decide) true (by decide)
theorem aw4 (v : Value) (w : World) (h : StAt w v .one (.node 0 (.leaf 1) (.leaf 0))) : Calls Tryd.prog 18 #[v] w (RetStE .one (.leaf 1) 0 w) := event_some _ _ v w h rfl (by decide) (by decide) true (by decide)
set_option maxHeartbeats 4000000 in
theorem awake_any (w : World) : Calls Tryd.prog 12 #[] w (RetB true w) := by
  go_enter Tryd.func12, Tryd.ntmps12
  go_wp2_with fail
  refine (seed_any _).mono ?_
  rintro e w1 ⟨v1, rfl, hv1, hb1⟩
  have V1 := Lib.hid hv1
  obtain ⟨qi1, qs1, rfl, -, -⟩ := hv1
  go_wp2_with fail
  refine (aw1 _ _ (V1.out.ext (by simp))).mono ?_
  rintro e w2 ⟨v2, u2, rfl, hv2, hu2, hb2⟩
  have E2 := hb1.trans (Ext.trans ((Ext.refl _).alloc _) hb2)
  have V2 := Lib.hid hv2
  have U2 := Lib.hid hu2
  have c10 : w2.cell? ⟨w1.heap.size, 0, none⟩ = some (.pointer qi1) := hb2.cell (by simp)
  have c11 : w2.cell? ⟨w1.heap.size, 1, none⟩ = some (.pointer qs1) := hb2.cell (by simp)
  have X1 := Ext.trans ((Ext.refl w1).alloc (.cells #[.pointer qi1, .pointer qs1] 31)) hb2
  obtain ⟨qi2, qs2, rfl, -, -⟩ := hv2
  obtain ⟨ri2, rs2, rfl, -, -⟩ := hu2
  have z1 := World.block_lt_of_cell? _ _ c10
  clear hb1 hb2
  go_wp2_with fail
  refine (aw2 _ _ (V2.out.ext (by simp))).mono ?_
  rintro e w3 ⟨v3, rfl, hv3, hb3⟩
  have V3 := Lib.hid hv3
  obtain ⟨qi3, qs3, rfl, -, -⟩ := hv3
  have d10 := hb3.cell (Ext.cell (((Ext.refl w2).alloc _).alloc _) c10)
  have d11 := hb3.cell (Ext.cell (((Ext.refl w2).alloc _).alloc _) c11)
  have e0 : w3.cell? ⟨w2.heap.size + 1, 0, none⟩ = some (.pointer ri2) := hb3.cell (by simp [go_sem])
  have e1 : w3.cell? ⟨w2.heap.size + 1, 1, none⟩ = some (.pointer rs2) := hb3.cell (by simp [go_sem])
  have X2 := Ext.trans (((Ext.refl w2).alloc _).alloc _) hb3
  have z1' := World.block_lt_of_cell? _ _ d10
  have z2 := World.block_lt_of_cell? _ _ e0
  clear hb3 c10 c11 z1
  go_wp2_with fail
  refine (aw3 _ _ _ (V3.out.ext (by simp)) (U2.out.ext (X2.trans (by simp)))).mono ?_
  rintro e w4 ⟨v4, rfl, hv4, hb4⟩
  have V4 := Lib.hid hv4
  obtain ⟨qi4, qs4, rfl, -, -⟩ := hv4
  have f10 := hb4.cell (Ext.cell ((Ext.refl w3).alloc _) d10)
  have f11 := hb4.cell (Ext.cell ((Ext.refl w3).alloc _) d11)
  have g0 : w4.cell? ⟨w3.heap.size, 0, none⟩ = some (.pointer qi3) := hb4.cell (by simp [go_sem])
  have g1 : w4.cell? ⟨w3.heap.size, 1, none⟩ = some (.pointer qs3) := hb4.cell (by simp [go_sem])
  have X3 := Ext.trans ((Ext.refl w3).alloc _) hb4
  have z3 := World.block_lt_of_cell? _ _ f10
  have z4 := World.block_lt_of_cell? _ _ g0
  clear hb4 d10 d11 e0 e1 z1' z2
  go_wp2_with fail
  refine (aw4 _ _ (V4.out.ext (by simp))).mono ?_
  rintro e w5 ⟨v5, rfl, hv5, hb5⟩
  have V5 := Lib.hid hv5
  obtain ⟨qi5, qs5, rfl, -, -⟩ := hv5
  have k10 := hb5.cell (Ext.cell ((Ext.refl w4).alloc _) f10)
  have k11 := hb5.cell (Ext.cell ((Ext.refl w4).alloc _) f11)
  have l0 := hb5.cell (Ext.cell ((Ext.refl w4).alloc _) g0)
  have l1 := hb5.cell (Ext.cell ((Ext.refl w4).alloc _) g1)
  have m0 : w5.cell? ⟨w4.heap.size, 0, none⟩ = some (.pointer qi4) := hb5.cell (by simp [go_sem])
  have m1 : w5.cell? ⟨w4.heap.size, 1, none⟩ = some (.pointer qs4) := hb5.cell (by simp [go_sem])
  have X4 := Ext.trans ((Ext.refl w4).alloc _) hb5
  have y1 := World.block_lt_of_cell? _ _ k10
  have y2 := World.block_lt_of_cell? _ _ l0
  have y3 := World.block_lt_of_cell? _ _ m0
  clear hb5 f10 f11 g0 g1 z3 z4
  have W15 := X1.trans (X2.trans (X3.trans X4))
  have W35 := X3.trans X4
  go_wp2_with fail
  refine (tx1 _ _ (V1.out.ext (W15.alloc _))).mono ?_
  rintro e w6 ⟨rfl, hb6⟩
  have Y6 := Ext.trans ((Ext.refl w5).alloc _) hb6
  have n0 : w6.cell? ⟨w5.heap.size, 0, none⟩ = some (.pointer qi5) := hb6.cell (by simp [go_sem])
  have n1 : w6.cell? ⟨w5.heap.size, 1, none⟩ = some (.pointer qs5) := hb6.cell (by simp [go_sem])
  replace l0 := Y6.cell l0
  replace l1 := Y6.cell l1
  replace m0 := Y6.cell m0
  replace m1 := Y6.cell m1
  clear hb6 k10 k11
  go_wp2_with fail
  refine (tx2 _ _ (V3.out.ext (W35.trans Y6))).mono ?_
  rintro e w7 ⟨rfl, hb7⟩
  replace m0 := hb7.cell m0
  replace m1 := hb7.cell m1
  replace n0 := hb7.cell n0
  replace n1 := hb7.cell n1
  have Y7 := Y6.trans hb7
  clear l0 l1
  go_wp2_with fail
  refine (tx3 _ _ (V4.out.ext (X4.trans Y7))).mono ?_
  rintro e w8 ⟨rfl, hb8⟩
  replace n0 := hb8.cell n0
  replace n1 := hb8.cell n1
  have Y8 := Y7.trans hb8
  clear m0 m1
  go_wp2_with fail
  refine (tx4 _ _ (V5.out.ext Y8)).mono ?_
  rintro e w9 ⟨rfl, hb9⟩
  have Y9 := Y8.trans hb9
  go_wp2_with fail
  go_ret
  exact ⟨rfl, E2.trans ((X2.trans (X3.trans X4)).trans Y9)⟩
end Go.Proofs.YthnmhdabdiennaaDoor
