/- The walks over the methods of stamps: Equal, Fork, Event, Join. -/
import Derived.Test.YtjeclmmikjpinaaDoorK8
import Derived.Test.YtjeclmmikjpinaaDoorK9
import Derived.Test.YtjeclmmikjpinaaDoorK10
import Derived.Test.YtjeclmmikjpinaaDoorK12
namespace Go.Proofs.YtjeclmmikjpinaaDoor.I
open Go.RowKit
attribute [local go_sem ↓] Go.wp_at_zero Go.wp_at_succ
theorem same_ext (t o : EvT) (v u : Value) (w : World) (h : EvAt w v t) (k : EvAt w u o) : Calls Tryd.prog 53 #[v, u] w (RetB (t.same o) w) :=
  (same_any t o v u w h k).mono fun _ _ ⟨e, n, hw⟩ => ⟨e, by rw [hw]; simp⟩
theorem depth_ext (i : IdT) (v : Value) (w : World) (h : IdAt w v i) (hd : i.depth ≤ 1000000) : Calls Tryd.prog 32 #[v] w (RetN i.depth w) :=
  (depth_any i v w h hd).mono fun _ _ ⟨e, n, hw⟩ => ⟨e, by rw [hw]; simp⟩
/-- A stamp and OK, or the zero stamp and ErrLimit. -/
def RetC (c : Bool) (i : IdT) (t : EvT) (w : World) (e : Ending) (w' : World) : Prop := match c with
  | true => RetStE i t 0 w e w'
  | false => RetStE .zero (.leaf 0) 3 w e w'
/-- The event tree of a stamp after an event. -/
def eventT (i : IdT) (t : EvT) : EvT := if (fillF i t).same t then (growF i t).1 else fillF i t
theorem event_top (i : IdT) (t : EvT) : (eventT i t).top ≤ t.top + 1 := by
  unfold eventT
  split
  · exact grow_top i t
  · exact Nat.le_succ_of_le (fill_top i t)
def eventOk (i : IdT) (t : EvT) : Bool := !i.isZero && (eventT i t).fits
def eventErr (i : IdT) (t : EvT) : Int := if i.isZero then 11 else if (eventT i t).fits then 0 else 3
set_option maxHeartbeats 2000000 in
theorem event_anon (t : EvT) (v : Value) (w : World) (h : StAt w v .zero t) : Calls Tryd.prog 38 #[v] w (RetStE .zero (.leaf 0) 11 w) := by
  have AN := Lib.hid fun w' (hx : Ext w w') => anon_any _ t v w' (h.ext hx)
  obtain ⟨qi, qs, rfl, hi, -⟩ := h
  go_enter Tryd.func38, Tryd.ntmps38
  go_wp2_with fail
  generalize hW : (w.alloc (Obj.cells #[.pointer qi, .pointer qs] 44)).alloc (Obj.cells #[.pointer none, .pointer none] 44) = w0
  obtain ⟨E0, a0, a1, b0, b1, z1, z0, hB, hT⟩ := letter22 hW
  clear hW
  refine (AN.out _ E0).mono ?_
  rintro e w1 ⟨rfl, hb1⟩
  obtain ⟨⟨x0, c0⟩, ⟨x1, c1⟩, f0, f1⟩ := Box2.ext hb1 hB
  simp only [IdT.isZero]
  go_wp2_with fail
  refine bodyPost_ret (v := .tuple #[.agg #[.pointer none, .pointer none], .int .i64 11]) (by simp [results, Tryd.results38, go_sem, c0, c1]) rfl ⟨_, rfl, ⟨_, _, rfl, rfl, .inl ⟨rfl, rfl⟩⟩, ?_⟩
  exact ((E0.trans hb1).set (by simp) _).set (by simp) _
set_option maxHeartbeats 4000000 in
theorem event_some (i : IdT) (t : EvT) (v : Value) (w : World) (h : StAt w v i t) (hz : i.isZero = false) (hd : i.depth ≤ 1000000) (ht : t.top + 1 < 2 ^ 127) (c : Bool) (hc : (eventT i t).fits = c) :
    Calls Tryd.prog 38 #[v] w (RetC c i (eventT i t) w) := by
  have AN := Lib.hid fun w' (hx : Ext w w') => anon_any _ t v w' (h.ext hx)
  have TA := Lib.hid fun w' (hx : Ext w w') => tree_any i t v w' (h.ext hx)
  obtain ⟨qi, qs, rfl, hi, -⟩ := h
  have HI := Lib.hid hi
  rw [hz] at AN
  clear hi
  have HF := Lib.hid hc
  have EV : Hid (eventT i t = if (fillF i t).same t then (growF i t).1 else fillF i t) := rfl
  clear hc
  go_enter Tryd.func38, Tryd.ntmps38
  go_wp2_with fail
  generalize hW : (w.alloc (Obj.cells #[.pointer qi, .pointer qs] 44)).alloc (Obj.cells #[.pointer none, .pointer none] 44) = w0
  obtain ⟨E0, a0, a1, b0, b1, z1, z0, hB, hT⟩ := letter22 hW
  clear hW b0 b1
  have HB0 := Lib.hid hB
  clear hB
  refine (AN.out _ E0).mono ?_
  rintro e w1 ⟨rfl, hb1⟩
  have E1 := E0.trans hb1
  replace a0 := hb1.cell a0
  replace a1 := hb1.cell a1
  go_wp2_with fail
  refine (TA.out _ E1).mono ?_
  rintro e w2 ⟨v2, rfl, hv2, hb2⟩
  have E2 := E1.trans hb2
  replace a0 := hb2.cell a0
  replace a1 := hb2.cell a1
  obtain ⟨p2, rfl⟩ := hv2.ptr
  have V2 := Lib.hid hv2
  clear hv2
  go_wp2_with fail
  refine (fill_any i t _ _ _ (HI.out.ext E2) V2.out (by omega)).mono ?_
  rintro e w3 ⟨v3, rfl, hv3, hb3⟩
  have E3 := E2.trans hb3
  replace a0 := hb3.cell a0
  replace a1 := hb3.cell a1
  obtain ⟨p3, rfl⟩ := hv3.ptr
  have V3 := Lib.hid hv3
  clear hv3
  go_wp2_with fail
  refine (same_ext _ _ _ _ _ V3.out (V2.out.ext hb3)).mono ?_
  rintro e w4 ⟨rfl, hb4⟩
  have E4 := E3.trans hb4
  replace a0 := hb4.cell a0
  replace a1 := hb4.cell a1
  have BX := Lib.hid (Box2.ext hb4 (Box2.ext hb3 (Box2.ext hb2 (Box2.ext hb1 HB0.out))))
  cases hs : (fillF i t).same t with
  | true =>
    rw [hs, if_pos rfl] at EV
    go_wp2_with fail
    refine (grow_any i hz hd t _ _ _ (HI.out.ext E4) (V2.out.ext (hb3.trans hb4)) ht).mono ?_
    rintro e w5 ⟨v5, rfl, hv5, hb5⟩
    have E5 := E4.trans hb5
    replace a0 := hb5.cell a0
    replace a1 := hb5.cell a1
    obtain ⟨p5, rfl⟩ := hv5.ptr
    have V5 := Lib.hid hv5
    clear hv5
    go_wp2_with fail
    rw [EV.out] at HF
    refine (fits_any _ _ _ V5.out).mono ?_
    rintro e w6 ⟨rfl, hb6⟩
    rw [HF.out]
    have E6 := E5.trans hb6
    replace a0 := hb6.cell a0
    replace a1 := hb6.cell a1
    have hT6 := hb6.typ (hb5.typ (hb4.typ (hb3.typ (hb2.typ (hb1.typ hT)))))
    obtain ⟨⟨x0, c0⟩, ⟨x1, c1⟩, f0, f1⟩ := Box2.ext hb6 (Box2.ext hb5 BX.out)
    have V6 := Lib.hid (V5.out.ext hb6)
    cases c with
    | true =>
      go_wp2_with fail
      refine bodyPost_ret (v := .tuple #[.agg #[.pointer qi, .pointer (some ⟨p5, 0, none⟩)], .int .i64 0]) ?_ rfl ⟨_, rfl, ⟨_, _, rfl, HI.out.ext ?_, .inr ?_⟩, ?_⟩
      · simp [results, Tryd.results38, go_sem, c0, c1]
      · exact (E6.set (by simp) _).set (by simp) _
      · show EvAt _ _ (eventT i t); rw [EV.out]; exact EvAt.set (by rw [typ_set]; exact hT6) (by decide) (EvAt.set hT6 (by decide) V6.out)
      · exact (E6.set (by simp) _).set (by simp) _
    | false =>
      go_wp2_with fail
      refine bodyPost_ret (v := .tuple #[.agg #[.pointer none, .pointer none], .int .i64 3]) ?_ rfl ⟨_, rfl, ⟨_, _, rfl, rfl, .inl ⟨rfl, rfl⟩⟩, ?_⟩
      · simp [results, Tryd.results38, go_sem, c0, c1]
      · exact (E6.set (by simp) _).set (by simp) _
  | false =>
    rw [hs, if_neg (by decide)] at EV
    have V3x := Lib.hid (V3.out.ext hb4)
    go_wp2_with fail
    rw [EV.out] at HF
    refine (fits_any _ _ _ V3x.out).mono ?_
    rintro e w6 ⟨rfl, hb6⟩
    rw [HF.out]
    have E6 := E4.trans hb6
    replace a0 := hb6.cell a0
    replace a1 := hb6.cell a1
    have hT6 := hb6.typ (hb4.typ (hb3.typ (hb2.typ (hb1.typ hT))))
    obtain ⟨⟨x0, c0⟩, ⟨x1, c1⟩, f0, f1⟩ := Box2.ext hb6 BX.out
    have V6 := Lib.hid (V3x.out.ext hb6)
    cases c with
    | true =>
      go_wp2_with fail
      refine bodyPost_ret (v := .tuple #[.agg #[.pointer qi, .pointer (some ⟨p3, 0, none⟩)], .int .i64 0]) ?_ rfl ⟨_, rfl, ⟨_, _, rfl, HI.out.ext ?_, .inr ?_⟩, ?_⟩
      · simp [results, Tryd.results38, go_sem, c0, c1]
      · exact (E6.set (by simp) _).set (by simp) _
      · show EvAt _ _ (eventT i t); rw [EV.out]; exact EvAt.set (by rw [typ_set]; exact hT6) (by decide) (EvAt.set hT6 (by decide) V6.out)
      · exact (E6.set (by simp) _).set (by simp) _
    | false =>
      go_wp2_with fail
      refine bodyPost_ret (v := .tuple #[.agg #[.pointer none, .pointer none], .int .i64 3]) ?_ rfl ⟨_, rfl, ⟨_, _, rfl, rfl, .inl ⟨rfl, rfl⟩⟩, ?_⟩
      · simp [results, Tryd.results38, go_sem, c0, c1]
      · exact (E6.set (by simp) _).set (by simp) _
set_option maxHeartbeats 4000000 in
theorem join_none (i j : IdT) (t u : EvT) (v v' : Value) (w : World) (h : StAt w v i t) (k : StAt w v' j u) (hs : i.sum j = none) : Calls Tryd.prog 24 #[v, v'] w (RetStE .zero (.leaf 0) 11 w) := by
  obtain ⟨qi, qs, rfl, hi, -⟩ := h
  obtain ⟨qi', qs', rfl, hj, -⟩ := k
  have IS := Lib.hid fun w' (hx : Ext w w') => sum_any i j _ _ w' (hi.ext hx) (hj.ext hx)
  rw [hs] at IS
  clear hi hj
  go_enter Tryd.func24, Tryd.ntmps24
  go_wp2_with fail
  refine (IS.out _ ?_).mono ?_
  · exact (((Ext.refl w).alloc _).alloc _).alloc _
  rintro e w1 ⟨rfl, hb1⟩
  have E1 := ((((Ext.refl w).alloc _).alloc _).alloc _).trans hb1
  have hB := Box2.ext hb1 (by have := Box2.new ((w.alloc (.cells #[.pointer qi, .pointer qs] 44)).alloc (.cells #[.pointer qi', .pointer qs'] 44)) (.pointer none) (.pointer none) 44; simpa using this)
  obtain ⟨⟨x0, c0⟩, ⟨x1, c1⟩, f0, f1⟩ := hB
  clear hb1
  go_wp2_with fail
  refine bodyPost_ret (v := .tuple #[.agg #[.pointer none, .pointer none], .int .i64 11]) ?_ rfl ⟨_, rfl, ⟨_, _, rfl, rfl, .inl ⟨rfl, rfl⟩⟩, ?_⟩
  · simp [results, Tryd.results24, go_sem, c0, c1]
  · exact (E1.set (by simp; omega) _).set (by simp; omega) _
set_option maxHeartbeats 4000000 in
theorem join_some (n : Nat) (i j x : IdT) (t u : EvT) (v v' : Value) (w : World) (h : StAt w v i t) (k : StAt w v' j u) (hs : i.sum j = some x) (ht : t.top < 2 ^ 127) (hu : u.top < 2 ^ 127) (dt : t.depth ≤ n) (du : u.depth ≤ n) (c : Bool) (hc : (mergeF n t u).fits = c) :
    Calls Tryd.prog 24 #[v, v'] w (RetC c x (mergeF n t u) w) := by
  have TA := Lib.hid fun w' (hx : Ext w w') => tree_any i t v w' (h.ext hx)
  have TB := Lib.hid fun w' (hx : Ext w w') => tree_any j u v' w' (k.ext hx)
  obtain ⟨qi, qs, rfl, hi, -⟩ := h
  obtain ⟨qi', qs', rfl, hj, -⟩ := k
  have IS := Lib.hid fun w' (hx : Ext w w') => sum_any i j _ _ w' (hi.ext hx) (hj.ext hx)
  rw [hs] at IS
  have HF := Lib.hid hc
  clear hi hj hc hs
  go_enter Tryd.func24, Tryd.ntmps24
  go_wp2_with fail
  refine (IS.out _ ?_).mono ?_
  · exact (((Ext.refl w).alloc _).alloc _).alloc _
  rintro e w1 ⟨v1, rfl, hv1, hb1⟩
  obtain ⟨q1, rfl⟩ := hv1.ptr
  have HV1 := Lib.hid hv1
  have E1 := ((((Ext.refl w).alloc _).alloc _).alloc _).trans hb1
  have hB := Lib.hid (Box2.ext hb1 (by have := Box2.new ((w.alloc (.cells #[.pointer qi, .pointer qs] 44)).alloc (.cells #[.pointer qi', .pointer qs'] 44)) (.pointer none) (.pointer none) 44; simpa using this))
  have hT := Lib.hid (hb1.typ (by have := typ_new ((w.alloc (.cells #[.pointer qi, .pointer qs] 44)).alloc (.cells #[.pointer qi', .pointer qs'] 44)) #[.pointer none, .pointer none] 44; simpa using this))
  have a0 : w1.cell? ⟨w.heap.size, 0, none⟩ = some (.pointer qi) := hb1.cell (by simp [go_sem])
  have a1 : w1.cell? ⟨w.heap.size, 1, none⟩ = some (.pointer qs) := hb1.cell (by simp [go_sem])
  have b0 : w1.cell? ⟨w.heap.size + 1, 0, none⟩ = some (.pointer qi') := hb1.cell (by simp [go_sem])
  have b1 : w1.cell? ⟨w.heap.size + 1, 1, none⟩ = some (.pointer qs') := hb1.cell (by simp [go_sem])
  have z0 := World.block_lt_of_cell? _ _ a0
  have z1 := World.block_lt_of_cell? _ _ b0
  clear hb1 hv1
  go_wp2_with fail
  go_region_held3 (fun w' => Ext w1 w' ∧ ∀ b o, b < w1.heap.size → w'.cell? ⟨b, o, none⟩ = w1.cell? ⟨b, o, none⟩)
    (refine Ext.held ?_ <;> repeat (first | assumption | exact Ext.refl _ | apply Ext.alloc | apply Ext.drew | apply Ext.drewN))
    (first
      | (go_at_call_of 30 (Value.agg #[Value.pointer qi, Value.pointer qs]); go_split_ands; refine (TA.out _ (E1.trans (by assumption))).mono ?_; rintro e w2 ⟨v2, rfl, hv2, hbb⟩; have hE2 : Ext w1 w2 := Ext.trans (by assumption) hbb)
      | (go_at_call_of 30 (Value.agg #[Value.pointer qi', Value.pointer qs']); go_split_ands; refine (TB.out _ (E1.trans (by assumption))).mono ?_; rintro e w3 ⟨v3, rfl, hv3, hbb⟩; have hE3 : Ext w1 w3 := Ext.trans (by assumption) hbb; have hv2' := hv2.ext hbb)
      | (go_at_call 40; go_split_ands; refine (merge_any n t u _ _ _ hv2' hv3 ht hu dt du).mono ?_; rintro e w4 ⟨v4, rfl, hv4, hbb⟩; have hE4 : Ext w1 w4 := Ext.trans (by assumption) hbb; obtain ⟨p4, rfl⟩ := hv4.ptr))
  clear hbb
  go_wp2_with fail
  refine (fits_any _ _ _ hv4).mono ?_
  rintro e w5 ⟨rfl, hb5⟩
  rw [HF.out]
  have hE5 := hE4.trans hb5
  obtain ⟨⟨x0, c0⟩, ⟨x1, c1⟩, f0, f1⟩ := Box2.ext hE5 hB.out
  have hT5 := hE5.typ hT.out
  have E5 := E1.trans hE5
  cases c with
  | true =>
    go_wp2_with fail
    refine bodyPost_ret (v := .tuple #[.agg #[.pointer q1, .pointer (some ⟨p4, 0, none⟩)], .int .i64 0]) ?_ rfl ⟨_, rfl, ⟨_, _, rfl, ?_, .inr ?_⟩, ?_⟩
    · simp [results, Tryd.results24, go_sem, c0, c1]
    · exact IdAt.set (by rw [typ_set]; exact hT5) (by decide) (IdAt.set hT5 (by decide) (HV1.out.ext hE5))
    · exact EvAt.set (by rw [typ_set]; exact hT5) (by decide) (EvAt.set hT5 (by decide) (hv4.ext hb5))
    · exact (E5.set (by simp; omega) _).set (by simp; omega) _
  | false =>
    go_wp2_with fail
    refine bodyPost_ret (v := .tuple #[.agg #[.pointer none, .pointer none], .int .i64 3]) ?_ rfl ⟨_, rfl, ⟨_, _, rfl, rfl, .inl ⟨rfl, rfl⟩⟩, ?_⟩
    · simp [results, Tryd.results24, go_sem, c0, c1]
    · exact (E5.set (by simp; omega) _).set (by simp; omega) _
end Go.Proofs.YtjeclmmikjpinaaDoor.I
