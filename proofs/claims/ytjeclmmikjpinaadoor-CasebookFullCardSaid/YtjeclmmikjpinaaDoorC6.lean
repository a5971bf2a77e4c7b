/- Fork: a second casebook with a copy of the map. -/
import Derived.Test.YtjeclmmikjpinaaDoorC5
import Derived.Laws.Externs
namespace Go.Proofs.YtjeclmmikjpinaaDoor
open Go.RowKit
open Go.ChangeMaps (setBlock)
open I (IdT EvT IdAt EvAt SeenAt StAt)
attribute [local go_sem ↓] Go.wp_at_zero Go.wp_at_succ
attribute [local go_sem ↓] ld48 st48 al48 bu48
attribute [local go_sem] run_al48 run_bu48 run_st48n run_eqm
theorem run_cloneMk {w : World} {r : Nat} {es : Array MapEntry} {clock : Nat} (hb : w.heap[r]? = some (.map es clock)) : (Extern.MapsClone.clone #[.iface 46 (.map (some r))]).run Tryd.prog w = .ok (.iface 46 (.map (some w.heap.size))) (w.alloc (.map es clock)) := by
  have e : Extern.MapsClone.clone #[.iface 46 (.map (some r))] = (getObj r >>= fun o => match o with
      | .map entries clock => (newObj (.map entries clock) >>= fun n => pure (.iface 46 (.map (some n))))
      | _ => stuck "maps.clone: a map expected") := rfl
  rw [e]
  simp [MapKept.run_getObj_map hb, Result.andThen, go_sem]
theorem run_call58 {w : World} {r : Nat} {es : Array MapEntry} {clock : Nat} (hb : w.heap[r]? = some (.map es clock)) : (callFunc 33 #[.iface 46 (.map (some r))]).run Tryd.prog w = .ok (.value (.iface 46 (.map (some w.heap.size)))) (w.alloc (.map es clock)) := by
  rw [run_callFunc_extern Tryd.func33 (by kernel_rfl) (by kernel_rfl) (by kernel_rfl) (e := Extern.MapsClone.clone) (by kernel_rfl), run_cloneMk hb]
  rfl
theorem run_assertMk (w : World) (v : Value) : (Instr.typeAssert (.iface 46 v) 20 46 false).run Tryd.prog w = .ok v w := by
  simp [Instr.typeAssert, run_underlying Tryd.underlying46, go_sem, Result.andThen]
def RetCl (ks : List (List UInt8)) (w : World) (e : Ending) (w' : World) : Prop := ∃ r, e = .returned (.map (some r)) ∧ w.heap.size ≤ r ∧ Mk w' r ks ∧ Ext w w'
theorem clone34_ok (r : Nat) (ks : List (List UInt8)) (w : World) (h : Mk w r ks) : Calls Tryd.prog 16 #[.map (some r)] w (RetCl ks w) := by
  obtain ⟨es, clock, hb, hk, hv, hs⟩ := h.at_
  have hc := run_call58 hb
  have ha := run_assertMk (w.alloc (.map es clock)) (.map (some w.heap.size))
  have HR : Hid (RetCl ks w (.returned (.map (some w.heap.size))) (w.alloc (.map es clock))) := Lib.hid ⟨_, rfl, Nat.le_refl _, ⟨⟨es, clock, heap_alloc_new w _, hk, hv, hs⟩, h.long⟩, (Ext.refl _).alloc _⟩
  clear hk hv hs h
  go_enter Tryd.func16, Tryd.ntmps16
  go_wp2_with fail
  go_ret
  exact HR.out

/-- Two casebooks with the same cases. -/
def RetFk (g r : Nat) (i : IdT) (t : EvT) (ks : List (List UInt8)) (w : World) (e : Ending) (w' : World) : Prop := ∃ g2 r2, e = .returned (.pointer (some ⟨g2, 0, none⟩)) ∧ BookAt w' g r i.split.1 t ks ∧ BookAt w' g2 r2 i.split.2 t ks ∧ w.heap.size ≤ g2 ∧ w.heap.size ≤ r2 ∧ Exc g r w w'
set_option maxRecDepth 100000 in
set_option maxHeartbeats 4000000 in
theorem fork13_ok (g r : Nat) (i : IdT) (t : EvT) (ks : List (List UInt8)) (w : World) (h : BookAt w g r i t ks) (hd : i.depth ≤ 999999) (hc : (decide (i.split.1.depth ≤ 16) && decide (i.split.2.depth ≤ 16)) = true) :
    Calls Tryd.prog 6 #[.pointer (some ⟨g, 0, none⟩)] w (RetFk g r i t ks w) := by
  obtain ⟨qi, qs, hb, hs⟩ := h.st
  have HB := Lib.hid hb
  have HT := Lib.hid h.ty
  have HM := Lib.hid h.mp
  have hgr : g < w.heap.size := h.ty.lt
  have a0 := hb.cell (k := 0) (by decide)
  have a1 := hb.cell (k := 1) (by decide)
  simp only [bkF, if_true, if_false, Nat.one_ne_zero] at a0 a1
  have FK := Lib.hid (I.fork_any i t _ w hs hd true hc)
  clear h hb hs hd hc
  go_enter Tryd.func6, Tryd.ntmps6
  go_wp2_with fail
  refine FK.out.mono ?_
  rintro _ w1 ⟨_, _, rfl, ⟨qi1, qs1, rfl, hi1, ht1⟩, ⟨qi2, qs2, rfl, hi2, ht2⟩, hE1⟩
  have HS1 := Lib.hid (show StAt w1 _ _ _ from ⟨qi1, qs1, rfl, hi1, ht1⟩)
  have HS2 := Lib.hid (show StAt w1 _ _ _ from ⟨qi2, qs2, rfl, hi2, ht2⟩)
  have HE1 := Lib.hid (show Ext w w1 from hE1)
  clear hi1 ht1 hi2 ht2 hE1 a0 a1 FK
  go_upto_region 4 with fail
  generalize hw2 : (w1.alloc (.cells #[.pointer qi1, .pointer qs1] 44)).alloc (.cells #[.pointer qi2, .pointer qs2] 44) = w2
  have HE12 : Hid (Ext w1 w2) := Lib.hid (by rw [← hw2]; exact ((Ext.refl _).alloc _).alloc _)
  have hX1 : Ext (w1.alloc (.cells #[.pointer qi1, .pointer qs1] 44)) w2 := by rw [← hw2]; exact (Ext.refl _).alloc _
  have d0 : w2.cell? ⟨w1.heap.size, 0, none⟩ = some (.pointer qi1) := hX1.cell (new_at _ _ _ _ _ rfl)
  have d1 : w2.cell? ⟨w1.heap.size, 1, none⟩ = some (.pointer qs1) := hX1.cell (new_at _ _ _ _ _ rfl)
  have d2 : w2.cell? ⟨w1.heap.size + 1, 0, none⟩ = some (.pointer qi2) := by
    rw [← hw2]
    have := new_at (w1.alloc (.cells #[.pointer qi1, .pointer qs1] 44)) #[.pointer qi2, .pointer qs2] 44 0 _ rfl
    rwa [show (w1.alloc (.cells #[.pointer qi1, .pointer qs1] 44)).heap.size = w1.heap.size + 1 by simp] at this
  have d3 : w2.cell? ⟨w1.heap.size + 1, 1, none⟩ = some (.pointer qs2) := by
    rw [← hw2]
    have := new_at (w1.alloc (.cells #[.pointer qi1, .pointer qs1] 44)) #[.pointer qi2, .pointer qs2] 44 1 _ rfl
    rwa [show (w1.alloc (.cells #[.pointer qi1, .pointer qs1] 44)).heap.size = w1.heap.size + 1 by simp] at this
  clear hw2 hX1
  have HE2 : Hid (Ext w w2) := Lib.hid (HE1.out.trans HE12.out)
  have hg1 : g < w1.heap.size := Nat.lt_of_lt_of_le hgr HE1.out.size
  have HBg : Hid (Bk w2 g 3 (bkF qi qs r)) := Lib.hid (HB.out.ext HE2.out)
  have a0 := HBg.out.cell (k := 0) (by decide)
  have a1 := HBg.out.cell (k := 1) (by decide)
  have f0 := HBg.out.frozen 0
  have f1 := HBg.out.frozen 1
  simp only [bkF, if_true, if_false, Nat.one_ne_zero] at a0 a1
  go_upto_region 7 with fail
  generalize hw3 : (w2.setCell ⟨g, 0, none⟩ (.pointer qi1)).setCell ⟨g, 1, none⟩ (.pointer qs1) = w3
  have HX3 : Hid (Exc g r w2 w3) := Lib.hid (by rw [← hw3]; exact ((Exc.refl g r w2).set (.inl rfl) _).set (.inl rfl) _)
  have HTg : Hid (TyB w2 48 g) := Lib.hid (HT.out.ext HE2.out)
  have HM2 : Hid (Mk w2 r ks) := Lib.hid (HM.out.ext HE2.out)
  have HB3 : Hid (Bk w3 g 3 (bkF qi1 qs1 r)) := Lib.hid (by rw [← hw3]; exact ((HBg.out.set 0 _).set 1 _).congr (bk_sets _ _ _ _ _))
  have HT3 : Hid (TyB w3 48 g) := Lib.hid (by rw [← hw3]; exact (HTg.out.set _ _).set _ _)
  have hrg : r ≠ g := (HM2.out.mpB.ne HTg.out).symm
  have HM3 : Hid (Mk w3 r ks) := Lib.hid (HM2.out.kept (by rw [← hw3, Below.heap_setCell _ _ _ _ hrg, Below.heap_setCell _ _ _ _ hrg]))
  have HC3 : Hid (Calm w1 w3) := Lib.hid (fun T b hb hT => (HX3.out.calm HTg.out HM2.out.mpB T b (hb.ext HE12.out) hT).trans (HE12.out.block b hb.lt))
  have k1 : w3.heap[w1.heap.size + 1]? = w2.heap[w1.heap.size + 1]? := by
    rw [← hw3, Below.heap_setCell _ _ _ _ (by show w1.heap.size + 1 ≠ g; omega), Below.heap_setCell _ _ _ _ (by show w1.heap.size + 1 ≠ g; omega)]
  have d2' := (cell_kept k1 0).trans d2
  have d3' := (cell_kept k1 1).trans d3
  clear k1
  clear hw3 a0 a1 f0 f1 d0 d1 d2 d3
  have a2 := HB3.out.cell (k := 2) (by decide)
  simp only [bkF, if_false, Nat.reduceEqDiff] at a2
  have HXW : Hid (Exc g r w w3) := Lib.hid (HE2.out.then HX3.out)
  have HBK3 : Hid (BookAt w3 g r i.split.1 t ks) := Lib.hid ⟨⟨qi1, qs1, HB3.out, StAt_calm HC3.out HS1.out⟩, HT3.out, HM3.out⟩
  have HS23 : Hid (StAt w3 (.agg #[.pointer qi2, .pointer qs2]) i.split.2 t) := Lib.hid (StAt_calm HC3.out HS2.out)
  have KB : Hid (∀ W, Ext w3 W → (fun w' => w'.cell? ⟨w1.heap.size + 1, 0, none⟩ = some (.pointer qi2) ∧ w'.cell? ⟨w1.heap.size + 1, 1, none⟩ = some (.pointer qs2) ∧ w'.cell? ⟨g, 2, none⟩ = some (.map (some r))) W) := Lib.hid (fun W h => ⟨h.cell d2', h.cell d3', h.cell a2⟩)
  clear d2' d3' a2
  refine wp_region_noPanic ?_
  refine wp_region_held_drew (S := (fun w' => w'.cell? ⟨w1.heap.size + 1, 0, none⟩ = some (.pointer qi2) ∧ w'.cell? ⟨w1.heap.size + 1, 1, none⟩ = some (.pointer qs2) ∧ w'.cell? ⟨g, 2, none⟩ = some (.map (some r)))) (by kernel_rfl) ?_ (fun hHeld => ?_)
  · first | assumption | exact KB.out _ (by repeat (first | assumption | exact Ext.refl _ | apply Ext.alloc | apply Ext.drew | apply Ext.drewN))
  refine wpAnyH_take (i := 0) (v := ?_) (oper_at rfl) (by kernel_rfl) (by kernel_rfl) (by kernel_rfl) (fun _ _ _ h => h) (Or.inl ⟨by rfl, ?_⟩) hHeld ?_
  rotate_left
  · (intro ww hSw; (try dsimp only at hSw); go_simp; try (with_reducible rfl))
  try simp only [Act.put, List.setIfInBounds_toArray, List.set_cons_zero, List.set_cons_succ]
  refine wpAnyH_take (i := 1) (v := ?_) (oper_at rfl) (by kernel_rfl) (by kernel_rfl) (by kernel_rfl) (fun _ _ _ h => h) (Or.inl ⟨by rfl, ?_⟩) hHeld ?_
  rotate_left
  · (intro ww hSw; (try dsimp only at hSw); go_simp; try (with_reducible rfl))
  try simp only [Act.put, List.setIfInBounds_toArray, List.set_cons_zero, List.set_cons_succ]
  refine wpAnyH_take (i := 2) (v := ?_) (oper_at rfl) (by kernel_rfl) (by kernel_rfl) (by kernel_rfl) (fun _ _ _ h => h) (Or.inl ⟨by rfl, ?_⟩) hHeld ?_
  rotate_left
  · (intro ww hSw; (try dsimp only at hSw); go_simp; try (with_reducible rfl))
  try simp only [Act.put, List.setIfInBounds_toArray, List.set_cons_zero, List.set_cons_succ]
  refine wpAnyH_take (i := 3) (v := ?_) (oper_at rfl) (by kernel_rfl) (by kernel_rfl) (by kernel_rfl) (fun _ _ _ h => h) (Or.inl ⟨by rfl, ?_⟩) hHeld ?_
  rotate_left
  · (intro ww hSw; (try dsimp only at hSw); go_simp; try (with_reducible rfl))
  try simp only [Act.put, List.setIfInBounds_toArray, List.set_cons_zero, List.set_cons_succ]
  refine wpAnyH_take (i := 4) (v := ?_) (oper_at rfl) (by kernel_rfl) (by kernel_rfl) (by kernel_rfl) (fun _ _ _ h => h) (Or.inl ⟨by rfl, ?_⟩) hHeld ?_
  rotate_left
  · (intro ww hSw; (try dsimp only at hSw); go_simp; try (with_reducible rfl))
  try simp only [Act.put, List.setIfInBounds_toArray, List.set_cons_zero, List.set_cons_succ]
  refine wpAnyH_ready (rs := [5]) (by kernel_rfl) (by simp) (AllReadyH.cons (oper_at rfl) (fun K hK => ?_) AllReadyH.nil)
  go_simp
  go_at_call 16
  refine (clone34_ok r ks _ (HM3.out.ext (show Ext w3 w3.drew from (Ext.refl _).drew))).mono ?_
  rintro _ w4 ⟨r2, rfl, hr2, hM2, hE4⟩
  have hX4 : Ext w3 w4 := ((Ext.refl _).drew).trans hE4
  have HM4 := Lib.hid hM2
  have hr2' : w3.heap.size ≤ r2 := hr2
  clear hM2 hE4 hr2
  try go_wp2_with fail
  refine hK.out _ _ ?_ (fun hHeld => ?_)
  · first | assumption | exact KB.out _ (by repeat (first | assumption | exact Ext.refl _ | apply Ext.alloc | apply Ext.drew | apply Ext.drewN))
  clear hK K
  try simp only [Act.put, List.setIfInBounds_toArray, List.set_cons_zero, List.set_cons_succ]
  refine wpAnyH_take (i := 6) (v := ?_) (oper_at rfl) (by kernel_rfl) (by kernel_rfl) (by kernel_rfl) (fun _ _ _ h => h) (Or.inl ⟨by rfl, ?_⟩) hHeld ?_
  rotate_left
  · (intro ww hSw; (try dsimp only at hSw); go_simp; try (with_reducible rfl))
  try simp only [Act.put, List.setIfInBounds_toArray, List.set_cons_zero, List.set_cons_succ]
  refine wpAnyH_ready (rs := [7]) (by kernel_rfl) (by simp) (AllReadyH.cons (oper_at rfl) (fun K hK => ?_) AllReadyH.nil)
  go_simp
  refine hK.out _ _ ?_ (fun hHeld => ?_)
  · first | assumption | exact KB.out _ (by repeat (first | assumption | exact Ext.refl _ | apply Ext.alloc | apply Ext.drew | apply Ext.drewN))
  clear hK K
  try simp only [Act.put, List.setIfInBounds_toArray, List.set_cons_zero, List.set_cons_succ]
  refine wpAnyH_take (i := 8) (v := ?_) (oper_at rfl) (by kernel_rfl) (by kernel_rfl) (by kernel_rfl) (fun _ _ _ h => h) (Or.inl ⟨by rfl, ?_⟩) hHeld ?_
  rotate_left
  · (intro ww hSw; (try dsimp only at hSw); go_simp; try (with_reducible rfl))
  try simp only [Act.put, List.setIfInBounds_toArray, List.set_cons_zero, List.set_cons_succ]
  refine wpAnyH_done (by kernel_rfl) ?_ _
  refine NoPanic.normal ?_
  generalize hw5 : World.alloc w4 _ = w5
  have HE5 : Hid (Ext w4 w5) := Lib.hid (by rw [← hw5]; repeat (first | exact Ext.refl _ | apply Ext.alloc | apply Ext.drew))
  have HB5 : Hid (Bk w5 w4.heap.size 3 (bkF qi2 qs2 r2)) := Lib.hid (by
    rw [← hw5]
    have := Bk.new (w := w4) (n := 3) (T := 48) (f := bkF qi2 qs2 r2) (by decide)
    rw [arV_bk] at this
    exact this)
  have HT5 : Hid (TyB w5 48 w4.heap.size) := Lib.hid (by rw [← hw5]; exact TyB.new w4 _ 48)
  clear hw5
  go_wp2_with fail
  go_ret
  have h34 := hX4.size
  have h03 := HXW.out.size
  exact ⟨w4.heap.size, r2, rfl, HBK3.out.ext (hX4.trans HE5.out), ⟨⟨qi2, qs2, HB5.out, StAt_ext (hX4.trans HE5.out) HS23.out⟩, HT5.out, HM4.out.ext HE5.out⟩, by omega, by omega, HXW.out.grown (hX4.trans HE5.out)⟩
end Go.Proofs.YtjeclmmikjpinaaDoor
