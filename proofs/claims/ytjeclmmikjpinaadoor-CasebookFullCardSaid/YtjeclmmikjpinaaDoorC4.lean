/- check, New, change, Stamp of a casebook. -/
import Derived.Test.YtjeclmmikjpinaaDoorC3
import Derived.Test.YtjeclmmikjpinaaDoorNX
import Derived.Deep.RegionHeld3
import Derived.Deep.DrawnRows
namespace Go.Proofs.YtjeclmmikjpinaaDoor
open Go.RowKit
open Go.ChangeMaps (setBlock)
open I (IdT EvT IdAt EvAt SeenAt StAt)
attribute [local go_sem ↓] Go.wp_at_zero Go.wp_at_succ
attribute [local go_sem] baSize baList
attribute [local go_sem ↓] ld48 st48 al48 bu48
attribute [local go_sem] run_al48 run_bu48 run_st48n run_makeMap
def RetIx (c : Int) (w : World) (e : Ending) (w' : World) : Prop := e = .returned (.int .i64 c) ∧ Ext w w'
def chkC (l : Nat) : Int := if l ≤ 4000 then 0 else 3
theorem ba_ne (u : UInt8) : ((⟨#[u]⟩ : ByteArray) == ⟨#[]⟩) = false := by
  rw [Bool.eq_false_iff]
  intro h
  have := (MapKept.bytes_beq _ _).1 h
  simp at this
theorem ba_len (u : UInt8) : (⟨#[u]⟩ : ByteArray).size = 1 := rfl
theorem check17_ok (u : UInt8) (A : Option Addr) (l c : Nat) (w : World) (hl : l ≤ 1000000) : Calls Tryd.prog 17 #[.agg #[.string ⟨#[u]⟩, .slice A l c]] w (RetIx (chkC l) w) := by
  have e1 := ba_ne u
  have e2 := ba_len u
  by_cases h : l ≤ 4000
  · have H : Hid (chkC l = 0) := Lib.hid (if_pos h)
    have q1 : ¬ (4000 : Int) < (l : Int) := by omega
    go_enter Tryd.func17, Tryd.ntmps17
    go_wp2_with fail
    go_ret
    exact ⟨by rw [H.out]; rfl, (Ext.refl _).alloc _⟩
  · have H : Hid (chkC l = 3) := Lib.hid (if_neg h)
    have q1 : (4000 : Int) < (l : Int) := by omega
    go_enter Tryd.func17, Tryd.ntmps17
    go_wp2_with fail
    go_ret
    exact ⟨by rw [H.out]; rfl, (Ext.refl _).alloc _⟩
/-- A new casebook. -/
def RetBk (w : World) (e : Ending) (w' : World) : Prop := ∃ g r, e = .returned (.pointer (some ⟨g, 0, none⟩)) ∧ BookAt w' g r .one (.leaf 0) [] ∧ w.heap.size ≤ g ∧ w.heap.size ≤ r ∧ Ext w w'
theorem arV_bk (qi qs : Option Addr) (r : Nat) : arV (bkF qi qs r) 3 = #[.pointer qi, .pointer qs, .map (some r)] := arV3 rfl rfl rfl
theorem new15_ok (w : World) : Calls Tryd.prog 5 #[] w (RetBk w) := by
  go_enter Tryd.func5, Tryd.ntmps5
  go_wp2_with fail
  refine (I.seed_any w).mono ?_
  rintro _ w1 ⟨_, rfl, ⟨qi, qs, rfl, hi, ht⟩, hE1⟩
  have HS := Lib.hid (show StAt w1 _ _ _ from ⟨qi, qs, rfl, hi, ht⟩)
  have HE1 := Lib.hid (show Ext w w1 from hE1)
  clear hi ht hE1
  go_wp2_with fail
  go_ret
  refine ⟨w1.heap.size + 1, w1.heap.size, rfl, ⟨⟨qi, qs, ?_, ?_⟩, ?_, ?_⟩, ?_, HE1.out.size, (HE1.out.alloc _).alloc _⟩
  · have := Bk.new (w := w1.alloc (.map #[] 0)) (n := 3) (T := 48) (f := bkF qi qs w1.heap.size) (by decide)
    rw [arV_bk] at this
    simpa using this
  · exact StAt_ext (((Ext.refl _).alloc _).alloc _) HS.out
  · have := TyB.new (w1.alloc (.map #[] 0)) #[.pointer qi, .pointer qs, .map (some w1.heap.size)] 48
    simpa using this
  · exact (Mk.new w1).ext ((Ext.refl _).alloc _)
  · have := HE1.out.size
    omega
/-- An event, and a case that is kept. -/
def RetCh (g r : Nat) (i : IdT) (t : EvT) (ks : List (List UInt8)) (w : World) (e : Ending) (w' : World) : Prop := e = .returned (.int .i64 0) ∧ BookAt w' g r i t ks ∧ Exc g r w w'
section
variable {ops : Array Oper} {rest : List Oper} {o : Oper} {a : Act} {Q : Exit → Act → World → Prop} {w : World}
theorem wupd (hgd : o.guard = none) (m k x : Operand) (ho : o.op = .mapUpdate 46 m k x) {r : Nat} {ks : List (List UInt8)} {z : List UInt8} {v : Value} (hm : a.eval m = .map (some r)) (hk : a.eval k = idV z) (hx : a.eval x = v) (hl : z.length = 32) (hv : IsKv v) (h : Mk w r ks)
    (hK : ∀ o', Mk (setBlock w r o') r (putM ks z) → wpList Tryd.prog ops Q rest (a.put o.dst undef) (setBlock w r o')) :
    wpList Tryd.prog ops Q (o :: rest) a w := by
  refine wpList_plain hgd fun K hK' => ?_
  obtain ⟨o', hrun, h1⟩ := run_upd h z hl v hv
  unfold Oper.wp
  simp [execOp, ho, hm, hk, hx, hrun, Result.andThen]
  exact hK' _ _ (hK o' h1)
theorem wlook2 (hgd : o.guard = none) (m k : Operand) (ho : o.op = .lookup 46 m k true) {r : Nat} {ks : List (List UInt8)} {z : List UInt8} (hm : a.eval m = .map (some r)) (hk : a.eval k = idV z) (hl : z.length = 32) (h : Mk w r ks)
    (hK : ∀ s A l c, wpList Tryd.prog ops Q rest (a.put o.dst (.tuple #[.agg #[.string s, .slice A l c, .bool false], .bool (decide (z ∈ ks))])) w) :
    wpList Tryd.prog ops Q (o :: rest) a w := by
  refine wpList_plain hgd fun K hK' => ?_
  obtain ⟨v, ⟨s, A, l, c, rfl⟩, hrun⟩ := run_look h z hl true
  unfold Oper.wp
  simp [execOp, ho, hm, hk, hrun, Result.andThen]
  exact hK' _ _ (hK s A l c)
theorem wlook1 (hgd : o.guard = none) (m k : Operand) (ho : o.op = .lookup 46 m k false) {r : Nat} {ks : List (List UInt8)} {z : List UInt8} (hm : a.eval m = .map (some r)) (hk : a.eval k = idV z) (hl : z.length = 32) (h : Mk w r ks)
    (hK : ∀ s A l c, wpList Tryd.prog ops Q rest (a.put o.dst (.agg #[.string s, .slice A l c, .bool false])) w) :
    wpList Tryd.prog ops Q (o :: rest) a w := by
  refine wpList_plain hgd fun K hK' => ?_
  obtain ⟨v, ⟨s, A, l, c, rfl⟩, hrun⟩ := run_look h z hl false
  unfold Oper.wp
  simp [execOp, ho, hm, hk, hrun, Result.andThen]
  exact hK' _ _ (hK s A l c)
end
theorem run_eqmn (r d : Nat) (w : World) : (Op.equalIn (d + 1) 46 (.map (some r)) (.map none)).run Tryd.prog w = .ok false w := by
  simp [Op.equalIn, run_underlying Tryd.underlying46]
theorem run_eqm (r : Nat) (w : World) : (binOp .eql 46 (.map (some r)) (.map none)).run Tryd.prog w = .ok (.bool false) w := by
  have h : (Op.equal 46 (.map (some r)) (.map none)).run Tryd.prog w = .ok false w := run_eqmn r 9999 w
  simp [binOp, h, Result.andThen]
theorem bk_sets (qi qs qi' qs' : Option Addr) (r : Nat) (i : Nat) (_ : i < 3) : upd (upd (bkF qi qs r) 0 (.pointer qi')) 1 (.pointer qs') i = bkF qi' qs' r i := by
  unfold upd bkF
  by_cases h0 : i = 0
  · subst h0; rfl
  · by_cases h1 : i = 1
    · subst h1; rfl
    · simp [h0, h1]
def kvF (x y : Value) : Nat → Value := fun i => if i = 0 then x else if i = 1 then y else .bool false
theorem Bk.new_kv (w : World) (x y : Value) : Bk (w.alloc (.cells #[x, y, .bool false] 53)) w.heap.size 3 (kvF x y) := by
  have := Bk.new (w := w) (n := 3) (T := 53) (f := kvF x y) (by decide)
  rwa [arV3 (f := kvF x y) rfl rfl rfl] at this
set_option maxRecDepth 100000 in
set_option maxHeartbeats 1000000 in
theorem change19_ok (g r : Nat) (i : IdT) (t : EvT) (ks : List (List UInt8)) (k : List UInt8) (s : ByteArray) (A : Option Addr) (l c : Nat) (w : World) (h : BookAt w g r i t ks) (hk : k.length = 32)
    (hz : i.isZero = false) (hd : i.depth ≤ 1000000) (ht : t.top + 1 < 2 ^ 127) (hf : (I.eventT i t).fits = true) :
    Calls Tryd.prog 19 #[.pointer (some ⟨g, 0, none⟩), idV k, .agg #[.string s, .slice A l c, .bool false]] w (RetCh g r i (I.eventT i t) (putM ks k) w) := by
  obtain ⟨qi, qs, hb, hs⟩ := h.st
  have HS := Lib.hid hs
  have HB := Lib.hid hb
  have HT := Lib.hid h.ty
  have HM := Lib.hid h.mp
  have HK := Lib.hid hk
  have HP := Lib.hid (And.intro hz (And.intro hd (And.intro ht hf)))
  have hgr : g < w.heap.size := h.ty.lt
  clear h hb hs hk hz hd ht hf
  show Calls Tryd.prog 19 #[.pointer (some ⟨g, 0, none⟩), .agg (idA k), .agg #[.string s, .slice A l c, .bool false]] w _
  go_enter Tryd.func19, Tryd.ntmps19
  go_upto_region 1 with fail
  generalize hwA : w.alloc (.cells (idA k) 27) = wA
  have HKB : Hid (Bk wA w.heap.size 32 (idF k)) := Lib.hid (by rw [← hwA]; exact Bk.new (by decide))
  have HEA : Hid (Ext w wA) := Lib.hid (by rw [← hwA]; exact (Ext.refl _).alloc _)
  have sA : wA.heap.size = w.heap.size + 1 := by rw [← hwA]; simp
  clear hwA
  generalize hwV : wA.alloc (.cells #[.string s, .slice A l c, .bool false] 53) = wV
  have HV : Hid (Bk wV (w.heap.size + 1) 3 (kvF (.string s) (.slice A l c))) := Lib.hid (by rw [← hwV, ← sA]; exact Bk.new_kv wA _ _)
  have HEV : Hid (Ext wA wV) := Lib.hid (by rw [← hwV]; exact (Ext.refl _).alloc _)
  have sV : wV.heap.size = w.heap.size + 2 := by rw [← hwV]; simp; omega
  clear hwV
  have HE : Hid (Ext w wV) := Lib.hid (HEA.out.trans HEV.out)
  have HKB2 : Hid (Bk wV w.heap.size 32 (idF k)) := Lib.hid (HKB.out.ext HEV.out)
  clear HKB HEA HEV sA
  have a0 := (HB.out.ext HE.out).cell (k := 0) (by decide)
  have a1 := (HB.out.ext HE.out).cell (k := 1) (by decide)
  simp only [bkF, if_true, if_false, Nat.one_ne_zero] at a0 a1
  have EV := Lib.hid (I.event_some i t _ wV (StAt_ext HE.out HS.out) HP.out.1 HP.out.2.1 HP.out.2.2.1 true HP.out.2.2.2)
  go_wp2_with fail
  refine EV.out.mono ?_
  rintro _ w2 ⟨_, rfl, ⟨qi', qs', rfl, hi', ht'⟩, hE2⟩
  have HS2 := Lib.hid (show StAt w2 _ _ _ from ⟨qi', qs', rfl, hi', ht'⟩)
  have HE2 := Lib.hid (show Ext wV w2 from hE2)
  clear hi' ht' hE2 a0 a1 EV
  go_upto_region 2 with fail
  generalize hw3 : w2.alloc (.cells #[.pointer qi', .pointer qs'] 44) = w3
  have HE3 : Hid (Ext wV w3) := Lib.hid (by rw [← hw3]; exact HE2.out.alloc _)
  have HS3 : Hid (StAt w3 (.agg #[.pointer qi', .pointer qs']) i (I.eventT i t)) := Lib.hid (StAt_ext (show Ext w2 w3 by rw [← hw3]; exact (Ext.refl _).alloc _) HS2.out)
  have d0 : w3.cell? ⟨w2.heap.size, 0, none⟩ = some (.pointer qi') := by rw [← hw3]; exact new_at _ _ _ _ _ rfl
  have d1 : w3.cell? ⟨w2.heap.size, 1, none⟩ = some (.pointer qs') := by rw [← hw3]; exact new_at _ _ _ _ _ rfl
  clear hw3 HS2
  have HBg : Hid (Bk w3 g 3 (bkF qi qs r)) := Lib.hid (HB.out.ext (HE.out.trans HE3.out))
  have hg2 : g < w2.heap.size := Nat.lt_of_lt_of_le hgr (HE.out.trans HE2.out).size
  have a0 := HBg.out.cell (k := 0) (by decide)
  have a1 := HBg.out.cell (k := 1) (by decide)
  have a2 := HBg.out.cell (k := 2) (by decide)
  have f0 := HBg.out.frozen 0
  have f1 := HBg.out.frozen 1
  simp only [bkF, if_true, if_false, Nat.one_ne_zero, Nat.reduceEqDiff] at a0 a1 a2
  have e57 := run_eqm r
  go_upto_region 7 with fail
  generalize hw5 : (w3.setCell ⟨g, 0, none⟩ (.pointer qi')).setCell ⟨g, 1, none⟩ (.pointer qs') = w5
  have HX5 : Hid (Exc g r w3 w5) := Lib.hid (by rw [← hw5]; exact ((Exc.refl g r w3).set (.inl rfl) _).set (.inl rfl) _)
  have HX : Hid (Exc g r w w5) := Lib.hid ((HE.out.trans HE3.out).then HX5.out)
  have HTg : Hid (TyB w3 48 g) := Lib.hid (HT.out.ext (HE.out.trans HE3.out))
  have HM3 : Hid (Mk w3 r ks) := Lib.hid (HM.out.ext (HE.out.trans HE3.out))
  have HB5 : Hid (Bk w5 g 3 (bkF qi' qs' r)) := Lib.hid (by rw [← hw5]; exact ((HBg.out.set 0 _).set 1 _).congr (bk_sets _ _ _ _ _))
  have HT5 : Hid (TyB w5 48 g) := Lib.hid (by rw [← hw5]; exact (HTg.out.set _ _).set _ _)
  have hrg : r ≠ g := (HM3.out.mpB.ne HTg.out).symm
  have hrl : r < w3.heap.size := HM3.out.lt
  have HM5 : Hid (Mk w5 r ks) := Lib.hid (HM3.out.kept (by rw [← hw5, Below.heap_setCell _ _ _ _ hrg, Below.heap_setCell _ _ _ _ hrg]))
  have HS5 : Hid (StAt w5 (.agg #[.pointer qi', .pointer qs']) i (I.eventT i t)) := Lib.hid (StAt_calm (HX5.out.calm HTg.out HM3.out.mpB) HS3.out)
  have HK5 : Hid (Bk w5 w.heap.size 32 (idF k)) := Lib.hid ((HKB2.out.ext HE3.out).kept (by rw [← hw5, Below.heap_setCell _ _ _ _ (by show w.heap.size ≠ g; omega), Below.heap_setCell _ _ _ _ (by show w.heap.size ≠ g; omega)]))
  have HV5 : Hid (Bk w5 (w.heap.size + 1) 3 (kvF (.string s) (.slice A l c))) := Lib.hid ((HV.out.ext HE3.out).kept (by rw [← hw5, Below.heap_setCell _ _ _ _ (by show w.heap.size + 1 ≠ g; omega), Below.heap_setCell _ _ _ _ (by show w.heap.size + 1 ≠ g; omega)]))
  clear hw5 a0 a1 a2 f0 f1 d0 d1
  have a2 := HB5.out.cell (k := 2) (by decide)
  simp only [bkF, if_true, if_false, Nat.one_ne_zero, Nat.reduceEqDiff] at a2
  have v0 := HV5.out.cell (k := 0) (by decide)
  have v1 := HV5.out.cell (k := 1) (by decide)
  have v2 := HV5.out.cell (k := 2) (by decide)
  simp only [kvF, if_true, if_false, Nat.one_ne_zero, Nat.reduceEqDiff] at v0 v1 v2
  have KB : Hid (∀ W, Ext w5 W → (fun w' => w'.cell? ⟨g, 2, none⟩ = some (.map (some r)) ∧ w'.cell? ⟨w.heap.size + 1, 0, none⟩ = some (.string s) ∧ w'.cell? ⟨w.heap.size + 1, 1, none⟩ = some (.slice A l c) ∧ w'.cell? ⟨w.heap.size + 1, 2, none⟩ = some (.bool false) ∧ (ldS 27 (.pointer (some ⟨w.heap.size, 0, none⟩))).run Tryd.prog w' = .ok (.agg (idA k)) w') W) := Lib.hid (fun W h => ⟨h.cell a2, h.cell v0, h.cell v1, h.cell v2, (HK5.out.ext h).run_ld48⟩)
  obtain ⟨o', hrun, hM'⟩ := run_upd (w := w5.drew) (HM5.out.ext ((Ext.refl _).drew)) k HK.out _ ⟨s, A, l, c, rfl⟩
  have hrun : (Instr.mapUpdate 46 (.map (some r)) (.agg (idA k)) (.agg #[.string s, .slice A l c, .bool false])).run Tryd.prog w5.drew = .ok () (setBlock w5.drew r o') := hrun
  clear a2 v0 v1 v2
  refine wp_region_noPanic ?_
  refine wp_region_X (S := (fun w' => w'.cell? ⟨g, 2, none⟩ = some (.map (some r)) ∧ w'.cell? ⟨w.heap.size + 1, 0, none⟩ = some (.string s) ∧ w'.cell? ⟨w.heap.size + 1, 1, none⟩ = some (.slice A l c) ∧ w'.cell? ⟨w.heap.size + 1, 2, none⟩ = some (.bool false) ∧ (ldS 27 (.pointer (some ⟨w.heap.size, 0, none⟩))).run Tryd.prog w' = .ok (.agg (idA k)) w')) (z := 6) (by kernel_rfl) ?_ (fun hHeld => ?_)
  · first | assumption | exact KB.out _ (by repeat (first | assumption | exact Ext.refl _ | apply Ext.alloc | apply Ext.drew | apply Ext.drewN))
  refine wpAnyX_take (i := 0) (v := ?_) (oper_at rfl) (by kernel_rfl) (by kernel_rfl) (by kernel_rfl) (by kernel_rfl) (fun _ _ _ h => h) (Or.inl ⟨by rfl, ?_⟩) hHeld ?_
  rotate_left
  · (intro ww hSw; (try dsimp only at hSw); go_simp; try (with_reducible rfl))
  try simp only [Act.put, List.setIfInBounds_toArray, List.set_cons_zero, List.set_cons_succ]
  refine wpAnyX_take (i := 1) (v := ?_) (oper_at rfl) (by kernel_rfl) (by kernel_rfl) (by kernel_rfl) (by kernel_rfl) (fun _ _ _ h => h) (Or.inl ⟨by rfl, ?_⟩) hHeld ?_
  rotate_left
  · (intro ww hSw; (try dsimp only at hSw); go_simp; try (with_reducible rfl))
  try simp only [Act.put, List.setIfInBounds_toArray, List.set_cons_zero, List.set_cons_succ]
  refine wpAnyX_take (i := 2) (v := ?_) (oper_at rfl) (by kernel_rfl) (by kernel_rfl) (by kernel_rfl) (by kernel_rfl) (fun _ _ _ h => h) (Or.inl ⟨by rfl, ?_⟩) hHeld ?_
  rotate_left
  · (intro ww hSw; (try dsimp only at hSw); go_simp; try (with_reducible rfl))
  try simp only [Act.put, List.setIfInBounds_toArray, List.set_cons_zero, List.set_cons_succ]
  refine wpAnyX_take (i := 3) (v := ?_) (oper_at rfl) (by kernel_rfl) (by kernel_rfl) (by kernel_rfl) (by kernel_rfl) (fun _ _ _ h => h) (Or.inl ⟨by rfl, ?_⟩) hHeld ?_
  rotate_left
  · (intro ww hSw; (try dsimp only at hSw); go_simp; try (with_reducible rfl))
  try simp only [Act.put, List.setIfInBounds_toArray, List.set_cons_zero, List.set_cons_succ]
  refine wpAnyX_take (i := 4) (v := ?_) (oper_at rfl) (by kernel_rfl) (by kernel_rfl) (by kernel_rfl) (by kernel_rfl) (fun _ _ _ h => h) (Or.inl ⟨by rfl, ?_⟩) hHeld ?_
  rotate_left
  · (intro ww hSw; (try dsimp only at hSw); go_simp; try (with_reducible rfl))
  try simp only [Act.put, List.setIfInBounds_toArray, List.set_cons_zero, List.set_cons_succ]
  refine wpAnyX_take (i := 5) (v := ?_) (oper_at rfl) (by kernel_rfl) (by kernel_rfl) (by kernel_rfl) (by kernel_rfl) (fun _ _ _ h => h) (Or.inl ⟨by rfl, ?_⟩) hHeld ?_
  rotate_left
  · (intro ww hSw; (try dsimp only at hSw); go_simp; try (with_reducible rfl))
  try simp only [Act.put, List.setIfInBounds_toArray, List.set_cons_zero, List.set_cons_succ]
  refine wpAnyX_ready (rs := [6]) (by kernel_rfl) (by simp) (AllReadyX.last rfl (oper_at rfl) (fun K hK => ?_))
  go_simp
  refine hK.out _ _ ?_
  clear hK K
  try simp only [Act.put, List.setIfInBounds_toArray, List.set_cons_zero, List.set_cons_succ]
  refine wpAnyX_done (by kernel_rfl) ?_ _
  refine NoPanic.normal ?_
  clear hrun
  go_wp2_with fail
  go_ret
  refine ⟨rfl, ⟨⟨qi', qs', HB5.out.kept (heap_setBlock _ _ _ _ hrg.symm), StAt_calm (((Exc.refl g r w5).grown ((Ext.refl _).drew)).map o' |>.calm HT5.out HM5.out.mpB) HS5.out⟩, HT5.out.kept (heap_setBlock _ _ _ _ hrg.symm), hM'⟩, (HX.out.grown ((Ext.refl _).drew)).map o'⟩
end Go.Proofs.YtjeclmmikjpinaaDoor
