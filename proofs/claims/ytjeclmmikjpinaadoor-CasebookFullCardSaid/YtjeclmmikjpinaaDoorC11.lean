/- AppendSeq over the digests of a map; Collect. -/
import Derived.Test.YtjeclmmikjpinaaDoorC9
import Derived.RangeFuncFrom
import Derived.RangeFuncNested
import Derived.Shelf.Abstract
import Derived.Shelf.RegionOpen
import Derived.Maps.AppendAt
namespace Go.Proofs.YtjeclmmikjpinaaDoor
open Go.RowKit Go.Shelf
attribute [local go_sem] Oper.semAt_some
attribute [local go_sem ↓] Go.wp_at_zero Go.wp_at_succ
attribute [local go_sem ↓] ld48 st48 al48 bu48
attribute [local go_sem] run_al48 run_bu48 run_st48n
theorem bs39 (n : Nat) (ps : Array (Nat × Value)) : Instr.buildSlice 36 n ps = bsS 36 n ps := by unfold bsS; rfl
theorem run_bs39 (w : World) (f : Nat → Value) : (bsS 36 1 #[(0, .agg (arV f 32))]).run Tryd.prog w = .ok (.slice (some ⟨w.heap.size, 0, none⟩) 1 1) (w.alloc (.cells (arV f 32) 27)) :=
  run_bs 36 27 32 (idA []) Tryd.underlying36 (by unfold idA arV idF; kernel_rfl) (by decide) (by decide) w f
attribute [local go_sem ↓] bs39
attribute [local go_sem] run_bs39
/-- A digest's cells. -/
def idC (d : List UInt8) : List Value := (idA d).toList
theorem idC_len (d : List UInt8) : (idC d).length = 32 := by unfold idC; rw [Array.length_toList, arV_size]
theorem one_idC (d : List UInt8) : ∀ u ∈ [idC d].flatten, u.oneCell' = true := by
  intro u hu
  simp at hu
  exact one_id d u hu
theorem Tryd.info27 : (Tryd.prog.info? 27).map (fun i => (i.zero, i.size, i.bytes)) = some (some (idV []), 32, 32) := by unfold idV idA arV idF; kernel_rfl
/-- A block that holds a digest. -/
def BoxD (W : World) (B : Nat) (d : List UInt8) : Prop := W.heap[B]? = some (.cells (idA d) 27 (0, 0))
theorem BoxD.lt {W : World} {B : Nat} {d : List UInt8} (h : BoxD W B d) : B < W.heap.size := (Array.getElem?_eq_some_iff.1 h).1
theorem BoxD.bk {W : World} {B : Nat} {d : List UInt8} (h : BoxD W B d) : Bk W B 32 (idF d) := ⟨by decide, by unfold blkOf; rw [show W.heap[B]? = _ from h]; rfl⟩
theorem BoxD.new (W : World) (d : List UInt8) : BoxD (W.alloc (.cells (idA d) 27)) W.heap.size d := World.alloc_heap_new W _
theorem BoxD.own {W W' : World} {B : Nat} {d : List UInt8} {row : Option Nat} (h : BoxD W B d) (hg : W.grownBy W' row) (hr : ∀ r, row = some r → ∃ o : Obj, W.heap[r]? = some o ∧ o.isCells = false) : BoxD W' B d := by
  refine (hg.block B h.lt (fun e => ?_)).trans h
  obtain ⟨o, ho, hc⟩ := hr B e.symm
  rw [show W.heap[B]? = _ from h] at ho
  cases ho
  cases hc
abbrev flD (pre : List Dg) : List Value := (pre.map fun x => idC x.1).flatten
theorem flD_app (pre : List Dg) (x : Dg) : flD (pre ++ [x]) = flD pre ++ idC x.1 := by simp [flD]
set_option maxRecDepth 100000 in
set_option maxHeartbeats 1000000 in
theorem app70_in (F : Fence) (n : Nat) (h70 : F.fn 61) (h49 : F.fn 44) (hro : F.round = none) (hn : 4 ≤ n) (Bm b : Nat) (us : List (List UInt8)) (hus : us.length ≤ 1000000) (w : World) (hBm : Bm < w.heap.size) (hm : w.cell? ⟨Bm, 0, none⟩ = some (.map (some b))) (hown : Mk w b us) :
    CallsIn F n Tryd.prog 61 #[.slice none 0 0, .func (.func 44) #[] #[.pointer (some ⟨Bm, 0, none⟩)]] w fun e W' => ∃ (v : Value) (ss : List Dg), e = .returned v ∧ W'.ownsRow w.heap.size 27 32 v ss.length (flD ss) ∧ (ss.map (·.1)).Nodup ∧ (∀ x, x ∈ ss.map (·.1) ↔ x ∈ us) ∧ Below w.heap.size w W' := by
  have h1 : 1 ≤ n := by omega
  obtain ⟨i0, hi, hz0, hz1, hz2⟩ := info_parts Tryd.info27
  refine callsIn_of_wp_marks Tryd.func61 rfl h70 ?_ hro
  simp only [Tryd.ntmps61, List.size_toArray, List.length_cons, List.length_nil, Nat.reduceAdd, Nat.reduceSub, Array.replicate_succ, Array.replicate_zero, List.push_toArray, List.append_toArray, List.nil_append, List.cons_append]
  gi_wp2
  have bO := Boxed.new w 36 (.slice none 0 0)
  have hB0 : Below w.heap.size w (w.alloc (.cells #[.slice none 0 0] 36)) := (Below.refl _ w).alloc (Nat.le_refl _) _
  have hsz : (w.alloc (.cells #[.slice none 0 0] 36)).heap.size = w.heap.size + 1 := by simp
  have hm0 : (w.alloc (.cells #[.slice none 0 0] 36)).cell? ⟨Bm, 0, none⟩ = some (.map (some b)) := (hB0.cell (p := ⟨Bm, 0, none⟩) hBm).trans hm
  have hk0 : Mk (w.alloc (.cells #[.slice none 0 0] 36)) b us := hown.kept (hB0.block b hown.lt)
  obtain ⟨W0, hW0⟩ : ∃ W0, w.alloc (.cells #[.slice none 0 0] 36) = W0 := ⟨_, rfl⟩
  rw [hW0] at bO hB0 hsz hm0 hk0 ⊢
  clear hW0
  refine wpIn_rangeFunc_ownH hro h1 (gf := 44) (lb := #[.pointer (some ⟨Bm, 0, none⟩)]) rfl h49 (enters_of Tryd.func44 (by kernel_rfl) rfl)
    (keys_stops F (n - 1) h49 hro (by omega) Bm b us W0 (by omega) hm0 hk0) walksK_t walksK_b (Below.refl _ _) (fun _ => rfl)
    (fun pre W => (∃ v, Boxed W w.heap.size 36 v ∧ W.ownsRow w.heap.size 27 32 v pre.length (flD pre) ∧ True) ∧ Below w.heap.size w W)
    (fun _ _ _ => False)
    (OwnFrom.and (Own.from (holdsRow_own w.heap.size w.heap.size 36 27 32 (fun pre : List Dg => pre.length) flD (fun _ _ => True)) _) (ownFrom_below (Nat.le_refl _) (by omega)))
    (fun _ _ _ _ _ hs _ _ => hs)
    ⟨⟨_, bO, World.ownsRow_nil _ _ _ _, trivial⟩, hB0⟩
    (fun x a' W => ∃ Bx, w.heap.size < Bx ∧ BoxD W Bx x.1 ∧ a' = { tmps := #[.slice none 0 0, .func (.func 44) #[] #[.pointer (some ⟨Bm, 0, none⟩)], .pointer (some ⟨w.heap.size, 0, none⟩), undef, .slice none 0 0, .pointer (some ⟨Bx, 0, none⟩), .func (.func 44) #[] #[.pointer (some ⟨Bm, 0, none⟩)], idV x.1, undef, undef, undef, undef, undef], defers := [] })
    (fun x a' _ X Y row hs hg hr => by obtain ⟨Bx, h1, h2, h3⟩ := hs; exact ⟨Bx, h1, h2.own hg (fun r e => (hr r e).2), h3⟩)
    ?assign ?body ?done ?stop
  case assign =>
    rintro l pre x W K ⟨⟨v, hv, hrow, -⟩, hB⟩ hK
    gi_wp2
    exact hK _ _ ((KeepsOthers.alloc _ _).from _) (KeepsWalks.alloc _ _) ⟨⟨v, hv.alloc _, hrow.alloc _, trivial⟩, hB.alloc hB.size _⟩ ⟨W.heap.size, hv.lt, BoxD.new W x.1, rfl⟩
  case body =>
    rintro l pre x a' W hl ⟨r, hr⟩ ⟨⟨v, hv, hrow, -⟩, hB⟩ ⟨Bx, hBx, bX, rfl⟩ hlt
    have cv := hv.cell
    have lx := bX.bk.run_ld48
    clear hr bX
    gi_wp2_with (gi_at_builtin; refine wpListIn_append_own _ rfl _ _ 36 rfl w.heap.size 27 i0 (idV []) 32 32 Tryd.underlying36 hi hz0 hz1 hz2 (by show (idA []).size = 32; exact arV_size) (by decide) _ _ _ rfl (hrow.alloc _) ⟨W.heap.size, 0, none⟩ 1 1 (idC x.1) rfl (idC_len _) (fun j u hj => World.news_of_block (heap_alloc_new W _) j u hj) (one_id x.1) (by unfold maxLen; omega) (by omega) (by have := hB.size; simp; omega) ?_; intro v' w1 hown' hgrow _; obtain ⟨g', cap', rfl⟩ := ownsRow_succ hown'; obtain ⟨hv1, hv2, hr2, hk2, hb2⟩ := hv.appended (by decide) hrow hB.size (Nat.le_refl _) hown' hgrow; have hc1 := hv1.cell; have hf1 := hv1.frozen)
    exact ⟨hk2.from _, hk2.walks, ⟨⟨_, hv2, by rw [List.length_append, flD_app]; exact hr2, trivial⟩, hB.trans hb2⟩⟩
  case done =>
    rintro D ys W hD ⟨hnd, hmem⟩ ⟨⟨v, hv, hrow, -⟩, hB⟩ hK
    have hc := hv.cell
    gi_wp2
    refine ⟨by simp, .inl ⟨_, _, rfl, run_takeDeferred hK, ?_⟩⟩
    exact ⟨_, results_tmp rfl _ _ _, v, ys, rfl, ownsRow_putObj hrow _ hK rfl, hnd, hmem, hB.trans (belowK_b (w := w) (Nat.le_refl _) W D _ _ (by omega) hK rfl rfl)⟩
  case stop =>
    rintro D c pre W _ _ h _
    exact h.elim
set_option maxRecDepth 100000 in
set_option maxHeartbeats 1000000 in
theorem collect47_in (F : Fence) (n : Nat) (h47 : F.fn 42) (h70 : F.fn 61) (h49 : F.fn 44) (hro : F.round = none) (hn : 5 ≤ n) (Bm b : Nat) (us : List (List UInt8)) (hus : us.length ≤ 1000000) (w : World) (hBm : Bm < w.heap.size) (hm : w.cell? ⟨Bm, 0, none⟩ = some (.map (some b))) (hown : Mk w b us) :
    CallsIn F n Tryd.prog 42 #[.func (.func 44) #[] #[.pointer (some ⟨Bm, 0, none⟩)]] w fun e W' => ∃ (v : Value) (ss : List Dg), e = .returned v ∧ W'.ownsRow w.heap.size 27 32 v ss.length (flD ss) ∧ (ss.map (·.1)).Nodup ∧ (∀ x, x ∈ ss.map (·.1) ↔ x ∈ us) ∧ Below w.heap.size w W' := by
  have h1 : 1 ≤ n := by omega
  refine callsIn_of_wp Tryd.func42 rfl h47 ?_ hro
  simp only [Tryd.ntmps42, List.size_toArray, List.length_cons, List.length_nil, Nat.reduceAdd, Nat.reduceSub, Array.replicate_succ, Array.replicate_zero, List.push_toArray, List.append_toArray, List.nil_append, List.cons_append]
  gi_wp2_with (gi_at_call 61; refine (app70_in F (n - 1) h70 h49 hro (by omega) Bm b us hus w hBm hm hown).mono ?_; rintro e w' ⟨v, ss, rfl, hr, hnd, hmem, hb⟩)
  go_ret
  exact ⟨v, ss, rfl, hr, hnd, hmem, hb⟩
/-- slices.Collect(maps.Keys(m)): the digests, each once, in an own row. -/
def RetKs (us : List (List UInt8)) (w : World) (e : Ending) (w' : World) : Prop := ∃ (v : Value) (ss : List Dg), e = .returned v ∧ Row 32 w' w.heap.size 27 v (ss.map fun x => idC x.1) ∧ (ss.map (·.1)).Nodup ∧ (∀ x, x ∈ ss.map (·.1) ↔ x ∈ us) ∧ Ext w w'
theorem collect47_ok (Bm b : Nat) (us : List (List UInt8)) (hus : us.length ≤ 1000000) (w : World) (hm : w.cell? ⟨Bm, 0, none⟩ = some (.map (some b))) (hown : Mk w b us) :
    Calls Tryd.prog 42 #[.func (.func 44) #[] #[.pointer (some ⟨Bm, 0, none⟩)]] w (RetKs us w) :=
  callsIn_wide.1 ((collect47_in Fence.wide 5 trivial trivial trivial rfl (Nat.le_refl _) Bm b us hus w (World.block_lt_of_cell? w _ hm) hm hown).mono fun e w' => by
    rintro ⟨v, ss, rfl, hr, hnd, hmem, hb⟩
    exact ⟨v, ss, rfl, ⟨Wide.map (f := fun x : Dg => idC x.1) (s := 32) (fun x => idC_len x.1) _, by rw [List.length_map]; exact hr⟩, hnd, hmem, hb⟩)
/-- maps.Keys: the function that gives the digests; the map lies in a box. -/
def RetFn (b : Nat) (w : World) (e : Ending) (w' : World) : Prop := e = .returned (.func (.func 44) #[] #[.pointer (some ⟨w.heap.size, 0, none⟩)]) ∧ w'.cell? ⟨w.heap.size, 0, none⟩ = some (.map (some b)) ∧ Ext w w'
theorem keys24_ok (b : Nat) (w : World) : Calls Tryd.prog 27 #[.map (some b)] w (RetFn b w) := by
  have HR : Hid (RetFn b w (.returned (.func (.func 44) #[] #[.pointer (some ⟨w.heap.size, 0, none⟩)])) (w.alloc (.cells #[.map (some b)] 46))) := Lib.hid ⟨rfl, new_at _ _ _ 0 _ rfl, (Ext.refl _).alloc _⟩
  go_enter Tryd.func27, Tryd.ntmps27
  go_wp2_with fail
  go_ret
  exact HR.out
end Go.Proofs.YtjeclmmikjpinaaDoor
