/- The digests of leaves and pairs. -/
import Derived.Test.YtjedhndhdkiidaaDoorR6
namespace Go.Proofs.YtjedhndhdkiidaaDoor
open Go.RowKit
attribute [local go_sem ↓] Go.wp_at_zero Go.wp_at_succ
attribute [local go_sem ↓] ld75 ld48 ld73 st75 st48 al75 al48 bu75 bu48
attribute [local go_sem] run_al75 run_al48 run_bu48 run_bu75n run_bu75c run_bu75o run_st75n run_st48n
theorem Tab.lt {w : World} (h : Tab w) : 0 < w.heap.size := World.block_lt_of_cell? w _ (h 0 (by decide))
def leafF (xs : List UInt8) : List UInt8 := sumF (wrF (wrF hs0 [0]) xs)
def pairF (a b : List UInt8) : List UInt8 := sumF (wrF (wrF (wrF hs0 [1]) a) b)
theorem leafF_len (xs : List UInt8) : (leafF xs).length = 32 := by unfold leafF sumF; exact digF_len _
theorem pairF_len (a b : List UInt8) : (pairF a b).length = 32 := by unfold pairF sumF; exact digF_len _
/-- The one byte that is written first. -/
theorem byte_new (w : World) (n : Nat) (h : n < 256) : BytesAt (w.alloc (.cells #[.int .u8 (n : Int)] 5)) (some ⟨w.heap.size, 0, none⟩) [UInt8.ofNat n] := by
  refine bytes_of_cells (n := 1) rfl fun i hi => ?_
  obtain rfl : i = 0 := by omega
  have e : (UInt8.ofNat n).toNat = n := by simp; omega
  rw [new_at _ _ _ 0 (.int .u8 (n : Int)) rfl]
  unfold idF
  show _ = some (vU8 (((UInt8.ofNat n).toNat : Nat) : Int))
  rw [e]
theorem byte_new0 (w : World) : BytesAt (w.alloc (.cells #[.int .u8 0] 5)) (some ⟨w.heap.size, 0, none⟩) [0] := byte_new w 0 (by decide)
theorem byte_new1 (w : World) : BytesAt (w.alloc (.cells #[.int .u8 1] 5)) (some ⟨w.heap.size, 0, none⟩) [1] := byte_new w 1 (by decide)
set_option maxRecDepth 100000 in
theorem leaf38_ok (xs : List UInt8) (v : Value) (w : World) (h : SlB w v xs) (hT : Tab w) : Calls Tryd.prog 38 #[v] w (RetId (leafF xs) w) := by
  obtain ⟨A, c, rfl, h1, h2, hb⟩ := h
  have HT := Lib.hid hT
  have HB := Lib.hid hb
  have HC := Lib.hid (And.intro h1 h2)
  have h0w := hT.lt
  clear hT hb h1 h2
  go_enter Tryd.func38, Tryd.ntmps38
  go_upto_region 1 with fail
  generalize hwB : w.alloc (.cells (idA []) 48) = wB
  have HR0 : Hid (Bk wB w.heap.size 32 (idF [])) := Lib.hid (by rw [← hwB]; exact Bk.new (by decide))
  have HE0 : Hid (Ext w wB) := Lib.hid (by rw [← hwB]; exact (Ext.refl _).alloc _)
  have hz0 : w.heap.size < wB.heap.size := by rw [← hwB]; simp
  clear hwB
  go_wp2_with fail
  refine (new63_ok wB).mono ?_
  rintro _ w1 ⟨rfl, hh1, hE1⟩
  have HH1 := Lib.hid hh1
  have HE1 := Lib.hid hE1
  have hz1 : wB.heap.size < w1.heap.size := hh1.1.lt
  clear hh1 hE1
  go_wp2_with fail
  refine (write64_ok wB.heap.size hs0 [0] (some ⟨w1.heap.size, 0, none⟩) 1 _ (HH1.out.ext ((Ext.refl _).alloc _)) (HT.out.ext (HE0.out.trans (HE1.out.alloc _))) (by omega) (byte_new0 w1) (fun _ ad e => by cases e; exact Nat.ne_of_gt hz1) (by decide) (by unfold maxLen; omega)).mono ?_
  rintro _ w2 ⟨rfl, hh2, hX2⟩
  have HH2 := Lib.hid hh2
  have HE2 : Hid (Ext wB w2) := Lib.hid (hX2.ext (HE1.out.alloc _) (Nat.le_refl _))
  clear hh2 hX2 HH1
  go_wp2_with fail
  refine (write64_ok wB.heap.size _ xs A c w2 HH2.out (HT.out.ext (HE0.out.trans HE2.out)) (by omega) (HB.out.ext (HE0.out.trans HE2.out)) (fun h0 ad e => by
    subst e
    obtain ⟨ad', e, hlt, -⟩ := HB.out h0
    cases e
    omega) HC.out.1 HC.out.2).mono ?_
  rintro _ w3 ⟨rfl, hh3, hX3⟩
  have HH3 := Lib.hid hh3
  have HE3 : Hid (Ext wB w3) := Lib.hid (hX3.ext HE2.out (Nat.le_refl _))
  clear hh3 hX3 HH2
  go_wp2_with fail
  refine (sum65_ok wB.heap.size _ w3 HH3.out (HT.out.ext (HE0.out.trans HE3.out))).mono ?_
  rintro _ w4 ⟨rfl, hE4⟩
  have HE4 := Lib.hid (HE3.out.trans hE4)
  have HRR := Lib.hid (HR0.out.ext (HE3.out.trans hE4))
  clear hE4
  have l2 := run_st48 HRR.out (leafF xs)
  rw [show sumF (wrF (wrF hs0 [0]) xs) = leafF xs from rfl]
  go_wp2_with fail
  exact bodyPost_ret (resBk Tryd.results38 (g := w.heap.size) rfl HRR.out.putAll Tryd.underlying48 rfl Tryd.size48) rfl ⟨rfl, Ext.setCells (Nat.le_refl _) _ _ (HE0.out.trans HE4.out)⟩
theorem Bk.bytes {w : World} {g : Nat} {d : List UInt8} (h : Bk w g 32 (idF d)) (hd : d.length = 32) : BytesAt w (some ⟨g, 0, none⟩) d := bytes_of_cells hd fun i hi => by rw [Nat.zero_add]; exact h.cell hi
theorem run_sl48 (w : World) (g : Nat) : (Instr.sliceAt 48 (.pointer (some ⟨g, 0, none⟩)) none none none).run Tryd.prog w = .ok (.slice (some ⟨g, 0, none⟩) 32 32) w := by
  have e1 : Tryd.prog.arrayLen 48 = 32 := by kernel_rfl
  have e2 : Tryd.prog.elem 48 = 5 := by kernel_rfl
  have hs : (sizeOf 5).run Tryd.prog w = .ok 1 w := by kernel_rfl
  rw [run_sliceAt_array_all w 48 ⟨g, 0, none⟩ (by rw [e1, e2]; exact Tryd.underlying48), e1, e2, hs]
  simp [Result.andThen, slicedAt, Addr.add]
attribute [local go_sem] run_sl48
set_option maxRecDepth 100000 in
set_option maxHeartbeats 1000000 in
theorem pair40_ok (a b : List UInt8) (ha : a.length = 32) (hb : b.length = 32) (w : World) (hT : Tab w) : Calls Tryd.prog 40 #[idV a, idV b] w (RetId (pairF a b) w) := by
  have HT := Lib.hid hT
  have h0w := hT.lt
  have HA := Lib.hid ha
  have HB := Lib.hid hb
  clear hT ha hb
  show Calls Tryd.prog 40 #[.agg (idA a), .agg (idA b)] w _
  go_enter Tryd.func40, Tryd.ntmps40
  go_upto_region 1 with fail
  generalize hw1 : w.alloc (.cells (idA a) 48) = w1
  have HB1 : Hid (Bk w1 w.heap.size 32 (idF a)) := Lib.hid (by rw [← hw1]; exact Bk.new (by decide))
  have HE1 : Hid (Ext w w1) := Lib.hid (by rw [← hw1]; exact (Ext.refl _).alloc _)
  have s1 : w1.heap.size = w.heap.size + 1 := by rw [← hw1]; simp
  clear hw1
  generalize hw2 : w1.alloc (.cells (idA b) 48) = w2
  have HB2 : Hid (Bk w2 w1.heap.size 32 (idF b)) := Lib.hid (by rw [← hw2]; exact Bk.new (by decide))
  have HE2 : Hid (Ext w1 w2) := Lib.hid (by rw [← hw2]; exact (Ext.refl _).alloc _)
  have s2 : w2.heap.size = w.heap.size + 1 + 1 := by rw [← hw2, ← s1]; simp
  rw [s1] at HB2
  clear hw2
  generalize hwB : w2.alloc (.cells (idA []) 48) = wB
  have HR0 : Hid (Bk wB (w.heap.size + 1 + 1) 32 (idF [])) := Lib.hid (by rw [← hwB, ← s2]; exact Bk.new (by decide))
  have HE0 : Hid (Ext w2 wB) := Lib.hid (by rw [← hwB]; exact (Ext.refl _).alloc _)
  have hz0 : w.heap.size + 1 + 1 < wB.heap.size := by rw [← hwB, ← s2]; simp
  clear hwB s1 s2
  have HEW : Hid (Ext w wB) := Lib.hid (HE1.out.trans (HE2.out.trans HE0.out))
  have HBA : Hid (BytesAt wB (some ⟨w.heap.size, 0, none⟩) a) := Lib.hid ((HB1.out.ext (HE2.out.trans HE0.out)).bytes HA.out)
  have HBB : Hid (BytesAt wB (some ⟨w.heap.size + 1, 0, none⟩) b) := Lib.hid ((HB2.out.ext HE0.out).bytes HB.out)
  clear HB1 HB2 HE1 HE2 HE0
  go_wp2_with fail
  refine (new63_ok wB).mono ?_
  rintro _ w1 ⟨rfl, hh1, hE1⟩
  have HH1 := Lib.hid hh1
  have HE1 := Lib.hid hE1
  have hz1 : wB.heap.size < w1.heap.size := hh1.1.lt
  clear hh1 hE1
  go_wp2_with fail
  refine (write64_ok wB.heap.size hs0 [1] (some ⟨w1.heap.size, 0, none⟩) 1 _ (HH1.out.ext ((Ext.refl _).alloc _)) (HT.out.ext (HEW.out.trans (HE1.out.alloc _))) (by omega) (byte_new1 w1) (fun _ ad e => by cases e; exact Nat.ne_of_gt hz1) (by decide) (by unfold maxLen; omega)).mono ?_
  rintro _ w2 ⟨rfl, hh2, hX2⟩
  have HH2 := Lib.hid hh2
  have HE2 : Hid (Ext wB w2) := Lib.hid (hX2.ext (HE1.out.alloc _) (Nat.le_refl _))
  clear hh2 hX2 HH1
  go_wp2_with fail
  have CA := write64_ok wB.heap.size _ a (some ⟨w.heap.size, 0, none⟩) 32 w2 HH2.out (HT.out.ext (HEW.out.trans HE2.out)) (by omega) (HBA.out.ext HE2.out) (fun _ ad e => by cases e; show w.heap.size ≠ wB.heap.size; omega) (by rw [HA.out]; decide) (by unfold maxLen; omega)
  rw [HA.out] at CA
  refine CA.mono ?_
  rintro _ w3 ⟨rfl, hh3, hX3⟩
  have HH3 := Lib.hid hh3
  have HE3 : Hid (Ext wB w3) := Lib.hid (hX3.ext HE2.out (Nat.le_refl _))
  clear hh3 hX3 HH2 CA
  go_wp2_with fail
  have CB := write64_ok wB.heap.size _ b (some ⟨w.heap.size + 1, 0, none⟩) 32 w3 HH3.out (HT.out.ext (HEW.out.trans HE3.out)) (by omega) (HBB.out.ext HE3.out) (fun _ ad e => by cases e; show w.heap.size + 1 ≠ wB.heap.size; omega) (by rw [HB.out]; decide) (by unfold maxLen; omega)
  rw [HB.out] at CB
  refine CB.mono ?_
  rintro _ w4 ⟨rfl, hh4, hX4⟩
  have HH4 := Lib.hid hh4
  have HE4 : Hid (Ext wB w4) := Lib.hid (hX4.ext HE3.out (Nat.le_refl _))
  clear hh4 hX4 HH3 CB
  go_wp2_with fail
  refine (sum65_ok wB.heap.size _ w4 HH4.out (HT.out.ext (HEW.out.trans HE4.out))).mono ?_
  rintro _ w5 ⟨rfl, hE5⟩
  have HE5 := Lib.hid (HE4.out.trans hE5)
  have HRR := Lib.hid (HR0.out.ext (HE4.out.trans hE5))
  clear hE5
  have l2 := run_st48 HRR.out (pairF a b)
  rw [show sumF (wrF (wrF (wrF hs0 [1]) a) b) = pairF a b from rfl]
  go_wp2_with fail
  exact bodyPost_ret (resBk Tryd.results40 (g := w.heap.size + 1 + 1) rfl HRR.out.putAll Tryd.underlying48 rfl Tryd.size48) rfl ⟨rfl, Ext.setCells (by omega) _ _ (HEW.out.trans HE5.out)⟩
end Go.Proofs.YtjedhndhdkiidaaDoor
