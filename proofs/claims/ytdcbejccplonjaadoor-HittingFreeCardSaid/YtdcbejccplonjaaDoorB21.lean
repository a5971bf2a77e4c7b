/- The walk over awake. -/
import Derived.Test.YtdcbejccplonjaaDoorB20
import Derived.Test.YtdcbejccplonjaaDoorB16
namespace Go.Proofs.YtdcbejccplonjaaDoor
open Go.RowKit
attribute [local go_sem ↓] Go.wp_at_zero Go.wp_at_succ
theorem ex1 : minRes [[1, 2], [2, 3], [1, 3]] 3 = ([[1, 2], [1, 3], [2, 3]], 0) := by kernel_rfl
theorem ex2 : minRes [[1, 2], [2, 3], [1, 3]] 1 = ([], 0) := by kernel_rfl
theorem ex3 : greRes [[1, 2], [2, 3], [1, 3]] = ([1, 2], 0) := by kernel_rfl
theorem slC {w : World} {cs : Array Value} {k e n : Nat} {us : List Value} (h : k = w.heap.size) (hc : cs.toList = us) (hn : n = us.length) (hl : n ≤ 1000) : SlAt (w.alloc (.cells cs e)) (.slice (some ⟨k, 0, none⟩) n n) us := by
  subst h
  subst hn
  refine ⟨some ⟨w.heap.size, 0, none⟩, us.length, rfl, Nat.le_refl _, by unfold maxLen; omega, fun _ => ⟨_, rfl, by simp, fun j u hj => ?_⟩⟩
  rw [add0]
  refine new_at _ _ _ _ _ ?_
  rw [← Array.getElem?_toList, hc]
  exact hj
theorem two_at {w : World} {k : Nat} {x y : Int} (h : k = w.heap.size) : Is (w.alloc (.cells #[.int .i64 x, .int .i64 y] 3)) (.slice (some ⟨k, 0, none⟩) 2 2) [x, y] := slC h rfl rfl (by omega)
theorem Is.ext' {w w' : World} {v : Value} {zs : List Int} (h : Is w v zs) (k : Ext w w') : Is w' v zs := h.ext k
theorem rsC {w : World} {cs : Array Value} {k n : Nat} {us : List Value} {ls : List (List Int)} (h : k = w.heap.size) (hc : cs.toList = us) (hn : n = us.length) (hl : n ≤ 1000) (hu : Cont w us ls) : Rs (w.alloc (.cells cs 35)) (.slice (some ⟨k, 0, none⟩) n n) ls :=
  ⟨us, slC h hc hn hl, hu.len, fun j hj => (hu.is j hj).ext ((Ext.refl _).alloc _)⟩
theorem cont1 {w : World} {a : Value} {x : List Int} (ha : Is w a x) : Cont w [a] [x] := ⟨rfl, fun j hj => by
  have : j = 0 := by simpa using hj
  subst this
  exact ha⟩
theorem cont2 {w : World} {a b : Value} {x y : List Int} (ha : Is w a x) (hb : Is w b y) : Cont w [a, b] [x, y] := (cont1 ha).app (cont1 hb)
theorem cont3 {w : World} {a b c : Value} {x y z : List Int} (ha : Is w a x) (hb : Is w b y) (hc : Is w c z) : Cont w [a, b, c] [x, y, z] := (cont1 ha).app (cont2 hb hc)
theorem Rs.cut {w : World} {A : Option Addr} {n c k : Nat} {ls : List (List Int)} (h : Rs w (.slice A n c) ls) (hk : k ≤ ls.length) : Rs w (.slice A k c) (ls.take k) := by
  obtain ⟨vs, ⟨A', c', h1, h2, h3, h4⟩, h5, h6⟩ := h.at_
  simp only [Value.slice.injEq] at h1
  obtain ⟨rfl, rfl, rfl⟩ := h1
  have hl : (vs.take k).length = k := by rw [List.length_take]; omega
  refine ⟨vs.take k, ⟨A, c, by rw [hl], by rw [hl]; omega, h3, fun h0 => ?_⟩, by rw [hl, List.length_take]; omega, fun j hj => ?_⟩
  · obtain ⟨ad, e, hb, hc⟩ := h4 (by rw [hl] at h0; omega)
    refine ⟨ad, e, hb, fun j u hj => hc j u ?_⟩
    rw [List.getElem?_take] at hj
    split at hj
    · exact hj
    · cases hj
  · rw [List.length_take] at hj
    have := h6 j (by omega)
    rw [List.getD_eq_getElem?_getD, List.getD_eq_getElem?_getD, List.getElem?_take, List.getElem?_take, if_pos (by omega), if_pos (by omega), ← List.getD_eq_getElem?_getD, ← List.getD_eq_getElem?_getD]
    exact this
theorem rssC {w : World} {cs : Array Value} {k n : Nat} {us : List Value} {fs : List (List (List Int))} (h : k = w.heap.size) (hc : cs.toList = us) (hn : n = us.length) (hl : n ≤ 1000) (hu : us.length = fs.length) (hf : ∀ j, j < fs.length → Rs w (us.getD j (.slice none 0 0)) (fs.getD j [])) : Rss (w.alloc (.cells cs 24)) (.slice (some ⟨k, 0, none⟩) n n) fs :=
  ⟨us, slC h hc hn hl, hu, fun j hj => (hf j hj).ext ((Ext.refl _).alloc _)⟩
theorem rss1 {w : World} {cs : Array Value} {k : Nat} {a : Value} {x : List (List Int)} (h : k = w.heap.size) (hc : cs.toList = [a]) (ha : Rs w a x) : Rss (w.alloc (.cells cs 24)) (.slice (some ⟨k, 0, none⟩) 1 1) [x] := rssC h hc rfl (by omega) rfl fun j hj => by
  have : j = 0 := by simpa using hj
  subst this
  exact ha
theorem rss2 {w : World} {cs : Array Value} {k : Nat} {a b : Value} {x y : List (List Int)} (h : k = w.heap.size) (hc : cs.toList = [a, b]) (ha : Rs w a x) (hb : Rs w b y) : Rss (w.alloc (.cells cs 24)) (.slice (some ⟨k, 0, none⟩) 2 2) [x, y] := rssC h hc rfl (by omega) rfl fun j hj => by
  have : j = 0 ∨ j = 1 := by simp at hj; omega
  rcases this with rfl | rfl
  · exact ha
  · exact hb
set_option maxRecDepth 100000 in
set_option maxHeartbeats 8000000 in
theorem awake_any (w : World) (hT : Tab w) : Calls Tryd.prog 13 #[] w (RetB true w) := by
  have HT := Lib.hid hT
  clear hT
  go_enter Tryd.func13, Tryd.ntmps13
  go_upto_region 2 with fail
  have i1 : Is (w.alloc (.cells #[.int .i64 1, .int .i64 2] 3)) (.slice (some ⟨w.heap.size, 0, none⟩) 2 2) [1, 2] := two_at rfl
  have i2 : Is ((w.alloc (.cells #[.int .i64 1, .int .i64 2] 3)).alloc (.cells #[.int .i64 2, .int .i64 3] 3)) (.slice (some ⟨w.heap.size + 1, 0, none⟩) 2 2) [2, 3] := two_at (by simp)
  have i3 : Is (((w.alloc (.cells #[.int .i64 1, .int .i64 2] 3)).alloc (.cells #[.int .i64 2, .int .i64 3] 3)).alloc (.cells #[.int .i64 1, .int .i64 3] 3)) (.slice (some ⟨w.heap.size + 1 + 1, 0, none⟩) 2 2) [1, 3] := two_at (by simp)
  have R4 := rsC (cs := #[.slice (some ⟨w.heap.size, 0, none⟩) 2 2, .slice (some ⟨w.heap.size + 1, 0, none⟩) 2 2, .slice (some ⟨w.heap.size + 1 + 1, 0, none⟩) 2 2]) (k := w.heap.size + 1 + 1 + 1) (n := 3) (by simp) rfl rfl (by omega) (cont3 ((i1.ext ((Ext.refl _).alloc _)).ext ((Ext.refl _).alloc _)) (i2.ext ((Ext.refl _).alloc _)) i3)
  have X4 : Ext w ((((w.alloc (.cells #[.int .i64 1, .int .i64 2] 3)).alloc (.cells #[.int .i64 2, .int .i64 3] 3)).alloc (.cells #[.int .i64 1, .int .i64 3] 3)).alloc (.cells #[.slice (some ⟨w.heap.size, 0, none⟩) 2 2, .slice (some ⟨w.heap.size + 1, 0, none⟩) 2 2, .slice (some ⟨w.heap.size + 1 + 1, 0, none⟩) 2 2] 35)) := ((((Ext.refl _).alloc _).alloc _).alloc _).alloc _
  generalize hb1 : w.heap.size = b1 at *
  clear i1 i2 i3
  generalize hw4 : (((w.alloc (.cells #[.int .i64 1, .int .i64 2] 3)).alloc (.cells #[.int .i64 2, .int .i64 3] 3)).alloc (.cells #[.int .i64 1, .int .i64 3] 3)).alloc (.cells #[.slice (some ⟨b1, 0, none⟩) 2 2, .slice (some ⟨b1 + 1, 0, none⟩) 2 2, .slice (some ⟨b1 + 1 + 1, 0, none⟩) 2 2] 35) = w4 at *
  clear hw4 hb1
  generalize b1 + 1 + 1 + 1 = b4 at *
  have HX4 := Lib.hid X4
  have HR4 := Lib.hid R4
  have M1 := Lib.hid (minimal_any _ _ 3 w4 R4 (by decide) (by omega) (HT.out.ext X4))
  rw [ex1] at M1
  clear X4 R4
  go_wp2_with fail
  refine M1.out.mono ?_
  rintro e5 w5 ⟨v5, rfl, hr5, hE5⟩
  have HR5 := Lib.hid hr5
  have HE5 := Lib.hid hE5
  have M2 := Lib.hid (minimal_any _ _ 1 w5 (HR4.out.ext hE5) (by decide) (by omega) (HT.out.ext (HX4.out.trans hE5)))
  rw [ex2] at M2
  clear hr5 hE5 M1
  go_wp2_with fail
  refine M2.out.mono ?_
  rintro e6 w6 ⟨v6, rfl, hr6, hE6⟩
  have HR6 := Lib.hid hr6
  have HE6 := Lib.hid hE6
  have M3 := Lib.hid (greedy_any _ _ w6 ((HR4.out.ext HE5.out).ext hE6) (by decide) (HT.out.ext ((HX4.out.trans HE5.out).trans hE6)))
  rw [ex3] at M3
  clear hr6 hE6 M2
  go_wp2_with fail
  refine M3.out.mono ?_
  rintro e7 w7 ⟨v7, rfl, hr7, hE7⟩
  have HR7 := Lib.hid hr7
  have HE7 := Lib.hid hE7
  clear hr7 hE7 M3
  obtain ⟨N, nc, e8, -, -, -⟩ := HR6.out.read
  subst e8
  have j1 : Is (w7.alloc (.cells #[.int .i64 1, .int .i64 3] 3)) (.slice (some ⟨w7.heap.size, 0, none⟩) 2 2) [1, 3] := two_at rfl
  have j2 : Is ((w7.alloc (.cells #[.int .i64 1, .int .i64 3] 3)).alloc (.cells #[.int .i64 2, .int .i64 3] 3)) (.slice (some ⟨w7.heap.size + 1, 0, none⟩) 2 2) [2, 3] := two_at (by simp)
  have j3 := rsC (cs := #[.slice (some ⟨w7.heap.size, 0, none⟩) 2 2, .slice (some ⟨w7.heap.size + 1, 0, none⟩) 2 2]) (k := w7.heap.size + 1 + 1) (n := 2) (by simp) rfl rfl (by omega) (cont2 (j1.ext ((Ext.refl _).alloc _)) j2)
  have j0 : Rs w7 (.slice (some ⟨b4, 0, none⟩) 1 3) [[1, 2]] := (HR4.out.cut (k := 1) (by decide)).ext ((HE5.out.trans HE6.out).trans HE7.out)
  have j4 := rss2 (cs := #[.slice (some ⟨b4, 0, none⟩) 1 3, .slice (some ⟨w7.heap.size + 1 + 1, 0, none⟩) 2 2]) (k := w7.heap.size + 1 + 1 + 1) (by simp) rfl (((j0.ext ((Ext.refl _).alloc _)).ext ((Ext.refl _).alloc _)).ext ((Ext.refl _).alloc _)) j3
  have SM := Lib.hid (same_any _ _ _ _ _ ((((HR5.out.ext (HE6.out.trans HE7.out)).ext ((Ext.refl _).alloc _)).ext ((Ext.refl _).alloc _)).ext (((Ext.refl _).alloc _).alloc _)) j4 (by decide) (by decide))
  clear j0 j1 j2 j3 j4
  go_wp2_with fail
  refine SM.out.mono ?_
  rintro e8 w8 ⟨rfl, hE8⟩
  have HE8 : Hid (Ext w7 w8) := Lib.hid (((((Ext.refl w7).alloc _).alloc _).alloc _).alloc _ |>.trans hE8)
  clear hE8 SM
  rw [show decide (([[1, 2], [1, 3], [2, 3]] : List (List Int)) = ([[[1, 2]], [[1, 3], [2, 3]]] : List (List (List Int))).flatten) = true by decide]
  go_wp2_with fail
  refine (equal_any _ _ _ _ _ (HR7.out.ext (HE8.out.trans ((Ext.refl _).alloc _))) (two_at (x := 1) (y := 2) rfl)).mono ?_
  rintro e9 w9 ⟨rfl, hE9⟩
  have HE9 : Hid (Ext w8 w9) := Lib.hid (((Ext.refl w8).alloc _).trans hE9)
  clear hE9
  rw [show decide (([1, 2] : List Int) = [1, 2]) = true by decide]
  go_wp2_with fail
  go_ret
  exact ⟨rfl, ((((HX4.out.trans HE5.out).trans HE6.out).trans HE7.out).trans HE8.out).trans HE9.out⟩
end Go.Proofs.YtdcbejccplonjaaDoor
