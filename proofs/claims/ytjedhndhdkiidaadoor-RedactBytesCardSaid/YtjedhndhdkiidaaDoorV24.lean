/- shows. -/
import Derived.Test.YtjedhndhdkiidaaDoorV23
namespace Go.Proofs.YtjedhndhdkiidaaDoor
open Go.RowKit
attribute [local go_sem ↓] Go.wp_at_zero Go.wp_at_succ
attribute [local go_sem] baSize baList
attribute [local go_sem ↓] ld75 ld48 ld73 st75 st48 al75 al48 bu75 bu48 eq48 ne48
attribute [local go_sem] run_al75 run_al48 run_bu48 run_bu75n run_bu75c run_bu75o run_st75n run_st48n run_eqD run_neD
/-- No name of a field. -/
def noName : List UInt8 := [110, 111, 32, 115, 117, 99, 104, 32, 102, 105, 101, 108, 100]
set_option maxRecDepth 100000 in
set_option maxHeartbeats 1000000 in
theorem shows14_ok (fs : List Fd) (v t u : Value) (ss : List (List UInt8)) (w : World) (hd : DocOk fs) (hno : noName ∉ fs.map (·.nm)) (hv : DsAt w v ((docF fs).map (keepF ss))) (ht : FsAt w t fs) (hu : SsAt w u ss) (hT : Tab w) : Calls Tryd.prog 14 #[dsV v, t, u] w (RetB true w) := by
  have hzz : ∀ f ∈ fs, f.nm.length ≤ 1000 ∧ f.vl.length ≤ 100000 ∧ f.sl.length ≤ 1000 := fun f hf => by
    have := hd.each f hf
    have h2 := okN_len this.1
    exact ⟨by omega, by omega, by omega⟩
  have hle := hd.le
  have hpos := hd.pos
  obtain ⟨xs, hxs⟩ : ∃ xs, (docF fs).map (keepF ss) = xs := ⟨_, rfl⟩
  have hasc : Asc xs := by rw [← hxs]; exact keep_asc (docF_asc hd.names) ss
  have hok : ∀ x ∈ xs, ItOk x := fun x hx => by
    rw [← hxs] at hx
    obtain ⟨y, hy, rfl⟩ := List.mem_map.1 hx
    exact keepF_ok (docF_ok hd y hy)
  have hnm : ∀ x ∈ xs, x.nm.length ≤ 1000 := fun x hx => by
    rw [← hxs] at hx
    obtain ⟨y, hy, rfl⟩ := List.mem_map.1 hx
    rw [keepF_nm]
    exact docF_nm hd y hy
  have hxl : xs.length = fs.length := by rw [← hxs, List.length_map, docF_len]
  have hnames : xs.map (·.nm) = (srtF fs).map (·.nm) := by
    rw [← hxs, ← srtF_doc hd.names, List.map_map, List.map_map]
    exact List.map_congr_left fun f _ => keepF_nm ss (itOf f)
  have hroot : rootF xs = topF (((srtF fs).map itOf).map nodF) := by rw [← hxs, rootF_keep, srtF_doc hd.names]; rfl
  have hop : ∀ f ∈ fs, openF xs f.nm = if f.nm ∈ ss then (f, 0) else (Fd0, 15) := fun f hf => by rw [← hxs]; exact open_keep hd ss hf
  have hopn : openF xs noName = (Fd0, 4) := open_none (by
    rw [hnames]
    intro h
    exact hno (((srtF_perm fs).map _).mem_iff.1 h))
  rw [hxs] at hv
  clear hxs hno hd
  have C22 := Lib.hid (fun W (hW : Ext w W) => sorted22_ok fs t W (ht.ext hW) (by omega))
  have C15 := Lib.hid (fun W (hW : Ext w W) => names15_ok xs v W (hv.ext hW) (by omega))
  obtain ⟨ys, hys⟩ : ∃ ys, srtF fs = ys := ⟨_, rfl⟩
  have hyl : ys.length = fs.length := by rw [← hys, srtF_len]
  have hym : ∀ f ∈ ys, f ∈ fs := fun f hf => by rw [← hys] at hf; exact (srtF_perm fs).mem_iff.1 hf
  obtain ⟨D, hD⟩ : ∃ D, topF (((srtF fs).map itOf).map nodF) = D := ⟨_, rfl⟩
  have C20 : Hid (∀ W, Ext w W → Calls Tryd.prog 20 #[t] W (fun e w' => ∃ va, e = .returned (.tuple #[idV D, va]) ∧ Ext W w')) := Lib.hid (fun W (hW : Ext w W) => (root20_ok fs t W (ht.ext hW) (by omega) hpos hzz (hT.ext hW)).mono (by
    rintro e w' ⟨va, rfl, -, h3⟩
    rw [hD]
    exact ⟨va, rfl, h3⟩))
  rw [hD] at hroot
  rw [hys] at hnames C22
  have C33 := Lib.hid (fun W (hW : Ext w W) => root33_ok xs v W (hv.ext hW) hok hnm (by omega) (hT.ext hW))
  have C34 := Lib.hid (fun W (hW : Ext w W) s => open34_ok xs v s W (hv.ext hW) hasc hok (by omega))
  have C23 := Lib.hid (fun W (hW : Ext w W) s => has23_ok s ss u W (hu.ext hW))
  have HNM := Lib.hid hnames
  rw [hroot] at C33
  have HYM := Lib.hid hym
  have HOP := Lib.hid hop
  have HOPN := Lib.hid hopn
  obtain ⟨A, c, rfl, -, -, -⟩ := hv.read
  obtain ⟨At, ct, rfl, -, -, -⟩ := ht.read
  obtain ⟨Au, cu, rfl, -, -, -⟩ := hu.read
  rw [hxl]
  rw [hxl] at C15 C33 C34
  clear hv ht hu hT hzz hasc hok hnm hnames hroot hop hopn hD hys hym
  go_enter Tryd.func14, Tryd.ntmps14
  go_upto_region 1 with fail
  generalize hwB : World.alloc _ _ = wB
  have HB0 : Hid (Bk wB w.heap.size 1 (fun _ => .slice A fs.length c)) := Lib.hid (by rw [← hwB]; exact Bk.new1 _ _ _)
  have HE0 : Hid (Ext w wB) := Lib.hid (by rw [← hwB]; exact (Ext.refl _).alloc _)
  clear hwB
  go_wp2_with fail
  refine (C22.out wB HE0.out).mono ?_
  rintro _ w1 ⟨v7, rfl, hfs, hE1⟩
  have HFS := Lib.hid hfs
  have HE1 := Lib.hid (HE0.out.trans hE1)
  have HB1 := Lib.hid (HB0.out.ext hE1)
  obtain ⟨A7, c7, e7, -, -, h7⟩ := hfs.read
  rw [hyl] at e7 h7
  subst e7
  have HR7 := Lib.hid h7
  clear hfs hE1 h7
  have t1 := HB1.out.cell (k := 0) (by decide)
  go_wp2_with fail
  refine (C15.out w1 HE1.out).mono ?_
  rintro _ w2 ⟨v8, rfl, hss, hE2⟩
  have HSS := Lib.hid hss
  have HE2 := Lib.hid (HE1.out.trans hE2)
  have HB2 := Lib.hid (HB1.out.ext hE2)
  have HE12 := Lib.hid hE2
  obtain ⟨A8, c8, e8, -, -, h8⟩ := SsAt.read hss
  rw [List.length_map, hxl] at e8
  subst e8
  rw [List.length_map, hxl] at h8
  have HR8 := Lib.hid h8
  clear hss hE2 h8 t1
  go_upto_region 4 with (go_at_call 20; refine (C20.out w2 HE2.out).mono ?_; rintro _ w3 ⟨va, rfl, hE3⟩; have HE23 := Lib.hid hE3; clear hE3)
  generalize hw4 : w3.alloc (.cells (idA D) 48) = w4
  have HB9 : Hid (Bk w4 w3.heap.size 32 (idF D)) := Lib.hid (by rw [← hw4]; exact Bk.new (by decide))
  have HE4 : Hid (Ext w2 w4) := Lib.hid (by rw [← hw4]; exact HE23.out.alloc _)
  have HB4 : Hid (Bk w4 w.heap.size 1 (fun _ => .slice A fs.length c)) := Lib.hid (HB2.out.ext HE4.out)
  have HE04 : Hid (Ext w w4) := Lib.hid (HE2.out.trans HE4.out)
  clear hw4
  have KB : Hid (∀ W, Ext w4 W → (fun w' => Ext w4 w' ∧ w'.cell? ⟨w.heap.size, 0, none⟩ = some (.slice A fs.length c) ∧ (ldS 48 (.pointer (some ⟨w3.heap.size, 0, none⟩))).run Tryd.prog w' = .ok (idV D) w') W) := Lib.hid (fun W h => ⟨h, (HB4.out.ext h).cell (k := 0) (by decide), (HB9.out.ext h).run_ld48⟩)
  refine wp_region_noPanic ?_
  refine wp_region_held_drew (S := (fun w' => Ext w4 w' ∧ w'.cell? ⟨w.heap.size, 0, none⟩ = some (.slice A fs.length c) ∧ (ldS 48 (.pointer (some ⟨w3.heap.size, 0, none⟩))).run Tryd.prog w' = .ok (idV D) w')) (by kernel_rfl) ?_ (fun hHeld => ?_)
  · first | assumption | exact KB.out _ (by repeat (first | assumption | exact Ext.refl _ | apply Ext.alloc | apply Ext.drew | apply Ext.drewN))
  refine wpAnyH_take (i := 0) (v := ?_) (oper_at rfl) (by kernel_rfl) (by kernel_rfl) (by kernel_rfl) (fun _ _ _ h => h) (Or.inl ⟨by rfl, ?_⟩) hHeld ?_
  rotate_left
  · (intro ww hSw; (try dsimp only at hSw); go_simp; try (with_reducible rfl))
  try simp only [Act.put, List.setIfInBounds_toArray, List.set_cons_zero, List.set_cons_succ]
  refine wpAnyH_take (i := 1) (v := ?_) (oper_at rfl) (by kernel_rfl) (by kernel_rfl) (by kernel_rfl) (fun _ _ _ h => h) (Or.inl ⟨by rfl, ?_⟩) hHeld ?_
  rotate_left
  · (intro ww hSw; (try dsimp only at hSw); go_simp; try (with_reducible rfl))
  try simp only [Act.put, List.setIfInBounds_toArray, List.set_cons_zero, List.set_cons_succ]
  refine wpAnyH_take (i := 2) (v := ?_) (oper_at rfl) (by kernel_rfl) (by kernel_rfl) (by kernel_rfl) (fun _ _ _ h => h) (Or.inl ⟨by rfl, ?_⟩) hHeld ?_
  rotate_left
  · (intro ww hSw; (try dsimp only at hSw); go_simp; try (with_reducible rfl))
  try simp only [Act.put, List.setIfInBounds_toArray, List.set_cons_zero, List.set_cons_succ]
  refine wpAnyH_take (i := 3) (v := ?_) (oper_at rfl) (by kernel_rfl) (by kernel_rfl) (by kernel_rfl) (fun _ _ _ h => h) (Or.inl ⟨by rfl, ?_⟩) hHeld ?_
  rotate_left
  · (intro ww hSw; (try dsimp only at hSw); go_simp; try (with_reducible rfl))
  try simp only [Act.put, List.setIfInBounds_toArray, List.set_cons_zero, List.set_cons_succ]
  refine wpAnyH_take (i := 4) (v := ?_) (oper_at rfl) (by kernel_rfl) (by kernel_rfl) (by kernel_rfl) (fun _ _ _ h => h) (Or.inl ⟨by rfl, ?_⟩) hHeld ?_
  rotate_left
  · (intro ww hSw; (try dsimp only at hSw); go_simp; try (with_reducible rfl))
  try simp only [Act.put, List.setIfInBounds_toArray, List.set_cons_zero, List.set_cons_succ]
  refine wpAnyH_take (i := 5) (v := ?_) (oper_at rfl) (by kernel_rfl) (by kernel_rfl) (by kernel_rfl) (fun _ _ _ h => h) (Or.inl ⟨by rfl, ?_⟩) hHeld ?_
  rotate_left
  · (intro ww hSw; (try dsimp only at hSw); go_simp; try (with_reducible rfl))
  try simp only [Act.put, List.setIfInBounds_toArray, List.set_cons_zero, List.set_cons_succ]
  refine wpAnyH_take (i := 6) (v := ?_) (oper_at rfl) (by kernel_rfl) (by kernel_rfl) (by kernel_rfl) (fun _ _ _ h => h) (Or.inl ⟨by rfl, ?_⟩) hHeld ?_
  rotate_left
  · (intro ww hSw; (try dsimp only at hSw); go_simp; try (with_reducible rfl))
  try simp only [Act.put, List.setIfInBounds_toArray, List.set_cons_zero, List.set_cons_succ]
  refine wpAnyH_take (i := 8) (v := ?_) (oper_at rfl) (by kernel_rfl) (by kernel_rfl) (by kernel_rfl) (fun _ _ _ h => h) (Or.inl ⟨by rfl, ?_⟩) hHeld ?_
  rotate_left
  · (intro ww hSw; (try dsimp only at hSw); go_simp; try (with_reducible rfl))
  try simp only [Act.put, List.setIfInBounds_toArray, List.set_cons_zero, List.set_cons_succ]
  refine wpAnyH_ready (rs := [7]) (by kernel_rfl) (by simp) (AllReadyH.cons (oper_at rfl) (fun K hK => ?_) AllReadyH.nil)
  go_simp
  go_at_call 33
  refine (C33.out _ (HE04.out.trans (by repeat (first | assumption | exact Ext.refl _ | apply Ext.alloc | apply Ext.drew | apply Ext.drewN)))).mono ?_
  rintro _ w5 ⟨rfl, hE5⟩
  have hX5 : Ext w4 w5 := Ext.trans (by repeat (first | assumption | exact Ext.refl _ | apply Ext.alloc | apply Ext.drew | apply Ext.drewN)) hE5
  clear hE5
  refine hK.out _ _ ?_ (fun hHeld => ?_)
  · first | assumption | exact KB.out _ (by repeat (first | assumption | exact Ext.refl _ | apply Ext.alloc | apply Ext.drew | apply Ext.drewN))
  clear hK K
  try simp only [Act.put, List.setIfInBounds_toArray, List.set_cons_zero, List.set_cons_succ]
  refine wpAnyH_take (i := 9) (v := ?_) (oper_at rfl) (by kernel_rfl) (by kernel_rfl) (by kernel_rfl) (fun _ _ _ h => h) (Or.inl ⟨by rfl, ?_⟩) hHeld ?_
  rotate_left
  · (intro ww hSw; (try dsimp only at hSw); go_simp; try (with_reducible rfl))
  try simp only [Act.put, List.setIfInBounds_toArray, List.set_cons_zero, List.set_cons_succ]
  refine wpAnyH_take (i := 10) (v := ?_) (oper_at rfl) (by kernel_rfl) (by kernel_rfl) (by kernel_rfl) (fun _ _ _ h => h) (Or.inl ⟨by rfl, ?_⟩) hHeld ?_
  rotate_left
  · (intro ww hSw; (try dsimp only at hSw); go_simp; try (with_reducible rfl))
  try simp only [Act.put, List.setIfInBounds_toArray, List.set_cons_zero, List.set_cons_succ]
  refine wpAnyH_done (by kernel_rfl) ?_ _
  refine NoPanic.normal ?_
  rw [eqV_self, Bool.not_true]
  have HX5 := Lib.hid hX5
  clear hX5 KB
  go_wp2_with fail
  go_loopw [39] (fun i wr => ∃ k : Nat, k ≤ fs.length ∧ i = iV (k : Int) ∧ Ext w4 wr) (fun i _ => fs.length - (intOf i).toNat)
  case atStart => exact ⟨0, by omega, rfl, HX5.out⟩
  case round =>
    obtain ⟨k, hk, rfl, hX⟩ := hrel
    have HX := Lib.hid hX
    have HE := Lib.hid (HE04.out.trans hX)
    have HEA := Lib.hid (HE4.out.trans hX)
    clear hX
    have HBW := Lib.hid (HB4.out.ext HX.out)
    have t0 := HBW.out.cell (k := 0) (by decide)
    by_cases hlt : k < fs.length
    · have q1 : (k : Int) < (fs.length : Int) := by omega
      have q0 : (0 : Int) ≤ (k : Int) := by omega
      obtain ⟨bb, o, A1, c1, A2, c2, rfl, hbb, c0, c1', c2', l1, m1, b1, l2, m2, b2⟩ := HR7.out wr (HE12.out.trans HEA.out) k hlt
      obtain ⟨f, hf⟩ : ∃ f, ys.getD k Fd0 = f := ⟨_, rfl⟩
      rw [hf] at c0 c1' c2' l1 b1 l2 b2
      have hfy : f ∈ ys := by rw [← hf]; exact mem_getD (by omega)
      have HOF := Lib.hid (HOP.out f (HYM.out f hfy))
      have HS1 : Hid (SlB wr (.slice A1 f.vl.length c1) f.vl) := Lib.hid ⟨A1, c1, rfl, l1, m1, b1⟩
      have HS2 : Hid (SlB wr (.slice A2 f.sl.length c2) f.sl) := Lib.hid ⟨A2, c2, rfl, l2, m2, b2⟩
      obtain ⟨b8, o8, rfl, hb8, n8⟩ := HR8.out wr HEA.out k hlt
      have hnk : (xs.map (·.nm)).getD k [] = f.nm := by
        rw [HNM.out, ← hf, List.getD_eq_getElem?_getD, List.getElem?_map, List.getD_eq_getElem?_getD, List.getElem?_eq_getElem (by omega)]
        rfl
      rw [hnk] at n8
      clear l1 m1 b1 l2 m2 b2 hf hfy hnk
      go_upto_region 9 with fail
      generalize hw6 : World.alloc _ _ = w6
      have p0 : w6.cell? ⟨wr.heap.size, 0, none⟩ = some (sV f.nm) := by rw [← hw6]; exact new_at _ _ _ 0 _ rfl
      have p1 : w6.cell? ⟨wr.heap.size, 1, none⟩ = some (.slice A1 f.vl.length c1) := by rw [← hw6]; exact new_at _ _ _ 1 _ rfl
      have p2 : w6.cell? ⟨wr.heap.size, 2, none⟩ = some (.slice A2 f.sl.length c2) := by rw [← hw6]; exact new_at _ _ _ 2 _ rfl
      have HE6 : Hid (Ext wr w6) := Lib.hid (by rw [← hw6]; exact (Ext.refl _).alloc _)
      have P := Lib.hid (And.intro p0 (And.intro p1 p2))
      have N8 := Lib.hid (HE6.out.cell n8)
      have t6 := HE6.out.cell t0
      clear hw6 c0 c1' c2' n8 t0 p1 p2
      by_cases hm : f.nm ∈ ss
      · rw [if_pos hm] at HOF
        have HMD : Hid (decide (f.nm ∈ ss) = true) := Lib.hid (by simp [hm])
        clear hm
        go_upto_region 10 with (go_at_call 34; refine (C34.out _ (HE.out.trans HE6.out) f.nm).mono ?_; rintro _ w7 ⟨va1, va2, rfl, hs1, hs2, hE7⟩; rw [HOF.out] at hs1 hs2; rw [HOF.out]; have HQ1 := Lib.hid hs1; have HQ2 := Lib.hid hs2; have HE7 := Lib.hid hE7; obtain ⟨B1, d1, rfl, -, -, -⟩ := hs1; obtain ⟨B2, d2, rfl, -, -, -⟩ := hs2; clear hE7 p0 t6)
        generalize hw8 : World.alloc _ _ = w8
        have r0 : w8.cell? ⟨w7.heap.size, 0, none⟩ = some (sV f.nm) := by rw [← hw8]; exact new_at _ _ _ 0 _ rfl
        have r1 : w8.cell? ⟨w7.heap.size, 1, none⟩ = some (.slice B1 f.vl.length d1) := by rw [← hw8]; exact new_at _ _ _ 1 _ rfl
        have r2 : w8.cell? ⟨w7.heap.size, 2, none⟩ = some (.slice B2 f.sl.length d2) := by rw [← hw8]; exact new_at _ _ _ 2 _ rfl
        have HE78 : Hid (Ext w7 w8) := Lib.hid (by rw [← hw8]; exact (Ext.refl _).alloc _)
        have HE68 := Lib.hid (HE7.out.trans HE78.out)
        clear hw8
        have p0 := HE68.out.cell P.out.1
        have p1 := HE68.out.cell P.out.2.1
        have p2 := HE68.out.cell P.out.2.2
        have n8 := HE68.out.cell N8.out
        have HEW := Lib.hid (HE.out.trans (HE6.out.trans HE68.out))
        go_quiet (fail)
        go_wp2_with (first
          | (go_at_call 23; refine (C23.out _ (HEW.out.trans (by repeat (first | assumption | exact Ext.refl _ | apply Ext.alloc | apply Ext.drew | apply Ext.drewN))) f.nm).mono ?_; rintro _ w9 ⟨rfl, rfl⟩; rw [HMD.out])
          | (go_at_call 24; refine (same24_ok f _ _ _ _ _ (HQ1.out.ext (HE78.out.trans (by repeat (first | assumption | exact Ext.refl _ | apply Ext.alloc | apply Ext.drew | apply Ext.drewN)))) (HQ2.out.ext (HE78.out.trans (by repeat (first | assumption | exact Ext.refl _ | apply Ext.alloc | apply Ext.drew | apply Ext.drewN)))) (HS1.out.ext (HE6.out.trans (HE68.out.trans (by repeat (first | assumption | exact Ext.refl _ | apply Ext.alloc | apply Ext.drew | apply Ext.drewN))))) (HS2.out.ext (HE6.out.trans (HE68.out.trans (by repeat (first | assumption | exact Ext.refl _ | apply Ext.alloc | apply Ext.drew | apply Ext.drewN)))))).mono ?_; rintro _ w10 ⟨rfl, hE10⟩; have HE10 := Lib.hid hE10; clear hE10))
        exact ⟨⟨k + 1, by omega, by go_num, HX.out.trans (HE6.out.trans (HE68.out.trans (Ext.trans (by repeat (first | assumption | exact Ext.refl _ | apply Ext.alloc | apply Ext.drew | apply Ext.drewN)) HE10.out)))⟩, by simp [intOf]; omega⟩
      · rw [if_neg hm] at HOF
        have HMD : Hid (decide (f.nm ∈ ss) = false) := Lib.hid (by simp [hm])
        clear hm
        go_upto_region 10 with (go_at_call 34; refine (C34.out _ (HE.out.trans HE6.out) f.nm).mono ?_; rintro _ w7 ⟨va1, va2, rfl, hs1, hs2, hE7⟩; rw [HOF.out] at hs1 hs2; rw [HOF.out]; have HQ1 := Lib.hid hs1; have HQ2 := Lib.hid hs2; have HE7 := Lib.hid hE7; obtain ⟨B1, d1, rfl, -, -, -⟩ := hs1; obtain ⟨B2, d2, rfl, -, -, -⟩ := hs2; clear hE7 p0 t6)
        generalize hw8 : World.alloc _ _ = w8
        have r0 : w8.cell? ⟨w7.heap.size, 0, none⟩ = some (sV Fd0.nm) := by rw [← hw8]; exact new_at _ _ _ 0 _ rfl
        have r1 : w8.cell? ⟨w7.heap.size, 1, none⟩ = some (.slice B1 Fd0.vl.length d1) := by rw [← hw8]; exact new_at _ _ _ 1 _ rfl
        have r2 : w8.cell? ⟨w7.heap.size, 2, none⟩ = some (.slice B2 Fd0.sl.length d2) := by rw [← hw8]; exact new_at _ _ _ 2 _ rfl
        have HE78 : Hid (Ext w7 w8) := Lib.hid (by rw [← hw8]; exact (Ext.refl _).alloc _)
        have HE68 := Lib.hid (HE7.out.trans HE78.out)
        clear hw8
        have p0 := HE68.out.cell P.out.1
        have p1 := HE68.out.cell P.out.2.1
        have p2 := HE68.out.cell P.out.2.2
        have n8 := HE68.out.cell N8.out
        have HEW := Lib.hid (HE.out.trans (HE6.out.trans HE68.out))
        go_quiet (fail)
        go_wp2_with (first
          | (go_at_call 23; refine (C23.out _ (HEW.out.trans (by repeat (first | assumption | exact Ext.refl _ | apply Ext.alloc | apply Ext.drew | apply Ext.drewN))) f.nm).mono ?_; rintro _ w9 ⟨rfl, rfl⟩; rw [HMD.out]))
        exact ⟨⟨k + 1, by omega, by go_num, HX.out.trans (HE6.out.trans (HE68.out.trans (by repeat (first | assumption | exact Ext.refl _ | apply Ext.alloc | apply Ext.drew | apply Ext.drewN))))⟩, by simp [intOf]; omega⟩
    · obtain rfl : k = fs.length := by omega
      go_wp2_with (go_at_call 34; refine (C34.out _ HE.out noName).mono ?_; rintro _ w7 ⟨va1, va2, rfl, hs1, hs2, hE7⟩; rw [HOPN.out] at hs1 hs2; rw [HOPN.out]; have HE7 := Lib.hid hE7; obtain ⟨B1, d1, rfl, -, -, -⟩ := hs1; obtain ⟨B2, d2, rfl, -, -, -⟩ := hs2; clear hE7)
      go_ret
      exact ⟨rfl, (HE.out.trans HE7.out).alloc _⟩
end Go.Proofs.YtjedhndhdkiidaaDoor
