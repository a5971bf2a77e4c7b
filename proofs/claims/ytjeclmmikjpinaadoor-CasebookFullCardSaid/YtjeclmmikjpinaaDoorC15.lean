/- awake. -/
import Derived.Test.YtjeclmmikjpinaaDoorC14
import Derived.Test.YtjeclmmikjpinaaDoorE3
import Derived.Lib.SlBytesConst
namespace Go.Proofs.YtjeclmmikjpinaaDoor
open Go.RowKit
open I (IdT EvT IdAt EvAt SeenAt StAt)
attribute [local go_sem ↓] Go.wp_at_zero Go.wp_at_succ
attribute [local go_sem ↓] ld48 st48 al48 bu48
attribute [local go_sem] run_al48 run_bu48 run_st48n run_sl48
attribute [local go_sem ↓] eq48
attribute [local go_sem] run_eqD
theorem Exc.drew {g r : Nat} {w w' : World} (h : Exc g r w w') : Exc g r w w'.drew := h.grown ((Ext.refl _).drew)
/-- An entry whose body is one constant byte. -/
theorem const1 (W : World) (u : UInt8) : ∃ wA, (convert 31 31 (.slice (some ⟨W.heap.size, 0, none⟩) 1 1)).run Tryd.prog (W.alloc (.cells #[.int .u8 ((u.toNat : Nat) : Int)] 5)) = .ok (.slice (some ⟨W.heap.size, 0, none⟩) 1 1) wA ∧ Ext W wA ∧ BytesAt wA (some ⟨W.heap.size, 0, none⟩) [u] := by
  refine ⟨W.alloc (.cells #[.int .u8 ((u.toNat : Nat) : Int)] 5 (1, 2)), Lib.run_convert_bytes_const (P := Tryd.prog) W 31 5 #[.int .u8 ((u.toNat : Nat) : Int)] 1 1 Tryd.underlying31 Tryd.underlying5, (Ext.refl _).alloc _, ?_⟩
  exact bytes_of_cells (n := 1) rfl fun i hi => by
    obtain rfl : i = 0 := by omega
    unfold World.cell?
    rw [heap_alloc_new]
    rfl
/-- The example's trees. -/
abbrev tA : EvT := I.eventT .one (.leaf 0)
abbrev iA : IdT := IdT.one.split.1
abbrev iC : IdT := IdT.one.split.2
abbrev tC : EvT := I.eventT iC tA
theorem tA_top : tA.top + 1 < 2 ^ 127 := by decide
theorem tC_top : tC.top + 1 < 2 ^ 127 := by decide
theorem tA_fits : tA.fits = true := by decide
theorem tC_fits : tC.fits = true := by decide
theorem iA_zero : iA.isZero = false := by decide
theorem iC_zero : iC.isZero = false := by decide
theorem one_forks : (decide (IdT.one.split.1.depth ≤ 16) && decide (IdT.one.split.2.depth ≤ 16)) = true := by decide
theorem one_depth : IdT.one.depth ≤ 999999 := by decide
theorem iC_depth : iC.depth ≤ 1000000 := by decide
theorem lAC : I.leqF tA tC 0 0 = true := by decide
theorem lCA : I.leqF tC tA 0 0 = false := by decide
theorem mAC : (I.mergeF 5 tA tC).fits = true := by decide
theorem dA : tA.depth ≤ 5 := by decide
theorem dC : tC.depth ≤ 5 := by decide
theorem b0_top : (EvT.leaf 0).top + 1 < 2 ^ 127 := by decide
theorem add_first {i : IdT} {t t' : EvT} {k d : List UInt8} {n : Nat} {c : Int} {ks ks' : List (List UInt8)} (h : AddIs i t ks k n d c t' ks') (hn : n ≤ 4000) (hk : k ∉ ks) (hl : ks.length < 256) : d = k ∧ c = 0 ∧ t' = I.eventT i t ∧ ks' = putM ks k := by
  rcases h with ⟨h, -⟩ | ⟨-, h, -⟩ | ⟨-, -, h, -⟩ | ⟨-, -, -, h1, h2, h3, h4⟩
  · omega
  · exact absurd h hk
  · omega
  · exact ⟨h1, h2, h3, h4⟩
theorem add_again {i : IdT} {t t' : EvT} {k d : List UInt8} {n : Nat} {c : Int} {ks ks' : List (List UInt8)} (h : AddIs i t ks k n d c t' ks') (hn : n ≤ 4000) (hk : k ∈ ks) : d = k ∧ c = 0 ∧ t' = t ∧ ks' = ks := by
  rcases h with ⟨h, -⟩ | ⟨-, -, h1, h2, h3, h4⟩ | ⟨-, h, -⟩ | ⟨-, h, -⟩
  · omega
  · exact ⟨h1, h2, h3, h4⟩
  · exact absurd hk h
  · exact absurd hk h
theorem box_new {w w' : World} {k : List UInt8} (h : w.alloc (.cells (idA k) 27) = w') : Ext w w' ∧ Bk w' w.heap.size 32 (idF k) ∧ TyB w' 27 w.heap.size := by
  subst h
  exact ⟨(Ext.refl _).alloc _, Bk.new (by decide), TyB.new _ _ _⟩
theorem putM_len {ks : List (List UInt8)} {k : List UInt8} : (putM ks k).length ≤ ks.length + 1 := by
  unfold putM
  split
  · omega
  · simp
theorem merge_small {n : Nat} {t u t' : EvT} {ks us ks' : List (List UInt8)} {c : Int} (h : MgIs n t u ks us c t' ks') (hl : ks.length + us.length ≤ 256) : c = 0 ∧ ks'.length ≤ 256 ∧ ∀ x, x ∈ ks' ↔ x ∈ ks ∨ x ∈ us := by
  obtain ⟨all, hn, hm, h⟩ := h
  have h1 := nodup_len all (ks ++ us) hn (fun x hx => List.mem_append.2 ((hm x).1 hx))
  rw [List.length_append] at h1
  rcases h with ⟨h2, h3, -, rfl⟩ | ⟨h2, -⟩
  · exact ⟨h3, h2, hm⟩
  · omega
set_option maxRecDepth 100000 in
set_option maxHeartbeats 4000000 in
theorem awake7_ok (w : World) (hT : Tab w) : Calls Tryd.prog 4 #[] w (RetB true w) := by
  have HT := Lib.hid hT
  have h0w := hT.lt
  clear hT
  obtain ⟨kx, hkx⟩ : ∃ kx, partsF [[116], [120]] = kx := ⟨_, rfl⟩
  obtain ⟨ky, hky⟩ : ∃ ky, partsF [[117], [121]] = ky := ⟨_, rfl⟩
  have HNE : Hid (ky ≠ kx) := Lib.hid (by rw [← hkx, ← hky]; exact fun e => two_ne e.symm)
  have C0 := Lib.hid (new15_ok w)
  go_enter Tryd.func4, Tryd.ntmps4
  go_wp2_with fail
  refine C0.out.mono ?_
  rintro _ w1 ⟨g, r, rfl, hb1, hg1, hr1, hE1⟩
  have HB1 := Lib.hid hb1
  have HE1 := Lib.hid hE1
  have HG := Lib.hid (And.intro hg1 hr1)
  clear hb1 hg1 hr1 hE1 C0
  obtain ⟨wA, k1, hEA, hBA⟩ := const1 w1 120
  have k1 : (convert 31 31 (.slice (some ⟨w1.heap.size, 0, none⟩) 1 1)).run Tryd.prog (w1.alloc (.cells #[.int .u8 120] 5)) = .ok (.slice (some ⟨w1.heap.size, 0, none⟩) 1 1) wA := k1
  have HEA := Lib.hid (HE1.out.trans hEA)
  have CA := Lib.hid (add4_ok g r .one (.leaf 0) [] 116 [120] (some ⟨w1.heap.size, 0, none⟩) 1 1 wA (HB1.out.ext hEA) (HT.out.ext HEA.out) hBA rfl (by decide) (by unfold maxLen; decide) (by decide) rfl (by decide) b0_top tA_fits)
  rw [hkx] at CA
  clear hEA hBA
  go_wp2_with fail
  refine CA.out.mono ?_
  rintro _ w2 ⟨d, c, t', ks', rfl, hA, hb2, hX2⟩
  obtain ⟨rfl, rfl, rfl, rfl⟩ := add_first hA (by decide) (by simp) (by decide)
  have HB2 := Lib.hid (show BookAt w2 g r .one tA [d] from hb2)
  have HE2 := Lib.hid (hX2.ext HEA.out HG.out.1 HG.out.2)
  clear hA hb2 hX2 k1 CA HB1
  go_upto_region 5 with fail
  generalize hw3 : w2.alloc (.cells (idA d) 27) = w3
  have HN3 := Lib.hid (box_new hw3)
  clear hw3
  obtain ⟨wB, k2, hEB, hBB⟩ := const1 w3 120
  have k2 : (convert 31 31 (.slice (some ⟨w3.heap.size, 0, none⟩) 1 1)).run Tryd.prog (w3.alloc (.cells #[.int .u8 120] 5)) = .ok (.slice (some ⟨w3.heap.size, 0, none⟩) 1 1) wB := k2
  have HEB3 := Lib.hid hEB
  have HEB := Lib.hid (HE2.out.trans (HN3.out.1.trans hEB))
  have CB := Lib.hid (add4_ok g r .one tA [d] 116 [120] (some ⟨w3.heap.size, 0, none⟩) 1 1 wB (HB2.out.ext (HN3.out.1.trans hEB)) (HT.out.ext HEB.out) hBB rfl (by decide) (by unfold maxLen; decide) (by decide) rfl (by decide) tA_top (by decide))
  rw [hkx] at CB
  clear hEB hBB
  go_wp2_with fail
  refine CB.out.mono ?_
  rintro _ w4 ⟨d', c, t', ks', rfl, hA, hb4, hX4⟩
  obtain ⟨rfl, rfl, rfl, rfl⟩ := add_again hA (by decide) (by simp)
  have HB4 := Lib.hid (show BookAt w4 g r .one tA [d'] from hb4)
  have HE4 := Lib.hid (hX4.ext HEB.out HG.out.1 HG.out.2)
  have HXB := Lib.hid (HEB3.out.then hX4)
  clear hA hb4 hX4 k2 CB
  go_upto_region 6 with fail
  generalize hw5 : w4.alloc (.cells (idA d') 27) = w5
  have HN5 := Lib.hid (box_new hw5)
  clear hw5
  have CF := Lib.hid (fork13_ok g r .one tA [d'] w5 (HB4.out.ext HN5.out.1) one_depth one_forks)
  go_wp2_with fail
  refine CF.out.mono ?_
  rintro _ w6 ⟨g2, r2, rfl, hb6, hc6, hg2, hr2, hX6⟩
  have HB6 := Lib.hid (show BookAt w6 g r iA tA [d'] from hb6)
  have HC6 := Lib.hid (show BookAt w6 g2 r2 iC tA [d'] from hc6)
  have HX6 := Lib.hid hX6
  have HE5 := Lib.hid (HE4.out.trans HN5.out.1)
  have HE6 := Lib.hid (hX6.ext HE5.out HG.out.1 HG.out.2)
  have HG2 := Lib.hid (And.intro hg2 hr2)
  clear hb6 hc6 hX6 hg2 hr2 CF
  obtain ⟨wC, k3, hEC, hBC⟩ := const1 w6 121
  have k3 : (convert 31 31 (.slice (some ⟨w6.heap.size, 0, none⟩) 1 1)).run Tryd.prog (w6.alloc (.cells #[.int .u8 121] 5)) = .ok (.slice (some ⟨w6.heap.size, 0, none⟩) 1 1) wC := k3
  have HEC := Lib.hid hEC
  have CC := Lib.hid (add4_ok g2 r2 iC tA [d'] 117 [121] (some ⟨w6.heap.size, 0, none⟩) 1 1 wC (HC6.out.ext hEC) (HT.out.ext (HE6.out.trans hEC)) hBC rfl (by decide) (by unfold maxLen; decide) (by decide) iC_zero iC_depth tA_top tC_fits)
  rw [hky] at CC
  clear hEC hBC
  go_wp2_with fail
  refine CC.out.mono ?_
  rintro _ w7 ⟨e, c, t', ks', rfl, hA, hb7, hX7⟩
  obtain ⟨rfl, rfl, rfl, rfl⟩ := add_first hA (by decide) (by simp; exact HNE.out) (Nat.lt_of_le_of_lt (Nat.le_refl 1) (by decide))
  have HC7 := Lib.hid (show BookAt w7 g2 r2 iC tC (putM [d'] e) from hb7)
  have HX7 := Lib.hid hX7
  clear hA hb7 hX7 k3 CC
  go_upto_region 10 with fail
  generalize hw8 : w7.alloc (.cells (idA e) 27) = w8
  have HN8 := Lib.hid (box_new hw8)
  clear hw8
  have hA8 : BookAt w8 g r iA tA [d'] := ((HB6.out.ext HEC.out).far HX7.out (HC6.out.ext HEC.out).ty (HC6.out.ext HEC.out).mp.mpB (Nat.ne_of_lt (Nat.lt_of_lt_of_le (HB4.out.ext HN5.out.1).ty.lt HG2.out.1)) (Nat.ne_of_lt (Nat.lt_of_lt_of_le (HB4.out.ext HN5.out.1).mp.lt HG2.out.2))).ext HN8.out.1
  have hC8 := HC7.out.ext HN8.out.1
  have hb1 : Bk w8 w2.heap.size 32 (idF d') := ((((HN3.out.2.1.exc HXB.out (Nat.ne_of_gt HB2.out.ty.lt) (Nat.ne_of_gt HB2.out.mp.lt)).ext HN5.out.1).exc HX6.out (Nat.ne_of_gt HB2.out.ty.lt) (Nat.ne_of_gt HB2.out.mp.lt)).ext HEC.out |>.exc HX7.out (Nat.ne_of_lt (Nat.lt_of_lt_of_le (Nat.lt_of_lt_of_le HN3.out.2.2.lt (Nat.le_trans HXB.out.size HN5.out.1.size)) HG2.out.1)) (Nat.ne_of_lt (Nat.lt_of_lt_of_le (Nat.lt_of_lt_of_le HN3.out.2.2.lt (Nat.le_trans HXB.out.size HN5.out.1.size)) HG2.out.2))).ext HN8.out.1
  have hb2 : Bk w8 w4.heap.size 32 (idF d') := (((HN5.out.2.1.exc HX6.out (Nat.ne_of_gt HB4.out.ty.lt) (Nat.ne_of_gt HB4.out.mp.lt)).ext HEC.out).exc HX7.out (Nat.ne_of_lt (Nat.lt_of_lt_of_le HN5.out.2.2.lt HG2.out.1)) (Nat.ne_of_lt (Nat.lt_of_lt_of_le HN5.out.2.2.lt HG2.out.2))).ext HN8.out.1
  have hgg : g2 ≠ g := Nat.ne_of_gt (Nat.lt_of_lt_of_le (HB4.out.ext HN5.out.1).ty.lt HG2.out.1)
  have hrr : r2 ≠ r := Nat.ne_of_gt (Nat.lt_of_lt_of_le (HB4.out.ext HN5.out.1).mp.lt HG2.out.2)
  have hE8 : Ext w w8 := (HX7.out.ext (HE6.out.trans HEC.out) (Nat.le_trans HE5.out.size HG2.out.1) (Nat.le_trans HE5.out.size HG2.out.2)).trans HN8.out.1
  have n1 : w2.heap.size ≠ g := Nat.ne_of_gt HB2.out.ty.lt
  have n2 : w2.heap.size ≠ r := Nat.ne_of_gt HB2.out.mp.lt
  have n3 : w4.heap.size ≠ g := Nat.ne_of_gt HB4.out.ty.lt
  have n4 : w4.heap.size ≠ r := Nat.ne_of_gt HB4.out.mp.lt
  have HE8 := Lib.hid hE8
  have HGR := Lib.hid (And.intro hgg hrr)
  have CI : Hid (∀ W, Ext w8 W → Calls Tryd.prog 11 #[.string ⟨#[116]⟩, .string ⟨#[120]⟩] W (RetId d' W)) := Lib.hid (fun W h => by
    have := id6_ok 116 120 W (HT.out.ext (hE8.trans h))
    rw [hkx] at this
    exact this)
  have CS1 : Hid (∀ W, Ext w8 W → Calls Tryd.prog 13 #[.pointer (some ⟨g, 0, none⟩)] W (I.RetSt iA tA W)) := Lib.hid (fun W h => stamp22_ok g r iA tA [d'] W (hA8.ext h))
  have CS2 : Hid (∀ W, Ext w8 W → Calls Tryd.prog 13 #[.pointer (some ⟨g2, 0, none⟩)] W (I.RetSt iC tC W)) := Lib.hid (fun W h => stamp22_ok g2 r2 iC tC _ W (hC8.ext h))
  have CL1 : Hid (∀ W v v', StAt W v iA tA → StAt W v' iC tC → Calls Tryd.prog 12 #[v, v'] W (RetB true W)) := Lib.hid (fun W v v' h k => by
    have := I.stleq_any iA iC tA tC v v' W h k (Nat.lt_of_succ_lt tA_top) (Nat.lt_of_succ_lt tC_top)
    rw [lAC] at this
    exact this)
  have CL2 : Hid (∀ W v v', StAt W v iC tC → StAt W v' iA tA → Calls Tryd.prog 12 #[v, v'] W (RetB false W)) := Lib.hid (fun W v v' h k => by
    have := I.stleq_any iC iA tC tA v v' W h k (Nat.lt_of_succ_lt tC_top) (Nat.lt_of_succ_lt tA_top)
    rw [lCA] at this
    exact this)
  have CM : Hid (∀ W, Ext w8 W → Calls Tryd.prog 9 #[.pointer (some ⟨g, 0, none⟩), .pointer (some ⟨g2, 0, none⟩)] W (RetMg 5 g r iA tA tC [d'] (putM [d'] e) W)) := Lib.hid (fun W h => merge14_ok 5 g r g2 r2 iA iC tA tC [d'] (putM [d'] e) W (hA8.ext h) (hC8.ext h) hgg hrr (Nat.lt_of_succ_lt tA_top) (Nat.lt_of_succ_lt tC_top) dA dC mAC)
  have HA8 := Lib.hid hA8
  have HC8 := Lib.hid hC8
  have KB : Hid (∀ W, Exc g r w8 W → (fun w' => (ldS 27 (.pointer (some ⟨w2.heap.size, 0, none⟩))).run Tryd.prog w' = .ok (idV d') w' ∧ (ldS 27 (.pointer (some ⟨w4.heap.size, 0, none⟩))).run Tryd.prog w' = .ok (idV d') w') W) := Lib.hid (fun W h => ⟨(hb1.exc h n1 n2).run_ld48, (hb2.exc h n3 n4).run_ld48⟩)
  have XE : Hid (∀ W, Ext w8 W → Exc g r w8 W) := Lib.hid (fun W h => h.exc g r)
  have hself := eqV_self d'
  clear hA8 hC8 hb1 hb2 hgg hrr hE8 n1 n2 n3 n4 HB2 HB4 HB6 HC6 HC7 HX6 HX7 HXB HN3 HN5 HN8 HE1 HE2 HEB3 HEB HEA HE4 HE5 HE6 HG2 HEC HNE hky hkx
  refine wp_region_noPanic ?_
  refine wp_region_held_drew (S := (fun w' => (ldS 27 (.pointer (some ⟨w2.heap.size, 0, none⟩))).run Tryd.prog w' = .ok (idV d') w' ∧ (ldS 27 (.pointer (some ⟨w4.heap.size, 0, none⟩))).run Tryd.prog w' = .ok (idV d') w')) (by kernel_rfl) ?_ (fun hHeld => ?_)
  · first | assumption | exact KB.out _ (XE.out _ (by repeat (first | assumption | exact Ext.refl _ | apply Ext.alloc | apply Ext.drew | apply Ext.drewN)))
  refine wpAnyH_take (i := 0) (v := ?_) (oper_at rfl) (by kernel_rfl) (by kernel_rfl) (by kernel_rfl) (fun _ _ _ h => h) (Or.inl ⟨by rfl, ?_⟩) hHeld ?_
  rotate_left
  · (intro ww hSw; (try dsimp only at hSw); go_simp; try (with_reducible rfl))
  try simp only [Act.put, List.setIfInBounds_toArray, List.set_cons_zero, List.set_cons_succ]
  refine wpAnyH_take (i := 1) (v := ?_) (oper_at rfl) (by kernel_rfl) (by kernel_rfl) (by kernel_rfl) (fun _ _ _ h => h) (Or.inl ⟨by rfl, ?_⟩) hHeld ?_
  rotate_left
  · (intro ww hSw; (try dsimp only at hSw); go_simp; try (with_reducible rfl))
  try simp only [Act.put, List.setIfInBounds_toArray, List.set_cons_zero, List.set_cons_succ]
  refine wpAnyH_take (i := 2) (v := ?_) (oper_at rfl) (by kernel_rfl) (by kernel_rfl) (by kernel_rfl) (fun _ _ _ h => h) (Or.inl ⟨by rfl, ?_⟩) hHeld ?_
  rotate_left
  · (intro ww hSw; (try dsimp only at hSw); go_simp; try (with_reducible rfl))
  try simp only [Act.put, List.setIfInBounds_toArray, List.set_cons_zero, List.set_cons_succ]
  refine wpAnyH_take (i := 3) (v := ?_) (oper_at rfl) (by kernel_rfl) (by kernel_rfl) (by kernel_rfl) (fun _ _ _ h => h) (Or.inl ⟨by rfl, ?_⟩) hHeld ?_
  rotate_left
  · (intro ww hSw; (try dsimp only at hSw); go_simp; try (with_reducible rfl))
  try simp only [Act.put, List.setIfInBounds_toArray, List.set_cons_zero, List.set_cons_succ]
  refine wpAnyH_take (i := 4) (v := ?_) (oper_at rfl) (by kernel_rfl) (by kernel_rfl) (by kernel_rfl) (fun _ _ _ h => h) (Or.inl ⟨by rfl, ?_⟩) hHeld ?_
  rotate_left
  · (intro ww hSw; (try dsimp only at hSw); go_simp; try (with_reducible rfl))
  try simp only [Act.put, List.setIfInBounds_toArray, List.set_cons_zero, List.set_cons_succ]
  refine wpAnyH_take (i := 5) (v := ?_) (oper_at rfl) (by kernel_rfl) (by kernel_rfl) (by kernel_rfl) (fun _ _ _ h => h) (Or.inl ⟨by rfl, ?_⟩) hHeld ?_
  rotate_left
  · (intro ww hSw; (try dsimp only at hSw); go_simp; try (with_reducible rfl))
  try simp only [Act.put, List.setIfInBounds_toArray, List.set_cons_zero, List.set_cons_succ]
  refine wpAnyH_take (i := 6) (v := ?_) (oper_at rfl) (by kernel_rfl) (by kernel_rfl) (by kernel_rfl) (fun _ _ _ h => h) (Or.inl ⟨by rfl, ?_⟩) hHeld ?_
  rotate_left
  · (intro ww hSw; (try dsimp only at hSw); go_simp; try (with_reducible rfl))
  try simp only [Act.put, List.setIfInBounds_toArray, List.set_cons_zero, List.set_cons_succ]
  refine wpAnyH_take (i := 7) (v := ?_) (oper_at rfl) (by kernel_rfl) (by kernel_rfl) (by kernel_rfl) (fun _ _ _ h => h) (Or.inl ⟨by rfl, ?_⟩) hHeld ?_
  rotate_left
  · (intro ww hSw; (try dsimp only at hSw); go_simp; try (with_reducible rfl))
  try simp only [Act.put, List.setIfInBounds_toArray, List.set_cons_zero, List.set_cons_succ]
  refine wpAnyH_take (i := 8) (v := ?_) (oper_at rfl) (by kernel_rfl) (by kernel_rfl) (by kernel_rfl) (fun _ _ _ h => h) (Or.inl ⟨by rfl, ?_⟩) hHeld ?_
  rotate_left
  · (intro ww hSw; (try dsimp only at hSw); go_simp; try (with_reducible rfl))
  try simp only [Act.put, List.setIfInBounds_toArray, List.set_cons_zero, List.set_cons_succ]
  refine wpAnyH_take (i := 9) (v := ?_) (oper_at rfl) (by kernel_rfl) (by kernel_rfl) (by kernel_rfl) (fun _ _ _ h => h) (Or.inl ⟨by rfl, ?_⟩) hHeld ?_
  rotate_left
  · (intro ww hSw; (try dsimp only at hSw); go_simp; try (with_reducible rfl))
  try simp only [Act.put, List.setIfInBounds_toArray, List.set_cons_zero, List.set_cons_succ]
  refine wpAnyH_take (i := 10) (v := ?_) (oper_at rfl) (by kernel_rfl) (by kernel_rfl) (by kernel_rfl) (fun _ _ _ h => h) (Or.inl ⟨by rfl, ?_⟩) hHeld ?_
  rotate_left
  · (intro ww hSw; (try dsimp only at hSw); go_simp; try (with_reducible rfl))
  try simp only [Act.put, List.setIfInBounds_toArray, List.set_cons_zero, List.set_cons_succ]
  refine wpAnyH_take (i := 11) (v := ?_) (oper_at rfl) (by kernel_rfl) (by kernel_rfl) (by kernel_rfl) (fun _ _ _ h => h) (Or.inl ⟨by rfl, ?_⟩) hHeld ?_
  rotate_left
  · (intro ww hSw; (try dsimp only at hSw); go_simp; try (with_reducible rfl))
  try simp only [Act.put, List.setIfInBounds_toArray, List.set_cons_zero, List.set_cons_succ]
  refine wpAnyH_take (i := 12) (v := ?_) (oper_at rfl) (by kernel_rfl) (by kernel_rfl) (by kernel_rfl) (fun _ _ _ h => h) (Or.inl ⟨by rfl, ?_⟩) hHeld ?_
  rotate_left
  · (intro ww hSw; (try dsimp only at hSw); go_simp; try (with_reducible rfl))
  try simp only [Act.put, List.setIfInBounds_toArray, List.set_cons_zero, List.set_cons_succ]
  refine wpAnyH_take (i := 13) (v := ?_) (oper_at rfl) (by kernel_rfl) (by kernel_rfl) (by kernel_rfl) (fun _ _ _ h => h) (Or.inl ⟨by rfl, ?_⟩) hHeld ?_
  rotate_left
  · (intro ww hSw; (try dsimp only at hSw); go_simp; try (with_reducible rfl))
  try simp only [Act.put, List.setIfInBounds_toArray, List.set_cons_zero, List.set_cons_succ]
  refine wpAnyH_take (i := 14) (v := ?_) (oper_at rfl) (by kernel_rfl) (by kernel_rfl) (by kernel_rfl) (fun _ _ _ h => h) (Or.inl ⟨by rfl, ?_⟩) hHeld ?_
  rotate_left
  · (intro ww hSw; (try dsimp only at hSw); go_simp; try (with_reducible rfl))
  try simp only [Act.put, List.setIfInBounds_toArray, List.set_cons_zero, List.set_cons_succ]
  refine wpAnyH_take (i := 15) (v := ?_) (oper_at rfl) (by kernel_rfl) (by kernel_rfl) (by kernel_rfl) (fun _ _ _ h => h) (Or.inl ⟨by rfl, ?_⟩) hHeld ?_
  rotate_left
  · (intro ww hSw; (try dsimp only at hSw); go_simp; try (with_reducible rfl))
  try simp only [Act.put, List.setIfInBounds_toArray, List.set_cons_zero, List.set_cons_succ]
  refine wpAnyH_take (i := 16) (v := ?_) (oper_at rfl) (by kernel_rfl) (by kernel_rfl) (by kernel_rfl) (fun _ _ _ h => h) (Or.inl ⟨by rfl, ?_⟩) hHeld ?_
  rotate_left
  · (intro ww hSw; (try dsimp only at hSw); go_simp; try (with_reducible rfl))
  try simp only [Act.put, List.setIfInBounds_toArray, List.set_cons_zero, List.set_cons_succ]
  refine wpAnyH_ready (rs := [17]) (by kernel_rfl) (by simp) (AllReadyH.cons (oper_at rfl) (fun K hK => ?_) AllReadyH.nil)
  go_simp
  go_at_call 11
  refine (CI.out _ (by repeat (first | assumption | exact Ext.refl _ | apply Ext.alloc | apply Ext.drew | apply Ext.drewN))).mono ?_
  rintro _ wI ⟨rfl, hEI⟩
  have hI : Ext w8 wI := Ext.trans (by repeat (first | assumption | exact Ext.refl _ | apply Ext.alloc | apply Ext.drew | apply Ext.drewN)) hEI
  clear hEI
  refine hK.out _ _ ?_ (fun hHeld => ?_)
  · first | assumption | exact KB.out _ (XE.out _ (by repeat (first | assumption | exact Ext.refl _ | apply Ext.alloc | apply Ext.drew | apply Ext.drewN)))
  clear hK K
  try simp only [Act.put, List.setIfInBounds_toArray, List.set_cons_zero, List.set_cons_succ]
  refine wpAnyH_take (i := 18) (v := ?_) (oper_at rfl) (by kernel_rfl) (by kernel_rfl) (by kernel_rfl) (fun _ _ _ h => h) (Or.inl ⟨by rfl, ?_⟩) hHeld ?_
  rotate_left
  · (intro ww hSw; (try dsimp only at hSw); go_simp; try (with_reducible rfl))
  try simp only [Act.put, List.setIfInBounds_toArray, List.set_cons_zero, List.set_cons_succ]
  refine wpAnyH_take (i := 19) (v := ?_) (oper_at rfl) (by kernel_rfl) (by kernel_rfl) (by kernel_rfl) (fun _ _ _ h => h) (Or.inl ⟨by rfl, ?_⟩) hHeld ?_
  rotate_left
  · (intro ww hSw; (try dsimp only at hSw); go_simp; try (with_reducible rfl))
  try simp only [Act.put, List.setIfInBounds_toArray, List.set_cons_zero, List.set_cons_succ]
  refine wpAnyH_take (i := 20) (v := ?_) (oper_at rfl) (by kernel_rfl) (by kernel_rfl) (by kernel_rfl) (fun _ _ _ h => h) (Or.inl ⟨by rfl, ?_⟩) hHeld ?_
  rotate_left
  · (intro ww hSw; (try dsimp only at hSw); go_simp; try (with_reducible rfl))
  try simp only [Act.put, List.setIfInBounds_toArray, List.set_cons_zero, List.set_cons_succ]
  refine wpAnyH_take (i := 21) (v := ?_) (oper_at rfl) (by kernel_rfl) (by kernel_rfl) (by kernel_rfl) (fun _ _ _ h => h) (Or.inl ⟨by rfl, ?_⟩) hHeld ?_
  rotate_left
  · (intro ww hSw; (try dsimp only at hSw); go_simp; try (with_reducible rfl))
  try simp only [Act.put, List.setIfInBounds_toArray, List.set_cons_zero, List.set_cons_succ]
  refine wpAnyH_take (i := 23) (v := ?_) (oper_at rfl) (by kernel_rfl) (by kernel_rfl) (by kernel_rfl) (fun _ _ _ h => h) (Or.inl ⟨by rfl, ?_⟩) hHeld ?_
  rotate_left
  · (intro ww hSw; (try dsimp only at hSw); go_simp; try (with_reducible rfl))
  try simp only [Act.put, List.setIfInBounds_toArray, List.set_cons_zero, List.set_cons_succ]
  refine wpAnyH_ready (rs := [22]) (by kernel_rfl) (by simp) (AllReadyH.cons (oper_at rfl) (fun K hK => ?_) AllReadyH.nil)
  go_simp
  go_at_call 13
  refine (CS1.out _ (by repeat (first | assumption | exact Ext.refl _ | apply Ext.alloc | apply Ext.drew | apply Ext.drewN))).mono ?_
  rintro _ ws ⟨va, rfl, hsa, hEs⟩
  have hs : Ext w8 ws := Ext.trans (by repeat (first | assumption | exact Ext.refl _ | apply Ext.alloc | apply Ext.drew | apply Ext.drewN)) hEs
  have HSA := Lib.hid hsa
  clear hEs hsa
  refine hK.out _ _ ?_ (fun hHeld => ?_)
  · first | assumption | exact KB.out _ (XE.out _ (by repeat (first | assumption | exact Ext.refl _ | apply Ext.alloc | apply Ext.drew | apply Ext.drewN)))
  clear hK K
  try simp only [Act.put, List.setIfInBounds_toArray, List.set_cons_zero, List.set_cons_succ]
  refine wpAnyH_ready (rs := [24]) (by kernel_rfl) (by simp) (AllReadyH.cons (oper_at rfl) (fun K hK => ?_) AllReadyH.nil)
  go_simp
  go_at_call 13
  refine (CS2.out _ (by repeat (first | assumption | exact Ext.refl _ | apply Ext.alloc | apply Ext.drew | apply Ext.drewN))).mono ?_
  rintro _ wt ⟨vc, rfl, hsc, hEt⟩
  have ht : Ext w8 wt := Ext.trans (by repeat (first | assumption | exact Ext.refl _ | apply Ext.alloc | apply Ext.drew | apply Ext.drewN)) hEt
  have HSA2 := Lib.hid (StAt_ext (Ext.trans (by first | exact Ext.refl _ | exact (Ext.refl _).drew) hEt) HSA.out)
  have HSC := Lib.hid hsc
  clear hEt hsc
  refine hK.out _ _ ?_ (fun hHeld => ?_)
  · first | assumption | exact KB.out _ (XE.out _ (by repeat (first | assumption | exact Ext.refl _ | apply Ext.alloc | apply Ext.drew | apply Ext.drewN)))
  clear hK K
  try simp only [Act.put, List.setIfInBounds_toArray, List.set_cons_zero, List.set_cons_succ]
  refine wpAnyH_ready (rs := [25]) (by kernel_rfl) (by simp) (AllReadyH.cons (oper_at rfl) (fun K hK => ?_) AllReadyH.nil)
  go_simp
  go_at_call 12
  refine (CL1.out _ _ _ (StAt_ext (by first | exact Ext.refl _ | exact (Ext.refl _).drew) HSA2.out) (StAt_ext (by first | exact Ext.refl _ | exact (Ext.refl _).drew) HSC.out)).mono ?_
  rintro _ wl ⟨rfl, hEl⟩
  have hl : Ext w8 wl := Ext.trans (by repeat (first | assumption | exact Ext.refl _ | apply Ext.alloc | apply Ext.drew | apply Ext.drewN)) hEl
  clear hEl
  refine hK.out _ _ ?_ (fun hHeld => ?_)
  · first | assumption | exact KB.out _ (XE.out _ (by repeat (first | assumption | exact Ext.refl _ | apply Ext.alloc | apply Ext.drew | apply Ext.drewN)))
  clear hK K
  try simp only [Act.put, List.setIfInBounds_toArray, List.set_cons_zero, List.set_cons_succ]
  refine wpAnyH_take (i := 26) (v := ?_) (oper_at rfl) (by kernel_rfl) (by kernel_rfl) (by kernel_rfl) (fun _ _ _ h => h) (Or.inl ⟨by rfl, ?_⟩) hHeld ?_
  rotate_left
  · (intro ww hSw; (try dsimp only at hSw); go_simp; try (with_reducible rfl))
  try simp only [Act.put, List.setIfInBounds_toArray, List.set_cons_zero, List.set_cons_succ]
  refine wpAnyH_take (i := 27) (v := ?_) (oper_at rfl) (by kernel_rfl) (by kernel_rfl) (by kernel_rfl) (fun _ _ _ h => h) (Or.inl ⟨by rfl, ?_⟩) hHeld ?_
  rotate_left
  · (intro ww hSw; (try dsimp only at hSw); go_simp; try (with_reducible rfl))
  try simp only [Act.put, List.setIfInBounds_toArray, List.set_cons_zero, List.set_cons_succ]
  refine wpAnyH_take (i := 28) (v := ?_) (oper_at rfl) (by kernel_rfl) (by kernel_rfl) (by kernel_rfl) (fun _ _ _ h => h) (Or.inl ⟨by rfl, ?_⟩) hHeld ?_
  rotate_left
  · (intro ww hSw; (try dsimp only at hSw); go_simp; try (with_reducible rfl))
  try simp only [Act.put, List.setIfInBounds_toArray, List.set_cons_zero, List.set_cons_succ]
  refine wpAnyH_take (i := 30) (v := ?_) (oper_at rfl) (by kernel_rfl) (by kernel_rfl) (by kernel_rfl) (fun _ _ _ h => h) (Or.inl ⟨by rfl, ?_⟩) hHeld ?_
  rotate_left
  · (intro ww hSw; (try dsimp only at hSw); go_simp; try (with_reducible rfl))
  try simp only [Act.put, List.setIfInBounds_toArray, List.set_cons_zero, List.set_cons_succ]
  refine wpAnyH_ready (rs := [29]) (by kernel_rfl) (by simp) (AllReadyH.cons (oper_at rfl) (fun K hK => ?_) AllReadyH.nil)
  go_simp
  go_at_call 13
  refine (CS2.out _ (by repeat (first | assumption | exact Ext.refl _ | apply Ext.alloc | apply Ext.drew | apply Ext.drewN))).mono ?_
  rintro _ ws2 ⟨va2, rfl, hsa, hEs⟩
  have hs2 : Ext w8 ws2 := Ext.trans (by repeat (first | assumption | exact Ext.refl _ | apply Ext.alloc | apply Ext.drew | apply Ext.drewN)) hEs
  have HSB := Lib.hid hsa
  clear hEs hsa
  refine hK.out _ _ ?_ (fun hHeld => ?_)
  · first | assumption | exact KB.out _ (XE.out _ (by repeat (first | assumption | exact Ext.refl _ | apply Ext.alloc | apply Ext.drew | apply Ext.drewN)))
  clear hK K
  try simp only [Act.put, List.setIfInBounds_toArray, List.set_cons_zero, List.set_cons_succ]
  refine wpAnyH_ready (rs := [31]) (by kernel_rfl) (by simp) (AllReadyH.cons (oper_at rfl) (fun K hK => ?_) AllReadyH.nil)
  go_simp
  go_at_call 13
  refine (CS1.out _ (by repeat (first | assumption | exact Ext.refl _ | apply Ext.alloc | apply Ext.drew | apply Ext.drewN))).mono ?_
  rintro _ wt2 ⟨vc2, rfl, hsc, hEt⟩
  have ht2 : Ext w8 wt2 := Ext.trans (by repeat (first | assumption | exact Ext.refl _ | apply Ext.alloc | apply Ext.drew | apply Ext.drewN)) hEt
  have HSB2 := Lib.hid (StAt_ext (Ext.trans (by first | exact Ext.refl _ | exact (Ext.refl _).drew) hEt) HSB.out)
  have HSD := Lib.hid hsc
  clear hEt hsc
  refine hK.out _ _ ?_ (fun hHeld => ?_)
  · first | assumption | exact KB.out _ (XE.out _ (by repeat (first | assumption | exact Ext.refl _ | apply Ext.alloc | apply Ext.drew | apply Ext.drewN)))
  clear hK K
  try simp only [Act.put, List.setIfInBounds_toArray, List.set_cons_zero, List.set_cons_succ]
  refine wpAnyH_ready (rs := [32]) (by kernel_rfl) (by simp) (AllReadyH.cons (oper_at rfl) (fun K hK => ?_) AllReadyH.nil)
  go_simp
  go_at_call 12
  refine (CL2.out _ _ _ (StAt_ext (by first | exact Ext.refl _ | exact (Ext.refl _).drew) HSB2.out) (StAt_ext (by first | exact Ext.refl _ | exact (Ext.refl _).drew) HSD.out)).mono ?_
  rintro _ wl2 ⟨rfl, hEl⟩
  have hl2 : Ext w8 wl2 := Ext.trans (by repeat (first | assumption | exact Ext.refl _ | apply Ext.alloc | apply Ext.drew | apply Ext.drewN)) hEl
  clear hEl
  refine hK.out _ _ ?_ (fun hHeld => ?_)
  · first | assumption | exact KB.out _ (XE.out _ (by repeat (first | assumption | exact Ext.refl _ | apply Ext.alloc | apply Ext.drew | apply Ext.drewN)))
  clear hK K
  try simp only [Act.put, List.setIfInBounds_toArray, List.set_cons_zero, List.set_cons_succ]
  refine wpAnyH_take (i := 33) (v := ?_) (oper_at rfl) (by kernel_rfl) (by kernel_rfl) (by kernel_rfl) (fun _ _ _ h => h) (Or.inl ⟨by rfl, ?_⟩) hHeld ?_
  rotate_left
  · (intro ww hSw; (try dsimp only at hSw); go_simp; try (with_reducible rfl))
  try simp only [Act.put, List.setIfInBounds_toArray, List.set_cons_zero, List.set_cons_succ]
  refine wpAnyH_take (i := 34) (v := ?_) (oper_at rfl) (by kernel_rfl) (by kernel_rfl) (by kernel_rfl) (fun _ _ _ h => h) (Or.inl ⟨by rfl, ?_⟩) hHeld ?_
  rotate_left
  · (intro ww hSw; (try dsimp only at hSw); go_simp; try (with_reducible rfl))
  try simp only [Act.put, List.setIfInBounds_toArray, List.set_cons_zero, List.set_cons_succ]
  refine wpAnyH_take (i := 35) (v := ?_) (oper_at rfl) (by kernel_rfl) (by kernel_rfl) (by kernel_rfl) (fun _ _ _ h => h) (Or.inl ⟨by rfl, ?_⟩) hHeld ?_
  rotate_left
  · (intro ww hSw; (try dsimp only at hSw); go_simp; try (with_reducible rfl))
  try simp only [Act.put, List.setIfInBounds_toArray, List.set_cons_zero, List.set_cons_succ]
  refine wpAnyH_take (i := 36) (v := ?_) (oper_at rfl) (by kernel_rfl) (by kernel_rfl) (by kernel_rfl) (fun _ _ _ h => h) (Or.inl ⟨by rfl, ?_⟩) hHeld ?_
  rotate_left
  · (intro ww hSw; (try dsimp only at hSw); go_simp; try (with_reducible rfl))
  try simp only [Act.put, List.setIfInBounds_toArray, List.set_cons_zero, List.set_cons_succ]
  refine wpAnyH_take (i := 37) (v := ?_) (oper_at rfl) (by kernel_rfl) (by kernel_rfl) (by kernel_rfl) (fun _ _ _ h => h) (Or.inl ⟨by rfl, ?_⟩) hHeld ?_
  rotate_left
  · (intro ww hSw; (try dsimp only at hSw); go_simp; try (with_reducible rfl))
  try simp only [Act.put, List.setIfInBounds_toArray, List.set_cons_zero, List.set_cons_succ]
  refine wpAnyH_ready (rs := [38]) (by kernel_rfl) (by simp) (AllReadyH.cons (oper_at rfl) (fun K hK => ?_) AllReadyH.nil)
  go_simp
  go_at_call 9
  have hwl : Ext w8 wl2.drew := (by repeat (first | assumption | exact Ext.refl _ | apply Ext.alloc | apply Ext.drew | apply Ext.drewN))
  refine (CM.out _ (by repeat (first | assumption | exact Ext.refl _ | apply Ext.alloc | apply Ext.drew | apply Ext.drewN))).mono ?_
  rintro _ wM ⟨c, t', ks', r', rfl, hM, hbM, hrM, hXM⟩
  obtain ⟨rfl, hkl, hkm⟩ := merge_small hM (by have := putM_len (ks := [d']) (k := e); simp at this ⊢; omega)
  have hm : Exc g r w8 wM := Exc.trans (XE.out _ (by repeat (first | assumption | exact Ext.refl _ | apply Ext.alloc | apply Ext.drew | apply Ext.drewN))) hXM
  have HBM := Lib.hid hbM
  have HCM := Lib.hid ((HC8.out.ext (show Ext w8 _ from (by repeat (first | assumption | exact Ext.refl _ | apply Ext.alloc | apply Ext.drew | apply Ext.drewN)))).far hXM (HA8.out.ext (show Ext w8 _ from (by repeat (first | assumption | exact Ext.refl _ | apply Ext.alloc | apply Ext.drew | apply Ext.drewN)))).ty (HA8.out.ext (show Ext w8 _ from (by repeat (first | assumption | exact Ext.refl _ | apply Ext.alloc | apply Ext.drew | apply Ext.drewN)))).mp.mpB HGR.out.1 HGR.out.2)
  have HKL := Lib.hid (And.intro hkl hkm)
  have HEM := Lib.hid (hm.ext HE8.out HG.out.1 HG.out.2)
  clear hM hbM hrM hXM hkl hkm
  refine hK.out _ _ ?_ (fun hHeld => ?_)
  · first | assumption | exact KB.out _ (by repeat (first | assumption | exact Exc.refl _ _ _ | apply Exc.alloc | apply Exc.drew))
  clear hK K
  try simp only [Act.put, List.setIfInBounds_toArray, List.set_cons_zero, List.set_cons_succ]
  refine wpAnyH_take (i := 39) (v := ?_) (oper_at rfl) (by kernel_rfl) (by kernel_rfl) (by kernel_rfl) (fun _ _ _ h => h) (Or.inl ⟨by rfl, ?_⟩) hHeld ?_
  rotate_left
  · (intro ww hSw; (try dsimp only at hSw); go_simp; try (with_reducible rfl))
  try simp only [Act.put, List.setIfInBounds_toArray, List.set_cons_zero, List.set_cons_succ]
  refine wpAnyH_take (i := 40) (v := ?_) (oper_at rfl) (by kernel_rfl) (by kernel_rfl) (by kernel_rfl) (fun _ _ _ h => h) (Or.inl ⟨by rfl, ?_⟩) hHeld ?_
  rotate_left
  · (intro ww hSw; (try dsimp only at hSw); go_simp; try (with_reducible rfl))
  try simp only [Act.put, List.setIfInBounds_toArray, List.set_cons_zero, List.set_cons_succ]
  refine wpAnyH_take (i := 41) (v := ?_) (oper_at rfl) (by kernel_rfl) (by kernel_rfl) (by kernel_rfl) (fun _ _ _ h => h) (Or.inl ⟨by rfl, ?_⟩) hHeld ?_
  rotate_left
  · (intro ww hSw; (try dsimp only at hSw); go_simp; try (with_reducible rfl))
  try simp only [Act.put, List.setIfInBounds_toArray, List.set_cons_zero, List.set_cons_succ]
  refine wpAnyH_take (i := 42) (v := ?_) (oper_at rfl) (by kernel_rfl) (by kernel_rfl) (by kernel_rfl) (fun _ _ _ h => h) (Or.inl ⟨by rfl, ?_⟩) hHeld ?_
  rotate_left
  · (intro ww hSw; (try dsimp only at hSw); go_simp; try (with_reducible rfl))
  try simp only [Act.put, List.setIfInBounds_toArray, List.set_cons_zero, List.set_cons_succ]
  refine wpAnyH_take (i := 44) (v := ?_) (oper_at rfl) (by kernel_rfl) (by kernel_rfl) (by kernel_rfl) (fun _ _ _ h => h) (Or.inl ⟨by rfl, ?_⟩) hHeld ?_
  rotate_left
  · (intro ww hSw; (try dsimp only at hSw); go_simp; try (with_reducible rfl))
  try simp only [Act.put, List.setIfInBounds_toArray, List.set_cons_zero, List.set_cons_succ]
  refine wpAnyH_ready (rs := [43]) (by kernel_rfl) (by simp) (AllReadyH.cons (oper_at rfl) (fun K hK => ?_) AllReadyH.nil)
  go_simp
  go_at_call 8
  refine (root16_ok g r' iA t' ks' _ (HBM.out.ext (by first | exact Ext.refl _ | exact (Ext.refl _).drew)) (Nat.le_trans HKL.out.1 (by decide)) (HT.out.ext (HEM.out.trans (by first | exact Ext.refl _ | exact (Ext.refl _).drew)))).mono ?_
  rintro _ wR ⟨dr, hR, rfl, hER⟩
  have HR := Lib.hid hR
  have hER2 : Ext wM wR := Ext.trans (by first | exact Ext.refl _ | exact (Ext.refl _).drew) hER
  have hmr : Exc g r w8 wR := hm.grown hER2
  have HER := Lib.hid hER2
  clear hR hER hER2
  refine hK.out _ _ ?_ (fun hHeld => ?_)
  · first | assumption | exact KB.out _ (by repeat (first | assumption | exact Exc.refl _ _ _ | apply Exc.alloc | apply Exc.drew))
  clear hK K
  try simp only [Act.put, List.setIfInBounds_toArray, List.set_cons_zero, List.set_cons_succ]
  refine wpAnyH_ready (rs := [45]) (by kernel_rfl) (by simp) (AllReadyH.cons (oper_at rfl) (fun K hK => ?_) AllReadyH.nil)
  go_simp
  go_at_call 8
  refine (root16_ok g2 r2 iC tC _ _ (HCM.out.ext (HER.out.trans (by first | exact Ext.refl _ | exact (Ext.refl _).drew))) (Nat.le_trans putM_len (by simp)) (HT.out.ext (HEM.out.trans (HER.out.trans (by first | exact Ext.refl _ | exact (Ext.refl _).drew))))).mono ?_
  rintro _ wS ⟨dr2, hR2, rfl, hES⟩
  obtain rfl : dr = dr2 := HR.out.same hR2 (fun x => by rw [HKL.out.2 x, mem_putM]; simp; exact fun h => .inr h)
  have hES2 : Ext wR wS := Ext.trans (by first | exact Ext.refl _ | exact (Ext.refl _).drew) hES
  have hms : Exc g r w8 wS := hmr.grown hES2
  have HEw := Lib.hid (HEM.out.trans (HER.out.trans hES2))
  have hself2 := eqV_self dr
  clear hR2 hES hES2
  refine hK.out _ _ ?_ (fun hHeld => ?_)
  · first | assumption | exact KB.out _ (by repeat (first | assumption | exact Exc.refl _ _ _ | apply Exc.alloc | apply Exc.drew))
  clear hK K
  try simp only [Act.put, List.setIfInBounds_toArray, List.set_cons_zero, List.set_cons_succ]
  refine wpAnyH_take (i := 46) (v := ?_) (oper_at rfl) (by kernel_rfl) (by kernel_rfl) (by kernel_rfl) (fun _ _ _ h => h) (Or.inl ⟨by rfl, ?_⟩) hHeld ?_
  rotate_left
  · (intro ww hSw; (try dsimp only at hSw); go_simp; try (with_reducible rfl))
  try simp only [Act.put, List.setIfInBounds_toArray, List.set_cons_zero, List.set_cons_succ]
  refine wpAnyH_take (i := 47) (v := ?_) (oper_at rfl) (by kernel_rfl) (by kernel_rfl) (by kernel_rfl) (fun _ _ _ h => h) (Or.inl ⟨by rfl, ?_⟩) hHeld ?_
  rotate_left
  · (intro ww hSw; (try dsimp only at hSw); go_simp; try (with_reducible rfl))
  try simp only [Act.put, List.setIfInBounds_toArray, List.set_cons_zero, List.set_cons_succ]
  refine wpAnyH_take (i := 48) (v := ?_) (oper_at rfl) (by kernel_rfl) (by kernel_rfl) (by kernel_rfl) (fun _ _ _ h => h) (Or.inl ⟨by rfl, ?_⟩) hHeld ?_
  rotate_left
  · (intro ww hSw; (try dsimp only at hSw); go_simp; try (with_reducible rfl))
  try simp only [Act.put, List.setIfInBounds_toArray, List.set_cons_zero, List.set_cons_succ]
  refine wpAnyH_done (by kernel_rfl) ?_ _
  refine NoPanic.normal ?_
  go_wp2_with fail
  go_ret
  exact ⟨rfl, HEw.out⟩
end Go.Proofs.YtjeclmmikjpinaaDoor
