/- Verify. -/
import Derived.Test.YtjedhndhdkiidaaDoorV23
import Derived.Test.YtjedhndhdkiidaaDoorV28
namespace Go.Proofs.YtjedhndhdkiidaaDoor
open Go.RowKit
attribute [local go_sem ↓] Go.wp_at_zero Go.wp_at_succ
attribute [local go_sem] baSize baList
attribute [local go_sem ↓] ld75 ld48 ld73 st75 st48 al75 al48 bu75 bu48 eq48 ne48
attribute [local go_sem] run_al75 run_al48 run_bu48 run_bu75n run_bu75c run_bu75o run_st75n run_st48n run_eqD run_neD
theorem topF_len : ∀ (n : Nat) (l : Ids), l.length ≤ n → 0 < l.length → Id32 l → (topF l).length = 32
  | n, l, hn, h0, h => by
    by_cases h1 : l.length ≤ 1
    · rw [topF_small h1]
      exact h _ (by rw [List.getD_eq_getElem?_getD, List.getElem?_eq_getElem h0]; exact List.getElem_mem h0)
    · rw [topF_large h1]
      have e := lvlF_len l
      match n, hn with
      | 0, hn => omega
      | n + 1, hn => exact topF_len n (lvlF l) (by omega) (by omega) (lvlF_32 l h)
theorem rootF_len {xs : List It} (h : 0 < xs.length) : (rootF xs).length = 32 := topF_len _ _ (Nat.le_refl _) (by rw [List.length_map]; exact h) (fun d hd => by
  obtain ⟨x, -, rfl⟩ := List.mem_map.1 hd
  exact pairF_len _ _)
/-- The open fields. -/
def opF (xs : List It) : List Fd := (xs.filter (·.op)).map fun x => ⟨x.nm, x.vl, x.sl⟩
/-- What Verify gives. -/
def verF (r : List UInt8) (xs : List It) : List Fd × Int := if xs.length = 0 then ([], 1) else if rootF xs = r then (opF xs, 0) else ([], 7)
/-- Fields and an error number. -/
def RetVr (p : List Fd × Int) (w : World) (e : Ending) (w' : World) : Prop := ∃ v, e = .returned (.tuple #[v, iV p.2]) ∧ FsAt w' v p.1 ∧ Ext w w'
/-- Fields whose bytes are newly made. -/
def NpAt (B : Nat) (w : World) (ps : List PF) : Prop := ∀ p ∈ ps, SlN w B (.slice p.2.1.1 p.1.vl.length p.2.1.2) p.1.vl ∧ SlN w B (.slice p.2.2.1 p.1.sl.length p.2.2.2) p.1.sl
theorem NpAt.fp {B : Nat} {w : World} {ps : List PF} (h : NpAt B w ps) : FpAt w ps := fun p hp => ⟨(h p hp).1.sl, (h p hp).2.sl⟩
theorem NpAt.ext {B : Nat} {w w' : World} {ps : List PF} (h : NpAt B w ps) (k : Ext w w') : NpAt B w' ps := fun p hp => ⟨(h p hp).1.ext k, (h p hp).2.ext k⟩
theorem NpAt.grown {s B B' T : Nat} {w w' : World} {t : Value} {us : List (List Value)} {ps : List PF} (h : NpAt B w ps) (hr : Row s w B' T t us) (hT : T ≠ 5) (hg : w.grownBy w' t.ownBlock) : NpAt B w' ps := fun p hp => ⟨(h p hp).1.grown hg hr.ty hT, (h p hp).2.grown hg hr.ty hT⟩
theorem FsAt.nil (w : World) : FsAt w nilV [] := ⟨[], SlAt.nil _ _, rfl, fun j hj => by simp at hj⟩
set_option maxRecDepth 100000 in
set_option maxHeartbeats 1000000 in
theorem verify21_ok (r : List UInt8) (xs : List It) (v : Value) (w : World) (hr : r.length = 32) (h : DsAt w v xs) (hx : ∀ x ∈ xs, ItOk x) (hn : ∀ x ∈ xs, x.nm.length ≤ 1000) (hl : xs.length ≤ 100) (hT : Tab w) : Calls Tryd.prog 21 #[idV r, dsV v] w (RetVr (verF r xs) w) := by
  have C33 := Lib.hid (fun W (hW : Ext w W) => root33_ok xs v W (h.ext hW) hx hn hl (hT.ext hW))
  have HOK := Lib.hid hx
  have HR32 := Lib.hid hr
  obtain ⟨A, c, rfl, -, -, h3⟩ := h.read
  have HR := Lib.hid h3
  clear h h3 hT hx hn hr
  go_enter Tryd.func21, Tryd.ntmps21
  go_upto_region 1 with fail
  generalize hwA : w.alloc (.cells (idA r) 48) = wA
  have HA0 : Hid (Bk wA w.heap.size 32 (idF r)) := Lib.hid (by rw [← hwA]; exact Bk.new (by decide))
  have HEA : Hid (Ext w wA) := Lib.hid (by rw [← hwA]; exact (Ext.refl _).alloc _)
  have sA : wA.heap.size = w.heap.size + 1 := by rw [← hwA]; simp
  clear hwA
  generalize hwB : wA.alloc (.cells #[.slice A xs.length c] 32) = wB
  have HB0 : Hid (Bk wB (w.heap.size + 1) 1 (fun _ => .slice A xs.length c)) := Lib.hid (by rw [← hwB, ← sA]; exact Bk.new1 _ _ _)
  have HAB : Hid (Ext wA wB) := Lib.hid (by rw [← hwB]; exact (Ext.refl _).alloc _)
  clear hwB sA
  have HE0 := Lib.hid (HEA.out.trans HAB.out)
  have HA1 := Lib.hid (HA0.out.ext HAB.out)
  clear HAB HEA HA0
  have t0 := HB0.out.cell (k := 0) (by decide)
  by_cases h0 : xs.length = 0
  · have HV : Hid (verF r xs = ([], 1)) := Lib.hid (by unfold verF; rw [if_pos h0])
    have q1 : ((xs.length : Int) == 0) = true := by simp [h0]
    clear h0
    go_wp2_with fail
    go_ret2
    rw [HV.out]
    exact ⟨nilV, rfl, FsAt.nil _, HE0.out⟩
  have q1 : ((xs.length : Int) == 0) = false := by simp [h0]
  have HN0 := Lib.hid h0
  clear h0
  go_upto_region 3 with fail
  clear q1
  have HRL : Hid ((rootF xs).length = 32) := Lib.hid (rootF_len (by have := HN0.out; omega))
  have KB : Hid (∀ W, Ext wB W → (fun w' => Ext wB w' ∧ w'.cell? ⟨w.heap.size + 1, 0, none⟩ = some (.slice A xs.length c) ∧ (ldS 48 (.pointer (some ⟨w.heap.size, 0, none⟩))).run Tryd.prog w' = .ok (idV r) w') W) := Lib.hid (fun W h => ⟨h, (HB0.out.ext h).cell (k := 0) (by decide), (HA1.out.ext h).run_ld48⟩)
  refine wp_region_noPanic ?_
  refine wp_region_held_drew (S := (fun w' => Ext wB w' ∧ w'.cell? ⟨w.heap.size + 1, 0, none⟩ = some (.slice A xs.length c) ∧ (ldS 48 (.pointer (some ⟨w.heap.size, 0, none⟩))).run Tryd.prog w' = .ok (idV r) w')) (by kernel_rfl) ?_ (fun hHeld => ?_)
  · first | assumption | exact KB.out _ (by repeat (first | assumption | exact Ext.refl _ | apply Ext.alloc | apply Ext.drew | apply Ext.drewN))
  refine wpAnyH_take (i := 0) (v := ?_) (oper_at rfl) (by kernel_rfl) (by kernel_rfl) (by kernel_rfl) (fun _ _ _ h => h) (Or.inl ⟨by rfl, ?_⟩) hHeld ?_
  rotate_left
  · (intro ww hSw; (try dsimp only at hSw); go_simp; try (with_reducible rfl))
  try simp only [Act.put, List.setIfInBounds_toArray, List.set_cons_zero, List.set_cons_succ]
  refine wpAnyH_take (i := 2) (v := ?_) (oper_at rfl) (by kernel_rfl) (by kernel_rfl) (by kernel_rfl) (fun _ _ _ h => h) (Or.inl ⟨by rfl, ?_⟩) hHeld ?_
  rotate_left
  · (intro ww hSw; (try dsimp only at hSw); go_simp; try (with_reducible rfl))
  try simp only [Act.put, List.setIfInBounds_toArray, List.set_cons_zero, List.set_cons_succ]
  refine wpAnyH_ready (rs := [1]) (by kernel_rfl) (by simp) (AllReadyH.cons (oper_at rfl) (fun K hK => ?_) AllReadyH.nil)
  go_simp
  go_at_call 33
  refine (C33.out _ (HE0.out.trans (by repeat (first | assumption | exact Ext.refl _ | apply Ext.alloc | apply Ext.drew | apply Ext.drewN)))).mono ?_
  rintro _ w2 ⟨rfl, hE2⟩
  have hX2 : Ext wB w2 := Ext.trans (by repeat (first | assumption | exact Ext.refl _ | apply Ext.alloc | apply Ext.drew | apply Ext.drewN)) hE2
  clear hE2
  refine hK.out _ _ ?_ (fun hHeld => ?_)
  · first | assumption | exact KB.out _ (by repeat (first | assumption | exact Ext.refl _ | apply Ext.alloc | apply Ext.drew | apply Ext.drewN))
  clear hK K
  try simp only [Act.put, List.setIfInBounds_toArray, List.set_cons_zero, List.set_cons_succ]
  refine wpAnyH_take (i := 3) (v := ?_) (oper_at rfl) (by kernel_rfl) (by kernel_rfl) (by kernel_rfl) (fun _ _ _ h => h) (Or.inl ⟨by rfl, ?_⟩) hHeld ?_
  rotate_left
  · (intro ww hSw; (try dsimp only at hSw); go_simp; try (with_reducible rfl))
  try simp only [Act.put, List.setIfInBounds_toArray, List.set_cons_zero, List.set_cons_succ]
  refine wpAnyH_done (by kernel_rfl) ?_ _
  refine NoPanic.normal ?_
  have HX2 := Lib.hid hX2
  have HB2 := Lib.hid (HB0.out.ext hX2)
  clear hX2 KB t0
  by_cases he : rootF xs = r
  · have q1 : (!eqV (rootF xs) r) = false := by rw [he, eqV_self]; rfl
    have HV : Hid (verF r xs = (opF xs, 0)) := Lib.hid (by unfold verF; rw [if_neg HN0.out, if_pos he])
    rw [q1]
    clear q1 he
    have t0 := HB2.out.cell (k := 0) (by decide)
    go_wp2_with fail
    clear t0
    go_loopw [6, 20] (fun t i wr => ∃ (k : Nat) (ps : List PF) (v : Value), k ≤ xs.length ∧ i = iV (k : Int) ∧ t = v ∧ ps.map (·.1) = opF (xs.take k) ∧ ps.length ≤ k ∧ Row 3 wr w.heap.size 40 v (ps.map encF) ∧ NpAt w.heap.size wr ps ∧ Ext w wr) (fun _ i _ => xs.length - (intOf i).toNat)
    case atStart => exact ⟨0, [], nilV, by omega, rfl, rfl, rfl, by simp, Row.nil _ _ _ _, (fun p hp => by cases hp), HE0.out.trans HX2.out⟩
    case round =>
      obtain ⟨k, ps, v, hk, rfl, rfl, hp, hpl, hr, hnp, hX⟩ := hrel
      have HP := Lib.hid hp
      have HPL := Lib.hid hpl
      have HRW := Lib.hid hr
      have HNP := Lib.hid hnp
      have HX := Lib.hid hX
      clear hp hpl hr hnp hX
      by_cases hlt : k < xs.length
      · have q1 : (k : Int) < (xs.length : Int) := by omega
        have q0 : (0 : Int) ≤ (k : Int) := by omega
        obtain ⟨bb, o, A1, c1, rfl, hb, cR, v1, v2, v3⟩ := HR.out wr HX.out k hlt
        obtain ⟨x, hx⟩ : ∃ x, xs.getD k It0 = x := ⟨_, rfl⟩
        rw [hx] at cR v1 v3
        have l1 := run_ld75 cR
        have HF : Hid (xs.take (k + 1) = xs.take k ++ [x]) := Lib.hid (by
          rw [List.take_succ_eq_append_getElem hlt, ← hx, List.getD_eq_getElem?_getD, List.getElem?_eq_getElem hlt]
          rfl)
        have HXO : Hid (ItOk x) := Lib.hid (HOK.out x (by rw [← hx]; exact mem_getD hlt))
        have HSV : Hid (SlB wr (.slice A1 x.vl.length c1) x.vl) := Lib.hid ⟨A1, c1, rfl, v1, v2, v3⟩
        clear hx cR v1 v2 v3
        go_upto_region 9 with fail
        clear l1
        generalize hw4 : wr.alloc (.cells (itA x.nm x.op x.cm (.slice A1 x.vl.length c1) x.sl) 75) = w4
        have HBX : Hid (Bk w4 wr.heap.size 51 (itF x.nm x.op x.cm (.slice A1 x.vl.length c1) x.sl)) := Lib.hid (by rw [← hw4]; exact Bk.new (by decide))
        have HE4 : Hid (Ext wr w4) := Lib.hid (by rw [← hw4]; exact (Ext.refl _).alloc _)
        clear hw4
        have p1 : w4.cell? ⟨wr.heap.size, 1, none⟩ = some (.bool x.op) := HBX.out.cell (by decide)
        have l1 := HBX.out.run_ld75
        cases ho : x.op with
        | true =>
          have CF := Lib.hid (field41_new x _ w4 (HSV.out.ext HE4.out) HXO.out ho)
          have HO : Hid (opF (xs.take (k + 1)) = opF (xs.take k) ++ [⟨x.nm, x.vl, x.sl⟩]) := Lib.hid (by rw [HF.out]; unfold opF; rw [List.filter_append, List.map_append, List.filter_cons_of_pos ho]; rfl)
          rw [ho] at p1
          rw [ho] at l1 CF
          clear ho
          go_wp2_with (first
            | (go_at_call 41; refine CF.out.mono ?_; rintro _ w5 ⟨va, vb, rfl, hs1, hs2, hE5⟩; have HS1 := Lib.hid (hs1.base (Nat.le_trans HX.out.size HE4.out.size)); have HS2 := Lib.hid (hs2.base (Nat.le_trans HX.out.size HE4.out.size)); have HE5 := Lib.hid (HE4.out.trans hE5); obtain ⟨A5, c5, rfl, -, -, -, -⟩ := hs1; obtain ⟨A6, c6, rfl, -, -, -, -⟩ := hs2; clear hE5)
            | (at_builtin; (refine wapp el24 rfl (.tmp 26) (.tmp 29) rfl (w5 := w) (vs := ps.map encF) (us := [encF (⟨x.nm, x.vl, x.sl⟩, (A5, c5), (A6, c6))]) rfl ((HX.out.trans HE5.out).alloc _) (HRW.out.ext (HE5.out.alloc _)) rfl rfl (Wide.one rfl) (vs1 _ _ _) (encF_one [(⟨x.nm, x.vl, x.sl⟩, (A5, c5), (A6, c6))]) (by have := HPL.out; rw [List.length_map]; simp; omega) (by have := HPL.out; rw [List.length_map]; simp; omega) ?_; intro v7 w7 hr7 hE7 hg7 hb7; rw [← List.map_singleton (f := encF), ← List.map_append] at hr7; have HR7 := Lib.hid hr7; have HE7 := Lib.hid hE7; have HG7 := Lib.hid hg7; clear hr7 hE7 hg7 hb7)))
          refine ⟨⟨k + 1, ps ++ [(⟨x.nm, x.vl, x.sl⟩, (A5, c5), (A6, c6))], _, by omega, by go_num, rfl, ?_, by have := HPL.out; simp; omega, HR7.out, ?_, HE7.out⟩, by simp [intOf]; omega⟩
          · rw [HO.out, List.map_append, HP.out]; rfl
          · have hw5 : NpAt w.heap.size w5 (ps ++ [(⟨x.nm, x.vl, x.sl⟩, (A5, c5), (A6, c6))]) := fun p hp => by
              rcases List.mem_append.1 hp with h | h
              · exact (HNP.out.ext HE5.out) p h
              · rw [List.mem_singleton.1 h]; exact ⟨HS1.out, HS2.out⟩
            exact (hw5.ext ((Ext.refl _).alloc _)).grown (HRW.out.ext (HE5.out.alloc _)) (by decide) HG7.out
        | false =>
          have HO : Hid (opF (xs.take (k + 1)) = opF (xs.take k)) := Lib.hid (by rw [HF.out]; unfold opF; rw [List.filter_append, List.map_append, List.filter_cons_of_neg (by simp [ho])]; simp)
          rw [ho] at p1
          clear ho l1
          go_wp2_with fail
          exact ⟨⟨k + 1, ps, _, by omega, by go_num, rfl, by rw [HO.out]; exact HP.out, by have := HPL.out; omega, HRW.out.ext HE4.out, HNP.out.ext HE4.out, HX.out.trans HE4.out⟩, by simp [intOf]; omega⟩
      · obtain rfl : k = xs.length := by omega
        go_wp2_with fail
        go_ret2
        rw [List.take_length] at HP
        rw [HV.out]
        exact ⟨_, rfl, by rw [← HP.out]; exact FsAt.of_row HRW.out.sl HNP.out.fp, HX.out⟩
  · have q1 : (!eqV (rootF xs) r) = true := by
      cases hq : eqV (rootF xs) r with
      | false => rfl
      | true => exact absurd ((eqV_iff HRL.out HR32.out).1 hq) he
    have HV : Hid (verF r xs = ([], 7)) := Lib.hid (by unfold verF; rw [if_neg HN0.out, if_neg he])
    rw [q1]
    clear q1 he
    go_wp2_with fail
    go_ret2
    rw [HV.out]
    exact ⟨nilV, rfl, FsAt.nil _, HE0.out.trans HX2.out⟩
end Go.Proofs.YtjedhndhdkiidaaDoor
