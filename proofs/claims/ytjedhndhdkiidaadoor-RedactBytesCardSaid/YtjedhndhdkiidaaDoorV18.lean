/- Close. -/
import Derived.Test.YtjedhndhdkiidaaDoorV17
namespace Go.Proofs.YtjedhndhdkiidaaDoor
open Go.RowKit
attribute [local go_sem ↓] Go.wp_at_zero Go.wp_at_succ
attribute [local go_sem] baSize baList
attribute [local go_sem ↓] ld75 ld48 ld73 st75 st48 al75 al48 bu75 bu48
attribute [local go_sem] run_al75 run_al48 run_bu48 run_bu75n run_bu75c run_bu75o run_st75n run_st48n
/-- An item, closed if its name is among these. -/
def shutF (ss : List (List UInt8)) (x : It) : It := if x.nm ∈ ss then cloF x else x
theorem shutF_nm (ss : List (List UInt8)) (x : It) : (shutF ss x).nm = x.nm := by unfold shutF; split <;> rfl
theorem shutF_ok {ss : List (List UInt8)} {x : It} (h : ItOk x) : ItOk (shutF ss x) := by unfold shutF; split; exact cloF_ok h; exact h
theorem shutF_cons {ss : List (List UInt8)} {x : It} (s : List UInt8) : shutF (ss ++ [s]) x = if x.nm = s then cloF (shutF ss x) else shutF ss x := by
  unfold shutF
  by_cases h : x.nm = s
  · rw [if_pos (by rw [h]; simp), if_pos h]
    split <;> rfl
  · rw [if_neg h]
    by_cases h2 : x.nm ∈ ss
    · rw [if_pos (by simp [h2]), if_pos h2]
    · rw [if_neg (by simp [h2, h]), if_neg h2]
theorem shut_asc {xs : List It} (h : Asc xs) (ss : List (List UInt8)) : Asc (xs.map (shutF ss)) := by
  unfold Asc at h ⊢
  rw [List.pairwise_map]
  exact h.imp fun {a b} hab => by rw [shutF_nm, shutF_nm]; exact hab
theorem asc_inj {xs : List It} (h : Asc xs) {i j : Nat} (hi : i < xs.length) (hj : j < xs.length) (e : (xs.getD i It0).nm = (xs.getD j It0).nm) : i = j := by
  rcases Nat.lt_trichotomy i j with h1 | h1 | h1
  · have := h.get h1 hj; rw [e] at this; exact absurd this (slt_irrefl _)
  · exact h1
  · have := h.get h1 hi; rw [e] at this; exact absurd this (slt_irrefl _)
theorem shut_step {xs : List It} (ha : Asc xs) {ss : List (List UInt8)} {s : List UInt8} {qs : List PI} {i : Nat} (hq : qs.map (·.1) = xs.map (shutF ss)) (hi : i < qs.length) (hs : (qs.getD i (It0, none, 0)).1.nm = s) : (qs.set i (cloP (qs.getD i (It0, none, 0)))).map (·.1) = xs.map (shutF (ss ++ [s])) := by
  have hl : qs.length = xs.length := by have := congrArg List.length hq; rwa [List.length_map, List.length_map] at this
  have hat : ∀ j, j < xs.length → (qs.getD j (It0, none, 0)).1 = shutF ss (xs.getD j It0) := fun j hj => by
    have := congrArg (fun l => l[j]?) hq
    simp only [List.getElem?_map] at this
    rw [List.getElem?_eq_getElem (by omega), List.getElem?_eq_getElem hj] at this
    rw [List.getD_eq_getElem?_getD, List.getElem?_eq_getElem (by omega), List.getD_eq_getElem?_getD, List.getElem?_eq_getElem hj]
    exact Option.some.inj this
  have hsx : (xs.getD i It0).nm = s := by rw [← shutF_nm ss, ← hat i (by omega), hs]
  apply List.ext_getElem?
  intro j
  rw [List.getElem?_map, List.getElem?_map]
  by_cases hj : j < xs.length
  · rw [List.getElem?_set, List.getElem?_eq_getElem hj]
    have hx : xs[j] = xs.getD j It0 := by rw [List.getD_eq_getElem?_getD, List.getElem?_eq_getElem hj]; rfl
    by_cases hij : i = j
    · subst hij
      rw [if_pos rfl, if_pos hi]
      show some (cloP (qs.getD i (It0, none, 0))).1 = some (shutF (ss ++ [s]) xs[i])
      rw [shutF_cons, hx, if_pos hsx]
      show some (cloF (qs.getD i (It0, none, 0)).1) = _
      rw [hat i hj]
    · rw [if_neg hij, List.getElem?_eq_getElem (by omega)]
      show some qs[j].1 = some (shutF (ss ++ [s]) xs[j])
      have h1 : (qs[j]'(by omega)) = qs.getD j (It0, none, 0) := by rw [List.getD_eq_getElem?_getD, List.getElem?_eq_getElem (by omega)]; rfl
      rw [h1, hat j hj, shutF_cons, hx, if_neg fun e => hij (asc_inj ha (by omega) hj (by rw [hsx, e]))]
  · rw [List.getElem?_eq_none (by rw [List.length_set]; omega), List.getElem?_eq_none (by omega)]
    rfl
/-- What Close gives. -/
def closeF (xs : List It) (ss : List (List UInt8)) : List It × Int := if (ss.all fun s => decide (s ∈ xs.map (·.nm))) = true then (xs.map (shutF ss), 0) else ([], 4)
set_option maxRecDepth 100000 in
set_option maxHeartbeats 4000000 in
theorem close18_ok (xs : List It) (v : Value) (ss : List (List UInt8)) (t : Value) (w : World) (h : DsAt w v xs) (ha : Asc xs) (hx : ∀ x ∈ xs, ItOk x) (hl : xs.length ≤ 100) (ht : SsAt w t ss) (hT : Tab w) : Calls Tryd.prog 18 #[dsV v, t] w (RetD (closeF xs ss).1 (closeF xs ss).2 w) := by
  have HD := Lib.hid h
  have HA := Lib.hid ha
  have HO := Lib.hid hx
  have HSS := Lib.hid ht
  have HT := Lib.hid hT
  obtain ⟨A, c, rfl, -, -, -⟩ := h.read
  obtain ⟨A', c', rfl, m1, m2, m3⟩ := ht.read
  have HSR := Lib.hid m3
  have HSL : Hid (ss.length ≤ 9223372036854775807) := Lib.hid (by unfold maxLen at m2; omega)
  clear h ht hT ha hx m1 m2 m3
  go_enter Tryd.func18, Tryd.ntmps18
  go_upto_region 1 with fail
  generalize hwB : (w.alloc (.cells #[.slice A xs.length c] 32)).alloc (.cells #[.slice none 0 0] 32) = wB
  have hz0 : (w.alloc (.cells #[.slice A xs.length c] 32)).heap.size = w.heap.size + 1 := by simp
  have HB2 : Hid (Bk wB w.heap.size 1 (fun _ => .slice A xs.length c)) := Lib.hid (by rw [← hwB]; exact (Bk.new1 _ _ _).ext ((Ext.refl _).alloc _))
  have HB4 : Hid (Bk wB (w.heap.size + 1) 1 (fun _ => nilV)) := Lib.hid (by rw [← hwB, ← hz0]; exact Bk.new1 _ _ _)
  have HE0 : Hid (Ext w wB) := Lib.hid (by rw [← hwB]; exact ((Ext.refl _).alloc _).alloc _)
  have hzB : w.heap.size + 2 ≤ wB.heap.size := by rw [← hwB]; simp
  clear hwB hz0
  have t0 := HB2.out.cell (k := 0) (by decide)
  go_wp2_with fail
  refine (has30_ok xs _ ss _ wB (HD.out.ext HE0.out) HA.out (by omega) (HSS.out.ext HE0.out)).mono ?_
  rintro _ w1 ⟨rfl, hE1⟩
  have HE1 := Lib.hid (HE0.out.trans hE1)
  have HC2 := Lib.hid (HB2.out.ext hE1)
  have HC4 := Lib.hid (HB4.out.ext hE1)
  have hz1 : w.heap.size + 2 ≤ w1.heap.size := Nat.le_trans hzB hE1.size
  clear hE1 t0 hzB HB2 HB4 HE0
  by_cases hall : (ss.all fun s => decide (s ∈ xs.map (·.nm))) = true
  · rw [hall]
    have HF : Hid ((closeF xs ss).1 = xs.map (shutF ss) ∧ (closeF xs ss).2 = 0) := Lib.hid (by unfold closeF; rw [if_pos hall]; exact ⟨rfl, rfl⟩)
    have HALL : Hid (∀ s ∈ ss, s ∈ xs.map (·.nm)) := Lib.hid (fun s hs => by
      have := List.all_eq_true.1 hall s hs
      exact of_decide_eq_true this)
    clear hall
    have t1 := HC2.out.cell (k := 0) (by decide)
    go_upto_region 4 with (go_at_call 36; refine (clone36_ok xs _ _ (HD.out.ext HE1.out) hl).mono ?_; rintro _ w2 ⟨ps, v2, rfl, hr2, hm2, hp2, hE2⟩; have HR2 := Lib.hid hr2; have HM2 := Lib.hid hm2; have HP2 := Lib.hid hp2; have HE2 := Lib.hid hE2; have HPL : Hid (ps.length = xs.length) := Lib.hid (by rw [← hm2, List.length_map]); obtain ⟨Av, cv, hv, hv2, -⟩ := hr2.form; rw [List.length_map, HPL.out] at hv; subst hv; clear hr2 hm2 hp2 hE2 hv2 t1)
    generalize hw3 : w2.alloc (.cells #[.slice Av xs.length cv] 32) = w3
    have HB6 : Hid (Bk w3 w2.heap.size 1 (fun _ => .slice Av xs.length cv)) := Lib.hid (by rw [← hw3]; exact Bk.new1 _ _ _)
    have HE3 : Hid (Ext w1 w3) := Lib.hid (by rw [← hw3]; exact HE2.out.alloc _)
    have HR3 : Hid (Row 51 w3 w1.heap.size 75 (.slice Av xs.length cv) (ps.map encI)) := Lib.hid (by rw [← hw3]; exact HR2.out.ext ((Ext.refl _).alloc _))
    have hz3 : w2.heap.size + 1 ≤ w3.heap.size := by rw [← hw3]; simp
    have HZ2 : Hid (w1.heap.size ≤ w2.heap.size) := Lib.hid HE2.out.size
    clear hw3
    go_wp2_with fail
    go_loopw [22] (fun i wr => ∃ (k : Nat) (qs : List PI), k ≤ ss.length ∧ i = iV (k : Int) ∧ qs.map (·.1) = xs.map (shutF (ss.take k)) ∧ (∀ p ∈ qs, SlB w1 (.slice p.2.1 p.1.vl.length p.2.2) p.1.vl) ∧ Row 51 wr w1.heap.size 75 (.slice Av xs.length cv) (qs.map encI) ∧ Bk wr (w.heap.size + 1) 1 (fun _ => nilV) ∧ Bk wr w2.heap.size 1 (fun _ => .slice Av xs.length cv) ∧ Ext w1 wr ∧ w2.heap.size + 1 ≤ wr.heap.size) (fun i _ => ss.length - (intOf i).toNat)
    case atStart => exact ⟨0, ps, by omega, rfl, by
      rw [HM2.out, List.take_zero]
      exact (List.map_id xs).symm.trans (List.map_congr_left fun x _ => by unfold shutF; rw [if_neg (by simp)]; rfl), HP2.out, HR3.out, HC4.out.ext HE3.out, HB6.out, HE3.out, hz3⟩
    case round =>
      obtain ⟨k, qs, hk, rfl, hqm, hqs, hr, hb4, hb6, hX, hz5⟩ := hrel
      have HQM := Lib.hid hqm
      have HQS := Lib.hid hqs
      have HRW := Lib.hid hr
      have HB4 := Lib.hid hb4
      have HB6 := Lib.hid hb6
      have HX := Lib.hid hX
      have HQL : Hid (qs.length = xs.length) := Lib.hid (by have := congrArg List.length hqm; rwa [List.length_map, List.length_map] at this)
      clear hqm hqs hr hb4 hb6 hX HR3 HE3
      by_cases hlt : k < ss.length
      · have q1 : (k : Int) < (ss.length : Int) := by omega
        have q0 : (0 : Int) ≤ (k : Int) := by omega
        have q2 : (k : Int) < 9223372036854775807 := by have := HSL.out; omega
        obtain ⟨sb, so, rfl, hsb, hsc⟩ := HSR.out wr (HE1.out.trans HX.out) k hlt
        obtain ⟨s, hs⟩ : ∃ s, ss.getD k [] = s := ⟨_, rfl⟩
        rw [hs] at hsc
        have HSX : Hid (s ∈ xs.map (·.nm)) := Lib.hid (HALL.out s (by rw [← hs, List.getD_eq_getElem?_getD, List.getElem?_eq_getElem hlt]; exact List.getElem_mem hlt))
        have HTK : Hid (ss.take (k + 1) = ss.take k ++ [s]) := Lib.hid (by
          rw [List.take_succ_eq_append_getElem hlt, ← hs, List.getD_eq_getElem?_getD, List.getElem?_eq_getElem hlt]
          rfl)
        have t6 := HB6.out.cell (k := 0) (by decide)
        clear hs
        go_upto_region 8 with (go_at_call 37; refine (find37_ok (qs.map (·.1)) _ s wr (DsAt.of_row2 HRW.out fun p hp => (HQS.out p hp).ext HX.out) (by rw [HQM.out]; exact shut_asc HA.out _) (by rw [List.length_map, HQL.out]; omega)).mono ?_; rintro _ w5 ⟨i, bo, rfl, hi, hor, hE5⟩; have HOR := Lib.hid hor; have HE5 := Lib.hid hE5; clear hor hE5)
        rw [List.length_map, HQL.out] at hi
        have HNM : Hid (i < xs.length ∧ (qs.getD i (It0, none, 0)).1.nm = s) := Lib.hid (by
          have hgd : ∀ j, j < qs.length → (qs.map (·.1)).getD j It0 = (qs.getD j (It0, none, 0)).1 := fun j hj => by
            rw [List.getD_eq_getElem?_getD, List.getElem?_map, List.getElem?_eq_getElem hj, List.getD_eq_getElem?_getD, List.getElem?_eq_getElem hj]; rfl
          rcases HOR.out with ⟨-, h5, h6⟩ | ⟨-, h5⟩
          · rw [List.length_map, HQL.out] at h5
            rw [hgd i (by rw [HQL.out]; exact h5)] at h6
            exact ⟨h5, h6⟩
          · refine absurd ?_ h5
            rw [HQM.out, List.map_map, show List.map ((fun x : It => x.nm) ∘ shutF (List.take k ss)) xs = xs.map (·.nm) from List.map_congr_left fun x _ => shutF_nm _ x]
            exact HSX.out)
        have hil := HNM.out.1
        have HR5 := Lib.hid (HRW.out.ext HE5.out)
        obtain ⟨Ar, cr, er, hrd⟩ := items_read HR5.out
        obtain ⟨b, hb, hbo, hBb, hbl, hty, hcell, hfz⟩ := hrd i (by rw [HQL.out]; exact hil)
        obtain ⟨q, hq⟩ : ∃ q, qs.getD i (It0, none, 0) = q := ⟨_, rfl⟩
        have HQI : Hid (qs.getD i (It0, none, 0) = q) := Lib.hid hq
        rw [hq] at hcell
        have hqmm : q ∈ qs := by rw [← hq]; exact mem_getD (by rw [HQL.out]; exact hil)
        have HQO : Hid (ItOk q.1) := Lib.hid (by
          have h1 : q.1 ∈ qs.map (·.1) := List.mem_map.2 ⟨q, hqmm, rfl⟩
          rw [HQM.out] at h1
          obtain ⟨x, hxm, hxe⟩ := List.mem_map.1 h1
          rw [← hxe]
          exact shutF_ok (HO.out x hxm))
        have HQV : Hid (SlB w1 (.slice q.2.1 q.1.vl.length q.2.2) q.1.vl) := Lib.hid (HQS.out q hqmm)
        obtain rfl : Av = some ⟨b, 0, none⟩ := by
          have e1 : (Value.slice Av xs.length cv) = .slice (some ⟨b, 0, none⟩) qs.length cr := by rw [er, hb]
          simpa using (Value.slice.inj e1).1
        have HBB := Lib.hid (And.intro hbo (And.intro hBb (And.intro hbl hty)))
        have HCL := Lib.hid hcell
        have HFZ := Lib.hid hfz
        have p1 : w5.cell? ⟨w2.heap.size, 0, none⟩ = some (.slice (some ⟨b, 0, none⟩) xs.length cv) := (HB6.out.ext HE5.out).cell (by decide)
        have z1 : (i : Int) < (xs.length : Int) := by omega
        have z0 : (0 : Int) ≤ (i : Int) := by omega
        clear hq hqmm hrd hb hbo hBb hbl hty hcell hfz er t6 hsc
        have KB : Hid (∀ W, Ext w5 W → (fun w' => Ext w5 w' ∧ w'.cell? ⟨w2.heap.size, 0, none⟩ = some (.slice (some ⟨b, 0, none⟩) xs.length cv) ∧ (ldS 75 (.pointer (some ⟨b, i * 51, none⟩))).run Tryd.prog w' = .ok (.agg (itA q.1.nm q.1.op q.1.cm (.slice q.2.1 q.1.vl.length q.2.2) q.1.sl)) w') W) := Lib.hid (fun W h => ⟨h, h.cell p1, run_ld75 (fun j hj => h.cell (HCL.out j hj))⟩)
        refine wp_region_noPanic ?_
        refine wp_region_X (S := (fun w' => Ext w5 w' ∧ w'.cell? ⟨w2.heap.size, 0, none⟩ = some (.slice (some ⟨b, 0, none⟩) xs.length cv) ∧ (ldS 75 (.pointer (some ⟨b, i * 51, none⟩))).run Tryd.prog w' = .ok (.agg (itA q.1.nm q.1.op q.1.cm (.slice q.2.1 q.1.vl.length q.2.2) q.1.sl)) w')) (z := 10) (by kernel_rfl) ?_ (fun hHeld => ?_)
        · first | assumption | exact KB.out _ (by repeat (first | assumption | exact Ext.refl _ | apply Ext.alloc | apply Ext.drew | apply Ext.drewN))
        refine wpAnyX_take (i := 0) (v := ?_) (oper_at rfl) (by kernel_rfl) (by kernel_rfl) (by kernel_rfl) (by kernel_rfl) (fun _ _ _ h => h) (Or.inl ⟨by rfl, ?_⟩) hHeld ?_
        rotate_left
        · (intro ww hSw; (try dsimp only at hSw); go_simp; try (with_reducible rfl))
        try simp only [Act.put, List.setIfInBounds_toArray, List.set_cons_zero, List.set_cons_succ]
        refine wpAnyX_take (i := 1) (v := ?_) (oper_at rfl) (by kernel_rfl) (by kernel_rfl) (by kernel_rfl) (by kernel_rfl) (fun _ _ _ h => h) (Or.inl ⟨by rfl, ?_⟩) hHeld ?_
        rotate_left
        · (intro ww hSw; (try dsimp only at hSw); go_simp; try (with_reducible rfl))
        try simp only [Act.put, List.setIfInBounds_toArray, List.set_cons_zero, List.set_cons_succ]
        refine wpAnyX_take (i := 2) (v := ?_) (oper_at rfl) (by kernel_rfl) (by kernel_rfl) (by kernel_rfl) (by kernel_rfl) (fun _ _ _ h => h) (Or.inl ⟨by rfl, ?_⟩) hHeld ?_
        rotate_left
        · (intro ww hSw; (try dsimp only at hSw); go_simp; try (with_reducible rfl))
        try simp only [Act.put, List.setIfInBounds_toArray, List.set_cons_zero, List.set_cons_succ]
        refine wpAnyX_take (i := 3) (v := ?_) (oper_at rfl) (by kernel_rfl) (by kernel_rfl) (by kernel_rfl) (by kernel_rfl) (fun _ _ _ h => h) (Or.inl ⟨by rfl, ?_⟩) hHeld ?_
        rotate_left
        · (intro ww hSw; (try dsimp only at hSw); go_simp; try (with_reducible rfl))
        try simp only [Act.put, List.setIfInBounds_toArray, List.set_cons_zero, List.set_cons_succ]
        refine wpAnyX_take (i := 4) (v := ?_) (oper_at rfl) (by kernel_rfl) (by kernel_rfl) (by kernel_rfl) (by kernel_rfl) (fun _ _ _ h => h) (Or.inl ⟨by rfl, ?_⟩) hHeld ?_
        rotate_left
        · (intro ww hSw; (try dsimp only at hSw); go_simp; try (with_reducible rfl))
        try simp only [Act.put, List.setIfInBounds_toArray, List.set_cons_zero, List.set_cons_succ]
        refine wpAnyX_take (i := 5) (v := ?_) (oper_at rfl) (by kernel_rfl) (by kernel_rfl) (by kernel_rfl) (by kernel_rfl) (fun _ _ _ h => h) (Or.inl ⟨by rfl, ?_⟩) hHeld ?_
        rotate_left
        · (intro ww hSw; (try dsimp only at hSw); go_simp; try (with_reducible rfl))
        try simp only [Act.put, List.setIfInBounds_toArray, List.set_cons_zero, List.set_cons_succ]
        refine wpAnyX_take (i := 6) (v := ?_) (oper_at rfl) (by kernel_rfl) (by kernel_rfl) (by kernel_rfl) (by kernel_rfl) (fun _ _ _ h => h) (Or.inl ⟨by rfl, ?_⟩) hHeld ?_
        rotate_left
        · (intro ww hSw; (try dsimp only at hSw); go_simp; try (with_reducible rfl))
        try simp only [Act.put, List.setIfInBounds_toArray, List.set_cons_zero, List.set_cons_succ]
        refine wpAnyX_take (i := 7) (v := ?_) (oper_at rfl) (by kernel_rfl) (by kernel_rfl) (by kernel_rfl) (by kernel_rfl) (fun _ _ _ h => h) (Or.inl ⟨by rfl, ?_⟩) hHeld ?_
        rotate_left
        · (intro ww hSw; (try dsimp only at hSw); go_simp; try (with_reducible rfl))
        try simp only [Act.put, List.setIfInBounds_toArray, List.set_cons_zero, List.set_cons_succ]
        refine wpAnyX_ready (rs := [8]) (by kernel_rfl) (by simp) (AllReadyX.cons (by decide) (oper_at rfl) (fun K hK => ?_) AllReadyX.nil)
        go_simp
        go_at_call 32
        refine (closed32_ok q.1 _ _ (HQV.out.ext (HX.out.trans (HE5.out.trans (by repeat (first | assumption | exact Ext.refl _ | apply Ext.alloc | apply Ext.drew | apply Ext.drewN))))) (HT.out.ext (HE1.out.trans (HX.out.trans (HE5.out.trans (by repeat (first | assumption | exact Ext.refl _ | apply Ext.alloc | apply Ext.drew | apply Ext.drewN)))))) HQO.out).mono ?_
        rintro _ w6 ⟨rfl, hE6⟩
        have hX6 : Ext w5 w6 := Ext.trans (by repeat (first | assumption | exact Ext.refl _ | apply Ext.alloc | apply Ext.drew | apply Ext.drewN)) hE6
        have l2 := run_st75at (fun j hj => hX6.cell (HCL.out j hj)) (fun j => by have h1 := Below.frozen hX6 (p := ⟨b, j, none⟩) HBB.out.2.2.1; rw [h1]; exact HFZ.out j) (cloF q.1).nm (cloF q.1).op (cloF q.1).cm none 0 0 (cloF q.1).sl
        clear hE6
        try go_wp2_with fail
        refine hK.out _ _ ?_ (fun hHeld => ?_)
        · first | assumption | exact KB.out _ (by repeat (first | assumption | exact Ext.refl _ | apply Ext.alloc | apply Ext.drew | apply Ext.drewN))
        clear hK K
        try simp only [Act.put, List.setIfInBounds_toArray, List.set_cons_zero, List.set_cons_succ]
        refine wpAnyX_ready (rs := [9]) (by kernel_rfl) (by simp) (AllReadyX.cons (by decide) (oper_at rfl) (fun K hK => ?_) AllReadyX.nil)
        go_simp
        refine hK.out _ _ ?_ (fun hHeld => ?_)
        · first | assumption | exact KB.out _ (by repeat (first | assumption | exact Ext.refl _ | apply Ext.alloc | apply Ext.drew | apply Ext.drewN))
        clear hK K
        try simp only [Act.put, List.setIfInBounds_toArray, List.set_cons_zero, List.set_cons_succ]
        refine wpAnyX_ready (rs := [10]) (by kernel_rfl) (by simp) (AllReadyX.last rfl (oper_at rfl) (fun K hK => ?_))
        go_simp
        refine hK.out _ _ ?_
        clear hK K
        try simp only [Act.put, List.setIfInBounds_toArray, List.set_cons_zero, List.set_cons_succ]
        refine wpAnyX_done (by kernel_rfl) ?_ _
        refine NoPanic.normal ?_
        go_wp2_with fail
        have hbz : b ≠ w2.heap.size := by have := (HR2.out.lt b HBB.out.1).2; omega
        have hb1 := HBB.out.2.1
        have hfar : ∀ x, x ≠ b → (w6.setCells b (i * 51) (encI (cloP q))).heap[x]? = w6.heap[x]? := fun x hx => setCells_far hx _ _ _
        have hX0 := HE5.out.trans hX6
        refine ⟨⟨k + 1, qs.set i (cloP q), by omega, by go_num, ?_, fun p hp => ?_, ?_, (HB4.out.ext hX0).kept (hfar _ (by omega)), (HB6.out.ext hX0).kept (hfar _ (Ne.symm hbz)), Ext.setCells hb1 _ _ (HX.out.trans hX0), Nat.le_trans hz5 (Nat.le_trans hX0.size (Nat.le_of_eq (size_setCells _ _ _ _).symm))⟩, by simp [intOf]; omega⟩
        · rw [HTK.out, ← HQI.out]
          exact shut_step HA.out HQM.out (by rw [HQL.out]; exact hil) HNM.out.2
        · rcases List.mem_or_eq_of_mem_set hp with h5 | h5
          · exact HQS.out p h5
          · subst h5
            exact SlB.nil _
        · have := Row.put (by decide) (HRW.out.ext hX0) HBB.out.1 (j := i) (x := encI (cloP q)) (by rw [List.length_map, HQL.out]; exact hil) (encI_len _)
          rw [← map_set] at this
          exact this
      · obtain rfl : k = ss.length := by omega
        have c6 := HB6.out.cell (k := 0) (by decide)
        have c0 := HB4.out.cell (k := 0) (by decide)
        have f0 := HB4.out.frozen 0
        go_wp2_with fail
        refine bodyPost_ret (res32t Tryd.results18 (HB4.out.set 0 (.slice Av xs.length cv)) (.slice Av xs.length cv) rfl rfl rfl) rfl ?_
        have hfar : ∀ x, x ≠ w.heap.size + 1 → (wr.setCell ⟨w.heap.size + 1, 0, none⟩ (.slice Av xs.length cv)).heap[x]? = wr.heap[x]? := fun x hx => Below.heap_setCell wr _ _ x hx
        have hrow := HRW.out.kept (w' := wr.setCell ⟨w.heap.size + 1, 0, none⟩ (.slice Av xs.length cv)) (fun kk e => hfar kk (by have := (HRW.out.lt kk e).1; omega))
        have hext : Ext w1 (wr.setCell ⟨w.heap.size + 1, 0, none⟩ (.slice Av xs.length cv)) ∨ True := .inr trivial
        have hps : ∀ p ∈ qs, SlB (wr.setCell ⟨w.heap.size + 1, 0, none⟩ (.slice Av xs.length cv)) (.slice p.2.1 p.1.vl.length p.2.2) p.1.vl := fun p hp => ((HQS.out p hp).ext HX.out).far HB4.out (fun i b hi => by intro h; cases h) ((Exg.refl _ _).set (p := ⟨w.heap.size + 1, 0, none⟩) (Or.inl rfl) _)
        rw [HF.out.1, HF.out.2]
        rw [List.take_length] at HQM
        rw [← HQM.out]
        exact ⟨_, rfl, DsAt.of_row2 hrow hps, (HE1.out.trans HX.out).set (by show w.heap.size ≤ w.heap.size + 1; omega) _⟩
  · have ha' : (ss.all fun s => decide (s ∈ xs.map (·.nm))) = false := by simpa using hall
    rw [ha']
    have HF : Hid ((closeF xs ss).1 = [] ∧ (closeF xs ss).2 = 4) := Lib.hid (by unfold closeF; rw [if_neg hall]; exact ⟨rfl, rfl⟩)
    have c0 := HC4.out.cell (k := 0) (by decide)
    have f0 := HC4.out.frozen 0
    clear hall ha'
    go_wp2_with fail
    refine bodyPost_ret (res32t Tryd.results18 (HC4.out.set 0 nilV) nilV rfl rfl rfl) rfl ?_
    rw [HF.out.1, HF.out.2]
    exact ⟨_, rfl, DsAt.nil _, HE1.out.set (by show w.heap.size ≤ w.heap.size + 1; omega) _⟩
end Go.Proofs.YtjedhndhdkiidaaDoor
