/- Looking a choice up: slices.BinarySearchFunc over the choices, find, Get. The reference's get. The reference's get. -/
import Derived.Test.YtehmpbaiefbemaaGreatN17
import Derived.Test.YtehmpbaiefbemaaGreatH3
namespace Go.Proofs.YtehmpbaiefbemaaGreat
open Go.RowKit
attribute [local go_sem ↓] Go.wp_at_zero Go.wp_at_succ
abbrev CsAt (w : World) (v : Value) (cs : List Ch) : Prop := SlAt 7 w v (cs.map encC)
theorem getF_at {cs : List Ch} (ha : AscC cs) {i : Nat} (hi : i < cs.length) {k : Ky} (h : (cs.getD i Ch0).1 = k) : getF cs k = some (cs.getD i Ch0).2 := by
  have hm := getD_memC hi
  cases hg : getF cs k with
  | none => exact absurd (List.mem_map.2 ⟨_, hm, h⟩) (getF_none.1 hg)
  | some v =>
    have h2 := getF_mem hg
    have e := eq_of_key ha.nodup hm h2 (by rw [h])
    rw [e]
/-- What a look at a place says. -/
def RetS (cs : List Ch) (k : Ky) (w : World) (e : Ending) (w' : World) : Prop :=
  ∃ i : Nat, ∃ b : Bool, e = .returned (.tuple #[iV (i : Int), .bool b]) ∧ i ≤ cs.length ∧ (b = true ∧ i < cs.length ∧ (cs.getD i Ch0).1 = k ∨ b = false ∧ k ∉ cs.map (·.1)) ∧ Ext w w'
set_option maxRecDepth 100000 in
set_option maxHeartbeats 4000000 in
theorem bin_any (cs : List Ch) (v : Value) (k : Ky) (w : World) (hv : CsAt w v cs) (ha : AscC cs) (hl : cs.length ≤ 1000) : Calls Tryz.prog 96 #[v, keyV k, .func (.func 97) #[] #[]] w (RetS cs k w) := by
  obtain ⟨A, c, rfl, a1, a2, RA⟩ := hv.read
  rw [List.length_map] at a1 RA ⊢
  have HR := Lib.hid RA
  have HAS := Lib.hid ha
  clear RA ha hv
  obtain ⟨k1, k2, k3, k4⟩ := k
  go_enter Tryz.func96, Tryz.ntmps96
  go_wp2_with fail
  generalize hwB : w.alloc (.cells #[kV k1, iV k2, iV k3, iV k4] 58) = wB
  have hE : Ext w wB := by rw [← hwB]; exact (Ext.refl _).alloc _
  have hsz : w.heap.size < wB.heap.size := by rw [← hwB]; simp
  have t0 : wB.cell? ⟨w.heap.size, 0, none⟩ = some (kV k1) := by rw [← hwB]; exact new_at _ _ _ 0 _ rfl
  have t1 : wB.cell? ⟨w.heap.size, 1, none⟩ = some (iV k2) := by rw [← hwB]; exact new_at _ _ _ 1 _ rfl
  have t2 : wB.cell? ⟨w.heap.size, 2, none⟩ = some (iV k3) := by rw [← hwB]; exact new_at _ _ _ 2 _ rfl
  have t3 : wB.cell? ⟨w.heap.size, 3, none⟩ = some (iV k4) := by rw [← hwB]; exact new_at _ _ _ 3 _ rfl
  have HT := Lib.hid (⟨t0, t1, t2, t3⟩ : _ ∧ _ ∧ _ ∧ _)
  have HE := Lib.hid hE
  clear hwB t0 t1 t2 t3 hE
  go_loopw [9, 10] (fun i j wr => ∃ lo hi : Nat, i = iV (lo : Int) ∧ j = iV (hi : Int) ∧ lo ≤ hi ∧ hi ≤ cs.length ∧ (∀ t, t < lo → klt (cs.getD t Ch0).1 (k1, k2, k3, k4)) ∧ (∀ t, hi ≤ t → t < cs.length → ¬ klt (cs.getD t Ch0).1 (k1, k2, k3, k4)) ∧ Ext wB wr) (fun i j _ => (intOf j).toNat - (intOf i).toNat)
  case atStart => exact ⟨0, cs.length, rfl, rfl, by omega, by omega, fun t ht => by omega, fun t h1 h2 => by omega, Ext.refl _⟩
  case round =>
    obtain ⟨lo, hi, rfl, rfl, hlh, hin, h1, h2, hX⟩ := hrel
    have H1 := Lib.hid h1
    have H2 := Lib.hid h2
    have HX := Lib.hid hX
    obtain ⟨t0, t1, t2, t3⟩ := HT.out
    have t0 := hX.cell t0
    have t1 := hX.cell t1
    have t2 := hX.cell t2
    have t3 := hX.cell t3
    have hsz2 : w.heap.size < wr.heap.size := Nat.lt_of_lt_of_le hsz hX.size
    clear h1 h2 hX
    by_cases hlt : lo < hi
    · obtain ⟨mid, hmid⟩ : ∃ mid, (lo + hi) / 2 = mid := ⟨_, rfl⟩
      have hm1 : mid < cs.length := by omega
      obtain ⟨b, o, rfl, hb, cR⟩ := HR.out wr (HE.out.trans HX.out) mid hm1 (by omega)
      obtain ⟨x, hx⟩ : ∃ x, cs.getD mid Ch0 = x := ⟨_, rfl⟩
      rw [encC_at hm1 x hx] at cR
      have HXK := Lib.hid hx
      have CC := Lib.hid (cmpCK_any x (k1, k2, k3, k4))
      have HN : Hid (cmpK x.1 (k1, k2, k3, k4) < 0 ↔ klt x.1 (k1, k2, k3, k4)) := Lib.hid cmpK_neg
      obtain ⟨cv, hcv⟩ : ∃ cv, cmpK x.1 (k1, k2, k3, k4) = cv := ⟨_, rfl⟩
      rw [hcv] at CC HN
      obtain ⟨⟨x1, x2, x3, x4⟩, x5⟩ := x
      have r0 := cR 0 _ (by omega) rfl
      have r1 := cR 1 _ (by omega) rfl
      have r2 := cR 2 _ (by omega) rfl
      have r3 := cR 3 _ (by omega) rfl
      have r4 := cR 4 _ (by omega) rfl
      have r5 := cR 5 _ (by omega) rfl
      have r6 := cR 6 _ (by omega) rfl
      rw [Nat.add_zero] at r0
      have hmi : ((lo : Int) + (hi : Int)) / 2 = (mid : Int) := by omega
      clear cR hx hcv
      by_cases hc : cv < 0
      · go_upto_region 5 with fail
        refine wp_region_noPanic ?_
        refine wp_region_held_drew (S := (fun w' => Ext wr w' ∧ ∀ b o, b < wr.heap.size → w'.cell? ⟨b, o, none⟩ = wr.cell? ⟨b, o, none⟩)) (by kernel_rfl) ?_ (fun hHeld => ?_)
        · exact Ext.held (by repeat (first | assumption | exact Ext.refl _ | apply Ext.alloc | apply Ext.drew | apply Ext.drewN))
        refine wpAnyH_take (i := 0) (v := ?_) (oper_at rfl) (by kernel_rfl) (by kernel_rfl) (by kernel_rfl) (fun _ _ _ h => h) (Or.inl ⟨by rfl, ?_⟩) hHeld ?_
        rotate_left
        · (intro ww hSw; (try dsimp only at hSw); go_simp; try (with_reducible rfl))
        try simp only [Act.put, List.setIfInBounds_toArray, List.set_cons_zero, List.set_cons_succ]
        refine wpAnyH_take (i := 1) (v := ?_) (oper_at rfl) (by kernel_rfl) (by kernel_rfl) (by kernel_rfl) (fun _ _ _ h => h) (Or.inl ⟨by rfl, ?_⟩) hHeld ?_
        rotate_left
        · (intro ww hSw; (try dsimp only at hSw); go_simp; try (with_reducible rfl))
        try simp only [Act.put, List.setIfInBounds_toArray, List.set_cons_zero, List.set_cons_succ]
        refine wpAnyH_take (i := 2) (v := ?_) (oper_at rfl) (by kernel_rfl) (by kernel_rfl) (by kernel_rfl) (fun _ _ _ h => h) (Or.inl ⟨by rfl, ?_⟩) hHeld ?_
        rotate_left
        · (intro ww hSw; (try dsimp only at hSw); go_simp; try (with_reducible rfl))
        try simp only [Act.put, List.setIfInBounds_toArray, List.set_cons_zero, List.set_cons_succ]
        refine wpAnyH_take (i := 3) (v := ?_) (oper_at rfl) (by kernel_rfl) (by kernel_rfl) (by kernel_rfl) (fun _ _ _ h => h) (Or.inl ⟨by rfl, ?_⟩) hHeld ?_
        rotate_left
        · (intro ww hSw; (try dsimp only at hSw); go_simp; try (with_reducible rfl))
        try simp only [Act.put, List.setIfInBounds_toArray, List.set_cons_zero, List.set_cons_succ]
        refine wpAnyH_take (i := 4) (v := ?_) (oper_at rfl) (by kernel_rfl) (by kernel_rfl) (by kernel_rfl) (fun _ _ _ h => h) (Or.inl ⟨by rfl, ?_⟩) hHeld ?_
        rotate_left
        · (intro ww hSw; (try dsimp only at hSw); go_simp; try (with_reducible rfl))
        try simp only [Act.put, List.setIfInBounds_toArray, List.set_cons_zero, List.set_cons_succ]
        refine wpAnyH_take (i := 5) (v := ?_) (oper_at rfl) (by kernel_rfl) (by kernel_rfl) (by kernel_rfl) (fun _ _ _ h => h) (Or.inl ⟨by rfl, ?_⟩) hHeld ?_
        rotate_left
        · (intro ww hSw; (try dsimp only at hSw); go_simp; try (with_reducible rfl))
        try simp only [Act.put, List.setIfInBounds_toArray, List.set_cons_zero, List.set_cons_succ]
        refine wpAnyH_ready (rs := [6]) (by kernel_rfl) (by simp) (AllReadyH.cons (oper_at rfl) (fun K hK => ?_) AllReadyH.nil)
        go_simp
        go_at_call 97
        refine (CC.out _).mono ?_
        rintro e1 w1 ⟨rfl, hg⟩
        have hE1 : Ext wr w1 := ((Ext.refl _).drew).trans hg.ext
        have HG := Lib.hid hE1
        clear hg
        refine hK.out _ _ ?_ (fun hHeld => ?_)
        · exact Ext.held (by repeat (first | assumption | exact Ext.refl _ | apply Ext.alloc | apply Ext.drew | apply Ext.drewN))
        clear hK K
        try simp only [Act.put, List.setIfInBounds_toArray, List.set_cons_zero, List.set_cons_succ]
        refine wpAnyH_take (i := 7) (v := ?_) (oper_at rfl) (by kernel_rfl) (by kernel_rfl) (by kernel_rfl) (fun _ _ _ h => h) (Or.inl ⟨by rfl, ?_⟩) hHeld ?_
        rotate_left
        · (intro ww hSw; (try dsimp only at hSw); go_simp; try (with_reducible rfl))
        try simp only [Act.put, List.setIfInBounds_toArray, List.set_cons_zero, List.set_cons_succ]
        refine wpAnyH_done (by kernel_rfl) ?_ _
        refine NoPanic.normal ?_
        go_wp2_with fail
        exact ⟨⟨mid + 1, hi, by go_num, rfl, by omega, hin, fun t ht => by
          rcases Nat.lt_or_ge t mid with h | h
          · have h3 := ascC_get HAS.out h hm1
            rw [HXK.out] at h3
            exact klt_trans h3 (HN.out.1 hc)
          · obtain rfl : t = mid := by omega
            rw [HXK.out]
            exact HN.out.1 hc, H2.out, HX.out.trans HG.out⟩, by simp [intOf]; omega⟩
      · go_upto_region 5 with fail
        refine wp_region_noPanic ?_
        refine wp_region_held_drew (S := (fun w' => Ext wr w' ∧ ∀ b o, b < wr.heap.size → w'.cell? ⟨b, o, none⟩ = wr.cell? ⟨b, o, none⟩)) (by kernel_rfl) ?_ (fun hHeld => ?_)
        · exact Ext.held (by repeat (first | assumption | exact Ext.refl _ | apply Ext.alloc | apply Ext.drew | apply Ext.drewN))
        refine wpAnyH_take (i := 0) (v := ?_) (oper_at rfl) (by kernel_rfl) (by kernel_rfl) (by kernel_rfl) (fun _ _ _ h => h) (Or.inl ⟨by rfl, ?_⟩) hHeld ?_
        rotate_left
        · (intro ww hSw; (try dsimp only at hSw); go_simp; try (with_reducible rfl))
        try simp only [Act.put, List.setIfInBounds_toArray, List.set_cons_zero, List.set_cons_succ]
        refine wpAnyH_take (i := 1) (v := ?_) (oper_at rfl) (by kernel_rfl) (by kernel_rfl) (by kernel_rfl) (fun _ _ _ h => h) (Or.inl ⟨by rfl, ?_⟩) hHeld ?_
        rotate_left
        · (intro ww hSw; (try dsimp only at hSw); go_simp; try (with_reducible rfl))
        try simp only [Act.put, List.setIfInBounds_toArray, List.set_cons_zero, List.set_cons_succ]
        refine wpAnyH_take (i := 2) (v := ?_) (oper_at rfl) (by kernel_rfl) (by kernel_rfl) (by kernel_rfl) (fun _ _ _ h => h) (Or.inl ⟨by rfl, ?_⟩) hHeld ?_
        rotate_left
        · (intro ww hSw; (try dsimp only at hSw); go_simp; try (with_reducible rfl))
        try simp only [Act.put, List.setIfInBounds_toArray, List.set_cons_zero, List.set_cons_succ]
        refine wpAnyH_take (i := 3) (v := ?_) (oper_at rfl) (by kernel_rfl) (by kernel_rfl) (by kernel_rfl) (fun _ _ _ h => h) (Or.inl ⟨by rfl, ?_⟩) hHeld ?_
        rotate_left
        · (intro ww hSw; (try dsimp only at hSw); go_simp; try (with_reducible rfl))
        try simp only [Act.put, List.setIfInBounds_toArray, List.set_cons_zero, List.set_cons_succ]
        refine wpAnyH_take (i := 4) (v := ?_) (oper_at rfl) (by kernel_rfl) (by kernel_rfl) (by kernel_rfl) (fun _ _ _ h => h) (Or.inl ⟨by rfl, ?_⟩) hHeld ?_
        rotate_left
        · (intro ww hSw; (try dsimp only at hSw); go_simp; try (with_reducible rfl))
        try simp only [Act.put, List.setIfInBounds_toArray, List.set_cons_zero, List.set_cons_succ]
        refine wpAnyH_take (i := 5) (v := ?_) (oper_at rfl) (by kernel_rfl) (by kernel_rfl) (by kernel_rfl) (fun _ _ _ h => h) (Or.inl ⟨by rfl, ?_⟩) hHeld ?_
        rotate_left
        · (intro ww hSw; (try dsimp only at hSw); go_simp; try (with_reducible rfl))
        try simp only [Act.put, List.setIfInBounds_toArray, List.set_cons_zero, List.set_cons_succ]
        refine wpAnyH_ready (rs := [6]) (by kernel_rfl) (by simp) (AllReadyH.cons (oper_at rfl) (fun K hK => ?_) AllReadyH.nil)
        go_simp
        go_at_call 97
        refine (CC.out _).mono ?_
        rintro e1 w1 ⟨rfl, hg⟩
        have hE1 : Ext wr w1 := ((Ext.refl _).drew).trans hg.ext
        have HG := Lib.hid hE1
        clear hg
        refine hK.out _ _ ?_ (fun hHeld => ?_)
        · exact Ext.held (by repeat (first | assumption | exact Ext.refl _ | apply Ext.alloc | apply Ext.drew | apply Ext.drewN))
        clear hK K
        try simp only [Act.put, List.setIfInBounds_toArray, List.set_cons_zero, List.set_cons_succ]
        refine wpAnyH_take (i := 7) (v := ?_) (oper_at rfl) (by kernel_rfl) (by kernel_rfl) (by kernel_rfl) (fun _ _ _ h => h) (Or.inl ⟨by rfl, ?_⟩) hHeld ?_
        rotate_left
        · (intro ww hSw; (try dsimp only at hSw); go_simp; try (with_reducible rfl))
        try simp only [Act.put, List.setIfInBounds_toArray, List.set_cons_zero, List.set_cons_succ]
        refine wpAnyH_done (by kernel_rfl) ?_ _
        refine NoPanic.normal ?_
        go_wp2_with fail
        exact ⟨⟨lo, mid, rfl, by go_num, by omega, by omega, H1.out, fun t ht htn h => by
          rcases Nat.lt_or_ge mid t with h4 | h4
          · have h3 := ascC_get HAS.out h4 htn
            rw [HXK.out] at h3
            exact hc (HN.out.2 (klt_trans h3 h))
          · obtain rfl : t = mid := by omega
            rw [HXK.out] at h
            exact hc (HN.out.2 h), HX.out.trans HG.out⟩, by simp [intOf]; omega⟩
    · obtain rfl : hi = lo := by omega
      have HNO : Hid (∀ t, t < cs.length → (cs.getD t Ch0).1 = (k1, k2, k3, k4) → t = hi) := Lib.hid (fun t ht e => by
        rcases Nat.lt_trichotomy t hi with h | h | h
        · have := H1.out t h
          rw [e] at this
          exact absurd this (klt_irrefl _)
        · exact h
        · have h5 : hi < cs.length := by omega
          have h3 := ascC_get HAS.out h ht
          rw [e] at h3
          exact absurd h3 (H2.out hi (by omega) h5))
      have HNK : Hid (¬ (hi < cs.length ∧ (cs.getD hi Ch0).1 = (k1, k2, k3, k4)) → (k1, k2, k3, k4) ∉ cs.map (·.1)) := Lib.hid (fun hno hm => by
        obtain ⟨y, hy, hye⟩ := List.mem_map.1 hm
        obtain ⟨i, hi', he⟩ := List.getElem_of_mem hy
        have e : cs.getD i Ch0 = y := by rw [List.getD_eq_getElem?_getD, List.getElem?_eq_getElem hi']; exact he
        have := HNO.out i hi' (by rw [e]; exact hye)
        subst this
        exact hno ⟨hi', by rw [e]; exact hye⟩)
      by_cases hn : hi < cs.length
      · obtain ⟨b, o, rfl, hb, cR⟩ := HR.out wr (HE.out.trans HX.out) hi hn (by omega)
        obtain ⟨x, hx⟩ : ∃ x, cs.getD hi Ch0 = x := ⟨_, rfl⟩
        rw [encC_at hn x hx] at cR
        have HXK := Lib.hid hx
        have CC := Lib.hid (cmpCK_any x (k1, k2, k3, k4))
        have HN : Hid (cmpK x.1 (k1, k2, k3, k4) = 0 ↔ x.1 = (k1, k2, k3, k4)) := Lib.hid cmpK_zero
        obtain ⟨cv, hcv⟩ : ∃ cv, cmpK x.1 (k1, k2, k3, k4) = cv := ⟨_, rfl⟩
        rw [hcv] at CC HN
        obtain ⟨⟨x1, x2, x3, x4⟩, x5⟩ := x
        have r0 := cR 0 _ (by omega) rfl
        have r1 := cR 1 _ (by omega) rfl
        have r2 := cR 2 _ (by omega) rfl
        have r3 := cR 3 _ (by omega) rfl
        have r4 := cR 4 _ (by omega) rfl
        have r5 := cR 5 _ (by omega) rfl
        have r6 := cR 6 _ (by omega) rfl
        rw [Nat.add_zero] at r0
        clear cR hx hcv
        by_cases hc : cv = 0
        · go_upto_region 8 with fail
          refine wp_region_noPanic ?_
          refine wp_region_held_drew (S := (fun w' => Ext wr w' ∧ ∀ b o, b < wr.heap.size → w'.cell? ⟨b, o, none⟩ = wr.cell? ⟨b, o, none⟩)) (by kernel_rfl) ?_ (fun hHeld => ?_)
          · exact Ext.held (by repeat (first | assumption | exact Ext.refl _ | apply Ext.alloc | apply Ext.drew | apply Ext.drewN))
          refine wpAnyH_take (i := 0) (v := ?_) (oper_at rfl) (by kernel_rfl) (by kernel_rfl) (by kernel_rfl) (fun _ _ _ h => h) (Or.inl ⟨by rfl, ?_⟩) hHeld ?_
          rotate_left
          · (intro ww hSw; (try dsimp only at hSw); go_simp; try (with_reducible rfl))
          try simp only [Act.put, List.setIfInBounds_toArray, List.set_cons_zero, List.set_cons_succ]
          refine wpAnyH_take (i := 1) (v := ?_) (oper_at rfl) (by kernel_rfl) (by kernel_rfl) (by kernel_rfl) (fun _ _ _ h => h) (Or.inl ⟨by rfl, ?_⟩) hHeld ?_
          rotate_left
          · (intro ww hSw; (try dsimp only at hSw); go_simp; try (with_reducible rfl))
          try simp only [Act.put, List.setIfInBounds_toArray, List.set_cons_zero, List.set_cons_succ]
          refine wpAnyH_take (i := 2) (v := ?_) (oper_at rfl) (by kernel_rfl) (by kernel_rfl) (by kernel_rfl) (fun _ _ _ h => h) (Or.inl ⟨by rfl, ?_⟩) hHeld ?_
          rotate_left
          · (intro ww hSw; (try dsimp only at hSw); go_simp; try (with_reducible rfl))
          try simp only [Act.put, List.setIfInBounds_toArray, List.set_cons_zero, List.set_cons_succ]
          refine wpAnyH_take (i := 3) (v := ?_) (oper_at rfl) (by kernel_rfl) (by kernel_rfl) (by kernel_rfl) (fun _ _ _ h => h) (Or.inl ⟨by rfl, ?_⟩) hHeld ?_
          rotate_left
          · (intro ww hSw; (try dsimp only at hSw); go_simp; try (with_reducible rfl))
          try simp only [Act.put, List.setIfInBounds_toArray, List.set_cons_zero, List.set_cons_succ]
          refine wpAnyH_take (i := 4) (v := ?_) (oper_at rfl) (by kernel_rfl) (by kernel_rfl) (by kernel_rfl) (fun _ _ _ h => h) (Or.inl ⟨by rfl, ?_⟩) hHeld ?_
          rotate_left
          · (intro ww hSw; (try dsimp only at hSw); go_simp; try (with_reducible rfl))
          try simp only [Act.put, List.setIfInBounds_toArray, List.set_cons_zero, List.set_cons_succ]
          refine wpAnyH_take (i := 5) (v := ?_) (oper_at rfl) (by kernel_rfl) (by kernel_rfl) (by kernel_rfl) (fun _ _ _ h => h) (Or.inl ⟨by rfl, ?_⟩) hHeld ?_
          rotate_left
          · (intro ww hSw; (try dsimp only at hSw); go_simp; try (with_reducible rfl))
          try simp only [Act.put, List.setIfInBounds_toArray, List.set_cons_zero, List.set_cons_succ]
          refine wpAnyH_take (i := 6) (v := ?_) (oper_at rfl) (by kernel_rfl) (by kernel_rfl) (by kernel_rfl) (fun _ _ _ h => h) (Or.inl ⟨by rfl, ?_⟩) hHeld ?_
          rotate_left
          · (intro ww hSw; (try dsimp only at hSw); go_simp; try (with_reducible rfl))
          try simp only [Act.put, List.setIfInBounds_toArray, List.set_cons_zero, List.set_cons_succ]
          refine wpAnyH_take (i := 7) (v := ?_) (oper_at rfl) (by kernel_rfl) (by kernel_rfl) (by kernel_rfl) (fun _ _ _ h => h) (Or.inl ⟨by rfl, ?_⟩) hHeld ?_
          rotate_left
          · (intro ww hSw; (try dsimp only at hSw); go_simp; try (with_reducible rfl))
          try simp only [Act.put, List.setIfInBounds_toArray, List.set_cons_zero, List.set_cons_succ]
          refine wpAnyH_take (i := 8) (v := ?_) (oper_at rfl) (by kernel_rfl) (by kernel_rfl) (by kernel_rfl) (fun _ _ _ h => h) (Or.inl ⟨by rfl, ?_⟩) hHeld ?_
          rotate_left
          · (intro ww hSw; (try dsimp only at hSw); go_simp; try (with_reducible rfl))
          try simp only [Act.put, List.setIfInBounds_toArray, List.set_cons_zero, List.set_cons_succ]
          refine wpAnyH_take (i := 9) (v := ?_) (oper_at rfl) (by kernel_rfl) (by kernel_rfl) (by kernel_rfl) (fun _ _ _ h => h) (Or.inl ⟨by rfl, ?_⟩) hHeld ?_
          rotate_left
          · (intro ww hSw; (try dsimp only at hSw); go_simp; try (with_reducible rfl))
          try simp only [Act.put, List.setIfInBounds_toArray, List.set_cons_zero, List.set_cons_succ]
          refine wpAnyH_take (i := 10) (v := ?_) (oper_at rfl) (by kernel_rfl) (by kernel_rfl) (by kernel_rfl) (fun _ _ _ h => h) (Or.inl ⟨by rfl, ?_⟩) hHeld ?_
          rotate_left
          · (intro ww hSw; (try dsimp only at hSw); go_simp; try (with_reducible rfl))
          try simp only [Act.put, List.setIfInBounds_toArray, List.set_cons_zero, List.set_cons_succ]
          refine wpAnyH_ready (rs := [11]) (by kernel_rfl) (by simp) (AllReadyH.cons (oper_at rfl) (fun K hK => ?_) AllReadyH.nil)
          go_simp
          go_at_call 97
          refine (CC.out _).mono ?_
          rintro e1 w1 ⟨rfl, hg⟩
          have hE1 : Ext wr w1 := ((Ext.refl _).drew).trans hg.ext
          have HG := Lib.hid hE1
          clear hg
          refine hK.out _ _ ?_ (fun hHeld => ?_)
          · exact Ext.held (by repeat (first | assumption | exact Ext.refl _ | apply Ext.alloc | apply Ext.drew | apply Ext.drewN))
          clear hK K
          try simp only [Act.put, List.setIfInBounds_toArray, List.set_cons_zero, List.set_cons_succ]
          refine wpAnyH_take (i := 12) (v := ?_) (oper_at rfl) (by kernel_rfl) (by kernel_rfl) (by kernel_rfl) (fun _ _ _ h => h) (Or.inl ⟨by rfl, ?_⟩) hHeld ?_
          rotate_left
          · (intro ww hSw; (try dsimp only at hSw); go_simp; try (with_reducible rfl))
          try simp only [Act.put, List.setIfInBounds_toArray, List.set_cons_zero, List.set_cons_succ]
          refine wpAnyH_take (i := 13) (v := ?_) (oper_at rfl) (by kernel_rfl) (by kernel_rfl) (by kernel_rfl) (fun _ _ _ h => h) (Or.inl ⟨by rfl, ?_⟩) hHeld ?_
          rotate_left
          · (intro ww hSw; (try dsimp only at hSw); go_simp; try (with_reducible rfl))
          try simp only [Act.put, List.setIfInBounds_toArray, List.set_cons_zero, List.set_cons_succ]
          refine wpAnyH_take (i := 14) (v := ?_) (oper_at rfl) (by kernel_rfl) (by kernel_rfl) (by kernel_rfl) (fun _ _ _ h => h) (Or.inl ⟨by rfl, ?_⟩) hHeld ?_
          rotate_left
          · (intro ww hSw; (try dsimp only at hSw); go_simp; try (with_reducible rfl))
          try simp only [Act.put, List.setIfInBounds_toArray, List.set_cons_zero, List.set_cons_succ]
          refine wpAnyH_take (i := 15) (v := ?_) (oper_at rfl) (by kernel_rfl) (by kernel_rfl) (by kernel_rfl) (fun _ _ _ h => h) (Or.inl ⟨by rfl, ?_⟩) hHeld ?_
          rotate_left
          · (intro ww hSw; (try dsimp only at hSw); go_simp; try (with_reducible rfl))
          try simp only [Act.put, List.setIfInBounds_toArray, List.set_cons_zero, List.set_cons_succ]
          refine wpAnyH_done (by kernel_rfl) ?_ _
          refine NoPanic.normal ?_
          go_wp2_with fail
          go_ret2
          exact ⟨hi, true, by simp, by omega, .inl ⟨rfl, hn, by rw [HXK.out]; exact HN.out.1 hc⟩, HE.out.trans (HX.out.trans HG.out)⟩
        · go_upto_region 8 with fail
          refine wp_region_noPanic ?_
          refine wp_region_held_drew (S := (fun w' => Ext wr w' ∧ ∀ b o, b < wr.heap.size → w'.cell? ⟨b, o, none⟩ = wr.cell? ⟨b, o, none⟩)) (by kernel_rfl) ?_ (fun hHeld => ?_)
          · exact Ext.held (by repeat (first | assumption | exact Ext.refl _ | apply Ext.alloc | apply Ext.drew | apply Ext.drewN))
          refine wpAnyH_take (i := 0) (v := ?_) (oper_at rfl) (by kernel_rfl) (by kernel_rfl) (by kernel_rfl) (fun _ _ _ h => h) (Or.inl ⟨by rfl, ?_⟩) hHeld ?_
          rotate_left
          · (intro ww hSw; (try dsimp only at hSw); go_simp; try (with_reducible rfl))
          try simp only [Act.put, List.setIfInBounds_toArray, List.set_cons_zero, List.set_cons_succ]
          refine wpAnyH_take (i := 1) (v := ?_) (oper_at rfl) (by kernel_rfl) (by kernel_rfl) (by kernel_rfl) (fun _ _ _ h => h) (Or.inl ⟨by rfl, ?_⟩) hHeld ?_
          rotate_left
          · (intro ww hSw; (try dsimp only at hSw); go_simp; try (with_reducible rfl))
          try simp only [Act.put, List.setIfInBounds_toArray, List.set_cons_zero, List.set_cons_succ]
          refine wpAnyH_take (i := 2) (v := ?_) (oper_at rfl) (by kernel_rfl) (by kernel_rfl) (by kernel_rfl) (fun _ _ _ h => h) (Or.inl ⟨by rfl, ?_⟩) hHeld ?_
          rotate_left
          · (intro ww hSw; (try dsimp only at hSw); go_simp; try (with_reducible rfl))
          try simp only [Act.put, List.setIfInBounds_toArray, List.set_cons_zero, List.set_cons_succ]
          refine wpAnyH_take (i := 3) (v := ?_) (oper_at rfl) (by kernel_rfl) (by kernel_rfl) (by kernel_rfl) (fun _ _ _ h => h) (Or.inl ⟨by rfl, ?_⟩) hHeld ?_
          rotate_left
          · (intro ww hSw; (try dsimp only at hSw); go_simp; try (with_reducible rfl))
          try simp only [Act.put, List.setIfInBounds_toArray, List.set_cons_zero, List.set_cons_succ]
          refine wpAnyH_take (i := 4) (v := ?_) (oper_at rfl) (by kernel_rfl) (by kernel_rfl) (by kernel_rfl) (fun _ _ _ h => h) (Or.inl ⟨by rfl, ?_⟩) hHeld ?_
          rotate_left
          · (intro ww hSw; (try dsimp only at hSw); go_simp; try (with_reducible rfl))
          try simp only [Act.put, List.setIfInBounds_toArray, List.set_cons_zero, List.set_cons_succ]
          refine wpAnyH_take (i := 5) (v := ?_) (oper_at rfl) (by kernel_rfl) (by kernel_rfl) (by kernel_rfl) (fun _ _ _ h => h) (Or.inl ⟨by rfl, ?_⟩) hHeld ?_
          rotate_left
          · (intro ww hSw; (try dsimp only at hSw); go_simp; try (with_reducible rfl))
          try simp only [Act.put, List.setIfInBounds_toArray, List.set_cons_zero, List.set_cons_succ]
          refine wpAnyH_take (i := 6) (v := ?_) (oper_at rfl) (by kernel_rfl) (by kernel_rfl) (by kernel_rfl) (fun _ _ _ h => h) (Or.inl ⟨by rfl, ?_⟩) hHeld ?_
          rotate_left
          · (intro ww hSw; (try dsimp only at hSw); go_simp; try (with_reducible rfl))
          try simp only [Act.put, List.setIfInBounds_toArray, List.set_cons_zero, List.set_cons_succ]
          refine wpAnyH_take (i := 7) (v := ?_) (oper_at rfl) (by kernel_rfl) (by kernel_rfl) (by kernel_rfl) (fun _ _ _ h => h) (Or.inl ⟨by rfl, ?_⟩) hHeld ?_
          rotate_left
          · (intro ww hSw; (try dsimp only at hSw); go_simp; try (with_reducible rfl))
          try simp only [Act.put, List.setIfInBounds_toArray, List.set_cons_zero, List.set_cons_succ]
          refine wpAnyH_take (i := 8) (v := ?_) (oper_at rfl) (by kernel_rfl) (by kernel_rfl) (by kernel_rfl) (fun _ _ _ h => h) (Or.inl ⟨by rfl, ?_⟩) hHeld ?_
          rotate_left
          · (intro ww hSw; (try dsimp only at hSw); go_simp; try (with_reducible rfl))
          try simp only [Act.put, List.setIfInBounds_toArray, List.set_cons_zero, List.set_cons_succ]
          refine wpAnyH_take (i := 9) (v := ?_) (oper_at rfl) (by kernel_rfl) (by kernel_rfl) (by kernel_rfl) (fun _ _ _ h => h) (Or.inl ⟨by rfl, ?_⟩) hHeld ?_
          rotate_left
          · (intro ww hSw; (try dsimp only at hSw); go_simp; try (with_reducible rfl))
          try simp only [Act.put, List.setIfInBounds_toArray, List.set_cons_zero, List.set_cons_succ]
          refine wpAnyH_take (i := 10) (v := ?_) (oper_at rfl) (by kernel_rfl) (by kernel_rfl) (by kernel_rfl) (fun _ _ _ h => h) (Or.inl ⟨by rfl, ?_⟩) hHeld ?_
          rotate_left
          · (intro ww hSw; (try dsimp only at hSw); go_simp; try (with_reducible rfl))
          try simp only [Act.put, List.setIfInBounds_toArray, List.set_cons_zero, List.set_cons_succ]
          refine wpAnyH_ready (rs := [11]) (by kernel_rfl) (by simp) (AllReadyH.cons (oper_at rfl) (fun K hK => ?_) AllReadyH.nil)
          go_simp
          go_at_call 97
          refine (CC.out _).mono ?_
          rintro e1 w1 ⟨rfl, hg⟩
          have hE1 : Ext wr w1 := ((Ext.refl _).drew).trans hg.ext
          have HG := Lib.hid hE1
          clear hg
          refine hK.out _ _ ?_ (fun hHeld => ?_)
          · exact Ext.held (by repeat (first | assumption | exact Ext.refl _ | apply Ext.alloc | apply Ext.drew | apply Ext.drewN))
          clear hK K
          try simp only [Act.put, List.setIfInBounds_toArray, List.set_cons_zero, List.set_cons_succ]
          refine wpAnyH_take (i := 12) (v := ?_) (oper_at rfl) (by kernel_rfl) (by kernel_rfl) (by kernel_rfl) (fun _ _ _ h => h) (Or.inl ⟨by rfl, ?_⟩) hHeld ?_
          rotate_left
          · (intro ww hSw; (try dsimp only at hSw); go_simp; try (with_reducible rfl))
          try simp only [Act.put, List.setIfInBounds_toArray, List.set_cons_zero, List.set_cons_succ]
          refine wpAnyH_take (i := 13) (v := ?_) (oper_at rfl) (by kernel_rfl) (by kernel_rfl) (by kernel_rfl) (fun _ _ _ h => h) (Or.inl ⟨by rfl, ?_⟩) hHeld ?_
          rotate_left
          · (intro ww hSw; (try dsimp only at hSw); go_simp; try (with_reducible rfl))
          try simp only [Act.put, List.setIfInBounds_toArray, List.set_cons_zero, List.set_cons_succ]
          refine wpAnyH_take (i := 14) (v := ?_) (oper_at rfl) (by kernel_rfl) (by kernel_rfl) (by kernel_rfl) (fun _ _ _ h => h) (Or.inl ⟨by rfl, ?_⟩) hHeld ?_
          rotate_left
          · (intro ww hSw; (try dsimp only at hSw); go_simp; try (with_reducible rfl))
          try simp only [Act.put, List.setIfInBounds_toArray, List.set_cons_zero, List.set_cons_succ]
          refine wpAnyH_take (i := 15) (v := ?_) (oper_at rfl) (by kernel_rfl) (by kernel_rfl) (by kernel_rfl) (fun _ _ _ h => h) (Or.inl ⟨by rfl, ?_⟩) hHeld ?_
          rotate_left
          · (intro ww hSw; (try dsimp only at hSw); go_simp; try (with_reducible rfl))
          try simp only [Act.put, List.setIfInBounds_toArray, List.set_cons_zero, List.set_cons_succ]
          refine wpAnyH_done (by kernel_rfl) ?_ _
          refine NoPanic.normal ?_
          go_wp2_with fail
          go_ret2
          exact ⟨hi, false, by simp [hc], by omega, .inr ⟨rfl, HNK.out fun h => hc (by rw [HXK.out] at h; exact HN.out.2 h.2)⟩, HE.out.trans (HX.out.trans HG.out)⟩
      · go_upto_region 8 with fail
        refine wp_region_noPanic ?_
        refine wp_region_held_drew (S := (fun w' => Ext wr w' ∧ ∀ b o, b < wr.heap.size → w'.cell? ⟨b, o, none⟩ = wr.cell? ⟨b, o, none⟩)) (by kernel_rfl) ?_ (fun hHeld => ?_)
        · exact Ext.held (by repeat (first | assumption | exact Ext.refl _ | apply Ext.alloc | apply Ext.drew | apply Ext.drewN))
        refine wpAnyH_take (i := 0) (v := ?_) (oper_at rfl) (by kernel_rfl) (by kernel_rfl) (by kernel_rfl) (fun _ _ _ h => h) (Or.inl ⟨by rfl, ?_⟩) hHeld ?_
        rotate_left
        · (intro ww hSw; (try dsimp only at hSw); go_simp; try (with_reducible rfl))
        try simp only [Act.put, List.setIfInBounds_toArray, List.set_cons_zero, List.set_cons_succ]
        refine wpAnyH_take (i := 1) (v := ?_) (oper_at rfl) (by kernel_rfl) (by kernel_rfl) (by kernel_rfl) (fun _ _ _ h => h) (Or.inl ⟨by rfl, ?_⟩) hHeld ?_
        rotate_left
        · (intro ww hSw; (try dsimp only at hSw); go_simp; try (with_reducible rfl))
        try simp only [Act.put, List.setIfInBounds_toArray, List.set_cons_zero, List.set_cons_succ]
        refine wpAnyH_take (i := 2) (v := ?_) (oper_at rfl) (by kernel_rfl) (by kernel_rfl) (by kernel_rfl) (fun _ _ _ h => h) (Or.inl ⟨by rfl, ?_⟩) hHeld ?_
        rotate_left
        · (intro ww hSw; (try dsimp only at hSw); go_simp; try (with_reducible rfl))
        try simp only [Act.put, List.setIfInBounds_toArray, List.set_cons_zero, List.set_cons_succ]
        refine wpAnyH_take (i := 3) (v := ?_) (oper_at rfl) (by kernel_rfl) (by kernel_rfl) (by kernel_rfl) (fun _ _ _ h => h) (Or.inl ⟨by rfl, ?_⟩) hHeld ?_
        rotate_left
        · (intro ww hSw; (try dsimp only at hSw); go_simp; try (with_reducible rfl))
        try simp only [Act.put, List.setIfInBounds_toArray, List.set_cons_zero, List.set_cons_succ]
        refine wpAnyH_take (i := 4) (v := ?_) (oper_at rfl) (by kernel_rfl) (by kernel_rfl) (by kernel_rfl) (fun _ _ _ h => h) (Or.inl ⟨by rfl, ?_⟩) hHeld ?_
        rotate_left
        · (intro ww hSw; (try dsimp only at hSw); go_simp; try (with_reducible rfl))
        try simp only [Act.put, List.setIfInBounds_toArray, List.set_cons_zero, List.set_cons_succ]
        refine wpAnyH_take (i := 5) (v := undef) (oper_at rfl) (by kernel_rfl) (by kernel_rfl) (by kernel_rfl) (fun _ _ _ h => h) (Or.inr ⟨by rfl, rfl⟩) hHeld ?_
        try simp only [Act.put, List.setIfInBounds_toArray, List.set_cons_zero, List.set_cons_succ]
        refine wpAnyH_take (i := 6) (v := undef) (oper_at rfl) (by kernel_rfl) (by kernel_rfl) (by kernel_rfl) (fun _ _ _ h => h) (Or.inr ⟨by rfl, rfl⟩) hHeld ?_
        try simp only [Act.put, List.setIfInBounds_toArray, List.set_cons_zero, List.set_cons_succ]
        refine wpAnyH_take (i := 7) (v := undef) (oper_at rfl) (by kernel_rfl) (by kernel_rfl) (by kernel_rfl) (fun _ _ _ h => h) (Or.inr ⟨by rfl, rfl⟩) hHeld ?_
        try simp only [Act.put, List.setIfInBounds_toArray, List.set_cons_zero, List.set_cons_succ]
        refine wpAnyH_take (i := 8) (v := undef) (oper_at rfl) (by kernel_rfl) (by kernel_rfl) (by kernel_rfl) (fun _ _ _ h => h) (Or.inr ⟨by rfl, rfl⟩) hHeld ?_
        try simp only [Act.put, List.setIfInBounds_toArray, List.set_cons_zero, List.set_cons_succ]
        refine wpAnyH_take (i := 9) (v := undef) (oper_at rfl) (by kernel_rfl) (by kernel_rfl) (by kernel_rfl) (fun _ _ _ h => h) (Or.inr ⟨by rfl, rfl⟩) hHeld ?_
        try simp only [Act.put, List.setIfInBounds_toArray, List.set_cons_zero, List.set_cons_succ]
        refine wpAnyH_take (i := 10) (v := undef) (oper_at rfl) (by kernel_rfl) (by kernel_rfl) (by kernel_rfl) (fun _ _ _ h => h) (Or.inr ⟨by rfl, rfl⟩) hHeld ?_
        try simp only [Act.put, List.setIfInBounds_toArray, List.set_cons_zero, List.set_cons_succ]
        refine wpAnyH_take (i := 11) (v := undef) (oper_at rfl) (by kernel_rfl) (by kernel_rfl) (by kernel_rfl) (fun _ _ _ h => h) (Or.inr ⟨by rfl, rfl⟩) hHeld ?_
        try simp only [Act.put, List.setIfInBounds_toArray, List.set_cons_zero, List.set_cons_succ]
        refine wpAnyH_take (i := 12) (v := undef) (oper_at rfl) (by kernel_rfl) (by kernel_rfl) (by kernel_rfl) (fun _ _ _ h => h) (Or.inr ⟨by rfl, rfl⟩) hHeld ?_
        try simp only [Act.put, List.setIfInBounds_toArray, List.set_cons_zero, List.set_cons_succ]
        refine wpAnyH_take (i := 13) (v := ?_) (oper_at rfl) (by kernel_rfl) (by kernel_rfl) (by kernel_rfl) (fun _ _ _ h => h) (Or.inl ⟨by rfl, ?_⟩) hHeld ?_
        rotate_left
        · (intro ww hSw; (try dsimp only at hSw); go_simp; try (with_reducible rfl))
        try simp only [Act.put, List.setIfInBounds_toArray, List.set_cons_zero, List.set_cons_succ]
        refine wpAnyH_take (i := 14) (v := ?_) (oper_at rfl) (by kernel_rfl) (by kernel_rfl) (by kernel_rfl) (fun _ _ _ h => h) (Or.inl ⟨by rfl, ?_⟩) hHeld ?_
        rotate_left
        · (intro ww hSw; (try dsimp only at hSw); go_simp; try (with_reducible rfl))
        try simp only [Act.put, List.setIfInBounds_toArray, List.set_cons_zero, List.set_cons_succ]
        refine wpAnyH_take (i := 15) (v := ?_) (oper_at rfl) (by kernel_rfl) (by kernel_rfl) (by kernel_rfl) (fun _ _ _ h => h) (Or.inl ⟨by rfl, ?_⟩) hHeld ?_
        rotate_left
        · (intro ww hSw; (try dsimp only at hSw); go_simp; try (with_reducible rfl))
        try simp only [Act.put, List.setIfInBounds_toArray, List.set_cons_zero, List.set_cons_succ]
        refine wpAnyH_done (by kernel_rfl) ?_ _
        refine NoPanic.normal ?_
        go_wp2_with fail
        go_ret2
        exact ⟨hi, false, by simp, by omega, .inr ⟨rfl, HNK.out fun h => hn h.1⟩, HE.out.trans HX.out.drew⟩
theorem find82_any (cs : List Ch) (v : Value) (k : Ky) (w : World) (hv : CsAt w v cs) (ha : AscC cs) (hl : cs.length ≤ 1000) : Calls Tryz.prog 71 #[.agg #[v], keyV k] w (RetS cs k w) := by
  have CB := Lib.hid (fun W (hW : Ext w W) => bin_any cs v k W (hv.ext hW) ha hl)
  obtain ⟨A, c, rfl, -, -, -⟩ := hv.read
  rw [List.length_map] at *
  obtain ⟨k1, k2, k3, k4⟩ := k
  clear hv
  go_enter Tryz.func71, Tryz.ntmps71
  go_wp2_with fail
  refine (CB.out _ (((Ext.refl _).alloc _).alloc _)).mono ?_
  rintro e1 w1 ⟨i, b, rfl, hi, hb, hE⟩
  have HB := Lib.hid hb
  have HE := Lib.hid hE
  clear hb hE CB
  go_wp2_with fail
  go_ret2
  exact ⟨i, b, rfl, hi, HB.out, (((Ext.refl _).alloc _).alloc _).trans HE.out⟩
/-- The choice that a look gives. -/
def chO (k : Ky) : Option Int → Ch
  | some d => (k, d)
  | none => Ch0
def RetT (cs : List Ch) (k : Ky) (w : World) (e : Ending) (w' : World) : Prop := e = .returned (.tuple #[chV (chO k (getF cs k)), .bool (getF cs k).isSome]) ∧ Ext w w'
theorem chV_0 : chV Ch0 = .agg #[.int .u8 0, iV 0, iV 0, iV 0, iV 0, iV 0, .slice none 0 0] := rfl
theorem le2 (n : Nat) : n ≤ n + 1 + 1 := by omega
theorem res75 {fn : Func} {p u : Tmp} (h : fn.results = #[.cell p 61, .tmp u]) {tmps : Array Value} {w : World} {g : Nat} {v0 v1 v2 v3 v4 v5 v6 x : Value} (hp : tmps.getD p undef = .pointer (some ⟨g, 0, none⟩)) (hx : tmps.getD u undef = x)
    (c0 : w.cell? ⟨g, 0, none⟩ = some v0) (c1 : w.cell? ⟨g, 1, none⟩ = some v1) (c2 : w.cell? ⟨g, 2, none⟩ = some v2) (c3 : w.cell? ⟨g, 3, none⟩ = some v3) (c4 : w.cell? ⟨g, 4, none⟩ = some v4) (c5 : w.cell? ⟨g, 5, none⟩ = some v5) (c6 : w.cell? ⟨g, 6, none⟩ = some v6) :
    (results fn tmps).run Tryz.prog w = .ok (.tuple #[.agg #[v0, v1, v2, v3, v4, v5, v6], x]) w := by
  rw [results_cell_tmp h, hp, hx]
  go_simp
set_option maxHeartbeats 1000000 in
set_option maxRecDepth 100000 in
theorem get61_any (cs : List Ch) (v : Value) (k : Ky) (w : World) (hv : CsAt w v cs) (ha : AscC cs) (hl : cs.length ≤ 1000) : Calls Tryz.prog 37 #[.agg #[v], keyV k] w (RetT cs k w) := by
  have CB := Lib.hid (fun W (hW : Ext w W) => find82_any cs v k W (hv.ext hW) ha hl)
  obtain ⟨A, c, rfl, a1, a2, RA⟩ := hv.read
  rw [List.length_map] at *
  have HR := Lib.hid RA
  have HAS := Lib.hid ha
  clear hv RA ha
  obtain ⟨k1, k2, k3, k4⟩ := k
  go_enter Tryz.func37, Tryz.ntmps37
  go_upto_region 1 with fail
  generalize hwB : ((w.alloc (.cells #[.slice A cs.length c] 51)).alloc (.cells #[kV k1, iV k2, iV k3, iV k4] 58)).alloc (.cells #[.int .u8 0, iV 0, iV 0, iV 0, iV 0, iV 0, .slice none 0 0] 61) = wB
  have h1 : (w.alloc (.cells #[.slice A cs.length c] 51)).heap.size = w.heap.size + 1 := by simp
  have h2 : ((w.alloc (.cells #[.slice A cs.length c] 51)).alloc (.cells #[kV k1, iV k2, iV k3, iV k4] 58)).heap.size = w.heap.size + 2 := by simp
  have E2 : Ext (w.alloc (.cells #[.slice A cs.length c] 51)) wB := by rw [← hwB]; exact ((Ext.refl _).alloc _).alloc _
  have E3 : Ext ((w.alloc (.cells #[.slice A cs.length c] 51)).alloc (.cells #[kV k1, iV k2, iV k3, iV k4] 58)) wB := by rw [← hwB]; exact (Ext.refl _).alloc _
  have hE : Ext w wB := ((Ext.refl _).alloc _).trans E2
  have s0 : wB.cell? ⟨w.heap.size, 0, none⟩ = some (.slice A cs.length c) := E2.cell (new_at _ _ _ 0 _ rfl)
  have t0 : wB.cell? ⟨w.heap.size + 1, 0, none⟩ = some (kV k1) := by rw [← h1]; exact E3.cell (new_at _ _ _ 0 _ rfl)
  have t1 : wB.cell? ⟨w.heap.size + 1, 1, none⟩ = some (iV k2) := by rw [← h1]; exact E3.cell (new_at _ _ _ 1 _ rfl)
  have t2 : wB.cell? ⟨w.heap.size + 1, 2, none⟩ = some (iV k3) := by rw [← h1]; exact E3.cell (new_at _ _ _ 2 _ rfl)
  have t3 : wB.cell? ⟨w.heap.size + 1, 3, none⟩ = some (iV k4) := by rw [← h1]; exact E3.cell (new_at _ _ _ 3 _ rfl)
  have hb : blkOf wB (w.heap.size + 2) = #[.int .u8 0, iV 0, iV 0, iV 0, iV 0, iV 0, .slice none 0 0] := by rw [← hwB, ← h2]; exact blkOf_new
  have hs : wB.heap.size = w.heap.size + 3 := by rw [← hwB]; simp
  have HB := Lib.hid hb
  have HE := Lib.hid hE
  clear hwB h1 h2 E2 E3 hE hb
  go_wp2_with fail
  refine (CB.out _ HE.out).mono ?_
  rintro e1 w1 ⟨i, b, rfl, hi, hb, hE1⟩
  have hb1 : blkOf w1 (w.heap.size + 2) = #[.int .u8 0, iV 0, iV 0, iV 0, iV 0, iV 0, .slice none 0 0] := (blkOf_ext hE1 (by omega)).trans HB.out
  have s0' := hE1.cell s0
  have u0 : w1.cell? ⟨w.heap.size + 2, 0, none⟩ = some (.int .u8 0) := blkOf_cell (by rw [hb1]; rfl)
  have u1 : w1.cell? ⟨w.heap.size + 2, 1, none⟩ = some (iV 0) := blkOf_cell (by rw [hb1]; rfl)
  have u2 : w1.cell? ⟨w.heap.size + 2, 2, none⟩ = some (iV 0) := blkOf_cell (by rw [hb1]; rfl)
  have u3 : w1.cell? ⟨w.heap.size + 2, 3, none⟩ = some (iV 0) := blkOf_cell (by rw [hb1]; rfl)
  have u4 : w1.cell? ⟨w.heap.size + 2, 4, none⟩ = some (iV 0) := blkOf_cell (by rw [hb1]; rfl)
  have u5 : w1.cell? ⟨w.heap.size + 2, 5, none⟩ = some (iV 0) := blkOf_cell (by rw [hb1]; rfl)
  have u6 : w1.cell? ⟨w.heap.size + 2, 6, none⟩ = some (.slice none 0 0) := blkOf_cell (by rw [hb1]; rfl)
  have uf : ∀ i, w1.frozen? ⟨w.heap.size + 2, i, none⟩ = false := fun i => blkOf_frozen (by rw [hb1]; decide)
  have hs1 : w.heap.size + 2 < w1.heap.size := by have := hE1.size; omega
  have HE1 := Lib.hid (HE.out.trans hE1)
  clear hE1 hb1 s0 t0 t1 t2 t3 CB HB HE
  rcases hb with ⟨rfl, hi2, hk⟩ | ⟨rfl, hk⟩
  · have HG : Hid (getF cs (k1, k2, k3, k4) = some (cs.getD i Ch0).2) := Lib.hid (getF_at HAS.out hi2 hk)
    obtain ⟨b, o, rfl, hb, cR⟩ := HR.out w1 HE1.out i hi2 (by omega)
    obtain ⟨x, hx⟩ : ∃ x, cs.getD i Ch0 = x := ⟨_, rfl⟩
    rw [encC_at hi2 x hx] at cR
    rw [hx] at hk HG
    have CL := Lib.hid (clone_any x)
    obtain ⟨⟨x1, x2, x3, x4⟩, x5⟩ := x
    simp only [Prod.mk.injEq] at hk
    obtain ⟨rfl, rfl, rfl, rfl⟩ := hk
    have r0 := cR 0 _ (by omega) rfl
    have r1 := cR 1 _ (by omega) rfl
    have r2 := cR 2 _ (by omega) rfl
    have r3 := cR 3 _ (by omega) rfl
    have r4 := cR 4 _ (by omega) rfl
    have r5 := cR 5 _ (by omega) rfl
    have r6 := cR 6 _ (by omega) rfl
    rw [Nat.add_zero] at r0
    clear cR hx
    go_wp2_with fail
    refine (CL.out _).mono ?_
    rintro e2 w2 ⟨rfl, hE2⟩
    have u0 := hE2.cell u0
    have u1 := hE2.cell u1
    have u2 := hE2.cell u2
    have u3 := hE2.cell u3
    have u4 := hE2.cell u4
    have u5 := hE2.cell u5
    have u6 := hE2.cell u6
    have uf : ∀ i, w2.frozen? ⟨w.heap.size + 2, i, none⟩ = false := fun i => (Below.frozen hE2 (p := ⟨w.heap.size + 2, i, none⟩) hs1).trans (uf i)
    have hs2 : w.heap.size + 2 < w2.heap.size := Nat.lt_of_lt_of_le hs1 hE2.size
    have HE2 := Lib.hid (HE1.out.trans hE2)
    clear hE2 r0 r1 r2 r3 r4 r5 r6 CL HR
    go_wp2_with fail
    refine bodyPost_ret (res75 Tryz.results37 (g := w.heap.size + 2) (v0 := kV x1) (v1 := iV x2) (v2 := iV x3) (v3 := iV x4) (v4 := iV 0) (v5 := iV x5) (v6 := .slice none 0 0) rfl rfl (by go_simp) (by go_simp) (by go_simp) (by go_simp) (by go_simp) (by go_simp) (by go_simp)) rfl ?_
    rw [RetT, HG.out]
    exact ⟨rfl, (((((((HE2.out.set (le2 _) _).set (le2 _) _).set (le2 _) _).set (le2 _) _).set (le2 _) _).set (le2 _) _).set (le2 _) _)⟩
  · have HG : Hid (getF cs (k1, k2, k3, k4) = none) := Lib.hid (getF_none.2 hk)
    clear hk
    go_wp2_with fail
    refine bodyPost_ret (res75 Tryz.results37 (g := w.heap.size + 2) (v0 := .int .u8 0) (v1 := iV 0) (v2 := iV 0) (v3 := iV 0) (v4 := iV 0) (v5 := iV 0) (v6 := .slice none 0 0) rfl rfl (by go_simp) (by go_simp) (by go_simp) (by go_simp) (by go_simp) (by go_simp) (by go_simp)) rfl ?_
    rw [RetT, HG.out]
    exact ⟨rfl, (((((((HE1.out.set (le2 _) _).set (le2 _) _).set (le2 _) _).set (le2 _) _).set (le2 _) _).set (le2 _) _).set (le2 _) _)⟩
end Go.Proofs.YtehmpbaiefbemaaGreat
namespace Go.Proofs.YtehmpbaiefbemaaGreat
open Go.RowKit
attribute [local go_sem ↓] Go.wp_at_zero Go.wp_at_succ
attribute [local go_sem ↓] eq73
attribute [local go_sem] run_eq73
set_option maxRecDepth 100000 in
set_option maxHeartbeats 4000000 in
theorem get110_any (cl : List Ch) (cs : Array Value) (v : Value) (k : Ky) (w : World) (_ : cs.size = 83) (hc : cs[0]? = some v) (hv : CsAt w v cl) (ha : AscC cl) : Calls Tryz.prog 84 #[.agg cs, keyV k] w (RetT cl k w) := by
  obtain ⟨A, c, rfl, a1, a2, RA⟩ := hv.read
  rw [List.length_map] at a1 RA hc
  have HR := Lib.hid RA
  have HAS := Lib.hid ha
  have hl : cl.length ≤ 9223372036854775807 := by unfold maxLen at a2; omega
  obtain ⟨k1, k2, k3, k4⟩ := k
  clear RA ha hv
  go_enter Tryz.func84, Tryz.ntmps84
  go_upto_region 1 with fail
  generalize hwB : ((w.alloc (.cells cs 32)).alloc (.cells #[kV k1, iV k2, iV k3, iV k4] 58)).alloc (.cells #[.int .u8 0, iV 0, iV 0, iV 0, iV 0, iV 0, .slice none 0 0] 61) = wB
  have h1 : (w.alloc (.cells cs 32)).heap.size = w.heap.size + 1 := by simp
  have h2 : ((w.alloc (.cells cs 32)).alloc (.cells #[kV k1, iV k2, iV k3, iV k4] 58)).heap.size = w.heap.size + 2 := by simp
  have E2 : Ext (w.alloc (.cells cs 32)) wB := by rw [← hwB]; exact ((Ext.refl _).alloc _).alloc _
  have E3 : Ext ((w.alloc (.cells cs 32)).alloc (.cells #[kV k1, iV k2, iV k3, iV k4] 58)) wB := by rw [← hwB]; exact (Ext.refl _).alloc _
  have hE : Ext w wB := ((Ext.refl _).alloc _).trans E2
  have s0 : wB.cell? ⟨w.heap.size, 0, none⟩ = some (.slice A cl.length c) := E2.cell (new_at _ _ _ 0 _ hc)
  have t0 : wB.cell? ⟨w.heap.size + 1, 0, none⟩ = some (kV k1) := by rw [← h1]; exact E3.cell (new_at _ _ _ 0 _ rfl)
  have t1 : wB.cell? ⟨w.heap.size + 1, 1, none⟩ = some (iV k2) := by rw [← h1]; exact E3.cell (new_at _ _ _ 1 _ rfl)
  have t2 : wB.cell? ⟨w.heap.size + 1, 2, none⟩ = some (iV k3) := by rw [← h1]; exact E3.cell (new_at _ _ _ 2 _ rfl)
  have t3 : wB.cell? ⟨w.heap.size + 1, 3, none⟩ = some (iV k4) := by rw [← h1]; exact E3.cell (new_at _ _ _ 3 _ rfl)
  have hb : blkOf wB (w.heap.size + 2) = #[.int .u8 0, iV 0, iV 0, iV 0, iV 0, iV 0, .slice none 0 0] := by rw [← hwB, ← h2]; exact blkOf_new
  have hs : wB.heap.size = w.heap.size + 3 := by rw [← hwB]; simp
  have HT := Lib.hid (⟨t0, t1, t2, t3⟩ : _ ∧ _ ∧ _ ∧ _)
  have HB := Lib.hid hb
  have HE := Lib.hid hE
  clear hwB h1 h2 E2 E3 hE hb t0 t1 t2 t3 hc
  go_wp2_with fail
  go_loopw [11] (fun i wr => ∃ j : Nat, j ≤ cl.length ∧ i = iV (j : Int) ∧ (∀ a, a < j → (cl.getD a Ch0).1 ≠ (k1, k2, k3, k4)) ∧ Ext wB wr) (fun i _ => cl.length - (intOf i).toNat)
  case atStart => exact ⟨0, by omega, rfl, fun a h => by omega, Ext.refl _⟩
  case round =>
    obtain ⟨j, hj, rfl, hn, hX⟩ := hrel
    have HN := Lib.hid hn
    have HX := Lib.hid hX
    have hbr : blkOf wr (w.heap.size + 2) = #[.int .u8 0, iV 0, iV 0, iV 0, iV 0, iV 0, .slice none 0 0] := (blkOf_ext hX (by omega)).trans HB.out
    have hsr : w.heap.size + 2 < wr.heap.size := by have := hX.size; omega
    have hsr1 : w.heap.size + 1 < wr.heap.size := by omega
    have HEX := Lib.hid (HE.out.trans hX)
    have HBR := Lib.hid hbr
    clear hX hn hbr s0
    have u0 : wr.cell? ⟨w.heap.size + 2, 0, none⟩ = some (.int .u8 0) := blkOf_cell (by rw [HBR.out]; rfl)
    have u1 : wr.cell? ⟨w.heap.size + 2, 1, none⟩ = some (iV 0) := blkOf_cell (by rw [HBR.out]; rfl)
    have u2 : wr.cell? ⟨w.heap.size + 2, 2, none⟩ = some (iV 0) := blkOf_cell (by rw [HBR.out]; rfl)
    have u3 : wr.cell? ⟨w.heap.size + 2, 3, none⟩ = some (iV 0) := blkOf_cell (by rw [HBR.out]; rfl)
    have u4 : wr.cell? ⟨w.heap.size + 2, 4, none⟩ = some (iV 0) := blkOf_cell (by rw [HBR.out]; rfl)
    have u5 : wr.cell? ⟨w.heap.size + 2, 5, none⟩ = some (iV 0) := blkOf_cell (by rw [HBR.out]; rfl)
    have u6 : wr.cell? ⟨w.heap.size + 2, 6, none⟩ = some (.slice none 0 0) := blkOf_cell (by rw [HBR.out]; rfl)
    have uf : ∀ i, wr.frozen? ⟨w.heap.size + 2, i, none⟩ = false := fun i => blkOf_frozen (by rw [HBR.out]; decide)
    by_cases hlt : j < cl.length
    · obtain ⟨g, o, rfl, hb, cR⟩ := HR.out wr HEX.out j hlt (by omega)
      obtain ⟨x, hx⟩ : ∃ x, cl.getD j Ch0 = x := ⟨_, rfl⟩
      rw [encC_at hlt x hx] at cR
      have HXK := Lib.hid hx
      obtain ⟨⟨x1, x2, x3, x4⟩, x5⟩ := x
      have r0 := cR 0 _ (by omega) rfl
      have r1 := cR 1 _ (by omega) rfl
      have r2 := cR 2 _ (by omega) rfl
      have r3 := cR 3 _ (by omega) rfl
      have r4 := cR 4 _ (by omega) rfl
      have r5 := cR 5 _ (by omega) rfl
      have r6 := cR 6 _ (by omega) rfl
      rw [Nat.add_zero] at r0
      obtain ⟨t0, t1, t2, t3⟩ := HT.out
      have t0 := HX.out.cell t0
      have t1 := HX.out.cell t1
      have t2 := HX.out.cell t2
      have t3 := HX.out.cell t3
      clear cR hx
      cases hbb : eqB (x1, x2, x3, x4) (k1, k2, k3, k4) with
      | true =>
        have hk : ((x1, x2, x3, x4) : Ky) = (k1, k2, k3, k4) := by unfold eqB at hbb; exact of_decide_eq_true hbb
        have HG : Hid (getF cl (k1, k2, k3, k4) = some x5) := Lib.hid (by
          have := getF_at HAS.out hlt (k := (k1, k2, k3, k4)) (by rw [HXK.out]; exact hk)
          rwa [HXK.out] at this)
        simp only [Prod.mk.injEq] at hk
        obtain ⟨rfl, rfl, rfl, rfl⟩ := hk
        have HBB := Lib.hid hbb
        go_wp2_with fail
        refine bodyPost_ret (res75 Tryz.results84 (g := w.heap.size + 2) (v0 := kV x1) (v1 := iV x2) (v2 := iV x3) (v3 := iV x4) (v4 := iV 0) (v5 := iV x5) (v6 := .slice none 0 0) rfl rfl (by go_simp) (by go_simp) (by go_simp) (by go_simp) (by go_simp) (by go_simp) (by go_simp)) rfl ?_
        rw [RetT, HG.out]
        refine ⟨rfl, ?_⟩
        repeat (first | with_reducible exact HEX.out | with_reducible apply Ext.alloc | with_reducible refine Ext.set ?_ (by first | exact le2 _ | (show _ ≤ _; omega)) _)
      | false =>
        have hk : ((x1, x2, x3, x4) : Ky) ≠ (k1, k2, k3, k4) := by unfold eqB at hbb; exact of_decide_eq_false hbb
        have HK := Lib.hid hk
        have HBB := Lib.hid hbb
        clear hk
        go_wp2_with fail
        exact ⟨⟨j + 1, by omega, by go_num, fun a ha => by
          rcases Nat.lt_or_ge a j with h | h
          · exact HN.out a h
          · obtain rfl : a = j := by omega
            rw [HXK.out]
            exact HK.out, HX.out.alloc _⟩, by simp [intOf]; omega⟩
    · obtain rfl : j = cl.length := by omega
      have HG : Hid (getF cl (k1, k2, k3, k4) = none) := Lib.hid (getF_none.2 fun hm => by
        obtain ⟨y, hy, hye⟩ := List.mem_map.1 hm
        obtain ⟨i, hi', he⟩ := List.getElem_of_mem hy
        have e : cl.getD i Ch0 = y := by rw [List.getD_eq_getElem?_getD, List.getElem?_eq_getElem hi']; exact he
        exact HN.out i hi' (by rw [e]; exact hye))
      go_wp2_with fail
      refine bodyPost_ret (res75 Tryz.results84 (g := w.heap.size + 2) (v0 := .int .u8 0) (v1 := iV 0) (v2 := iV 0) (v3 := iV 0) (v4 := iV 0) (v5 := iV 0) (v6 := .slice none 0 0) rfl rfl (by go_simp) (by go_simp) (by go_simp) (by go_simp) (by go_simp) (by go_simp) (by go_simp)) rfl ?_
      rw [RetT, HG.out]
      refine ⟨rfl, ?_⟩
      repeat (first | with_reducible exact HEX.out | with_reducible apply Ext.alloc | with_reducible refine Ext.set ?_ (by first | exact le2 _ | (show _ ≤ _; omega)) _)
end Go.Proofs.YtehmpbaiefbemaaGreat
