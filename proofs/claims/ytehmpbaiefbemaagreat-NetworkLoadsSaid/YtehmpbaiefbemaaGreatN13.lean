/- ref.Held. sameKeys at equal lists of keys. The comparator of keys in Consumed. -/
import Derived.Test.YtehmpbaiefbemaaGreatN10
namespace Go.Proofs.YtehmpbaiefbemaaGreat
open Go.RowKit
attribute [local go_sem ↓] eq44
attribute [local go_sem] run_eq44
def RetH (hs : List Jh) (m : Ms) (w : World) (e : Ending) (w' : World) : Prop := ∃ r : Bool, e = .returned (.bool r) ∧ (r = true ↔ HasM hs m) ∧ Ext w w'
theorem held21_any (hs : List Jh) (cs : Array Value) (v : Value) (m : Ms) (w : World) (_ : cs.size = 83) (hc : cs[1]? = some v) (hv : HsAt w v hs) : Calls Tryz.prog 85 #[.agg cs, .agg #[iV m.1, iV m.2.1, iV m.2.2]] w (RetH hs m w) := by
  obtain ⟨sl, ar⟩ := hv
  obtain ⟨A, c, rfl, a1, a2, RA⟩ := sl.read
  rw [List.length_map] at a1 RA hc
  have HR := Lib.hid RA
  have HA := Lib.hid ar
  have hl : hs.length ≤ 9223372036854775807 := by unfold maxLen at a2; omega
  obtain ⟨m1, m2, m3⟩ := m
  simp only []
  clear RA ar sl
  go_enter Tryz.func85, Tryz.ntmps85
  go_upto_region 1 with fail
  generalize hwB : (w.alloc (.cells cs 32)).alloc (.cells #[iV m1, iV m2, iV m3] 79) = wB
  have hE : Ext w wB := by rw [← hwB]; exact ((Ext.refl _).alloc _).alloc _
  have hs2 : wB.heap.size = w.heap.size + 2 := by rw [← hwB]; simp
  have k1 : wB.cell? ⟨w.heap.size, 1, none⟩ = some (.slice A hs.length c) := by rw [← hwB]; exact Ext.cell ((Ext.refl _).alloc _) (new_at _ _ _ 1 _ hc)
  have hh : (w.alloc (.cells cs 32)).heap.size = w.heap.size + 1 := by simp
  have hM : MsAt wB (w.heap.size + 1) (m1, m2, m3) := by rw [← hwB, ← hh]; exact ⟨new_at _ _ _ 0 _ rfl, new_at _ _ _ 1 _ rfl, new_at _ _ _ 2 _ rfl⟩
  have HM := Lib.hid hM
  have HE := Lib.hid hE
  clear hwB hh hM hE hc
  go_wp2_with fail
  go_loopw [10] (fun i wr => ∃ k : Nat, k ≤ hs.length ∧ i = iV (k : Int) ∧ (∀ a, a < k → (hs.getD a Jh0).1 ≠ (m1, m2, m3)) ∧ Ext wB wr) (fun i _ => hs.length - (intOf i).toNat)
  case atStart => exact ⟨0, by omega, rfl, fun a h => by omega, Ext.refl _⟩
  case round =>
    obtain ⟨k, hk, rfl, hn, hX⟩ := hrel
    have HN := Lib.hid hn
    have HX := Lib.hid hX
    clear hX hn
    by_cases hlt : k < hs.length
    · obtain ⟨g, o, rfl, hb, cR⟩ := HR.out wr (HE.out.trans HX.out) k hlt (by omega)
      obtain ⟨x, hx⟩ : ∃ x, hs.getD k Jh0 = x := ⟨_, rfl⟩
      rw [encH_at hlt x hx] at cR
      have g1 := HA.out _ (getD_memH hlt)
      have hmem := getD_memH hlt
      rw [hx] at g1 hmem
      have HME := Lib.hid hmem
      have HXK := Lib.hid hx
      obtain ⟨Ax, dx, ex, -, -, -⟩ := g1.sl.read
      rw [List.length_map] at ex
      obtain ⟨⟨x1, x2, x3⟩, xs, xv⟩ := x
      simp only [] at ex
      subst ex
      have r0 := cR 0 _ (by omega) rfl
      have r1 := cR 1 _ (by omega) rfl
      have r2 := cR 2 _ (by omega) rfl
      have r3 := cR 3 _ (by omega) rfl
      rw [Nat.add_zero] at r0
      obtain ⟨t0, t1, t2⟩ := HM.out.ext HX.out
      simp only [] at t0 t1 t2
      have hsz : w.heap.size + 1 < wr.heap.size := by have := HX.out.size; omega
      clear cR hx g1 hmem
      cases hbb : eqM (x1, x2, x3) (m1, m2, m3) with
      | true =>
        have HBB := Lib.hid hbb
        go_wp2_with fail
        go_ret
        exact ⟨true, rfl, ⟨fun _ => ⟨_, HME.out, eqM_true HBB.out⟩, fun _ => rfl⟩, (HE.out.trans HX.out).alloc _⟩
      | false =>
        have HBB := Lib.hid hbb
        go_wp2_with fail
        exact ⟨⟨k + 1, by omega, by go_num, fun a ha => by
          rcases Nat.lt_or_ge a k with h | h
          · exact HN.out a h
          · obtain rfl : a = k := by omega
            rw [HXK.out]
            exact eqM_false HBB.out, HX.out.alloc _⟩, by simp [intOf]; omega⟩
    · obtain rfl : k = hs.length := by omega
      go_wp2_with fail
      go_ret
      refine ⟨false, rfl, ⟨fun h => (by cases h), ?_⟩, HE.out.trans HX.out⟩
      rintro ⟨h, hh, he⟩
      obtain ⟨i, hi, hie⟩ := List.getElem_of_mem hh
      refine absurd ?_ (HN.out i hi)
      rw [List.getD_eq_getElem?_getD, List.getElem?_eq_getElem hi]
      simpa [hie] using he
end Go.Proofs.YtehmpbaiefbemaaGreat
namespace Go.Proofs.YtehmpbaiefbemaaGreat
open Go.RowKit
def KsAt (w : World) (v : Value) (ks : List Ky) : Prop := SlAt 4 w v (ks.map encK)
theorem keys_at {xs : List Ky} {k : Nat} (h : k < xs.length) (x : Ky) (e : xs.getD k (0, 0, 0, 0) = x) : (xs.map encK).getD k [] = encK x := by
  rw [← e, List.getD_eq_getElem?_getD, List.getD_eq_getElem?_getD, List.getElem?_map, List.getElem?_eq_getElem h]; rfl
theorem sameKeys_ok (xs : List Ky) (v u : Value) (w : World) (hv : KsAt w v xs) (hu : KsAt w u xs) (hl : xs.length ≤ 100) : Calls Tryz.prog 10 #[v, u] w (RetV (.bool true) w) := by
  obtain ⟨A, c, rfl, a1, a2, RA⟩ := hv.read
  obtain ⟨B, d, rfl, b1, b2, RB⟩ := hu.read
  rw [List.length_map] at a1 RA b1 RB ⊢
  have HA := Lib.hid RA
  have HB := Lib.hid RB
  clear RA RB hv hu
  go_enter Tryz.func10, Tryz.ntmps10
  go_wp2_with fail
  go_loopw [13] (fun i wr => ∃ k : Nat, k ≤ xs.length ∧ i = iV (k : Int) ∧ Ext w wr) (fun i _ => xs.length - (intOf i).toNat)
  case atStart => exact ⟨0, by omega, rfl, Ext.refl _⟩
  case round =>
    obtain ⟨k, hk, rfl, hE⟩ := hrel
    have HX := Lib.hid hE
    clear hE
    by_cases hlt : k < xs.length
    · obtain ⟨b, o, rfl, hb, cA⟩ := HA.out wr HX.out k hlt (by omega)
      obtain ⟨b', o', rfl, hb', cB⟩ := HB.out wr HX.out k hlt (by omega)
      obtain ⟨x, hx⟩ : ∃ x, xs.getD k (0, 0, 0, 0) = x := ⟨_, rfl⟩
      rw [keys_at hlt x hx] at cA cB
      obtain ⟨x1, x2, x3, x4⟩ := x
      have r0 := cA 0 _ (by omega) rfl
      have s0 := cB 0 _ (by omega) rfl
      have r1 := cA 1 _ (by omega) rfl
      have s1 := cB 1 _ (by omega) rfl
      have r2 := cA 2 _ (by omega) rfl
      have s2 := cB 2 _ (by omega) rfl
      have r3 := cA 3 _ (by omega) rfl
      have s3 := cB 3 _ (by omega) rfl
      rw [Nat.add_zero] at r0 s0
      have q0 : (0 : Int) ≤ (k : Int) := by omega
      have q1 : (k : Int) < (xs.length : Int) := by omega
      clear cA cB hx
      go_wp2_with fail
      refine wp_region_noPanic ?_
      refine wp_region_held_drew (S := (fun w' => Ext wr w' ∧ ∀ b o, b < wr.heap.size → w'.cell? ⟨b, o, none⟩ = wr.cell? ⟨b, o, none⟩)) (by kernel_rfl) ?_ (fun hHeld => ?_)
      · exact Ext.held (by repeat (first | assumption | exact Ext.refl _ | apply Ext.alloc | apply Ext.drew | apply Ext.drewN))
      refine wpAnyH_take (i := 0) (v := ?_) (oper_at rfl) (by kernel_rfl) (by kernel_rfl) (by kernel_rfl) (fun _ _ _ h => h) (Or.inl ⟨by rfl, ?_⟩) hHeld ?_
      rotate_left
      · (intro ww hSw; (try dsimp only at hSw); go_simp; try (with_reducible rfl))
      try simp only [Act.put, List.setIfInBounds_toArray, List.set_cons_zero, List.set_cons_succ]
      refine wpAnyH_take (i := 1) (v := ?_) (oper_at rfl) (by kernel_rfl) (by kernel_rfl) (by kernel_rfl) (fun _ _ _ h => h) (Or.inl ⟨by rfl, ?_⟩) hHeld ?_
      rotate_left
      · (intro ww hSw; (try dsimp only at hSw); go_simp; try (with_reducible rfl))
      try simp only [Act.put, List.setIfInBounds_toArray, List.set_cons_zero, List.set_cons_succ]
      refine wpAnyH_take (i := 2) (v := ?_) (oper_at rfl) (by kernel_rfl) (by kernel_rfl) (by kernel_rfl) (fun _ _ _ h => h) (Or.inl ⟨by rfl, ?_⟩) hHeld ?_
      rotate_left
      · (intro ww hSw; (try dsimp only at hSw); go_simp; try (with_reducible rfl))
      try simp only [Act.put, List.setIfInBounds_toArray, List.set_cons_zero, List.set_cons_succ]
      refine wpAnyH_take (i := 3) (v := ?_) (oper_at rfl) (by kernel_rfl) (by kernel_rfl) (by kernel_rfl) (fun _ _ _ h => h) (Or.inl ⟨by rfl, ?_⟩) hHeld ?_
      rotate_left
      · (intro ww hSw; (try dsimp only at hSw); go_simp; try (with_reducible rfl))
      try simp only [Act.put, List.setIfInBounds_toArray, List.set_cons_zero, List.set_cons_succ]
      refine wpAnyH_take (i := 4) (v := ?_) (oper_at rfl) (by kernel_rfl) (by kernel_rfl) (by kernel_rfl) (fun _ _ _ h => h) (Or.inl ⟨by rfl, ?_⟩) hHeld ?_
      rotate_left
      · (intro ww hSw; (try dsimp only at hSw); go_simp; try (with_reducible rfl))
      try simp only [Act.put, List.setIfInBounds_toArray, List.set_cons_zero, List.set_cons_succ]
      refine wpAnyH_take (i := 5) (v := ?_) (oper_at rfl) (by kernel_rfl) (by kernel_rfl) (by kernel_rfl) (fun _ _ _ h => h) (Or.inl ⟨by rfl, ?_⟩) hHeld ?_
      rotate_left
      · (intro ww hSw; (try dsimp only at hSw); go_simp; try (with_reducible rfl))
      try simp only [Act.put, List.setIfInBounds_toArray, List.set_cons_zero, List.set_cons_succ]
      refine wpAnyH_take (i := 6) (v := ?_) (oper_at rfl) (by kernel_rfl) (by kernel_rfl) (by kernel_rfl) (fun _ _ _ h => h) (Or.inl ⟨by rfl, ?_⟩) hHeld ?_
      rotate_left
      · (intro ww hSw; (try dsimp only at hSw); go_simp; try (with_reducible rfl))
      try simp only [Act.put, List.setIfInBounds_toArray, List.set_cons_zero, List.set_cons_succ]
      refine wpAnyH_take (i := 7) (v := ?_) (oper_at rfl) (by kernel_rfl) (by kernel_rfl) (by kernel_rfl) (fun _ _ _ h => h) (Or.inl ⟨by rfl, ?_⟩) hHeld ?_
      rotate_left
      · (intro ww hSw; (try dsimp only at hSw); go_simp; try (with_reducible rfl))
      try simp only [Act.put, List.setIfInBounds_toArray, List.set_cons_zero, List.set_cons_succ]
      refine wpAnyH_take (i := 8) (v := ?_) (oper_at rfl) (by kernel_rfl) (by kernel_rfl) (by kernel_rfl) (fun _ _ _ h => h) (Or.inl ⟨by rfl, ?_⟩) hHeld ?_
      rotate_left
      · (intro ww hSw; (try dsimp only at hSw); go_simp; try (with_reducible rfl))
      try simp only [Act.put, List.setIfInBounds_toArray, List.set_cons_zero, List.set_cons_succ]
      refine wpAnyH_done (by kernel_rfl) ?_ _
      refine NoPanic.normal ?_
      clear r0 s0 r1 s1 r2 s2 r3 s3
      go_wp2_with fail
      exact ⟨⟨k + 1, by omega, by go_num, HX.out.drew⟩, by simp [intOf]; omega⟩
    · obtain rfl : k = xs.length := by omega
      go_wp2_with fail
      go_ret
      exact ⟨rfl, HX.out⟩
end Go.Proofs.YtehmpbaiefbemaaGreat
namespace Go.Proofs.YtehmpbaiefbemaaGreat
open Go.RowKit Go.Sort
def cfK (x y : Ky) : Int := if klt x y then -1 else if klt y x then 1 else 0
/-- choice.Less: it only draws and allocates. -/
theorem less_g (x y : Ky) (w : World) : Calls Tryz.prog 30 #[keyV x, keyV y] w fun e w' => e = .returned (.bool (decide (klt x y))) ∧ Gr w w' := by
  have HC := Lib.hid (compare_any x y)
  have HN := Lib.hid (cmpK_neg (x := x) (y := y))
  obtain ⟨c, hc⟩ : ∃ c, cmpK x y = c := ⟨_, rfl⟩
  rw [hc] at HC HN
  obtain ⟨x1, x2, x3, x4⟩ := x
  obtain ⟨y1, y2, y3, y4⟩ := y
  clear hc
  go_enter Tryz.func30, Tryz.ntmps30
  go_wp2_with fail
  refine (HC.out _).mono ?_
  rintro e1 w1 ⟨rfl, hE⟩
  have HE := Lib.hid hE
  clear hE
  go_wp2_with fail
  go_ret
  exact ⟨ret_bool (decide_eq_decide.2 HN.out), (((Gr.refl _).alloc _).alloc _).trans HE.out⟩
theorem cmp46_any (x y : Ky) (w : World) : Calls Tryz.prog 29 #[keyV x, keyV y] w (RetG (cfK x y) w) := by
  have L1 := Lib.hid (less_g x y)
  have L2 := Lib.hid (less_g y x)
  have HC : Hid (cfK x y = if klt x y then -1 else if klt y x then 1 else 0) := Lib.hid rfl
  obtain ⟨cc, hcc⟩ : ∃ c, cfK x y = c := ⟨_, rfl⟩
  rw [hcc] at HC ⊢
  obtain ⟨b1, hb1⟩ : ∃ b, decide (klt x y) = b := ⟨_, rfl⟩
  obtain ⟨b2, hb2⟩ : ∃ b, decide (klt y x) = b := ⟨_, rfl⟩
  rw [hb1] at L1
  rw [hb2] at L2
  have H1 := Lib.hid hb1
  have H2 := Lib.hid hb2
  clear hb1 hb2 hcc
  obtain ⟨x1, x2, x3, x4⟩ := x
  obtain ⟨y1, y2, y3, y4⟩ := y
  go_enter Tryz.func29, Tryz.ntmps29
  go_wp2_with fail
  refine (L1.out _).mono ?_
  rintro e1 w1 ⟨rfl, hg1⟩
  have HG1 := Lib.hid ((((Gr.refl w).alloc _).alloc _).trans hg1)
  have s := hg1.ext
  obtain ⟨p0, p1, p2, p3⟩ : w1.cell? ⟨w.heap.size, 0, none⟩ = some (kV x1) ∧ w1.cell? ⟨w.heap.size, 1, none⟩ = some (iV x2) ∧ w1.cell? ⟨w.heap.size, 2, none⟩ = some (iV x3) ∧ w1.cell? ⟨w.heap.size, 3, none⟩ = some (iV x4) :=
    ⟨s.cell (Ext.cell ((Ext.refl _).alloc _) (new_at _ _ _ 0 _ rfl)), s.cell (Ext.cell ((Ext.refl _).alloc _) (new_at _ _ _ 1 _ rfl)), s.cell (Ext.cell ((Ext.refl _).alloc _) (new_at _ _ _ 2 _ rfl)), s.cell (Ext.cell ((Ext.refl _).alloc _) (new_at _ _ _ 3 _ rfl))⟩
  have hh : (w.alloc (.cells #[kV x1, iV x2, iV x3, iV x4] 58)).heap.size = w.heap.size + 1 := by simp
  obtain ⟨q0, q1, q2, q3⟩ : w1.cell? ⟨w.heap.size + 1, 0, none⟩ = some (kV y1) ∧ w1.cell? ⟨w.heap.size + 1, 1, none⟩ = some (iV y2) ∧ w1.cell? ⟨w.heap.size + 1, 2, none⟩ = some (iV y3) ∧ w1.cell? ⟨w.heap.size + 1, 3, none⟩ = some (iV y4) := by
    rw [← hh]
    exact ⟨s.cell (new_at _ _ _ 0 _ rfl), s.cell (new_at _ _ _ 1 _ rfl), s.cell (new_at _ _ _ 2 _ rfl), s.cell (new_at _ _ _ 3 _ rfl)⟩
  clear hg1 s hh
  cases b1 with
  | true =>
    go_wp2_with fail
    go_ret
    exact ⟨ret_int (by rw [HC.out, if_pos (of_decide_eq_true H1.out)]), HG1.out⟩
  | false =>
    go_wp2_with fail
    refine (L2.out _).mono ?_
    rintro e2 w2 ⟨rfl, hg2⟩
    have HG2 := Lib.hid (HG1.out.trans hg2)
    clear hg2
    cases b2 with
    | true =>
      go_wp2_with fail
      go_ret
      exact ⟨ret_int (by rw [HC.out, if_neg (of_decide_eq_false H1.out), if_pos (of_decide_eq_true H2.out)]), HG2.out⟩
    | false =>
      go_wp2_with fail
      go_ret
      exact ⟨ret_int (by rw [HC.out, if_neg (of_decide_eq_false H1.out), if_neg (of_decide_eq_false H2.out)]), HG2.out⟩
theorem cfK_lt (c d : Ky) : ltOf cfK c d = true ↔ klt c d := by
  unfold ltOf cfK
  rw [decide_eq_true_iff]
  constructor
  · intro h
    by_cases h1 : klt c d
    · exact h1
    · rw [if_neg h1] at h
      split at h <;> omega
  · intro h
    rw [if_pos h]
    omega
theorem cfK_swo : SWO (ltOf cfK) where
  irrefl x := by rw [Bool.eq_false_iff, ne_eq, cfK_lt]; exact klt_irrefl _
  trans x y z h k := by rw [cfK_lt] at *; exact klt_trans h k
  ntrans x y z h k := by
    rw [Bool.eq_false_iff, ne_eq, cfK_lt] at *
    intro hxz
    rcases klt_total x y with h1 | h1 | h1
    · exact h h1
    · exact k (h1 ▸ hxz)
    · exact k (klt_trans h1 hxz)
end Go.Proofs.YtehmpbaiefbemaaGreat
