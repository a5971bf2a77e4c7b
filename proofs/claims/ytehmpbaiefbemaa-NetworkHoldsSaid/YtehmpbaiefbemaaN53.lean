/- The comparator of held arrivals. -/
import Derived.Test.YtehmpbaiefbemaaH4
namespace Go.Proofs.Ytehmpbaiefbemaa
open Go.RowKit Go.Sort
attribute [local go_sem ↓] Go.wp_at_zero Go.wp_at_succ
/-- A slice as it is, all else as nil. -/
def nrm : Value → Value
  | .slice A n c => .slice A n c
  | _ => .slice none 0 0
theorem nrm_slice (A : Option Addr) (n c : Nat) : nrm (.slice A n c) = .slice A n c := rfl
theorem nrm_one (v : Value) : (nrm v).oneCell' = true := by
  unfold nrm
  split <;> rfl
def encT (x : Tm) : List Value := [iV x.1.1, iV x.1.2.1, iV x.1.2.2, iV (x.2.1 : Int), iV x.2.2.1.1, iV x.2.2.1.2.1, nrm x.2.2.2]
abbrev tmV (x : Tm) : Value := .agg #[iV x.1.1, iV x.1.2.1, iV x.1.2.2, iV (x.2.1 : Int), iV x.2.2.1.1, iV x.2.2.1.2.1, nrm x.2.2.2]
set_option maxRecDepth 100000 in
set_option maxHeartbeats 2000000 in
theorem cmp40_any (x y : Tm) (w : World) : Calls Try.prog 40 #[tmV x, tmV y] w (RetG (cmpT x y) w) := by
  have HC : Hid (cmpT x y = orF [Lib.compareInt x.2.2.1.1 y.2.2.1.1, Lib.compareInt x.1.1 y.1.1, Lib.compareInt x.1.2.1 y.1.2.1, Lib.compareInt x.1.2.2 y.1.2.2, Lib.compareInt (x.2.1 : Int) (y.2.1 : Int)]) := Lib.hid rfl
  obtain ⟨⟨x1, x2, x3⟩, x4, ⟨x5, x6, x7⟩, x8⟩ := x
  obtain ⟨⟨y1, y2, y3⟩, y4, ⟨y5, y6, y7⟩, y8⟩ := y
  simp only [] at HC ⊢
  show Calls Try.prog 40 #[.agg #[iV x1, iV x2, iV x3, iV (x4 : Int), iV x5, iV x6, nrm x8], .agg #[iV y1, iV y2, iV y3, iV (y4 : Int), iV y5, iV y6, nrm y8]] w _
  generalize nrm x8 = z8
  generalize nrm y8 = u8
  go_enter Try.func40, Try.ntmps40
  go_wp2_with fail
  generalize hw2 : (w.alloc (.cells #[iV x1, iV x2, iV x3, iV (x4 : Int), iV x5, iV x6, z8] 64)).alloc (.cells #[iV y1, iV y2, iV y3, iV (y4 : Int), iV y5, iV y6, u8] 64) = w2
  have hG2 : Gr w w2 := by rw [← hw2]; exact ((Gr.refl _).alloc _).alloc _
  obtain ⟨hE2, b0, b1, hA, hB⟩ := let2 hw2
  have d0 := hA 0 _ rfl
  have d1 := hA 1 _ rfl
  have d2 := hA 2 _ rfl
  have d3 := hA 3 _ rfl
  have d4 := hA 4 _ rfl
  have f0 := hB 0 _ rfl
  have f1 := hB 1 _ rfl
  have f2 := hB 2 _ rfl
  have f3 := hB 3 _ rfl
  have f4 := hB 4 _ rfl
  clear hA hB hw2
  refine wp_region_noPanic ?_
  refine wp_region_held_drew (S := (fun w' => Ext w2 w' ∧ ∀ b o, b < w2.heap.size → w'.cell? ⟨b, o, none⟩ = w2.cell? ⟨b, o, none⟩)) (by kernel_rfl) ?_ (fun hHeld => ?_)
  · exact Ext.held (by repeat (first | assumption | exact Ext.refl _ | apply Ext.alloc | apply Ext.drew | apply Ext.drewN))
  refine wpAnyH_take (i := 0) (v := ?_) (oper_at rfl) (by kernel_rfl) (by kernel_rfl) (by kernel_rfl) (fun _ _ _ h => h) (Or.inl ⟨by rfl, ?_⟩) hHeld ?_
  rotate_left
  · (intro ww hSw; (try dsimp only at hSw); go_simp; try (with_reducible rfl))
  try simp only [Act.put, List.setIfInBounds_toArray, List.set_cons_zero, List.set_cons_succ]
  refine wpAnyH_take (i := 1) (v := ?_) (oper_at rfl) (by kernel_rfl) (by kernel_rfl) (by kernel_rfl) (fun _ _ _ h => h) (Or.inl ⟨by rfl, ?_⟩) hHeld ?_
  rotate_left
  · (intro ww hSw; (try dsimp only at hSw); go_simp; try (with_reducible rfl))
  try simp only [Act.put, List.setIfInBounds_toArray, List.set_cons_zero, List.set_cons_succ]
  refine wpAnyH_take (i := 2) (v := ?_) (oper_at rfl) (by kernel_rfl) (by kernel_rfl) (by kernel_rfl) (fun _ _ _ h => h) (Or.inl ⟨by rfl, ?_⟩) hHeld ?_
  rotate_left
  · (intro ww hSw; (try dsimp only at hSw); go_simp; try (with_reducible rfl))
  try simp only [Act.put, List.setIfInBounds_toArray, List.set_cons_zero, List.set_cons_succ]
  refine wpAnyH_take (i := 3) (v := ?_) (oper_at rfl) (by kernel_rfl) (by kernel_rfl) (by kernel_rfl) (fun _ _ _ h => h) (Or.inl ⟨by rfl, ?_⟩) hHeld ?_
  rotate_left
  · (intro ww hSw; (try dsimp only at hSw); go_simp; try (with_reducible rfl))
  try simp only [Act.put, List.setIfInBounds_toArray, List.set_cons_zero, List.set_cons_succ]
  refine wpAnyH_take (i := 4) (v := ?_) (oper_at rfl) (by kernel_rfl) (by kernel_rfl) (by kernel_rfl) (fun _ _ _ h => h) (Or.inl ⟨by rfl, ?_⟩) hHeld ?_
  rotate_left
  · (intro ww hSw; (try dsimp only at hSw); go_simp; try (with_reducible rfl))
  try simp only [Act.put, List.setIfInBounds_toArray, List.set_cons_zero, List.set_cons_succ]
  refine wpAnyH_take (i := 5) (v := ?_) (oper_at rfl) (by kernel_rfl) (by kernel_rfl) (by kernel_rfl) (fun _ _ _ h => h) (Or.inl ⟨by rfl, ?_⟩) hHeld ?_
  rotate_left
  · (intro ww hSw; (try dsimp only at hSw); go_simp; try (with_reducible rfl))
  try simp only [Act.put, List.setIfInBounds_toArray, List.set_cons_zero, List.set_cons_succ]
  refine wpAnyH_take (i := 7) (v := ?_) (oper_at rfl) (by kernel_rfl) (by kernel_rfl) (by kernel_rfl) (fun _ _ _ h => h) (Or.inl ⟨by rfl, ?_⟩) hHeld ?_
  rotate_left
  · (intro ww hSw; (try dsimp only at hSw); go_simp; try (with_reducible rfl))
  try simp only [Act.put, List.setIfInBounds_toArray, List.set_cons_zero, List.set_cons_succ]
  refine wpAnyH_take (i := 8) (v := ?_) (oper_at rfl) (by kernel_rfl) (by kernel_rfl) (by kernel_rfl) (fun _ _ _ h => h) (Or.inl ⟨by rfl, ?_⟩) hHeld ?_
  rotate_left
  · (intro ww hSw; (try dsimp only at hSw); go_simp; try (with_reducible rfl))
  try simp only [Act.put, List.setIfInBounds_toArray, List.set_cons_zero, List.set_cons_succ]
  refine wpAnyH_take (i := 9) (v := ?_) (oper_at rfl) (by kernel_rfl) (by kernel_rfl) (by kernel_rfl) (fun _ _ _ h => h) (Or.inl ⟨by rfl, ?_⟩) hHeld ?_
  rotate_left
  · (intro ww hSw; (try dsimp only at hSw); go_simp; try (with_reducible rfl))
  try simp only [Act.put, List.setIfInBounds_toArray, List.set_cons_zero, List.set_cons_succ]
  refine wpAnyH_take (i := 10) (v := ?_) (oper_at rfl) (by kernel_rfl) (by kernel_rfl) (by kernel_rfl) (fun _ _ _ h => h) (Or.inl ⟨by rfl, ?_⟩) hHeld ?_
  rotate_left
  · (intro ww hSw; (try dsimp only at hSw); go_simp; try (with_reducible rfl))
  try simp only [Act.put, List.setIfInBounds_toArray, List.set_cons_zero, List.set_cons_succ]
  refine wpAnyH_take (i := 11) (v := ?_) (oper_at rfl) (by kernel_rfl) (by kernel_rfl) (by kernel_rfl) (fun _ _ _ h => h) (Or.inl ⟨by rfl, ?_⟩) hHeld ?_
  rotate_left
  · (intro ww hSw; (try dsimp only at hSw); go_simp; try (with_reducible rfl))
  try simp only [Act.put, List.setIfInBounds_toArray, List.set_cons_zero, List.set_cons_succ]
  refine wpAnyH_take (i := 12) (v := ?_) (oper_at rfl) (by kernel_rfl) (by kernel_rfl) (by kernel_rfl) (fun _ _ _ h => h) (Or.inl ⟨by rfl, ?_⟩) hHeld ?_
  rotate_left
  · (intro ww hSw; (try dsimp only at hSw); go_simp; try (with_reducible rfl))
  try simp only [Act.put, List.setIfInBounds_toArray, List.set_cons_zero, List.set_cons_succ]
  refine wpAnyH_take (i := 14) (v := ?_) (oper_at rfl) (by kernel_rfl) (by kernel_rfl) (by kernel_rfl) (fun _ _ _ h => h) (Or.inl ⟨by rfl, ?_⟩) hHeld ?_
  rotate_left
  · (intro ww hSw; (try dsimp only at hSw); go_simp; try (with_reducible rfl))
  try simp only [Act.put, List.setIfInBounds_toArray, List.set_cons_zero, List.set_cons_succ]
  refine wpAnyH_take (i := 15) (v := ?_) (oper_at rfl) (by kernel_rfl) (by kernel_rfl) (by kernel_rfl) (fun _ _ _ h => h) (Or.inl ⟨by rfl, ?_⟩) hHeld ?_
  rotate_left
  · (intro ww hSw; (try dsimp only at hSw); go_simp; try (with_reducible rfl))
  try simp only [Act.put, List.setIfInBounds_toArray, List.set_cons_zero, List.set_cons_succ]
  refine wpAnyH_take (i := 16) (v := ?_) (oper_at rfl) (by kernel_rfl) (by kernel_rfl) (by kernel_rfl) (fun _ _ _ h => h) (Or.inl ⟨by rfl, ?_⟩) hHeld ?_
  rotate_left
  · (intro ww hSw; (try dsimp only at hSw); go_simp; try (with_reducible rfl))
  try simp only [Act.put, List.setIfInBounds_toArray, List.set_cons_zero, List.set_cons_succ]
  refine wpAnyH_take (i := 17) (v := ?_) (oper_at rfl) (by kernel_rfl) (by kernel_rfl) (by kernel_rfl) (fun _ _ _ h => h) (Or.inl ⟨by rfl, ?_⟩) hHeld ?_
  rotate_left
  · (intro ww hSw; (try dsimp only at hSw); go_simp; try (with_reducible rfl))
  try simp only [Act.put, List.setIfInBounds_toArray, List.set_cons_zero, List.set_cons_succ]
  refine wpAnyH_take (i := 18) (v := ?_) (oper_at rfl) (by kernel_rfl) (by kernel_rfl) (by kernel_rfl) (fun _ _ _ h => h) (Or.inl ⟨by rfl, ?_⟩) hHeld ?_
  rotate_left
  · (intro ww hSw; (try dsimp only at hSw); go_simp; try (with_reducible rfl))
  try simp only [Act.put, List.setIfInBounds_toArray, List.set_cons_zero, List.set_cons_succ]
  refine wpAnyH_take (i := 19) (v := ?_) (oper_at rfl) (by kernel_rfl) (by kernel_rfl) (by kernel_rfl) (fun _ _ _ h => h) (Or.inl ⟨by rfl, ?_⟩) hHeld ?_
  rotate_left
  · (intro ww hSw; (try dsimp only at hSw); go_simp; try (with_reducible rfl))
  try simp only [Act.put, List.setIfInBounds_toArray, List.set_cons_zero, List.set_cons_succ]
  refine wpAnyH_take (i := 21) (v := ?_) (oper_at rfl) (by kernel_rfl) (by kernel_rfl) (by kernel_rfl) (fun _ _ _ h => h) (Or.inl ⟨by rfl, ?_⟩) hHeld ?_
  rotate_left
  · (intro ww hSw; (try dsimp only at hSw); go_simp; try (with_reducible rfl))
  try simp only [Act.put, List.setIfInBounds_toArray, List.set_cons_zero, List.set_cons_succ]
  refine wpAnyH_take (i := 22) (v := ?_) (oper_at rfl) (by kernel_rfl) (by kernel_rfl) (by kernel_rfl) (fun _ _ _ h => h) (Or.inl ⟨by rfl, ?_⟩) hHeld ?_
  rotate_left
  · (intro ww hSw; (try dsimp only at hSw); go_simp; try (with_reducible rfl))
  try simp only [Act.put, List.setIfInBounds_toArray, List.set_cons_zero, List.set_cons_succ]
  refine wpAnyH_take (i := 23) (v := ?_) (oper_at rfl) (by kernel_rfl) (by kernel_rfl) (by kernel_rfl) (fun _ _ _ h => h) (Or.inl ⟨by rfl, ?_⟩) hHeld ?_
  rotate_left
  · (intro ww hSw; (try dsimp only at hSw); go_simp; try (with_reducible rfl))
  try simp only [Act.put, List.setIfInBounds_toArray, List.set_cons_zero, List.set_cons_succ]
  refine wpAnyH_take (i := 24) (v := ?_) (oper_at rfl) (by kernel_rfl) (by kernel_rfl) (by kernel_rfl) (fun _ _ _ h => h) (Or.inl ⟨by rfl, ?_⟩) hHeld ?_
  rotate_left
  · (intro ww hSw; (try dsimp only at hSw); go_simp; try (with_reducible rfl))
  try simp only [Act.put, List.setIfInBounds_toArray, List.set_cons_zero, List.set_cons_succ]
  refine wpAnyH_take (i := 25) (v := ?_) (oper_at rfl) (by kernel_rfl) (by kernel_rfl) (by kernel_rfl) (fun _ _ _ h => h) (Or.inl ⟨by rfl, ?_⟩) hHeld ?_
  rotate_left
  · (intro ww hSw; (try dsimp only at hSw); go_simp; try (with_reducible rfl))
  try simp only [Act.put, List.setIfInBounds_toArray, List.set_cons_zero, List.set_cons_succ]
  refine wpAnyH_take (i := 26) (v := ?_) (oper_at rfl) (by kernel_rfl) (by kernel_rfl) (by kernel_rfl) (fun _ _ _ h => h) (Or.inl ⟨by rfl, ?_⟩) hHeld ?_
  rotate_left
  · (intro ww hSw; (try dsimp only at hSw); go_simp; try (with_reducible rfl))
  try simp only [Act.put, List.setIfInBounds_toArray, List.set_cons_zero, List.set_cons_succ]
  refine wpAnyH_take (i := 28) (v := ?_) (oper_at rfl) (by kernel_rfl) (by kernel_rfl) (by kernel_rfl) (fun _ _ _ h => h) (Or.inl ⟨by rfl, ?_⟩) hHeld ?_
  rotate_left
  · (intro ww hSw; (try dsimp only at hSw); go_simp; try (with_reducible rfl))
  try simp only [Act.put, List.setIfInBounds_toArray, List.set_cons_zero, List.set_cons_succ]
  refine wpAnyH_take (i := 29) (v := ?_) (oper_at rfl) (by kernel_rfl) (by kernel_rfl) (by kernel_rfl) (fun _ _ _ h => h) (Or.inl ⟨by rfl, ?_⟩) hHeld ?_
  rotate_left
  · (intro ww hSw; (try dsimp only at hSw); go_simp; try (with_reducible rfl))
  try simp only [Act.put, List.setIfInBounds_toArray, List.set_cons_zero, List.set_cons_succ]
  refine wpAnyH_take (i := 30) (v := ?_) (oper_at rfl) (by kernel_rfl) (by kernel_rfl) (by kernel_rfl) (fun _ _ _ h => h) (Or.inl ⟨by rfl, ?_⟩) hHeld ?_
  rotate_left
  · (intro ww hSw; (try dsimp only at hSw); go_simp; try (with_reducible rfl))
  try simp only [Act.put, List.setIfInBounds_toArray, List.set_cons_zero, List.set_cons_succ]
  refine wpAnyH_take (i := 31) (v := ?_) (oper_at rfl) (by kernel_rfl) (by kernel_rfl) (by kernel_rfl) (fun _ _ _ h => h) (Or.inl ⟨by rfl, ?_⟩) hHeld ?_
  rotate_left
  · (intro ww hSw; (try dsimp only at hSw); go_simp; try (with_reducible rfl))
  try simp only [Act.put, List.setIfInBounds_toArray, List.set_cons_zero, List.set_cons_succ]
  refine wpAnyH_ready (rs := [6]) (by kernel_rfl) (by simp) (AllReadyH.cons (oper_at rfl) (fun K hK => ?_) AllReadyH.nil)
  go_simp
  go_at_call 42
  refine (cmp_any x5 y5 _).mono ?_
  rintro e1 w1 ⟨rfl, rfl⟩
  try go_wp2_with fail
  refine hK.out _ _ ?_ (fun hHeld => ?_)
  · exact Ext.held (by repeat (first | assumption | exact Ext.refl _ | apply Ext.alloc | apply Ext.drew | apply Ext.drewN))
  clear hK K
  try simp only [Act.put, List.setIfInBounds_toArray, List.set_cons_zero, List.set_cons_succ]
  generalize Lib.compareInt x5 y5 = c1 at *
  refine wpAnyH_ready (rs := [13]) (by kernel_rfl) (by simp) (AllReadyH.cons (oper_at rfl) (fun K hK => ?_) AllReadyH.nil)
  go_simp
  go_at_call 42
  refine (cmp_any x1 y1 _).mono ?_
  rintro e1 w1 ⟨rfl, rfl⟩
  try go_wp2_with fail
  refine hK.out _ _ ?_ (fun hHeld => ?_)
  · exact Ext.held (by repeat (first | assumption | exact Ext.refl _ | apply Ext.alloc | apply Ext.drew | apply Ext.drewN))
  clear hK K
  try simp only [Act.put, List.setIfInBounds_toArray, List.set_cons_zero, List.set_cons_succ]
  generalize Lib.compareInt x1 y1 = c2 at *
  refine wpAnyH_ready (rs := [20]) (by kernel_rfl) (by simp) (AllReadyH.cons (oper_at rfl) (fun K hK => ?_) AllReadyH.nil)
  go_simp
  go_at_call 42
  refine (cmp_any x2 y2 _).mono ?_
  rintro e1 w1 ⟨rfl, rfl⟩
  try go_wp2_with fail
  refine hK.out _ _ ?_ (fun hHeld => ?_)
  · exact Ext.held (by repeat (first | assumption | exact Ext.refl _ | apply Ext.alloc | apply Ext.drew | apply Ext.drewN))
  clear hK K
  try simp only [Act.put, List.setIfInBounds_toArray, List.set_cons_zero, List.set_cons_succ]
  generalize Lib.compareInt x2 y2 = c3 at *
  refine wpAnyH_ready (rs := [27]) (by kernel_rfl) (by simp) (AllReadyH.cons (oper_at rfl) (fun K hK => ?_) AllReadyH.nil)
  go_simp
  go_at_call 42
  refine (cmp_any x3 y3 _).mono ?_
  rintro e1 w1 ⟨rfl, rfl⟩
  try go_wp2_with fail
  refine hK.out _ _ ?_ (fun hHeld => ?_)
  · exact Ext.held (by repeat (first | assumption | exact Ext.refl _ | apply Ext.alloc | apply Ext.drew | apply Ext.drewN))
  clear hK K
  try simp only [Act.put, List.setIfInBounds_toArray, List.set_cons_zero, List.set_cons_succ]
  generalize Lib.compareInt x3 y3 = c4 at *
  refine wpAnyH_ready (rs := [32]) (by kernel_rfl) (by simp) (AllReadyH.cons (oper_at rfl) (fun K hK => ?_) AllReadyH.nil)
  go_simp
  go_at_call 42
  refine (cmp_any (x4 : Int) (y4 : Int) _).mono ?_
  rintro e1 w1 ⟨rfl, rfl⟩
  try go_wp2_with fail
  refine hK.out _ _ ?_ (fun hHeld => ?_)
  · exact Ext.held (by repeat (first | assumption | exact Ext.refl _ | apply Ext.alloc | apply Ext.drew | apply Ext.drewN))
  clear hK K
  try simp only [Act.put, List.setIfInBounds_toArray, List.set_cons_zero, List.set_cons_succ]
  generalize Lib.compareInt (x4 : Int) (y4 : Int) = c5 at *
  refine wpAnyH_ready (rs := [33]) (by kernel_rfl) (by simp) (AllReadyH.cons (oper_at rfl) (fun K hK => ?_) AllReadyH.nil)
  go_simp
  refine hK.out _ _ ?_ (fun hHeld => ?_)
  · exact Ext.held (by repeat (first | assumption | exact Ext.refl _ | apply Ext.alloc | apply Ext.drew | apply Ext.drewN))
  clear hK K
  try simp only [Act.put, List.setIfInBounds_toArray, List.set_cons_zero, List.set_cons_succ]
  refine wpAnyH_ready (rs := [34]) (by kernel_rfl) (by simp) (AllReadyH.cons (oper_at rfl) (fun K hK => ?_) AllReadyH.nil)
  go_simp
  go_at_call 41
  refine (or_any [c1, c2, c3, c4, c5] _ _ (SlAt.ext (slC (w := w2) rfl (nums_wide _) rfl rfl (by simp [nums])) ((Ext.refl _).drew))).mono ?_
  rintro e1 w1 ⟨rfl, rfl⟩
  try go_wp2_with fail
  refine hK.out _ _ ?_ (fun hHeld => ?_)
  · exact Ext.held (by repeat (first | assumption | exact Ext.refl _ | apply Ext.alloc | apply Ext.drew | apply Ext.drewN))
  clear hK K
  try simp only [Act.put, List.setIfInBounds_toArray, List.set_cons_zero, List.set_cons_succ]
  refine wpAnyH_take (i := 35) (v := ?_) (oper_at rfl) (by kernel_rfl) (by kernel_rfl) (by kernel_rfl) (fun _ _ _ h => h) (Or.inl ⟨by rfl, ?_⟩) hHeld ?_
  rotate_left
  · (intro ww hSw; (try dsimp only at hSw); go_simp; try (with_reducible rfl))
  try simp only [Act.put, List.setIfInBounds_toArray, List.set_cons_zero, List.set_cons_succ]
  refine wpAnyH_done (by kernel_rfl) ?_ _
  refine NoPanic.normal ?_
  go_wp2_with fail
  go_ret
  rw [HC.out]
  exact ⟨rfl, (hG2.alloc _).drew⟩
set_option maxRecDepth 100000 in
set_option maxHeartbeats 2000000 in
/-- ref.before: the order of held arrivals. -/
theorem before44_any (x y : Tm) (w : World) : Calls Try.prog 44 #[tmV x, tmV y] w (RetV (.bool (decide (tlt x y))) w) := by
  have HC : Hid (tlt x y ↔ (x.2.2.1.1 < y.2.2.1.1 ∨ x.2.2.1.1 = y.2.2.1.1 ∧ (x.1.1 < y.1.1 ∨ x.1.1 = y.1.1 ∧ (x.1.2.1 < y.1.2.1 ∨ x.1.2.1 = y.1.2.1 ∧ (x.1.2.2 < y.1.2.2 ∨ x.1.2.2 = y.1.2.2 ∧ x.2.1 < y.2.1))))) := Lib.hid Iff.rfl
  obtain ⟨⟨x1, x2, x3⟩, x4, ⟨x5, x6, x7⟩, x8⟩ := x
  obtain ⟨⟨y1, y2, y3⟩, y4, ⟨y5, y6, y7⟩, y8⟩ := y
  simp only [] at HC ⊢
  obtain ⟨b, hb⟩ : ∃ b, decide (tlt ((x1, x2, x3), x4, (x5, x6, x7), x8) ((y1, y2, y3), y4, (y5, y6, y7), y8)) = b := ⟨_, rfl⟩
  rw [hb]
  have HB : Hid (b = true ↔ (x5 < y5 ∨ x5 = y5 ∧ (x1 < y1 ∨ x1 = y1 ∧ (x2 < y2 ∨ x2 = y2 ∧ (x3 < y3 ∨ x3 = y3 ∧ x4 < y4))))) := by rw [← hb, decide_eq_true_iff, HC.out]; exact Lib.hid Iff.rfl
  clear HC hb
  show Calls Try.prog 44 #[.agg #[iV x1, iV x2, iV x3, iV (x4 : Int), iV x5, iV x6, nrm x8], .agg #[iV y1, iV y2, iV y3, iV (y4 : Int), iV y5, iV y6, nrm y8]] w _
  generalize nrm x8 = z8
  generalize nrm y8 = u8
  go_enter Try.func44, Try.ntmps44
  by_cases h5 : x5 = y5
  · by_cases h1 : x1 = y1
    · by_cases h2 : x2 = y2
      · by_cases h3 : x3 = y3
        · have HF : Hid (b = decide (x4 < y4)) := Lib.hid (by rw [Bool.eq_iff_iff, HB.out, decide_eq_true_iff]; omega)
          subst h5
          subst h1
          subst h2
          subst h3
          go_wp2_with fail
          go_ret
          exact ⟨by rw [HF.out]; rfl, ((Ext.refl _).alloc _).alloc _⟩
        · have HF : Hid (b = decide (x3 < y3)) := Lib.hid (by rw [Bool.eq_iff_iff, HB.out, decide_eq_true_iff]; omega)
          have t3 : (x3 != y3) = true := by simpa using h3
          subst h5
          subst h1
          subst h2
          clear h3
          go_wp2_with fail
          go_ret
          exact ⟨by rw [HF.out]; rfl, ((Ext.refl _).alloc _).alloc _⟩
      · have HF : Hid (b = decide (x2 < y2)) := Lib.hid (by rw [Bool.eq_iff_iff, HB.out, decide_eq_true_iff]; omega)
        have t3 : (x2 != y2) = true := by simpa using h2
        subst h5
        subst h1
        clear h2
        go_wp2_with fail
        go_ret
        exact ⟨by rw [HF.out]; rfl, ((Ext.refl _).alloc _).alloc _⟩
    · have HF : Hid (b = decide (x1 < y1)) := Lib.hid (by rw [Bool.eq_iff_iff, HB.out, decide_eq_true_iff]; omega)
      have t3 : (x1 != y1) = true := by simpa using h1
      subst h5
      clear h1
      go_wp2_with fail
      go_ret
      exact ⟨by rw [HF.out]; rfl, ((Ext.refl _).alloc _).alloc _⟩
  · have HF : Hid (b = decide (x5 < y5)) := Lib.hid (by rw [Bool.eq_iff_iff, HB.out, decide_eq_true_iff]; omega)
    have t3 : (x5 != y5) = true := by simpa using h5
    clear h5
    go_wp2_with fail
    go_ret
    exact ⟨by rw [HF.out]; rfl, ((Ext.refl _).alloc _).alloc _⟩
end Go.Proofs.Ytehmpbaiefbemaa
