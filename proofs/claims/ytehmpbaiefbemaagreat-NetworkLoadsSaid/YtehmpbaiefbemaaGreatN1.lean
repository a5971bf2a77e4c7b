/- The walks over the small functions: mod, component, in, within, timed, Compare, Or, compare, Less, the reference's Less. -/
import Derived.Test.YtehmpbaiefbemaaGreatN0
import Derived.Test.YtehmpbaiefbemaaGreatH1
namespace Go.Proofs.YtehmpbaiefbemaaGreat
open Go.RowKit
attribute [local go_sem ↓] Go.wp_at_zero Go.wp_at_succ
theorem nan_any (x : Int) (w : World) : Calls Tryz.prog 107 #[.int .i64 x] w fun e w' => e = .returned (.bool false) ∧ w = w' := by
  go_enter Tryz.func107, Tryz.ntmps107
  go_wp2_with fail
  go_ret
  exact ⟨ret_bool (by simp), rfl⟩
theorem cmp_any (x y : Int) (w : World) : Calls Tryz.prog 79 #[.int .i64 x, .int .i64 y] w fun e w' => e = .returned (.int .i64 (Lib.compareInt x y)) ∧ w = w' := by
  have HC : Hid (Lib.compareInt x y = if x < y then -1 else if x > y then 1 else 0) := Lib.hid rfl
  go_enter Tryz.func79, Tryz.ntmps79
  go_wp2_with fail
  refine (nan_any x w).mono ?_
  rintro e1 w1 ⟨rfl, rfl⟩
  go_wp2_with fail
  refine (nan_any y w).mono ?_
  rintro e1 w1 ⟨rfl, rfl⟩
  rcases Int.lt_trichotomy x y with h | h | h
  · have HF : Hid (Lib.compareInt x y = -1) := by rw [HC.out, if_pos h]; exact Lib.hid rfl
    go_wp2_with fail
    go_ret
    rw [HF.out]
    exact ⟨rfl, rfl⟩
  · have HF : Hid (Lib.compareInt x y = 0) := by rw [HC.out, if_neg (by omega), if_neg (by omega)]; exact Lib.hid rfl
    subst h
    go_wp2_with fail
    go_ret
    rw [HF.out]
    exact ⟨rfl, rfl⟩
  · have HF : Hid (Lib.compareInt x y = 1) := by rw [HC.out, if_neg (by omega), if_pos h]; exact Lib.hid rfl
    have h' : y ≤ x := by omega
    go_wp2_with fail
    go_ret
    rw [HF.out]
    exact ⟨rfl, rfl⟩
theorem nanK_any (x : Nat) (w : World) : Calls Tryz.prog 106 #[.int .u8 (x : Int)] w fun e w' => e = .returned (.bool false) ∧ w = w' := by
  go_enter Tryz.func106, Tryz.ntmps106
  go_wp2_with fail
  go_ret
  exact ⟨ret_bool (by simp), rfl⟩
theorem cmpKind_any (x y : Nat) (w : World) : Calls Tryz.prog 78 #[.int .u8 (x : Int), .int .u8 (y : Int)] w fun e w' => e = .returned (.int .i64 (Lib.compareInt (x : Int) (y : Int))) ∧ w = w' := by
  have HC : Hid (Lib.compareInt (x : Int) (y : Int) = if (x : Int) < y then -1 else if (x : Int) > y then 1 else 0) := Lib.hid rfl
  go_enter Tryz.func78, Tryz.ntmps78
  go_wp2_with fail
  refine (nanK_any x w).mono ?_
  rintro e1 w1 ⟨rfl, rfl⟩
  go_wp2_with fail
  refine (nanK_any y w).mono ?_
  rintro e1 w1 ⟨rfl, rfl⟩
  rcases Int.lt_trichotomy (x : Int) (y : Int) with h | h | h
  · have HF : Hid (Lib.compareInt (x : Int) (y : Int) = -1) := by rw [HC.out, if_pos h]; exact Lib.hid rfl
    go_wp2_with fail
    go_ret
    rw [HF.out]
    exact ⟨rfl, rfl⟩
  · have HF : Hid (Lib.compareInt (x : Int) (y : Int) = 0) := by rw [HC.out, if_neg (by omega), if_neg (by omega)]; exact Lib.hid rfl
    obtain rfl : x = y := by omega
    go_wp2_with fail
    go_ret
    rw [HF.out]
    exact ⟨rfl, rfl⟩
  · have HF : Hid (Lib.compareInt (x : Int) (y : Int) = 1) := by rw [HC.out, if_neg (by omega), if_pos h]; exact Lib.hid rfl
    have h' : (y : Int) ≤ x := by omega
    go_wp2_with fail
    go_ret
    rw [HF.out]
    exact ⟨rfl, rfl⟩
def nums (l : List Int) : List (List Value) := l.map fun x => [iV x]
theorem nums_wide (l : List Int) : Wide 1 (nums l) := Wide.map (f := fun x => [iV x]) (fun _ => rfl) l
theorem nums_len (l : List Int) : (nums l).length = l.length := List.length_map _
theorem nums_at {l : List Int} {j : Nat} (h : j < l.length) : ((nums l).getD j [])[0]? = some (iV (l.getD j 0)) := by
  unfold nums
  rw [List.getD_eq_getElem?_getD, List.getElem?_map, List.getElem?_eq_getElem h, List.getD_eq_getElem?_getD, List.getElem?_eq_getElem h]
  rfl
theorem or_drop {l : List Int} {k : Nat} (h : k < l.length) : orF (l.drop k) = if l.getD k 0 ≠ 0 then l.getD k 0 else orF (l.drop (k + 1)) := by
  rw [List.drop_eq_getElem_cons h, orF, List.getD_eq_getElem?_getD, List.getElem?_eq_getElem h]
  rfl
set_option maxHeartbeats 2000000 in
theorem or_any (l : List Int) (v : Value) (w : World) (h : SlAt 1 w v (nums l)) : Calls Tryz.prog 77 #[v] w fun e w' => e = .returned (.int .i64 (orF l)) ∧ w = w' := by
  obtain ⟨A, c, rfl, a1, a2, RA⟩ := h.read
  have HR := Lib.hid (RA w (Ext.refl _))
  rw [nums_len] at a1 HR ⊢
  have hl : l.length ≤ 9223372036854775807 := by unfold maxLen at a2; omega
  clear RA h a1 a2
  go_enter Tryz.func77, Tryz.ntmps77
  go_wp2_with fail
  go_loop [8] (fun i => ∃ k : Nat, k ≤ l.length ∧ i = iV (k : Int) ∧ orF l = orF (l.drop k)) (fun i => l.length - (intOf i).toNat)
  case atStart => exact ⟨0, by omega, rfl, rfl⟩
  case round =>
    obtain ⟨k, hk, rfl, hn⟩ := hrel
    have HN := Lib.hid hn
    clear hn
    by_cases hlt : k < l.length
    · obtain ⟨b, o, rfl, -, c1⟩ := HR.out k hlt (by omega)
      have c1 := c1 0 _ (by omega) (nums_at hlt)
      rw [Nat.mul_one, Nat.add_zero] at c1
      have HO := Lib.hid (or_drop hlt)
      obtain ⟨x, hx⟩ : ∃ x, l.getD k 0 = x := ⟨_, rfl⟩
      rw [hx] at c1 HO
      clear hx
      by_cases h0 : x = 0
      · have HO' : Hid (orF l = orF (l.drop (k + 1))) := by rw [HN.out, HO.out, if_neg (by simpa using h0)]; exact Lib.hid rfl
        subst h0
        clear HO HN
        go_wp2_with fail
        exact ⟨⟨k + 1, by omega, by go_num, HO'.out⟩, by simp [intOf]; omega⟩
      · have HO' : Hid (orF l = x) := by rw [HN.out, HO.out, if_pos h0]; exact Lib.hid rfl
        have t0 : (x != 0) = true := by simpa using h0
        clear HO HN h0
        go_wp2_with fail
        go_ret
        rw [HO'.out]
        exact ⟨rfl, rfl⟩
    · obtain rfl : k = l.length := by omega
      have HO' : Hid (orF l = 0) := by rw [HN.out, List.drop_length]; exact Lib.hid rfl
      go_wp2_with fail
      go_ret
      rw [HO'.out]
      exact ⟨rfl, rfl⟩
abbrev kV (x : Nat) : Value := .int .u8 (x : Int)
/-- A key's cells. -/
def encK (k : Ky) : List Value := [kV k.1, iV k.2.1, iV k.2.2.1, iV k.2.2.2]
abbrev keyV (k : Ky) : Value := .agg #[kV k.1, iV k.2.1, iV k.2.2.1, iV k.2.2.2]
theorem slC {s : Nat} {w : World} {cs : Array Value} {k e n : Nat} {us : List (List Value)} (h : k = w.heap.size) (hw : Wide s us) (hc : cs.toList = us.flatten) (hn : n = us.length) (hl : n ≤ 1000) : SlAt s (w.alloc (.cells cs e)) (.slice (some ⟨k, 0, none⟩) n n) us := by
  subst hn
  subst h
  exact (row_new (B := 0) (Nat.zero_le _) hw hc hl).sl
/-- Two new blocks, under a letter for the world. -/
theorem let2 {w w2 : World} {A B : Array Value} {T U : Nat} (h : (w.alloc (.cells A T)).alloc (.cells B U) = w2) : Ext w w2 ∧ w.heap.size < w2.heap.size ∧ w.heap.size + 1 < w2.heap.size ∧ (∀ i v, A[i]? = some v → w2.cell? ⟨w.heap.size, i, none⟩ = some v) ∧ (∀ i v, B[i]? = some v → w2.cell? ⟨w.heap.size + 1, i, none⟩ = some v) := by
  subst h
  refine ⟨((Ext.refl _).alloc _).alloc _, by simp; omega, by simp, fun i v hv => ?_, fun i v hv => ?_⟩
  · exact ((Ext.refl _).alloc _).cell (new_at _ _ _ _ _ hv)
  · have := new_at (w.alloc (.cells A T)) B U i v hv
    rw [World.size_alloc] at this
    exact this
set_option maxRecDepth 100000 in
set_option maxHeartbeats 2000000 in
theorem compare_any (x y : Ky) (w : World) : Calls Tryz.prog 47 #[keyV x, keyV y] w (RetG (cmpK x y) w) := by
  have HC : Hid (cmpK x y = orF [Lib.compareInt (x.1 : Int) (y.1 : Int), Lib.compareInt x.2.1 y.2.1, Lib.compareInt x.2.2.1 y.2.2.1, Lib.compareInt x.2.2.2 y.2.2.2]) := Lib.hid rfl
  obtain ⟨x1, x2, x3, x4⟩ := x
  obtain ⟨y1, y2, y3, y4⟩ := y
  simp only [] at HC ⊢
  go_enter Tryz.func47, Tryz.ntmps47
  go_wp2_with fail
  --R37
  generalize hw2 : (w.alloc (.cells #[kV x1, iV x2, iV x3, iV x4] 58)).alloc (.cells #[kV y1, iV y2, iV y3, iV y4] 58) = w2
  have hG2 : Gr w w2 := by rw [← hw2]; exact ((Gr.refl _).alloc _).alloc _
  obtain ⟨hE2, b0, b1, hA, hB⟩ := let2 hw2
  have d0 := hA 0 _ rfl
  have d1 := hA 1 _ rfl
  have d2 := hA 2 _ rfl
  have d3 := hA 3 _ rfl
  have f0 := hB 0 _ rfl
  have f1 := hB 1 _ rfl
  have f2 := hB 2 _ rfl
  have f3 := hB 3 _ rfl
  clear hA hB hw2
  refine wp_region_noPanic ?_
  refine wp_region_held_drew (S := (fun w' => Ext w2 w' ∧ ∀ b o, b < w2.heap.size → w'.cell? ⟨b, o, none⟩ = w2.cell? ⟨b, o, none⟩)) (by kernel_rfl) ?_ (fun hHeld => ?_)
  · exact Ext.held (by repeat (first | assumption | exact Ext.refl _ | apply Ext.alloc | apply Ext.drew | apply Ext.drewN))
  refine wpAnyH_take (i := 0) (v := ?_) (oper_at rfl) (by kernel_rfl) (by kernel_rfl) (by kernel_rfl) (fun _ _ _ h => h) (Or.inl ⟨by rfl, ?_⟩) hHeld ?_
  rotate_left
  · (intro ww hSw; (try dsimp only at hSw); go_simp; try (with_reducible rfl))
  try simp only [Act.put, List.setIfInBounds_toArray, List.set_cons_zero, List.set_cons_succ]
  refine wpAnyH_take (i := 1) (v := ?_) (oper_at rfl) (by kernel_rfl) (by kernel_rfl) (by kernel_rfl) (fun _ _ _ h => h) (Or.inl ⟨by rfl, ?_⟩) hHeld ?_
  rotate_left
  · (intro ww hSw; (try dsimp only at hSw); go_simp; try (with_reducible rfl))
  try simp only [Act.put, List.setIfInBounds_toArray, List.set_cons_zero, List.set_cons_succ]
  refine wpAnyH_take (i := 2) (v := ?_) (oper_at rfl) (by kernel_rfl) (by kernel_rfl) (by kernel_rfl) (fun _ _ _ h => h) (Or.inl ⟨by rfl, ?_⟩) hHeld ?_
  rotate_left
  · (intro ww hSw; (try dsimp only at hSw); go_simp; try (with_reducible rfl))
  try simp only [Act.put, List.setIfInBounds_toArray, List.set_cons_zero, List.set_cons_succ]
  refine wpAnyH_take (i := 3) (v := ?_) (oper_at rfl) (by kernel_rfl) (by kernel_rfl) (by kernel_rfl) (fun _ _ _ h => h) (Or.inl ⟨by rfl, ?_⟩) hHeld ?_
  rotate_left
  · (intro ww hSw; (try dsimp only at hSw); go_simp; try (with_reducible rfl))
  try simp only [Act.put, List.setIfInBounds_toArray, List.set_cons_zero, List.set_cons_succ]
  refine wpAnyH_take (i := 5) (v := ?_) (oper_at rfl) (by kernel_rfl) (by kernel_rfl) (by kernel_rfl) (fun _ _ _ h => h) (Or.inl ⟨by rfl, ?_⟩) hHeld ?_
  rotate_left
  · (intro ww hSw; (try dsimp only at hSw); go_simp; try (with_reducible rfl))
  try simp only [Act.put, List.setIfInBounds_toArray, List.set_cons_zero, List.set_cons_succ]
  refine wpAnyH_take (i := 6) (v := ?_) (oper_at rfl) (by kernel_rfl) (by kernel_rfl) (by kernel_rfl) (fun _ _ _ h => h) (Or.inl ⟨by rfl, ?_⟩) hHeld ?_
  rotate_left
  · (intro ww hSw; (try dsimp only at hSw); go_simp; try (with_reducible rfl))
  try simp only [Act.put, List.setIfInBounds_toArray, List.set_cons_zero, List.set_cons_succ]
  refine wpAnyH_take (i := 7) (v := ?_) (oper_at rfl) (by kernel_rfl) (by kernel_rfl) (by kernel_rfl) (fun _ _ _ h => h) (Or.inl ⟨by rfl, ?_⟩) hHeld ?_
  rotate_left
  · (intro ww hSw; (try dsimp only at hSw); go_simp; try (with_reducible rfl))
  try simp only [Act.put, List.setIfInBounds_toArray, List.set_cons_zero, List.set_cons_succ]
  refine wpAnyH_take (i := 8) (v := ?_) (oper_at rfl) (by kernel_rfl) (by kernel_rfl) (by kernel_rfl) (fun _ _ _ h => h) (Or.inl ⟨by rfl, ?_⟩) hHeld ?_
  rotate_left
  · (intro ww hSw; (try dsimp only at hSw); go_simp; try (with_reducible rfl))
  try simp only [Act.put, List.setIfInBounds_toArray, List.set_cons_zero, List.set_cons_succ]
  refine wpAnyH_take (i := 10) (v := ?_) (oper_at rfl) (by kernel_rfl) (by kernel_rfl) (by kernel_rfl) (fun _ _ _ h => h) (Or.inl ⟨by rfl, ?_⟩) hHeld ?_
  rotate_left
  · (intro ww hSw; (try dsimp only at hSw); go_simp; try (with_reducible rfl))
  try simp only [Act.put, List.setIfInBounds_toArray, List.set_cons_zero, List.set_cons_succ]
  refine wpAnyH_take (i := 11) (v := ?_) (oper_at rfl) (by kernel_rfl) (by kernel_rfl) (by kernel_rfl) (fun _ _ _ h => h) (Or.inl ⟨by rfl, ?_⟩) hHeld ?_
  rotate_left
  · (intro ww hSw; (try dsimp only at hSw); go_simp; try (with_reducible rfl))
  try simp only [Act.put, List.setIfInBounds_toArray, List.set_cons_zero, List.set_cons_succ]
  refine wpAnyH_take (i := 12) (v := ?_) (oper_at rfl) (by kernel_rfl) (by kernel_rfl) (by kernel_rfl) (fun _ _ _ h => h) (Or.inl ⟨by rfl, ?_⟩) hHeld ?_
  rotate_left
  · (intro ww hSw; (try dsimp only at hSw); go_simp; try (with_reducible rfl))
  try simp only [Act.put, List.setIfInBounds_toArray, List.set_cons_zero, List.set_cons_succ]
  refine wpAnyH_take (i := 13) (v := ?_) (oper_at rfl) (by kernel_rfl) (by kernel_rfl) (by kernel_rfl) (fun _ _ _ h => h) (Or.inl ⟨by rfl, ?_⟩) hHeld ?_
  rotate_left
  · (intro ww hSw; (try dsimp only at hSw); go_simp; try (with_reducible rfl))
  try simp only [Act.put, List.setIfInBounds_toArray, List.set_cons_zero, List.set_cons_succ]
  refine wpAnyH_take (i := 15) (v := ?_) (oper_at rfl) (by kernel_rfl) (by kernel_rfl) (by kernel_rfl) (fun _ _ _ h => h) (Or.inl ⟨by rfl, ?_⟩) hHeld ?_
  rotate_left
  · (intro ww hSw; (try dsimp only at hSw); go_simp; try (with_reducible rfl))
  try simp only [Act.put, List.setIfInBounds_toArray, List.set_cons_zero, List.set_cons_succ]
  refine wpAnyH_take (i := 16) (v := ?_) (oper_at rfl) (by kernel_rfl) (by kernel_rfl) (by kernel_rfl) (fun _ _ _ h => h) (Or.inl ⟨by rfl, ?_⟩) hHeld ?_
  rotate_left
  · (intro ww hSw; (try dsimp only at hSw); go_simp; try (with_reducible rfl))
  try simp only [Act.put, List.setIfInBounds_toArray, List.set_cons_zero, List.set_cons_succ]
  refine wpAnyH_take (i := 17) (v := ?_) (oper_at rfl) (by kernel_rfl) (by kernel_rfl) (by kernel_rfl) (fun _ _ _ h => h) (Or.inl ⟨by rfl, ?_⟩) hHeld ?_
  rotate_left
  · (intro ww hSw; (try dsimp only at hSw); go_simp; try (with_reducible rfl))
  try simp only [Act.put, List.setIfInBounds_toArray, List.set_cons_zero, List.set_cons_succ]
  refine wpAnyH_take (i := 18) (v := ?_) (oper_at rfl) (by kernel_rfl) (by kernel_rfl) (by kernel_rfl) (fun _ _ _ h => h) (Or.inl ⟨by rfl, ?_⟩) hHeld ?_
  rotate_left
  · (intro ww hSw; (try dsimp only at hSw); go_simp; try (with_reducible rfl))
  try simp only [Act.put, List.setIfInBounds_toArray, List.set_cons_zero, List.set_cons_succ]
  refine wpAnyH_ready (rs := [4]) (by kernel_rfl) (by simp) (AllReadyH.cons (oper_at rfl) (fun K hK => ?_) AllReadyH.nil)
  go_simp
  go_at_call 78
  refine (cmpKind_any x1 y1 _).mono ?_
  rintro e1 w1 ⟨rfl, rfl⟩
  try go_wp2_with fail
  refine hK.out _ _ ?_ (fun hHeld => ?_)
  · exact Ext.held (by repeat (first | assumption | exact Ext.refl _ | apply Ext.alloc | apply Ext.drew | apply Ext.drewN))
  clear hK K
  try simp only [Act.put, List.setIfInBounds_toArray, List.set_cons_zero, List.set_cons_succ]
  generalize Lib.compareInt (x1 : Int) (y1 : Int) = c1 at *
  refine wpAnyH_ready (rs := [9]) (by kernel_rfl) (by simp) (AllReadyH.cons (oper_at rfl) (fun K hK => ?_) AllReadyH.nil)
  go_simp
  go_at_call 79
  refine (cmp_any x2 y2 _).mono ?_
  rintro e1 w1 ⟨rfl, rfl⟩
  try go_wp2_with fail
  refine hK.out _ _ ?_ (fun hHeld => ?_)
  · exact Ext.held (by repeat (first | assumption | exact Ext.refl _ | apply Ext.alloc | apply Ext.drew | apply Ext.drewN))
  clear hK K
  try simp only [Act.put, List.setIfInBounds_toArray, List.set_cons_zero, List.set_cons_succ]
  generalize Lib.compareInt x2 y2 = c2 at *
  refine wpAnyH_ready (rs := [14]) (by kernel_rfl) (by simp) (AllReadyH.cons (oper_at rfl) (fun K hK => ?_) AllReadyH.nil)
  go_simp
  go_at_call 79
  refine (cmp_any x3 y3 _).mono ?_
  rintro e1 w1 ⟨rfl, rfl⟩
  try go_wp2_with fail
  refine hK.out _ _ ?_ (fun hHeld => ?_)
  · exact Ext.held (by repeat (first | assumption | exact Ext.refl _ | apply Ext.alloc | apply Ext.drew | apply Ext.drewN))
  clear hK K
  try simp only [Act.put, List.setIfInBounds_toArray, List.set_cons_zero, List.set_cons_succ]
  generalize Lib.compareInt x3 y3 = c3 at *
  refine wpAnyH_ready (rs := [19]) (by kernel_rfl) (by simp) (AllReadyH.cons (oper_at rfl) (fun K hK => ?_) AllReadyH.nil)
  go_simp
  go_at_call 79
  refine (cmp_any x4 y4 _).mono ?_
  rintro e1 w1 ⟨rfl, rfl⟩
  try go_wp2_with fail
  refine hK.out _ _ ?_ (fun hHeld => ?_)
  · exact Ext.held (by repeat (first | assumption | exact Ext.refl _ | apply Ext.alloc | apply Ext.drew | apply Ext.drewN))
  clear hK K
  try simp only [Act.put, List.setIfInBounds_toArray, List.set_cons_zero, List.set_cons_succ]
  generalize Lib.compareInt x4 y4 = c4 at *
  refine wpAnyH_ready (rs := [20]) (by kernel_rfl) (by simp) (AllReadyH.cons (oper_at rfl) (fun K hK => ?_) AllReadyH.nil)
  go_simp
  refine hK.out _ _ ?_ (fun hHeld => ?_)
  · exact Ext.held (by repeat (first | assumption | exact Ext.refl _ | apply Ext.alloc | apply Ext.drew | apply Ext.drewN))
  clear hK K
  try simp only [Act.put, List.setIfInBounds_toArray, List.set_cons_zero, List.set_cons_succ]
  refine wpAnyH_ready (rs := [21]) (by kernel_rfl) (by simp) (AllReadyH.cons (oper_at rfl) (fun K hK => ?_) AllReadyH.nil)
  go_simp
  go_at_call 77
  refine (or_any [c1, c2, c3, c4] _ _ (SlAt.ext (slC (w := w2) rfl (nums_wide _) rfl rfl (by simp [nums])) ((Ext.refl _).drew))).mono ?_
  rintro e1 w1 ⟨rfl, rfl⟩
  try go_wp2_with fail
  refine hK.out _ _ ?_ (fun hHeld => ?_)
  · exact Ext.held (by repeat (first | assumption | exact Ext.refl _ | apply Ext.alloc | apply Ext.drew | apply Ext.drewN))
  clear hK K
  try simp only [Act.put, List.setIfInBounds_toArray, List.set_cons_zero, List.set_cons_succ]
  refine wpAnyH_take (i := 22) (v := ?_) (oper_at rfl) (by kernel_rfl) (by kernel_rfl) (by kernel_rfl) (fun _ _ _ h => h) (Or.inl ⟨by rfl, ?_⟩) hHeld ?_
  rotate_left
  · (intro ww hSw; (try dsimp only at hSw); go_simp; try (with_reducible rfl))
  try simp only [Act.put, List.setIfInBounds_toArray, List.set_cons_zero, List.set_cons_succ]
  refine wpAnyH_done (by kernel_rfl) ?_ _
  refine NoPanic.normal ?_
  go_wp2_with fail
  go_ret
  rw [HC.out]
  exact ⟨rfl, (hG2.alloc _).drew⟩
set_option maxHeartbeats 2000000 in
theorem less_any (x y : Ky) (w : World) : Calls Tryz.prog 30 #[keyV x, keyV y] w (RetB (decide (klt x y)) w) := by
  have HC := Lib.hid (compare_any x y)
  have HN := Lib.hid (cmpK_neg (x := x) (y := y))
  obtain ⟨c, hc⟩ : ∃ c, cmpK x y = c := ⟨_, rfl⟩
  rw [hc] at HC HN
  obtain ⟨x1, x2, x3, x4⟩ := x
  obtain ⟨y1, y2, y3, y4⟩ := y
  clear hc
  go_enter Tryz.func30, Tryz.ntmps30
  go_wp2_with fail
  refine (HC.out _).mono ?_
  rintro e1 w1 ⟨rfl, hE⟩
  have HE := Lib.hid hE
  clear hE
  go_wp2_with fail
  go_ret
  exact ⟨ret_bool (decide_eq_decide.2 HN.out), (((Ext.refl _).alloc _).alloc _).trans HE.out.ext⟩
end Go.Proofs.YtehmpbaiefbemaaGreat
