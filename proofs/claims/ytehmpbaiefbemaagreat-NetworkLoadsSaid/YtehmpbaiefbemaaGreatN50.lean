/- slices.Equal at keys. slices.Equal at equal arguments; same, Equal$1. Set.Equal at equal choices. Set.Equal; arrivals. EqualFunc at holds. The arrays of a network, loaded. -/
import Derived.Test.YtehmpbaiefbemaaGreatN44
import Derived.Deep.MidRow
import Derived.ChangeKeysEq
namespace Go.Proofs.YtehmpbaiefbemaaGreat
open Go.RowKit
@[irreducible] def neS (t : TypeId) (a b : Value) : Sem Value := binOp .neq t a b
theorem ne73 (a b : Value) : binOp .neq 58 a b = neS 58 a b := by unfold neS; rfl
theorem run_ne73 (w : World) (a a' : Nat) (b c d b' c' d' : Int) : (neS 58 (.agg #[kV a, iV b, iV c, iV d]) (.agg #[kV a', iV b', iV c', iV d'])).run Tryz.prog w = .ok (.bool (!eqB (a, b, c, d) (a', b', c', d'))) w := by
  have h := run_same73 w (a, b, c, d) (a', b', c', d')
  have e : eqB (a, b, c, d) (a', b', c', d') = decide (((a, b, c, d) : Ky) = (a', b', c', d')) := by unfold eqB; rfl
  unfold neS
  rw [e]
  simp only [binOp, Sem.run_bind]
  rw [h]
  rfl
theorem list_ne {α : Type} {xs ys : List α} {k : Nat} {d : α} (hn : xs.getD k d ≠ ys.getD k d) : xs ≠ ys := fun e => hn (by rw [e])
theorem list_eq {α : Type} {xs ys : List α} {d : α} (hl : xs.length = ys.length) (h : ∀ k, k < xs.length → xs.getD k d = ys.getD k d) : xs = ys := by
  refine List.ext_getElem hl fun i h1 h2 => ?_
  have := h i h1
  rwa [List.getD_eq_getElem?_getD, List.getD_eq_getElem?_getD, List.getElem?_eq_getElem h1, List.getElem?_eq_getElem h2] at this
attribute [local go_sem ↓] ne73
attribute [local go_sem] run_ne73
set_option maxRecDepth 100000 in
set_option maxHeartbeats 4000000 in
theorem equalK_any (xs ys : List Ky) (v u : Value) (w : World) (hv : KsAt w v xs) (hu : KsAt w u ys) (hl : xs.length ≤ 1000) : Calls Tryz.prog 27 #[v, u] w (RetV (.bool (decide (xs = ys))) w) := by
  obtain ⟨A, c, rfl, a1, a2, RA⟩ := hv.read
  obtain ⟨B, d, rfl, b1, b2, RB⟩ := hu.read
  rw [List.length_map] at a1 RA
  rw [List.length_map] at b1 RB
  rw [List.length_map, List.length_map]
  have HA := Lib.hid RA
  have HB := Lib.hid RB
  clear RA RB hv hu
  by_cases hlen : xs.length = ys.length
  · have HL := Lib.hid hlen
    rw [← hlen] at b1 HB ⊢
    obtain ⟨n, hn⟩ : ∃ n, xs.length = n := ⟨_, rfl⟩
    rw [hn] at a1 b1 HA HB ⊢
    have hnl : n ≤ 1000 := by omega
    have HN := Lib.hid hn
    have HN2 : Hid (ys.length = n) := Lib.hid (hlen.symm.trans hn)
    clear hlen hn hl
    go_enter Tryz.func27, Tryz.ntmps27
    go_wp2_with fail
    go_loopw [5, 13] (fun _ i wr => ∃ k : Nat, k ≤ n ∧ i = iV (k : Int) ∧ (∀ j, j < k → xs.getD j (0, 0, 0, 0) = ys.getD j (0, 0, 0, 0)) ∧ Ext w wr) (fun _ i _ => n - (intOf i).toNat)
    case atStart => exact ⟨0, by omega, rfl, fun j hj => by omega, Ext.refl _⟩
    case round =>
      obtain ⟨k, hk, rfl, hP, hE⟩ := hrel
      have HX := Lib.hid hE
      have HP := Lib.hid hP
      clear hE hP
      by_cases hlt : k < n
      · obtain ⟨b, o, rfl, hb, cA⟩ := HA.out wr HX.out k hlt (by omega)
        obtain ⟨b', o', rfl, hb', cB⟩ := HB.out wr HX.out k hlt (by omega)
        obtain ⟨x, hx⟩ : ∃ x, xs.getD k (0, 0, 0, 0) = x := ⟨_, rfl⟩
        obtain ⟨y, hy⟩ : ∃ y, ys.getD k (0, 0, 0, 0) = y := ⟨_, rfl⟩
        rw [keys_at (by rw [HN.out]; exact hlt) x hx] at cA
        rw [keys_at (by rw [HN2.out]; exact hlt) y hy] at cB
        have HXY : Hid (xs.getD k (0, 0, 0, 0) = x ∧ ys.getD k (0, 0, 0, 0) = y) := Lib.hid ⟨hx, hy⟩
        obtain ⟨x1, x2, x3, x4⟩ := x
        obtain ⟨y1, y2, y3, y4⟩ := y
        have r0 := cA 0 _ (by omega) rfl
        have s0 := cB 0 _ (by omega) rfl
        have r1 := cA 1 _ (by omega) rfl
        have s1 := cB 1 _ (by omega) rfl
        have r2 := cA 2 _ (by omega) rfl
        have s2 := cB 2 _ (by omega) rfl
        have r3 := cA 3 _ (by omega) rfl
        have s3 := cB 3 _ (by omega) rfl
        rw [Nat.add_zero] at r0 s0
        have q0 : (0 : Int) ≤ (k : Int) := by omega
        have q1 : (k : Int) < (n : Int) := by omega
        clear cA cB hx hy
        cases hbb : eqB (x1, x2, x3, x4) (y1, y2, y3, y4) with
        | true =>
          have HKE := Lib.hid (eqB_true hbb)
          have HBB := Lib.hid hbb
          go_wp2_with fail
          refine wp_region_noPanic ?_
          refine wp_region_held_drew (S := (fun w' => Ext wr w' ∧ ∀ b o, b < wr.heap.size → w'.cell? ⟨b, o, none⟩ = wr.cell? ⟨b, o, none⟩)) (by kernel_rfl) ?_ (fun hHeld => ?_)
          · exact Ext.held (by repeat (first | assumption | exact Ext.refl _ | apply Ext.alloc | apply Ext.drew | apply Ext.drewN))
          refine wpAnyH_take (i := 0) (v := ?_) (oper_at rfl) (by kernel_rfl) (by kernel_rfl) (by kernel_rfl) (fun _ _ _ h => h) (Or.inl ⟨by rfl, ?_⟩) hHeld ?_
          rotate_left
          · (intro ww hSw; (try dsimp only at hSw); go_simp; try (with_reducible rfl))
          try simp only [Act.put, List.setIfInBounds_toArray, List.set_cons_zero, List.set_cons_succ]
          refine wpAnyH_take (i := 1) (v := ?_) (oper_at rfl) (by kernel_rfl) (by kernel_rfl) (by kernel_rfl) (fun _ _ _ h => h) (Or.inl ⟨by rfl, ?_⟩) hHeld ?_
          rotate_left
          · (intro ww hSw; (try dsimp only at hSw); go_simp; try (with_reducible rfl))
          try simp only [Act.put, List.setIfInBounds_toArray, List.set_cons_zero, List.set_cons_succ]
          refine wpAnyH_take (i := 2) (v := ?_) (oper_at rfl) (by kernel_rfl) (by kernel_rfl) (by kernel_rfl) (fun _ _ _ h => h) (Or.inl ⟨by rfl, ?_⟩) hHeld ?_
          rotate_left
          · (intro ww hSw; (try dsimp only at hSw); go_simp; try (with_reducible rfl))
          try simp only [Act.put, List.setIfInBounds_toArray, List.set_cons_zero, List.set_cons_succ]
          refine wpAnyH_take (i := 3) (v := ?_) (oper_at rfl) (by kernel_rfl) (by kernel_rfl) (by kernel_rfl) (fun _ _ _ h => h) (Or.inl ⟨by rfl, ?_⟩) hHeld ?_
          rotate_left
          · (intro ww hSw; (try dsimp only at hSw); go_simp; try (with_reducible rfl))
          try simp only [Act.put, List.setIfInBounds_toArray, List.set_cons_zero, List.set_cons_succ]
          refine wpAnyH_take (i := 4) (v := ?_) (oper_at rfl) (by kernel_rfl) (by kernel_rfl) (by kernel_rfl) (fun _ _ _ h => h) (Or.inl ⟨by rfl, ?_⟩) hHeld ?_
          rotate_left
          · (intro ww hSw; (try dsimp only at hSw); go_simp; try (with_reducible rfl))
          try simp only [Act.put, List.setIfInBounds_toArray, List.set_cons_zero, List.set_cons_succ]
          refine wpAnyH_take (i := 5) (v := ?_) (oper_at rfl) (by kernel_rfl) (by kernel_rfl) (by kernel_rfl) (fun _ _ _ h => h) (Or.inl ⟨by rfl, ?_⟩) hHeld ?_
          rotate_left
          · (intro ww hSw; (try dsimp only at hSw); go_simp; try (with_reducible rfl))
          try simp only [Act.put, List.setIfInBounds_toArray, List.set_cons_zero, List.set_cons_succ]
          refine wpAnyH_take (i := 6) (v := ?_) (oper_at rfl) (by kernel_rfl) (by kernel_rfl) (by kernel_rfl) (fun _ _ _ h => h) (Or.inl ⟨by rfl, ?_⟩) hHeld ?_
          rotate_left
          · (intro ww hSw; (try dsimp only at hSw); go_simp; try (with_reducible rfl))
          try simp only [Act.put, List.setIfInBounds_toArray, List.set_cons_zero, List.set_cons_succ]
          refine wpAnyH_take (i := 7) (v := ?_) (oper_at rfl) (by kernel_rfl) (by kernel_rfl) (by kernel_rfl) (fun _ _ _ h => h) (Or.inl ⟨by rfl, ?_⟩) hHeld ?_
          rotate_left
          · (intro ww hSw; (try dsimp only at hSw); go_simp; try (with_reducible rfl))
          try simp only [Act.put, List.setIfInBounds_toArray, List.set_cons_zero, List.set_cons_succ]
          refine wpAnyH_take (i := 8) (v := ?_) (oper_at rfl) (by kernel_rfl) (by kernel_rfl) (by kernel_rfl) (fun _ _ _ h => h) (Or.inl ⟨by rfl, ?_⟩) hHeld ?_
          rotate_left
          · (intro ww hSw; (try dsimp only at hSw); go_simp; try (with_reducible rfl))
          try simp only [Act.put, List.setIfInBounds_toArray, List.set_cons_zero, List.set_cons_succ]
          refine wpAnyH_done (by kernel_rfl) ?_ _
          refine NoPanic.normal ?_
          clear r0 s0 r1 s1 r2 s2 r3 s3
          go_wp2_with fail
          exact ⟨⟨k + 1, by omega, by go_num, fun j hj => by
            rcases Nat.lt_or_ge j k with h | h
            · exact HP.out j h
            · obtain rfl : j = k := by omega
              rw [HXY.out.1, HXY.out.2]; exact HKE.out, HX.out.drew⟩, by simp [intOf]; omega⟩
        | false =>
          have HKE := Lib.hid (eqB_false hbb)
          have HBB := Lib.hid hbb
          go_wp2_with fail
          refine wp_region_noPanic ?_
          refine wp_region_held_drew (S := (fun w' => Ext wr w' ∧ ∀ b o, b < wr.heap.size → w'.cell? ⟨b, o, none⟩ = wr.cell? ⟨b, o, none⟩)) (by kernel_rfl) ?_ (fun hHeld => ?_)
          · exact Ext.held (by repeat (first | assumption | exact Ext.refl _ | apply Ext.alloc | apply Ext.drew | apply Ext.drewN))
          refine wpAnyH_take (i := 0) (v := ?_) (oper_at rfl) (by kernel_rfl) (by kernel_rfl) (by kernel_rfl) (fun _ _ _ h => h) (Or.inl ⟨by rfl, ?_⟩) hHeld ?_
          rotate_left
          · (intro ww hSw; (try dsimp only at hSw); go_simp; try (with_reducible rfl))
          try simp only [Act.put, List.setIfInBounds_toArray, List.set_cons_zero, List.set_cons_succ]
          refine wpAnyH_take (i := 1) (v := ?_) (oper_at rfl) (by kernel_rfl) (by kernel_rfl) (by kernel_rfl) (fun _ _ _ h => h) (Or.inl ⟨by rfl, ?_⟩) hHeld ?_
          rotate_left
          · (intro ww hSw; (try dsimp only at hSw); go_simp; try (with_reducible rfl))
          try simp only [Act.put, List.setIfInBounds_toArray, List.set_cons_zero, List.set_cons_succ]
          refine wpAnyH_take (i := 2) (v := ?_) (oper_at rfl) (by kernel_rfl) (by kernel_rfl) (by kernel_rfl) (fun _ _ _ h => h) (Or.inl ⟨by rfl, ?_⟩) hHeld ?_
          rotate_left
          · (intro ww hSw; (try dsimp only at hSw); go_simp; try (with_reducible rfl))
          try simp only [Act.put, List.setIfInBounds_toArray, List.set_cons_zero, List.set_cons_succ]
          refine wpAnyH_take (i := 3) (v := ?_) (oper_at rfl) (by kernel_rfl) (by kernel_rfl) (by kernel_rfl) (fun _ _ _ h => h) (Or.inl ⟨by rfl, ?_⟩) hHeld ?_
          rotate_left
          · (intro ww hSw; (try dsimp only at hSw); go_simp; try (with_reducible rfl))
          try simp only [Act.put, List.setIfInBounds_toArray, List.set_cons_zero, List.set_cons_succ]
          refine wpAnyH_take (i := 4) (v := ?_) (oper_at rfl) (by kernel_rfl) (by kernel_rfl) (by kernel_rfl) (fun _ _ _ h => h) (Or.inl ⟨by rfl, ?_⟩) hHeld ?_
          rotate_left
          · (intro ww hSw; (try dsimp only at hSw); go_simp; try (with_reducible rfl))
          try simp only [Act.put, List.setIfInBounds_toArray, List.set_cons_zero, List.set_cons_succ]
          refine wpAnyH_take (i := 5) (v := ?_) (oper_at rfl) (by kernel_rfl) (by kernel_rfl) (by kernel_rfl) (fun _ _ _ h => h) (Or.inl ⟨by rfl, ?_⟩) hHeld ?_
          rotate_left
          · (intro ww hSw; (try dsimp only at hSw); go_simp; try (with_reducible rfl))
          try simp only [Act.put, List.setIfInBounds_toArray, List.set_cons_zero, List.set_cons_succ]
          refine wpAnyH_take (i := 6) (v := ?_) (oper_at rfl) (by kernel_rfl) (by kernel_rfl) (by kernel_rfl) (fun _ _ _ h => h) (Or.inl ⟨by rfl, ?_⟩) hHeld ?_
          rotate_left
          · (intro ww hSw; (try dsimp only at hSw); go_simp; try (with_reducible rfl))
          try simp only [Act.put, List.setIfInBounds_toArray, List.set_cons_zero, List.set_cons_succ]
          refine wpAnyH_take (i := 7) (v := ?_) (oper_at rfl) (by kernel_rfl) (by kernel_rfl) (by kernel_rfl) (fun _ _ _ h => h) (Or.inl ⟨by rfl, ?_⟩) hHeld ?_
          rotate_left
          · (intro ww hSw; (try dsimp only at hSw); go_simp; try (with_reducible rfl))
          try simp only [Act.put, List.setIfInBounds_toArray, List.set_cons_zero, List.set_cons_succ]
          refine wpAnyH_take (i := 8) (v := ?_) (oper_at rfl) (by kernel_rfl) (by kernel_rfl) (by kernel_rfl) (fun _ _ _ h => h) (Or.inl ⟨by rfl, ?_⟩) hHeld ?_
          rotate_left
          · (intro ww hSw; (try dsimp only at hSw); go_simp; try (with_reducible rfl))
          try simp only [Act.put, List.setIfInBounds_toArray, List.set_cons_zero, List.set_cons_succ]
          refine wpAnyH_done (by kernel_rfl) ?_ _
          refine NoPanic.normal ?_
          clear r0 s0 r1 s1 r2 s2 r3 s3
          go_wp2_with fail
          go_ret
          refine ⟨?_, HX.out.drew⟩
          rw [decide_eq_false (list_ne (d := (0, 0, 0, 0)) (k := k) (by rw [HXY.out.1, HXY.out.2]; exact HKE.out))]
          rfl
      · obtain rfl : k = n := by omega
        go_wp2_with fail
        go_ret
        refine ⟨?_, HX.out⟩
        rw [decide_eq_true (list_eq (d := (0, 0, 0, 0)) HL.out (by rw [HN.out]; exact HP.out))]
        rfl
  · go_enter Tryz.func27, Tryz.ntmps27
    have hni : ¬ ((xs.length : Int) = (ys.length : Int)) := by omega
    go_wp2_with fail
    go_ret
    refine ⟨?_, Ext.refl _⟩
    rw [decide_eq_false (fun e => hlen (by rw [e]))]
    rfl
end Go.Proofs.YtehmpbaiefbemaaGreat
namespace Go.Proofs.YtehmpbaiefbemaaGreat
open Go.RowKit
set_option maxRecDepth 100000 in
set_option maxHeartbeats 4000000 in
theorem equalI_ok (xs : List Int) (v u : Value) (w : World) (hv : ArgsAt w v xs) (hu : ArgsAt w u xs) (hl : xs.length ≤ 4) : Calls Tryz.prog 22 #[v, u] w (RetV (.bool true) w) := by
  obtain ⟨A, c, rfl, a1, a2, RA⟩ := hv.read
  obtain ⟨B, d, rfl, b1, b2, RB⟩ := hu.read
  rw [List.length_map] at a1 RA b1 RB ⊢
  have HA := Lib.hid RA
  have HB := Lib.hid RB
  clear RA RB hv hu
  go_enter Tryz.func22, Tryz.ntmps22
  go_wp2_with fail
  go_loopw [5, 13] (fun _ i wr => ∃ k : Nat, k ≤ xs.length ∧ i = iV (k : Int) ∧ Ext w wr) (fun _ i _ => xs.length - (intOf i).toNat)
  case atStart => exact ⟨0, by omega, rfl, Ext.refl _⟩
  case round =>
    obtain ⟨k, hk, rfl, hE⟩ := hrel
    have HX := Lib.hid hE
    clear hE
    by_cases hlt : k < xs.length
    · obtain ⟨b, o, rfl, hb, cA⟩ := HA.out wr HX.out k hlt (by omega)
      obtain ⟨b', o', rfl, hb', cB⟩ := HB.out wr HX.out k hlt (by omega)
      rw [args_at hlt] at cA cB
      obtain ⟨x, hx⟩ : ∃ x, xs.getD k 0 = x := ⟨_, rfl⟩
      rw [hx] at cA cB
      have r0 := cA 0 _ (by omega) rfl
      have s0 := cB 0 _ (by omega) rfl
      rw [Nat.add_zero, Nat.mul_one] at r0 s0
      have q0 : (0 : Int) ≤ (k : Int) := by omega
      have q1 : (k : Int) < (xs.length : Int) := by omega
      clear cA cB hx
      go_wp2_with fail
      refine wp_region_noPanic ?_
      refine wp_region_held_drew (S := (fun w' => Ext wr w' ∧ ∀ b o, b < wr.heap.size → w'.cell? ⟨b, o, none⟩ = wr.cell? ⟨b, o, none⟩)) (by kernel_rfl) ?_ (fun hHeld => ?_)
      · exact Ext.held (by repeat (first | assumption | exact Ext.refl _ | apply Ext.alloc | apply Ext.drew | apply Ext.drewN))
      refine wpAnyH_take (i := 0) (v := ?_) (oper_at rfl) (by kernel_rfl) (by kernel_rfl) (by kernel_rfl) (fun _ _ _ h => h) (Or.inl ⟨by rfl, ?_⟩) hHeld ?_
      rotate_left
      · (intro ww hSw; (try dsimp only at hSw); go_simp; try (with_reducible rfl))
      try simp only [Act.put, List.setIfInBounds_toArray, List.set_cons_zero, List.set_cons_succ]
      refine wpAnyH_take (i := 1) (v := ?_) (oper_at rfl) (by kernel_rfl) (by kernel_rfl) (by kernel_rfl) (fun _ _ _ h => h) (Or.inl ⟨by rfl, ?_⟩) hHeld ?_
      rotate_left
      · (intro ww hSw; (try dsimp only at hSw); go_simp; try (with_reducible rfl))
      try simp only [Act.put, List.setIfInBounds_toArray, List.set_cons_zero, List.set_cons_succ]
      refine wpAnyH_take (i := 2) (v := ?_) (oper_at rfl) (by kernel_rfl) (by kernel_rfl) (by kernel_rfl) (fun _ _ _ h => h) (Or.inl ⟨by rfl, ?_⟩) hHeld ?_
      rotate_left
      · (intro ww hSw; (try dsimp only at hSw); go_simp; try (with_reducible rfl))
      try simp only [Act.put, List.setIfInBounds_toArray, List.set_cons_zero, List.set_cons_succ]
      refine wpAnyH_take (i := 3) (v := ?_) (oper_at rfl) (by kernel_rfl) (by kernel_rfl) (by kernel_rfl) (fun _ _ _ h => h) (Or.inl ⟨by rfl, ?_⟩) hHeld ?_
      rotate_left
      · (intro ww hSw; (try dsimp only at hSw); go_simp; try (with_reducible rfl))
      try simp only [Act.put, List.setIfInBounds_toArray, List.set_cons_zero, List.set_cons_succ]
      refine wpAnyH_take (i := 4) (v := ?_) (oper_at rfl) (by kernel_rfl) (by kernel_rfl) (by kernel_rfl) (fun _ _ _ h => h) (Or.inl ⟨by rfl, ?_⟩) hHeld ?_
      rotate_left
      · (intro ww hSw; (try dsimp only at hSw); go_simp; try (with_reducible rfl))
      try simp only [Act.put, List.setIfInBounds_toArray, List.set_cons_zero, List.set_cons_succ]
      refine wpAnyH_take (i := 5) (v := ?_) (oper_at rfl) (by kernel_rfl) (by kernel_rfl) (by kernel_rfl) (fun _ _ _ h => h) (Or.inl ⟨by rfl, ?_⟩) hHeld ?_
      rotate_left
      · (intro ww hSw; (try dsimp only at hSw); go_simp; try (with_reducible rfl))
      try simp only [Act.put, List.setIfInBounds_toArray, List.set_cons_zero, List.set_cons_succ]
      refine wpAnyH_take (i := 6) (v := ?_) (oper_at rfl) (by kernel_rfl) (by kernel_rfl) (by kernel_rfl) (fun _ _ _ h => h) (Or.inl ⟨by rfl, ?_⟩) hHeld ?_
      rotate_left
      · (intro ww hSw; (try dsimp only at hSw); go_simp; try (with_reducible rfl))
      try simp only [Act.put, List.setIfInBounds_toArray, List.set_cons_zero, List.set_cons_succ]
      refine wpAnyH_take (i := 7) (v := ?_) (oper_at rfl) (by kernel_rfl) (by kernel_rfl) (by kernel_rfl) (fun _ _ _ h => h) (Or.inl ⟨by rfl, ?_⟩) hHeld ?_
      rotate_left
      · (intro ww hSw; (try dsimp only at hSw); go_simp; try (with_reducible rfl))
      try simp only [Act.put, List.setIfInBounds_toArray, List.set_cons_zero, List.set_cons_succ]
      refine wpAnyH_take (i := 8) (v := ?_) (oper_at rfl) (by kernel_rfl) (by kernel_rfl) (by kernel_rfl) (fun _ _ _ h => h) (Or.inl ⟨by rfl, ?_⟩) hHeld ?_
      rotate_left
      · (intro ww hSw; (try dsimp only at hSw); go_simp; try (with_reducible rfl))
      try simp only [Act.put, List.setIfInBounds_toArray, List.set_cons_zero, List.set_cons_succ]
      refine wpAnyH_done (by kernel_rfl) ?_ _
      refine NoPanic.normal ?_
      clear r0 s0
      go_wp2_with fail
      exact ⟨⟨k + 1, by omega, by go_num, HX.out.drew⟩, by simp [intOf]; omega⟩
    · obtain rfl : k = xs.length := by omega
      go_wp2_with fail
      go_ret
      exact ⟨rfl, HX.out⟩
attribute [local go_sem ↓] eq73
attribute [local go_sem] run_eq73
set_option maxRecDepth 100000 in
set_option maxHeartbeats 4000000 in
theorem same80_ok (c : Ch) (w : World) : Calls Tryz.prog 64 #[chV c, chV c] w (RetV (.bool true) w) := by
  have CE := Lib.hid (fun W => equalI_ok [] nilS nilS W (SlAt.nil _ _) (SlAt.nil _ _) (by simp))
  obtain ⟨⟨x1, x2, x3, x4⟩, x5⟩ := c
  have HBB : eqB (x1, x2, x3, x4) (x1, x2, x3, x4) = true := by unfold eqB; exact decide_eq_true rfl
  go_enter Tryz.func64, Tryz.ntmps64
  go_wp2_with fail
  refine (CE.out _).mono ?_
  rintro e1 w1 ⟨rfl, hE1⟩
  have HE1 := Lib.hid hE1
  clear hE1
  go_wp2_with fail
  go_ret
  exact ⟨rfl, ((Ext.refl _).alloc _ |>.alloc _).trans HE1.out⟩
end Go.Proofs.YtehmpbaiefbemaaGreat
namespace Go.Proofs.YtehmpbaiefbemaaGreat
open Go.RowKit
set_option maxRecDepth 100000 in
set_option maxHeartbeats 4000000 in
theorem equalC_ok (cs : List Ch) (v u : Value) (w : World) (hv : CsAt w v cs) (hu : CsAt w u cs) (hl : cs.length ≤ 1000) : Calls Tryz.prog 63 #[v, u, .func (.func 64) #[] #[]] w (RetV (.bool true) w) := by
  have CS := Lib.hid same80_ok
  obtain ⟨A, c, rfl, a1, a2, RA⟩ := hv.read
  obtain ⟨B, d, rfl, b1, b2, RB⟩ := hu.read
  rw [List.length_map] at a1 RA b1 RB ⊢
  have HA := Lib.hid RA
  have HB := Lib.hid RB
  clear RA RB hv hu
  go_enter Tryz.func63, Tryz.ntmps63
  go_wp2_with fail
  go_loopw [17] (fun i wr => ∃ k : Nat, k ≤ cs.length ∧ i = iV (k : Int) ∧ Ext w wr) (fun i _ => cs.length - (intOf i).toNat)
  case atStart => exact ⟨0, by omega, rfl, Ext.refl _⟩
  case round =>
    obtain ⟨k, hk, rfl, hE⟩ := hrel
    obtain ⟨wo, rfl⟩ : ∃ wo, wo = wr := ⟨_, rfl⟩
    have HX := Lib.hid hE
    clear hE
    by_cases hlt : k < cs.length
    · obtain ⟨b, o, rfl, hb, cA⟩ := HA.out wo HX.out k hlt (by omega)
      obtain ⟨b', o', rfl, hb', cB⟩ := HB.out wo HX.out k hlt (by omega)
      obtain ⟨x, hx⟩ : ∃ x, cs.getD k Ch0 = x := ⟨_, rfl⟩
      rw [encC_at hlt x hx] at cA cB
      have CX := Lib.hid (fun W => CS.out x W)
      obtain ⟨⟨x1, x2, x3, x4⟩, x5⟩ := x
      have r0 := cA 0 _ (by omega) rfl
      have r1 := cA 1 _ (by omega) rfl
      have r2 := cA 2 _ (by omega) rfl
      have r3 := cA 3 _ (by omega) rfl
      have r4 := cA 4 _ (by omega) rfl
      have r5 := cA 5 _ (by omega) rfl
      have r6 := cA 6 _ (by omega) rfl
      have s0 := cB 0 _ (by omega) rfl
      have s1 := cB 1 _ (by omega) rfl
      have s2 := cB 2 _ (by omega) rfl
      have s3 := cB 3 _ (by omega) rfl
      have s4 := cB 4 _ (by omega) rfl
      have s5 := cB 5 _ (by omega) rfl
      have s6 := cB 6 _ (by omega) rfl
      rw [Nat.add_zero] at r0 s0
      have q0 : (0 : Int) ≤ (k : Int) := by omega
      have q1 : (k : Int) < (cs.length : Int) := by omega
      clear cA cB hx
      go_wp2_with fail
      go_at_call 64
      refine (CX.out _).mono ?_
      rintro e1 w1 ⟨rfl, hE1⟩
      have HE1 := Lib.hid hE1
      clear hE1
      go_wp2_with fail
      exact ⟨⟨k + 1, by omega, by go_num, (((HX.out.alloc _).alloc _)).trans HE1.out⟩, by simp [intOf]; omega⟩
    · obtain rfl : k = cs.length := by omega
      go_wp2_with fail
      go_ret
      exact ⟨rfl, HX.out⟩
end Go.Proofs.YtehmpbaiefbemaaGreat
namespace Go.Proofs.YtehmpbaiefbemaaGreat
open Go.RowKit
set_option maxRecDepth 100000 in
set_option maxHeartbeats 4000000 in
theorem setEqual_ok (cs : List Ch) (v u : Value) (w : World) (hv : CsAt w v cs) (hu : CsAt w u cs) (hl : cs.length ≤ 1000) : Calls Tryz.prog 25 #[.agg #[v], .agg #[u]] w (RetV (.bool true) w) := by
  have CE := Lib.hid (fun W (hW : Ext w W) => equalC_ok cs v u W (hv.ext hW) (hu.ext hW) hl)
  obtain ⟨A, c, rfl, -, -, -⟩ := hv.read
  obtain ⟨B, d, rfl, -, -, -⟩ := hu.read
  rw [List.length_map] at *
  clear hv hu
  go_enter Tryz.func25, Tryz.ntmps25
  go_wp2_with fail
  refine (CE.out _ (((Ext.refl _).alloc _).alloc _)).mono ?_
  rintro e1 w1 ⟨rfl, hE1⟩
  have HE1 := Lib.hid hE1
  clear hE1
  go_wp2_with fail
  go_ret
  exact ⟨rfl, (((Ext.refl _).alloc _).alloc _).trans HE1.out⟩
set_option maxRecDepth 100000 in
set_option maxHeartbeats 4000000 in
theorem equalA2_ok (a b : Int) (xs : List Int) (v u : Value) (w : World) (hv : ArgsAt w v xs) (hu : ArgsAt w u xs) (hl : xs.length ≤ 4) : Calls Tryz.prog 21 #[.agg #[iV a, iV b, v], .agg #[iV a, iV b, u]] w (RetV (.bool true) w) := by
  have CE := Lib.hid (fun W (hW : Ext w W) => equalI_ok xs v u W (hv.ext hW) (hu.ext hW) hl)
  obtain ⟨A, c, rfl, -, -, -⟩ := hv.read
  obtain ⟨B, d, rfl, -, -, -⟩ := hu.read
  rw [List.length_map] at *
  clear hv hu
  go_enter Tryz.func21, Tryz.ntmps21
  go_wp2_with fail
  refine (CE.out _ (((Ext.refl _).alloc _).alloc _)).mono ?_
  rintro e1 w1 ⟨rfl, hE1⟩
  have HE1 := Lib.hid hE1
  clear hE1
  go_wp2_with fail
  go_ret
  exact ⟨rfl, (((Ext.refl _).alloc _).alloc _).trans HE1.out⟩
theorem equalA_ok (a b : Int) (xs : List Int) (v : Value) (w : World) (hv : ArgsAt w v xs) (hl : xs.length ≤ 4) : Calls Tryz.prog 21 #[.agg #[iV a, iV b, v], .agg #[iV a, iV b, v]] w (RetV (.bool true) w) := equalA2_ok a b xs v v w hv hv hl
set_option maxRecDepth 100000 in
set_option maxHeartbeats 4000000 in
theorem equalJ2_ok (js js' : List Ja) (hq : js.map (·.1) = js'.map (·.1)) (v u : Value) (w : World) (hv : JaAt w v js) (hu : JaAt w u js') (hl : js.length ≤ 1000) (h4 : ∀ j ∈ js, j.1.2.2.length ≤ 4) : Calls Tryz.prog 24 #[v, u, .func (.func 21) #[] #[]] w (RetV (.bool true) w) := by
  obtain ⟨sl, ar⟩ := hv
  obtain ⟨sl', ar'⟩ := hu
  have hlen : js'.length = js.length := by have := congrArg List.length hq; simp only [List.length_map] at this; exact this.symm
  have CA := Lib.hid (fun W (hW : Ext w W) (j j' : Ja) (hj : j ∈ js) (hj' : j' ∈ js') (e : j'.1 = j.1) => equalA2_ok j.1.1 j.1.2.1 j.1.2.2 j.2 j'.2 W ((ar j hj).ext hW) (by rw [← e]; exact (ar' j' hj').ext hW) (h4 j hj))
  have AF := Lib.hid (fun (j : Ja) (hj : j ∈ js) => (ar j hj).read)
  have AG := Lib.hid (fun (j : Ja) (hj : j ∈ js') => (ar' j hj).read)
  have HQ := Lib.hid hq
  obtain ⟨A, c, rfl, a1, a2, RA⟩ := sl.read
  obtain ⟨B, d, rfl, b1, b2, RB⟩ := sl'.read
  rw [List.length_map] at a1 RA b1 RB ⊢
  rw [List.length_map] at ⊢
  rw [hlen] at b1 RB ⊢
  have HA := Lib.hid RA
  have HB := Lib.hid RB
  have HLN := Lib.hid hlen
  clear RA RB sl sl' ar ar' h4 hq hlen
  go_enter Tryz.func24, Tryz.ntmps24
  go_wp2_with fail
  go_loopw [17] (fun i wr => ∃ k : Nat, k ≤ js.length ∧ i = iV (k : Int) ∧ Ext w wr) (fun i _ => js.length - (intOf i).toNat)
  case atStart => exact ⟨0, by omega, rfl, Ext.refl _⟩
  case round =>
    obtain ⟨k, hk, rfl, hE⟩ := hrel
    obtain ⟨wo, rfl⟩ : ∃ wo, wo = wr := ⟨_, rfl⟩
    have HX := Lib.hid hE
    clear hE
    by_cases hlt : k < js.length
    · obtain ⟨b, o, rfl, hb, cA⟩ := HA.out wo HX.out k hlt (by omega)
      obtain ⟨b', o', rfl, hb', cB⟩ := HB.out wo HX.out k hlt (by omega)
      obtain ⟨x, hx⟩ : ∃ x, js.getD k Ja0 = x := ⟨_, rfl⟩
      obtain ⟨y, hy⟩ : ∃ y, js'.getD k Ja0 = y := ⟨_, rfl⟩
      rw [encJ_at hlt x hx] at cA
      rw [encJ_at (by rw [HLN.out]; exact hlt) y hy] at cB
      have hyx : y.1 = x.1 := by
        rw [← hx, ← hy]
        have h := congrArg (fun l => l.getD k (Prod.fst Ja0)) HQ.out
        simpa [List.getD_eq_getElem?_getD, List.getElem?_map, List.getElem?_eq_getElem hlt, List.getElem?_eq_getElem (show k < js'.length by rw [HLN.out]; exact hlt)] using h.symm
      have hym : y ∈ js' := by
        rw [← hy, List.getD_eq_getElem?_getD, List.getElem?_eq_getElem (show k < js'.length by rw [HLN.out]; exact hlt)]
        exact List.getElem_mem _
      have hxm : x ∈ js := by
        rw [← hx, List.getD_eq_getElem?_getD, List.getElem?_eq_getElem hlt]
        exact List.getElem_mem hlt
      have CX := Lib.hid (fun W (hW : Ext w W) => CA.out W hW x y hxm hym hyx)
      obtain ⟨A', c', e', -, -, -⟩ := AF.out x hxm
      obtain ⟨B', d', e'', -, -, -⟩ := AG.out y hym
      obtain ⟨⟨x1, x2, x3⟩, x4⟩ := x
      obtain ⟨y1, y4⟩ := y
      obtain rfl : y1 = (x1, x2, x3) := hyx
      rw [List.length_map] at e' e''
      simp only [] at e' e''
      subst e'
      subst e''
      have r0 := cA 0 _ (by omega) rfl
      have r1 := cA 1 _ (by omega) rfl
      have r2 := cA 2 _ (by omega) rfl
      have s0 := cB 0 _ (by omega) rfl
      have s1 := cB 1 _ (by omega) rfl
      have s2 := cB 2 _ (by omega) rfl
      rw [Nat.add_zero] at r0 s0
      have q0 : (0 : Int) ≤ (k : Int) := by omega
      have q1 : (k : Int) < (js.length : Int) := by omega
      clear cA cB hx hxm hy hym
      go_wp2_with fail
      go_at_call 21
      refine (CX.out _ ((HX.out.alloc _).alloc _)).mono ?_
      rintro e1 w1 ⟨rfl, hE1⟩
      have HE1 := Lib.hid hE1
      clear hE1
      go_wp2_with fail
      exact ⟨⟨k + 1, by omega, by go_num, (((HX.out.alloc _).alloc _)).trans HE1.out⟩, by simp [intOf]; omega⟩
    · obtain rfl : k = js.length := by omega
      go_wp2_with fail
      go_ret
      exact ⟨rfl, HX.out⟩
theorem equalJ_ok (js : List Ja) (v : Value) (w : World) (hv : JaAt w v js) (hl : js.length ≤ 1000) (h4 : ∀ j ∈ js, j.1.2.2.length ≤ 4) : Calls Tryz.prog 24 #[v, v, .func (.func 21) #[] #[]] w (RetV (.bool true) w) := equalJ2_ok js js rfl v v w hv hv hl h4
end Go.Proofs.YtehmpbaiefbemaaGreat
namespace Go.Proofs.YtehmpbaiefbemaaGreat
open Go.RowKit
attribute [local go_sem ↓] eq44
attribute [local go_sem] run_eq44
set_option maxRecDepth 100000 in
set_option maxHeartbeats 4000000 in
theorem equalH2_ok (m1 m2 m3 : Int) (js js' : List Ja) (hq : js.map (·.1) = js'.map (·.1)) (v u : Value) (b : Nat) (w : World) (hb : w.cell? ⟨b, 0, none⟩ = some (.func (.func 21) #[] #[])) (hv : JaAt w v js) (hu : JaAt w u js') (hl : js.length ≤ 1000) (h4 : ∀ j ∈ js, j.1.2.2.length ≤ 4) :
    Calls Tryz.prog 23 #[.agg #[iV m1, iV m2, iV m3, v], .agg #[iV m1, iV m2, iV m3, u], .pointer (some ⟨b, 0, none⟩)] w (RetV (.bool true) w) := by
  have CE := Lib.hid (fun W (hW : Ext w W) => equalJ2_ok js js' hq v u W (hv.ext hW) (hu.ext hW) hl h4)
  obtain ⟨A, c, rfl, -, -, -⟩ := hv.sl.read
  obtain ⟨B, d, rfl, -, -, -⟩ := hu.sl.read
  rw [List.length_map] at *
  rw [List.length_map] at *
  have hbl := World.block_lt_of_cell? w _ hb
  have HBB : eqM (m1, m2, m3) (m1, m2, m3) = true := by unfold eqM; exact decide_eq_true rfl
  clear hv hu h4 hq
  go_enter Tryz.func23, Tryz.ntmps23
  go_wp2_with fail
  refine (CE.out _ (((Ext.refl _).alloc _).alloc _)).mono ?_
  rintro e1 w1 ⟨rfl, hE1⟩
  have HE1 := Lib.hid hE1
  clear hE1
  go_wp2_with fail
  go_ret
  exact ⟨rfl, (((Ext.refl _).alloc _).alloc _).trans HE1.out⟩
set_option maxRecDepth 100000 in
set_option maxHeartbeats 4000000 in
theorem equalHs2_ok (hs hs' : List Jh) (hq : hs.map plH = hs'.map plH) (v u : Value) (b : Nat) (w : World) (hb : w.cell? ⟨b, 0, none⟩ = some (.func (.func 21) #[] #[])) (hv : HsAt w v hs) (hu : HsAt w u hs') (hl : hs.length ≤ 1000) (h1 : ∀ h ∈ hs, h.2.1.length ≤ 1000 ∧ ∀ j ∈ h.2.1, j.1.2.2.length ≤ 4) :
    Calls Tryz.prog 26 #[v, u, .func (.func 23) #[] #[.pointer (some ⟨b, 0, none⟩)]] w (RetV (.bool true) w) := by
  obtain ⟨sl, ar⟩ := hv
  obtain ⟨sl', ar'⟩ := hu
  have hlen : hs'.length = hs.length := by have := congrArg List.length hq; simp only [List.length_map] at this; exact this.symm
  have CA := Lib.hid (fun W (hW : Ext w W) (h h' : Jh) (hj : h ∈ hs) (hj' : h' ∈ hs') (e : plH h' = plH h) => equalH2_ok h.1.1 h.1.2.1 h.1.2.2 h.2.1 h'.2.1 (congrArg Prod.snd e).symm h.2.2 h'.2.2 b W (hW.cell hb) ((ar h hj).ext hW) ((ar' h' hj').ext hW) (h1 h hj).1 (h1 h hj).2)
  have AF := Lib.hid (fun (h : Jh) (hj : h ∈ hs) => (ar h hj).sl.read)
  have AG := Lib.hid (fun (h : Jh) (hj : h ∈ hs') => (ar' h hj).sl.read)
  have HQ := Lib.hid hq
  obtain ⟨A, c, rfl, a1, a2, RA⟩ := sl.read
  obtain ⟨B, d, rfl, b1, b2, RB⟩ := sl'.read
  rw [List.length_map] at a1 RA b1 RB ⊢
  rw [List.length_map] at ⊢
  rw [hlen] at b1 RB ⊢
  have HA := Lib.hid RA
  have HB := Lib.hid RB
  have HLN := Lib.hid hlen
  clear RA RB sl sl' ar ar' h1 hb hq hlen
  go_enter Tryz.func26, Tryz.ntmps26
  go_wp2_with fail
  go_loopw [17] (fun i wr => ∃ k : Nat, k ≤ hs.length ∧ i = iV (k : Int) ∧ Ext w wr) (fun i _ => hs.length - (intOf i).toNat)
  case atStart => exact ⟨0, by omega, rfl, Ext.refl _⟩
  case round =>
    obtain ⟨k, hk, rfl, hE⟩ := hrel
    obtain ⟨wo, rfl⟩ : ∃ wo, wo = wr := ⟨_, rfl⟩
    have HX := Lib.hid hE
    clear hE
    by_cases hlt : k < hs.length
    · obtain ⟨b0, o, rfl, hb0, cA⟩ := HA.out wo HX.out k hlt (by omega)
      obtain ⟨b1', o1', rfl, hb1', cB⟩ := HB.out wo HX.out k hlt (by omega)
      obtain ⟨x, hx⟩ : ∃ x, hs.getD k Jh0 = x := ⟨_, rfl⟩
      obtain ⟨y, hy⟩ : ∃ y, hs'.getD k Jh0 = y := ⟨_, rfl⟩
      rw [encH_at hlt x hx] at cA
      rw [encH_at (by rw [HLN.out]; exact hlt) y hy] at cB
      have hyx : plH y = plH x := by
        rw [← hx, ← hy]
        have h := congrArg (fun l => l.getD k (plH Jh0)) HQ.out
        simpa [List.getD_eq_getElem?_getD, List.getElem?_map, List.getElem?_eq_getElem hlt, List.getElem?_eq_getElem (show k < hs'.length by rw [HLN.out]; exact hlt)] using h.symm
      have hym : y ∈ hs' := by
        rw [← hy, List.getD_eq_getElem?_getD, List.getElem?_eq_getElem (show k < hs'.length by rw [HLN.out]; exact hlt)]
        exact List.getElem_mem _
      have hxm : x ∈ hs := by
        rw [← hx, List.getD_eq_getElem?_getD, List.getElem?_eq_getElem hlt]
        exact List.getElem_mem hlt
      have CX := Lib.hid (fun W (hW : Ext w W) => CA.out W hW x y hxm hym hyx)
      obtain ⟨A', c', e', -, -, -⟩ := AF.out x hxm
      obtain ⟨B', d', e'', -, -, -⟩ := AG.out y hym
      obtain ⟨⟨x1, x2, x3⟩, x4, x5⟩ := x
      obtain ⟨y1, y4, y5⟩ := y
      obtain rfl : y1 = (x1, x2, x3) := congrArg Prod.fst hyx
      rw [List.length_map] at e' e''
      simp only [] at e' e''
      subst e'
      subst e''
      have r0 := cA 0 _ (by omega) rfl
      have r1 := cA 1 _ (by omega) rfl
      have r2 := cA 2 _ (by omega) rfl
      have r3 := cA 3 _ (by omega) rfl
      have s0 := cB 0 _ (by omega) rfl
      have s1 := cB 1 _ (by omega) rfl
      have s2 := cB 2 _ (by omega) rfl
      have s3 := cB 3 _ (by omega) rfl
      rw [Nat.add_zero] at r0 s0
      have q0 : (0 : Int) ≤ (k : Int) := by omega
      have q1 : (k : Int) < (hs.length : Int) := by omega
      clear cA cB hx hxm hy hym
      go_wp2_with fail
      go_at_call 23
      refine (CX.out _ ((HX.out.alloc _).alloc _)).mono ?_
      rintro e1 w1 ⟨rfl, hE1⟩
      have HE1 := Lib.hid hE1
      clear hE1
      go_wp2_with fail
      exact ⟨⟨k + 1, by omega, by go_num, (((HX.out.alloc _).alloc _)).trans HE1.out⟩, by simp [intOf]; omega⟩
    · obtain rfl : k = hs.length := by omega
      go_wp2_with fail
      go_ret
      exact ⟨rfl, HX.out⟩
theorem equalHs_ok (hs : List Jh) (v : Value) (b : Nat) (w : World) (hb : w.cell? ⟨b, 0, none⟩ = some (.func (.func 21) #[] #[])) (hv : HsAt w v hs) (hl : hs.length ≤ 1000) (h1 : ∀ h ∈ hs, h.2.1.length ≤ 1000 ∧ ∀ j ∈ h.2.1, j.1.2.2.length ≤ 4) :
    Calls Tryz.prog 26 #[v, v, .func (.func 23) #[] #[.pointer (some ⟨b, 0, none⟩)]] w (RetV (.bool true) w) := equalHs2_ok hs hs rfl v v b w hb hv hv hl h1
end Go.Proofs.YtehmpbaiefbemaaGreat
namespace Go.Proofs.YtehmpbaiefbemaaGreat
open Go.RowKit
@[irreducible] def arA (f : Nat → Nat) (n : Nat) : Array Value := ((List.range n).map fun k => iV (f k : Int)).toArray
theorem ld29 (v : Value) : Instr.loadAt 29 v = ldS 29 v := by unfold ldS; rfl
theorem ld28 (v : Value) : Instr.loadAt 28 v = ldS 28 v := by unfold ldS; rfl
theorem Tryz.size29 : (Tryz.prog.info? 29).map (·.size) = some 64 := by kernel_rfl
theorem Tryz.size28 : (Tryz.prog.info? 28).map (·.size) = some 8 := by kernel_rfl
theorem run_arr {w : World} {g o n : Nat} {ty : TypeId} {dd : TypeDesc} {f : Nat → Nat} (hc : ∀ k, k < n → w.cell? ⟨g, o + k, none⟩ = some (iV (f k : Int))) (hu : Tryz.prog.underlying ty = some dd) (hd : dd.isRow = true) (hi : (Tryz.prog.info? ty).map (·.size) = some n) :
    (ldS ty (.pointer (some ⟨g, o, none⟩))).run Tryz.prog w = .ok (.agg (arA f n)) w := by
  unfold ldS arA
  refine run_loadAt_mid w g o ty _ _ (fun j v hv => ?_) hu hd (by rw [hi]; simp)
  rw [List.getElem?_map] at hv
  have hj : j < n := by
    rcases Nat.lt_or_ge j n with h | h
    · exact h
    · rw [List.getElem?_eq_none (by simpa using h)] at hv; cases hv
  rw [List.getElem?_range hj] at hv
  cases hv
  exact hc j hj
theorem run_ld29 {w : World} {g : Nat} {c h u : Value} {s t d : Nat → Nat} (hb : blkOf w g = NV c h s t d u) : (ldS 29 (.pointer (some ⟨g, 2, none⟩))).run Tryz.prog w = .ok (.agg (arA s 64)) w :=
  run_arr (fun k hk => blkOf_cell (by rw [hb]; exact NV_sent hk)) Tryz.underlying29 rfl Tryz.size29
theorem run_ld28t {w : World} {g : Nat} {c h u : Value} {s t d : Nat → Nat} (hb : blkOf w g = NV c h s t d u) : (ldS 28 (.pointer (some ⟨g, 66, none⟩))).run Tryz.prog w = .ok (.agg (arA t 8)) w :=
  run_arr (fun k hk => blkOf_cell (by rw [hb]; exact NV_tim hk)) Tryz.underlying28 rfl Tryz.size28
theorem run_ld28d {w : World} {g : Nat} {c h u : Value} {s t d : Nat → Nat} (hb : blkOf w g = NV c h s t d u) : (ldS 28 (.pointer (some ⟨g, 74, none⟩))).run Tryz.prog w = .ok (.agg (arA d 8)) w :=
  run_arr (fun k hk => blkOf_cell (by rw [hb]; exact NV_dis hk)) Tryz.underlying28 rfl Tryz.size28
theorem arA_at {f : Nat → Nat} {n i : Nat} (h : i < n) : (arA f n)[i]? = some (iV (f i : Int)) := by
  unfold arA
  simp [List.getElem?_range h]
theorem run_part3 {w : World} {f : Nat → Nat} {n i : Nat} (h : i < n) : (part 3 (arA f n) (i * 1)).run Tryz.prog w = .ok (iV (f i : Int)) w := by
  rw [Nat.mul_one]
  unfold part isAgg
  simp [Sem.run_bind, run_underlying Tryz.underlying3, arA_at h, Result.andThen]
theorem run_items {w : World} {f g : Nat → Nat} {n d : Nat} : ∀ is : List Nat, (∀ i ∈ is, i < n) → (Op.eqItems (d + 1) 3 1 (arA f n) (arA g n) is).run Tryz.prog w = .ok (is.all fun i => decide (f i = g i)) w
  | [], _ => by simp [Op.eqItems]
  | i :: is, h => by
    have ih := run_items (w := w) (f := f) (g := g) (d := d) is (fun j hj => h j (by simp [hj]))
    have p3 : (Op.equalIn (d + 1) 3 (iV (f i : Int)) (iV (g i : Int))).run Tryz.prog w = .ok (decide (f i = g i)) w := by
      simp [Op.equalIn, run_underlying Tryz.underlying3, Result.andThen]
      rw [Bool.eq_iff_iff]
      simp
      omega
    simp only [Op.eqItems, Sem.run_bind, run_part3 (h i (by simp)), Result.andThen_ok, p3]
    by_cases hfg : f i = g i
    · simp [hfg, ih]
    · simp [hfg]
@[irreducible] def eqA (f g : Nat → Nat) (n : Nat) : Bool := (List.range n).all fun i => decide (f i = g i)
theorem eqA_self (f : Nat → Nat) (n : Nat) : eqA f f n = true := by unfold eqA; simp
theorem eqA_iff {f g : Nat → Nat} {n : Nat} : eqA f g n = true ↔ ∀ i, i < n → f i = g i := by unfold eqA; simp
theorem eq29 (a b : Value) : binOp .eql 29 a b = eqS 29 a b := by unfold eqS; rfl
theorem eq28 (a b : Value) : binOp .eql 28 a b = eqS 28 a b := by unfold eqS; rfl
set_option maxRecDepth 100000 in
theorem run_eqA {w : World} {f g : Nat → Nat} {n : Nat} {ty : TypeId} (hu : Tryz.prog.underlying ty = some (.array n 3)) : (eqS ty (.agg (arA f n)) (.agg (arA g n))).run Tryz.prog w = .ok (.bool (eqA f g n)) w := by
  have h1 : (Op.equal ty (.agg (arA f n)) (.agg (arA g n))).run Tryz.prog w = .ok (eqA f g n) w := by
    cases hi : Tryz.prog.info? 3 with
    | none =>
      have h0 : (Tryz.prog.info? 3).isSome = true := by kernel_rfl
      rw [hi] at h0
      cases h0
    | some i =>
      show (Op.equalIn (9999 + 1) ty _ _).run Tryz.prog w = _
      rw [run_equalIn_array w 9999 _ _ hu hi, show Tryz.prog.cellsOf 3 = 1 by kernel_rfl]
      rw [run_items (d := 9998) _ (fun i hi => List.mem_range.1 hi)]
      unfold eqA
      rfl
  unfold eqS
  simp only [binOp, Sem.run_bind]
  rw [h1]
  rfl
theorem arA_part {f : Nat → Nat} {i : Nat} (h : i < 8) : (arA f 64).extract (i * 8) (i * 8 + 8) = arA (fun k => f (i * 8 + k)) 8 := by
  unfold arA
  refine Array.ext_getElem? fun j => ?_
  rw [Array.getElem?_extract]
  by_cases hj : j < 8
  · have h1 : i * 8 + j < 64 := by omega
    simp [hj, h1]
    omega
  · simp [hj]
    omega
theorem run_part28 {w : World} {f : Nat → Nat} {i : Nat} (h : i < 8) : (part 28 (arA f 64) (i * 8)).run Tryz.prog w = .ok (.agg (arA (fun k => f (i * 8 + k)) 8)) w := by
  rw [← arA_part h]
  have hz : (sizeOf 28).run Tryz.prog w = .ok 8 w := by
    have h8 := Tryz.size28
    unfold sizeOf typeInfo
    cases hq : Tryz.prog.info? 28 with
    | none => rw [hq] at h8; cases h8
    | some i =>
      rw [hq] at h8
      have : i.size = 8 := by simpa using h8
      simp [hq, this]
  unfold part isAgg
  simp [Sem.run_bind, run_underlying Tryz.underlying28, hz, Result.andThen]
theorem run_row28 {w : World} {f g : Nat → Nat} {d : Nat} : (Op.equalIn (d + 1 + 1) 28 (.agg (arA f 8)) (.agg (arA g 8))).run Tryz.prog w = .ok (eqA f g 8) w := by
  cases hi : Tryz.prog.info? 3 with
  | none =>
    have h0 : (Tryz.prog.info? 3).isSome = true := by kernel_rfl
    rw [hi] at h0
    cases h0
  | some i =>
    rw [run_equalIn_array w (d + 1) _ _ Tryz.underlying28 hi, show Tryz.prog.cellsOf 3 = 1 by kernel_rfl, run_items (d := d) _ (fun i hi => List.mem_range.1 hi)]
    unfold eqA
    rfl
@[irreducible] def eqAA (f g : Nat → Nat) : Bool := (List.range 8).all fun i => eqA (fun k => f (i * 8 + k)) (fun k => g (i * 8 + k)) 8
theorem eqAA_self (f : Nat → Nat) : eqAA f f = true := by unfold eqAA; simp [eqA_self]
theorem run_items28 {w : World} {f g : Nat → Nat} {d : Nat} : ∀ is : List Nat, (∀ i ∈ is, i < 8) → (Op.eqItems (d + 1 + 1) 28 8 (arA f 64) (arA g 64) is).run Tryz.prog w = .ok (is.all fun i => eqA (fun k => f (i * 8 + k)) (fun k => g (i * 8 + k)) 8) w
  | [], _ => by simp [Op.eqItems]
  | i :: is, h => by
    have ih := run_items28 (w := w) (f := f) (g := g) (d := d) is (fun j hj => h j (by simp [hj]))
    simp only [Op.eqItems, Sem.run_bind, run_part28 (h i (by simp)), Result.andThen_ok, run_row28]
    cases hfg : eqA (fun k => f (i * 8 + k)) (fun k => g (i * 8 + k)) 8
    · simp [hfg]
    · simp [hfg, ih]
set_option maxRecDepth 100000 in
theorem run_eqAA {w : World} {f g : Nat → Nat} : (eqS 29 (.agg (arA f 64)) (.agg (arA g 64))).run Tryz.prog w = .ok (.bool (eqAA f g)) w := by
  have h1 : (Op.equal 29 (.agg (arA f 64)) (.agg (arA g 64))).run Tryz.prog w = .ok (eqAA f g) w := by
    cases hi : Tryz.prog.info? 28 with
    | none =>
      have h0 : (Tryz.prog.info? 28).isSome = true := by kernel_rfl
      rw [hi] at h0
      cases h0
    | some i =>
      show (Op.equalIn (9999 + 1) 29 _ _).run Tryz.prog w = _
      rw [run_equalIn_array w 9999 _ _ Tryz.underlying29 hi, show Tryz.prog.cellsOf 28 = 8 by kernel_rfl]
      rw [run_items28 (d := 9997) _ (fun i hi => List.mem_range.1 hi)]
      unfold eqAA
      rfl
  unfold eqS
  simp only [binOp, Sem.run_bind]
  rw [h1]
  rfl
end Go.Proofs.YtehmpbaiefbemaaGreat
