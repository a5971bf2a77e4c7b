/- sameKeys at equal lists of keys. -/
import Derived.Test.YtehmpbaiefbemaaN11
namespace Go.Proofs.Ytehmpbaiefbemaa
open Go.RowKit
def KsAt (w : World) (v : Value) (ks : List Ky) : Prop := SlAt 4 w v (ks.map encK)
theorem keys_at {xs : List Ky} {k : Nat} (h : k < xs.length) (x : Ky) (e : xs.getD k (0, 0, 0, 0) = x) : (xs.map encK).getD k [] = encK x := by
  rw [← e, List.getD_eq_getElem?_getD, List.getD_eq_getElem?_getD, List.getElem?_map, List.getElem?_eq_getElem h]; rfl
theorem sameKeys_ok (xs : List Ky) (v u : Value) (w : World) (hv : KsAt w v xs) (hu : KsAt w u xs) (hl : xs.length ≤ 100) : Calls Try.prog 49 #[v, u] w (RetV (.bool true) w) := by
  obtain ⟨A, c, rfl, a1, a2, RA⟩ := hv.read
  obtain ⟨B, d, rfl, b1, b2, RB⟩ := hu.read
  rw [List.length_map] at a1 RA b1 RB ⊢
  have HA := Lib.hid RA
  have HB := Lib.hid RB
  clear RA RB hv hu
  go_enter Try.func49, Try.ntmps49
  go_wp2_with fail
  go_loopw [13] (fun i wr => ∃ k : Nat, k ≤ xs.length ∧ i = iV (k : Int) ∧ Ext w wr) (fun i _ => xs.length - (intOf i).toNat)
  case atStart => exact ⟨0, by omega, rfl, Ext.refl _⟩
  case round =>
    obtain ⟨k, hk, rfl, hE⟩ := hrel
    have HX := Lib.hid hE
    clear hE
    by_cases hlt : k < xs.length
    · obtain ⟨b, o, rfl, hb, cA⟩ := HA.out wr HX.out k hlt (by omega)
      obtain ⟨b', o', rfl, hb', cB⟩ := HB.out wr HX.out k hlt (by omega)
      obtain ⟨x, hx⟩ : ∃ x, xs.getD k (0, 0, 0, 0) = x := ⟨_, rfl⟩
      rw [keys_at hlt x hx] at cA cB
      obtain ⟨x1, x2, x3, x4⟩ := x
      have r0 := cA 0 _ (by omega) rfl
      have s0 := cB 0 _ (by omega) rfl
      have r1 := cA 1 _ (by omega) rfl
      have s1 := cB 1 _ (by omega) rfl
      have r2 := cA 2 _ (by omega) rfl
      have s2 := cB 2 _ (by omega) rfl
      have r3 := cA 3 _ (by omega) rfl
      have s3 := cB 3 _ (by omega) rfl
      rw [Nat.add_zero] at r0 s0
      have q0 : (0 : Int) ≤ (k : Int) := by omega
      have q1 : (k : Int) < (xs.length : Int) := by omega
      clear cA cB hx
      go_wp2_with fail
      refine wp_region_noPanic ?_
      refine wp_region_held_drew (S := (fun w' => Ext wr w' ∧ ∀ b o, b < wr.heap.size → w'.cell? ⟨b, o, none⟩ = wr.cell? ⟨b, o, none⟩)) (by kernel_rfl) ?_ (fun hHeld => ?_)
      · exact Ext.held (by repeat (first | assumption | exact Ext.refl _ | apply Ext.alloc | apply Ext.drew | apply Ext.drewN))
      refine wpAnyH_take (i := 0) (v := ?_) (oper_at rfl) (by kernel_rfl) (by kernel_rfl) (by kernel_rfl) (fun _ _ _ h => h) (Or.inl ⟨by rfl, ?_⟩) hHeld ?_
      rotate_left
      · (intro ww hSw; (try dsimp only at hSw); go_simp; try (with_reducible rfl))
      try simp only [Act.put, List.setIfInBounds_toArray, List.set_cons_zero, List.set_cons_succ]
      refine wpAnyH_take (i := 1) (v := ?_) (oper_at rfl) (by kernel_rfl) (by kernel_rfl) (by kernel_rfl) (fun _ _ _ h => h) (Or.inl ⟨by rfl, ?_⟩) hHeld ?_
      rotate_left
      · (intro ww hSw; (try dsimp only at hSw); go_simp; try (with_reducible rfl))
      try simp only [Act.put, List.setIfInBounds_toArray, List.set_cons_zero, List.set_cons_succ]
      refine wpAnyH_take (i := 2) (v := ?_) (oper_at rfl) (by kernel_rfl) (by kernel_rfl) (by kernel_rfl) (fun _ _ _ h => h) (Or.inl ⟨by rfl, ?_⟩) hHeld ?_
      rotate_left
      · (intro ww hSw; (try dsimp only at hSw); go_simp; try (with_reducible rfl))
      try simp only [Act.put, List.setIfInBounds_toArray, List.set_cons_zero, List.set_cons_succ]
      refine wpAnyH_take (i := 3) (v := ?_) (oper_at rfl) (by kernel_rfl) (by kernel_rfl) (by kernel_rfl) (fun _ _ _ h => h) (Or.inl ⟨by rfl, ?_⟩) hHeld ?_
      rotate_left
      · (intro ww hSw; (try dsimp only at hSw); go_simp; try (with_reducible rfl))
      try simp only [Act.put, List.setIfInBounds_toArray, List.set_cons_zero, List.set_cons_succ]
      refine wpAnyH_take (i := 4) (v := ?_) (oper_at rfl) (by kernel_rfl) (by kernel_rfl) (by kernel_rfl) (fun _ _ _ h => h) (Or.inl ⟨by rfl, ?_⟩) hHeld ?_
      rotate_left
      · (intro ww hSw; (try dsimp only at hSw); go_simp; try (with_reducible rfl))
      try simp only [Act.put, List.setIfInBounds_toArray, List.set_cons_zero, List.set_cons_succ]
      refine wpAnyH_take (i := 5) (v := ?_) (oper_at rfl) (by kernel_rfl) (by kernel_rfl) (by kernel_rfl) (fun _ _ _ h => h) (Or.inl ⟨by rfl, ?_⟩) hHeld ?_
      rotate_left
      · (intro ww hSw; (try dsimp only at hSw); go_simp; try (with_reducible rfl))
      try simp only [Act.put, List.setIfInBounds_toArray, List.set_cons_zero, List.set_cons_succ]
      refine wpAnyH_take (i := 6) (v := ?_) (oper_at rfl) (by kernel_rfl) (by kernel_rfl) (by kernel_rfl) (fun _ _ _ h => h) (Or.inl ⟨by rfl, ?_⟩) hHeld ?_
      rotate_left
      · (intro ww hSw; (try dsimp only at hSw); go_simp; try (with_reducible rfl))
      try simp only [Act.put, List.setIfInBounds_toArray, List.set_cons_zero, List.set_cons_succ]
      refine wpAnyH_take (i := 7) (v := ?_) (oper_at rfl) (by kernel_rfl) (by kernel_rfl) (by kernel_rfl) (fun _ _ _ h => h) (Or.inl ⟨by rfl, ?_⟩) hHeld ?_
      rotate_left
      · (intro ww hSw; (try dsimp only at hSw); go_simp; try (with_reducible rfl))
      try simp only [Act.put, List.setIfInBounds_toArray, List.set_cons_zero, List.set_cons_succ]
      refine wpAnyH_take (i := 8) (v := ?_) (oper_at rfl) (by kernel_rfl) (by kernel_rfl) (by kernel_rfl) (fun _ _ _ h => h) (Or.inl ⟨by rfl, ?_⟩) hHeld ?_
      rotate_left
      · (intro ww hSw; (try dsimp only at hSw); go_simp; try (with_reducible rfl))
      try simp only [Act.put, List.setIfInBounds_toArray, List.set_cons_zero, List.set_cons_succ]
      refine wpAnyH_done (by kernel_rfl) ?_ _
      refine NoPanic.normal ?_
      clear r0 s0 r1 s1 r2 s2 r3 s3
      go_wp2_with fail
      exact ⟨⟨k + 1, by omega, by go_num, HX.out.drew⟩, by simp [intOf]; omega⟩
    · obtain rfl : k = xs.length := by omega
      go_wp2_with fail
      go_ret
      exact ⟨rfl, HX.out⟩
end Go.Proofs.Ytehmpbaiefbemaa
