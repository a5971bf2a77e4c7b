/- ref.Check at any holds. -/
import Derived.Test.YtehmpbaiefbemaaN17
namespace Go.Proofs.Ytehmpbaiefbemaa
open Go.RowKit
attribute [local go_sem ↓] Go.wp_at_zero Go.wp_at_succ
attribute [local go_sem ↓] eq44
attribute [local go_sem] run_eq44
theorem mem_takeM {hs : List Jh} {k : Nat} {m : Ms} (hk : k ≤ hs.length) : m ∈ (hs.take k).map (·.1) ↔ ∃ a, a < k ∧ (hs.getD a Jh0).1 = m := by
  rw [List.mem_map]
  constructor
  · rintro ⟨h, hm, rfl⟩
    obtain ⟨a, ha, rfl⟩ := List.getElem_of_mem hm
    rw [List.length_take] at ha
    refine ⟨a, by omega, ?_⟩
    rw [List.getD_eq_getElem?_getD, List.getElem?_eq_getElem (by omega), Option.getD_some, List.getElem_take]
  · rintro ⟨a, ha, rfl⟩
    refine ⟨hs.getD a Jh0, ?_, rfl⟩
    rw [List.getD_eq_getElem?_getD, List.getElem?_eq_getElem (by omega), Option.getD_some]
    exact List.mem_take_iff_getElem.2 ⟨a, by omega, rfl⟩
set_option maxRecDepth 100000 in
set_option maxHeartbeats 4000000 in
theorem rcheck17_any (hs : List Jh) (v : Value) (w : World) (hv : HsAt w v hs) : Calls Try.prog 17 #[v] w (RetV (iV (errF hs)) w) := by
  obtain ⟨sl, ar⟩ := hv
  obtain ⟨A, c, rfl, a1, a2, RA⟩ := sl.read
  rw [List.length_map] at a1 RA ⊢
  have hl : hs.length ≤ 9223372036854775807 := by unfold maxLen at a2; omega
  have HR := Lib.hid RA
  have HA := Lib.hid ar
  clear RA ar sl a1 a2
  by_cases h16 : 16 < hs.length
  · have HF : Hid (errF hs = 3) := by unfold errF; rw [if_pos h16]; exact Lib.hid rfl
    have h16' : (16 : Int) < (hs.length : Int) := by omega
    go_enter Try.func17, Try.ntmps17
    go_wp2_with fail
    go_ret
    exact ⟨by rw [HF.out]; rfl, Ext.refl _⟩
  have HF : Hid (errF hs = errA [] hs) := by unfold errF; rw [if_neg h16]; exact Lib.hid rfl
  generalize errF hs = er at *
  have n16 : hs.length ≤ 16 := by omega
  clear h16 hl
  have HF0 : Hid (er = errA ((hs.take 0).map (·.1)) (hs.drop 0)) := HF
  clear HF
  go_enter Try.func17, Try.ntmps17
  go_wp2_with fail
  go_loopw [11] (fun i wr => ∃ k : Nat, k ≤ hs.length ∧ i = iV (k : Int) ∧ er = errA ((hs.take k).map (·.1)) (hs.drop k) ∧ Ext w wr) (fun i _ => hs.length - (intOf i).toNat)
  case atStart => exact ⟨0, by omega, rfl, HF0.out, Ext.refl _⟩
  case round =>
    obtain ⟨k, hk, rfl, hd, hE⟩ := hrel
    have HD := Lib.hid hd
    have HX := Lib.hid hE
    clear hE hd HF0
    generalize hwB : wr = wB at *
    by_cases hlt : k < hs.length
    · obtain ⟨b, o, rfl, hb, cR⟩ := HR.out wB HX.out k hlt (by omega)
      obtain ⟨x, hx⟩ : ∃ x, hs.getD k Jh0 = x := ⟨_, rfl⟩
      rw [encH_at hlt x hx] at cR
      have g1 := HA.out _ (getD_memH hlt)
      rw [hx] at g1
      have HER : Hid (er = if validF x = false then 1 else if x.1 ∈ (hs.take k).map (·.1) then 5 else errA ((hs.take (k + 1)).map (·.1)) (hs.drop (k + 1))) := by rw [HD.out, drop_consH hlt, hx, take_msgs hlt, hx]; exact Lib.hid rfl
      have CV := Lib.hid (fun W (hW : Ext w W) => valid43_any x W (g1.ext hW))
      obtain ⟨vx, hvx⟩ : ∃ b, validF x = b := ⟨_, rfl⟩
      rw [hvx] at CV HER
      have HXK := Lib.hid hx
      obtain ⟨Ax, dx, ex, -, -, -⟩ := g1.sl.read
      rw [List.length_map] at ex
      obtain ⟨⟨x1, x2, x3⟩, xs, xv⟩ := x
      simp only [] at ex
      subst ex
      have r0 := cR 0 _ (by omega) rfl
      have r1 := cR 1 _ (by omega) rfl
      have r2 := cR 2 _ (by omega) rfl
      have r3 := cR 3 _ (by omega) rfl
      rw [Nat.add_zero] at r0
      clear cR hx g1 hvx
      go_wp2_with fail
      refine (CV.out _ (HX.out.alloc _)).mono ?_
      rintro e1 w1 ⟨rfl, hE1⟩
      have HE1 := Lib.hid hE1
      have HSZ : Hid (wB.heap.size < w1.heap.size) := Lib.hid (by have := HE1.out.size; simp at this; omega)
      have s0 : w1.cell? ⟨wB.heap.size, 0, none⟩ = some (iV x1) := HE1.out.cell (new_at wB #[iV x1, iV x2, iV x3, .slice Ax xs.length dx] 46 0 _ rfl)
      have s1 : w1.cell? ⟨wB.heap.size, 1, none⟩ = some (iV x2) := HE1.out.cell (new_at wB #[iV x1, iV x2, iV x3, .slice Ax xs.length dx] 46 1 _ rfl)
      have s2 : w1.cell? ⟨wB.heap.size, 2, none⟩ = some (iV x3) := HE1.out.cell (new_at wB #[iV x1, iV x2, iV x3, .slice Ax xs.length dx] 46 2 _ rfl)
      have HX1 := Lib.hid ((HX.out.alloc _).trans hE1)
      have HS := Lib.hid (And.intro s0 (And.intro s1 s2))
      clear hE1 r0 r1 r2 r3 CV s0 s1 s2 HE1
      cases vx with
      | false =>
        go_wp2_with fail
        go_ret
        exact ⟨by rw [HER.out]; rfl, HX1.out⟩
      | true =>
      have HES : Hid (er = if (x1, x2, x3) ∈ (hs.take k).map (·.1) then 5 else errA ((hs.take (k + 1)).map (·.1)) (hs.drop (k + 1))) := by rw [HER.out, if_neg (by simp)]; exact Lib.hid rfl
      clear HER
      go_wp2_with fail
      go_loopw [5] (fun i wq => ∃ q : Nat, q ≤ k ∧ i = iV (q : Int) ∧ (∀ a, a < q → (hs.getD a Jh0).1 ≠ (hs.getD k Jh0).1) ∧ Ext w1 wq) (fun i _ => k - (intOf i).toNat)
      case atStart => exact ⟨0, by omega, rfl, fun a h => by omega, Ext.refl _⟩
      case round =>
        obtain ⟨q, hq, rfl, hn, hE2⟩ := hrel
        have HN := Lib.hid hn
        have HE2 := Lib.hid hE2
        have HX2 := Lib.hid (HX1.out.trans hE2)
        have t0 := hE2.cell HS.out.1
        have t1 := hE2.cell HS.out.2.1
        have t2 := hE2.cell HS.out.2.2
        clear hE2 hn
        by_cases hqk : q < k
        · obtain ⟨b', o', e', hb', cR⟩ := HR.out _ HX2.out q (by omega) (by omega)
          obtain ⟨y, hy⟩ : ∃ y, hs.getD q Jh0 = y := ⟨_, rfl⟩
          rw [encH_at (by omega) y hy] at cR
          rw [Option.some.injEq, Addr.mk.injEq] at e'
          obtain ⟨rfl, rfl, -⟩ := e'
          have HYK := Lib.hid hy
          obtain ⟨⟨y1, y2, y3⟩, ys, yv⟩ := y
          have r0 := cR 0 _ (by omega) rfl
          have r1 := cR 1 _ (by omega) rfl
          have r2 := cR 2 _ (by omega) rfl
          rw [Nat.add_zero] at r0
          clear cR hy
          obtain ⟨bb, hbb⟩ : ∃ bb, eqM (y1, y2, y3) (x1, x2, x3) = bb := ⟨_, rfl⟩
          have HBB := Lib.hid hbb
          have q0 : (0 : Int) ≤ (q : Int) := by omega
          have q1 : (q : Int) < (hs.length : Int) := by omega
          have hsz : wB.heap.size < wr.heap.size := Nat.lt_of_lt_of_le HSZ.out HE2.out.size
          clear hbb
          go_wp2_with fail
          refine wp_region_noPanic ?_
          refine wp_region_held_drew (S := (fun w' => Ext wr w' ∧ ∀ b o, b < wr.heap.size → w'.cell? ⟨b, o, none⟩ = wr.cell? ⟨b, o, none⟩)) (by kernel_rfl) ?_ (fun hHeld => ?_)
          · exact Ext.held (by repeat (first | assumption | exact Ext.refl _ | apply Ext.alloc | apply Ext.drew | apply Ext.drewN))
          refine wpAnyH_take (i := 0) (v := ?_) (oper_at rfl) (by kernel_rfl) (by kernel_rfl) (by kernel_rfl) (fun _ _ _ h => h) (Or.inl ⟨by rfl, ?_⟩) hHeld ?_
          rotate_left
          · (intro ww hSw; (try dsimp only at hSw); go_simp; try (with_reducible rfl))
          try simp only [Act.put, List.setIfInBounds_toArray, List.set_cons_zero, List.set_cons_succ]
          refine wpAnyH_take (i := 1) (v := ?_) (oper_at rfl) (by kernel_rfl) (by kernel_rfl) (by kernel_rfl) (fun _ _ _ h => h) (Or.inl ⟨by rfl, ?_⟩) hHeld ?_
          rotate_left
          · (intro ww hSw; (try dsimp only at hSw); go_simp; try (with_reducible rfl))
          try simp only [Act.put, List.setIfInBounds_toArray, List.set_cons_zero, List.set_cons_succ]
          refine wpAnyH_take (i := 2) (v := ?_) (oper_at rfl) (by kernel_rfl) (by kernel_rfl) (by kernel_rfl) (fun _ _ _ h => h) (Or.inl ⟨by rfl, ?_⟩) hHeld ?_
          rotate_left
          · (intro ww hSw; (try dsimp only at hSw); go_simp; try (with_reducible rfl))
          try simp only [Act.put, List.setIfInBounds_toArray, List.set_cons_zero, List.set_cons_succ]
          refine wpAnyH_take (i := 3) (v := ?_) (oper_at rfl) (by kernel_rfl) (by kernel_rfl) (by kernel_rfl) (fun _ _ _ h => h) (Or.inl ⟨by rfl, ?_⟩) hHeld ?_
          rotate_left
          · (intro ww hSw; (try dsimp only at hSw); go_simp; try (with_reducible rfl))
          try simp only [Act.put, List.setIfInBounds_toArray, List.set_cons_zero, List.set_cons_succ]
          refine wpAnyH_take (i := 4) (v := ?_) (oper_at rfl) (by kernel_rfl) (by kernel_rfl) (by kernel_rfl) (fun _ _ _ h => h) (Or.inl ⟨by rfl, ?_⟩) hHeld ?_
          rotate_left
          · (intro ww hSw; (try dsimp only at hSw); go_simp; try (with_reducible rfl))
          try simp only [Act.put, List.setIfInBounds_toArray, List.set_cons_zero, List.set_cons_succ]
          refine wpAnyH_take (i := 5) (v := ?_) (oper_at rfl) (by kernel_rfl) (by kernel_rfl) (by kernel_rfl) (fun _ _ _ h => h) (Or.inl ⟨by rfl, ?_⟩) hHeld ?_
          rotate_left
          · (intro ww hSw; (try dsimp only at hSw); go_simp; try (with_reducible rfl))
          try simp only [Act.put, List.setIfInBounds_toArray, List.set_cons_zero, List.set_cons_succ]
          refine wpAnyH_take (i := 6) (v := ?_) (oper_at rfl) (by kernel_rfl) (by kernel_rfl) (by kernel_rfl) (fun _ _ _ h => h) (Or.inl ⟨by rfl, ?_⟩) hHeld ?_
          rotate_left
          · (intro ww hSw; (try dsimp only at hSw); go_simp; try (with_reducible rfl))
          try simp only [Act.put, List.setIfInBounds_toArray, List.set_cons_zero, List.set_cons_succ]
          refine wpAnyH_take (i := 7) (v := ?_) (oper_at rfl) (by kernel_rfl) (by kernel_rfl) (by kernel_rfl) (fun _ _ _ h => h) (Or.inl ⟨by rfl, ?_⟩) hHeld ?_
          rotate_left
          · (intro ww hSw; (try dsimp only at hSw); go_simp; try (with_reducible rfl))
          try simp only [Act.put, List.setIfInBounds_toArray, List.set_cons_zero, List.set_cons_succ]
          refine wpAnyH_done (by kernel_rfl) ?_ _
          refine NoPanic.normal ?_
          rw [HBB.out]
          clear r0 r1 r2 t0 t1 t2
          cases bb with
          | true =>
            go_wp2_with fail
            go_ret
            refine ⟨?_, HX2.out.drew⟩
            rw [HES.out, if_pos ((mem_takeM hk).2 ⟨q, hqk, by rw [HYK.out]; exact eqM_true HBB.out⟩)]; rfl
          | false =>
            go_wp2_with fail
            exact ⟨⟨q + 1, by omega, by go_num, fun a ha => by
              rcases Nat.lt_or_ge a q with h | h
              · exact HN.out a h
              · obtain rfl : a = q := by omega
                rw [HXK.out, HYK.out]
                exact eqM_false HBB.out, HE2.out.drew⟩, by simp [intOf]; omega⟩
        · obtain rfl : q = k := by omega
          go_wp2_with fail
          refine ⟨⟨q + 1, by omega, by go_num, ?_, HX2.out⟩, by simp [intOf]; omega⟩
          rw [HES.out, if_neg (fun hm => ?_)]
          obtain ⟨a, ha, e⟩ := (mem_takeM hk).1 hm
          exact HN.out a ha (by rw [e, HXK.out])
    · obtain rfl : k = hs.length := by omega
      go_wp2_with fail
      go_ret
      refine ⟨?_, HX.out⟩
      rw [HD.out, List.drop_length]
      rfl
end Go.Proofs.Ytehmpbaiefbemaa
