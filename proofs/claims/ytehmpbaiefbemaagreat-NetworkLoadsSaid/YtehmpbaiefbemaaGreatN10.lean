/- Holds: arrivals with their arguments, holds with their arrivals; ref.Valid. ref.Check at holds that the laws make. network.valid, network.cloneArrival. sameArgs at equal arguments. Whether a message is held: slices.ContainsFunc over the holds. -/
import Derived.Test.YtehmpbaiefbemaaGreatN5
namespace Go.Proofs.YtehmpbaiefbemaaGreat
open Go.RowKit
/-- An arrival (tick, handler, arguments), and the value of its arguments in memory. -/
abbrev Ja := (Int × Int × List Int) × Value
abbrev Ja0 : Ja := ((0, 0, []), .slice none 0 0)
def encJ (j : Ja) : List Value := [iV j.1.1, iV j.1.2.1, j.2]
def ArgsAt (w : World) (v : Value) (l : List Int) : Prop := SlAt 1 w v (l.map fun x => [iV x])
structure JaAt (w : World) (v : Value) (js : List Ja) : Prop where
  sl : SlAt 3 w v (js.map encJ)
  args : ∀ j ∈ js, ArgsAt w j.2 j.1.2.2
/-- A hold: its message, its arrivals, and the value of these in memory. -/
abbrev Jh := (Int × Int × Int) × List Ja × Value
abbrev Jh0 : Jh := ((0, 0, 0), [], .slice none 0 0)
def encH (h : Jh) : List Value := [iV h.1.1, iV h.1.2.1, iV h.1.2.2, h.2.2]
structure HsAt (w : World) (v : Value) (hs : List Jh) : Prop where
  sl : SlAt 4 w v (hs.map encH)
  arr : ∀ h ∈ hs, JaAt w h.2.2 h.2.1
theorem ArgsAt.ext {w w' : World} {v : Value} {l : List Int} (h : ArgsAt w v l) (k : Ext w w') : ArgsAt w' v l := SlAt.ext h k
theorem JaAt.ext {w w' : World} {v : Value} {l : List Ja} (h : JaAt w v l) (k : Ext w w') : JaAt w' v l := ⟨h.sl.ext k, fun j hj => (h.args j hj).ext k⟩
theorem HsAt.ext {w w' : World} {v : Value} {l : List Jh} (h : HsAt w v l) (k : Ext w w') : HsAt w' v l := ⟨h.sl.ext k, fun j hj => (h.arr j hj).ext k⟩
theorem getD_memJ {cs : List Ja} {j : Nat} (h : j < cs.length) : cs.getD j Ja0 ∈ cs := by
  rw [List.getD_eq_getElem?_getD, List.getElem?_eq_getElem h]; exact List.getElem_mem h
theorem getD_memH {cs : List Jh} {j : Nat} (h : j < cs.length) : cs.getD j Jh0 ∈ cs := by
  rw [List.getD_eq_getElem?_getD, List.getElem?_eq_getElem h]; exact List.getElem_mem h
theorem encJ_at {js : List Ja} {k : Nat} (h : k < js.length) (x : Ja) (e : js.getD k Ja0 = x) : (js.map encJ).getD k [] = encJ x := by
  rw [← e, List.getD_eq_getElem?_getD, List.getD_eq_getElem?_getD, List.getElem?_map, List.getElem?_eq_getElem h]; rfl
theorem encH_at {js : List Jh} {k : Nat} (h : k < js.length) (x : Jh) (e : js.getD k Jh0 = x) : (js.map encH).getD k [] = encH x := by
  rw [← e, List.getD_eq_getElem?_getD, List.getD_eq_getElem?_getD, List.getElem?_map, List.getElem?_eq_getElem h]; rfl
/-- The holds that the laws make. -/
structure OkH (h : Jh) : Prop where
  f : 0 ≤ h.1.1 ∧ h.1.1 ≤ 2
  t : 0 ≤ h.1.2.1 ∧ h.1.2.1 ≤ 2
  n : 0 ≤ h.1.2.2 ∧ h.1.2.2 ≤ 3
  len : h.2.1.length ≤ 2
  each : ∀ j ∈ h.2.1, 1 ≤ j.1.1 ∧ j.1.1 ≤ 11 ∧ 0 ≤ j.1.2.1 ∧ j.1.2.1 ≤ 7 ∧ j.1.2.2.length ≤ 4
  asc : ∀ i k, i < k → k < h.2.1.length → (h.2.1.getD i Ja0).1.1 ≤ (h.2.1.getD k Ja0).1.1
abbrev hV (h : Jh) : Value := .agg #[iV h.1.1, iV h.1.2.1, iV h.1.2.2, h.2.2]
/-- ref.Valid at a hold that the laws make. -/
theorem valid_ok (h : Jh) (w : World) (ho : OkH h) (hj : JaAt w h.2.2 h.2.1) : Calls Tryz.prog 72 #[hV h] w (RetV (.bool true) w) := by
  obtain ⟨⟨f, t, n⟩, js, v⟩ := h
  obtain ⟨⟨f1, f2⟩, ⟨t1, t2⟩, ⟨n1, n2⟩, hl, he, ha⟩ := ho
  obtain ⟨hs, hg⟩ := hj
  simp only [] at f1 f2 t1 t2 n1 n2 hl he ha hs hg
  obtain ⟨A, c, rfl, a1, a2, RA⟩ := hs.read
  rw [List.length_map] at a1 RA ⊢
  have HR := Lib.hid RA
  have HE := Lib.hid he
  have HA := Lib.hid ha
  have HG := Lib.hid hg
  clear RA he ha hg hs
  have i1 := in_any f
  have i2 := in_any t
  rw [decide_eq_true (by omega)] at i1 i2
  have I1 := Lib.hid i1
  have I2 := Lib.hid i2
  clear i1 i2
  go_enter Tryz.func72, Tryz.ntmps72
  go_wp2_with fail
  refine (I1.out _).mono ?_
  rintro e1 w1 ⟨rfl, rfl⟩
  go_wp2_with fail
  refine (I2.out _).mono ?_
  rintro e1 w1 ⟨rfl, rfl⟩
  go_wp2_with fail
  go_loopw [4, 38] (fun l i wr => ∃ (k : Nat) (m : Int), k ≤ js.length ∧ i = iV (k : Int) ∧ l = iV m ∧ (∀ i, k ≤ i → i < js.length → m ≤ (js.getD i Ja0).1.1) ∧ Ext w wr) (fun _ i _ => js.length - (intOf i).toNat)
  case atStart => exact ⟨0, 1, by omega, rfl, rfl, fun i _ hi => (HE.out _ (getD_memJ hi)).1, (Ext.refl _).alloc _ |>.alloc _⟩
  case round =>
    obtain ⟨k, m, hk, rfl, rfl, hm, hE⟩ := hrel
    have HM := Lib.hid hm
    have HX := Lib.hid hE
    clear hE hm
    by_cases hlt : k < js.length
    · obtain ⟨b, o, rfl, hb, cR⟩ := HR.out wr HX.out k hlt (by omega)
      obtain ⟨x, hx⟩ : ∃ x, js.getD k Ja0 = x := ⟨_, rfl⟩
      rw [encJ_at hlt x hx] at cR
      have b1 := HM.out k (Nat.le_refl _) hlt
      have b2 := HE.out _ (getD_memJ hlt)
      have HN : Hid (∀ i, k + 1 ≤ i → i < js.length → x.1.1 ≤ (js.getD i Ja0).1.1) := Lib.hid (fun i h1 h2 => by rw [← hx]; exact HA.out k i (by omega) h2)
      have g1 := HG.out _ (getD_memJ hlt)
      rw [hx] at b1 b2 g1
      obtain ⟨⟨x1, x2, xs⟩, xv⟩ := x
      obtain ⟨c1, c2, c3, c4, c5⟩ := b2
      obtain ⟨A2, d2, hv, e1, e2, -⟩ := g1.read
      rw [List.length_map] at hv e1
      simp only [] at hv b1 c1 c2 c3 c4 c5
      subst hv
      have r0 := cR 0 _ (by omega) rfl
      have r1 := cR 1 _ (by omega) rfl
      have r2 := cR 2 _ (by omega) rfl
      rw [Nat.add_zero] at r0
      clear cR hx g1
      go_wp2_with fail
      exact ⟨⟨k + 1, x1, by omega, by go_num, rfl, HN.out, HX.out.alloc _⟩, by simp [intOf]; omega⟩
    · go_wp2_with fail
      go_ret
      exact ⟨rfl, HX.out⟩
end Go.Proofs.YtehmpbaiefbemaaGreat
namespace Go.Proofs.YtehmpbaiefbemaaGreat
open Go.RowKit
abbrev Ms := Int × Int × Int
theorem eq44 (a b : Value) : binOp .eql 79 a b = eqS 79 a b := by unfold eqS; rfl
@[irreducible] def eqM (x y : Ms) : Bool := decide (x = y)
theorem eqM_true {x y : Ms} (h : eqM x y = true) : x = y := by unfold eqM at h; exact of_decide_eq_true h
theorem eqM_false {x y : Ms} (h : eqM x y = false) : x ≠ y := by unfold eqM at h; exact of_decide_eq_false h
theorem run_eq44 (w : World) (b c d b' c' d' : Int) : (eqS 79 (.agg #[iV b, iV c, iV d]) (.agg #[iV b', iV c', iV d'])).run Tryz.prog w = .ok (.bool (eqM (b, c, d) (b', c', d'))) w := by
  unfold eqS eqM
  by_cases h2 : b = b'
  · by_cases h3 : c = c'
    · by_cases h4 : d = d'
      · subst h2
        subst h3
        subst h4
        go_simp
      · subst h2
        subst h3
        have e : decide (((b, c, d) : Ms) = (b, c, d')) = false := decide_eq_false (by simp [h4])
        rw [e]
        go_simp
    · subst h2
      have e : decide (((b, c, d) : Ms) = (b, c', d')) = false := decide_eq_false (by simp [h3])
      rw [e]
      go_simp
  · have e : decide (((b, c, d) : Ms) = (b', c', d')) = false := decide_eq_false (by simp [h2])
    rw [e]
    go_simp
attribute [local go_sem ↓] eq44
attribute [local go_sem] run_eq44
/-- No two holds of one message. -/
def Dis (hs : List Jh) : Prop := ∀ i k, i < k → k < hs.length → (hs.getD i Jh0).1 ≠ (hs.getD k Jh0).1
def RetC (hs : List Jh) (w : World) (e : Ending) (w' : World) : Prop := ∃ r : Int, e = .returned (.int .i64 r) ∧ (r = 0 ∧ Dis hs ∨ r = 5 ∧ ¬ Dis hs) ∧ Ext w w'
theorem check_any (hs : List Jh) (v : Value) (w : World) (hv : HsAt w v hs) (ho : ∀ h ∈ hs, OkH h) (hl : hs.length ≤ 8) : Calls Tryz.prog 42 #[v] w (RetC hs w) := by
  obtain ⟨sl, ar⟩ := hv
  obtain ⟨A, c, rfl, a1, a2, RA⟩ := sl.read
  rw [List.length_map] at a1 RA ⊢
  have HR := Lib.hid RA
  have HO := Lib.hid ho
  have HA := Lib.hid ar
  clear RA ho ar sl
  go_enter Tryz.func42, Tryz.ntmps42
  go_wp2_with fail
  go_loopw [11] (fun i wr => ∃ k : Nat, k ≤ hs.length ∧ i = iV (k : Int) ∧ (∀ a b, a < b → b < k → (hs.getD a Jh0).1 ≠ (hs.getD b Jh0).1) ∧ Ext w wr) (fun i _ => hs.length - (intOf i).toNat)
  case atStart => exact ⟨0, by omega, rfl, fun a b _ h => by omega, Ext.refl _⟩
  case round =>
    obtain ⟨k, hk, rfl, hd, hE⟩ := hrel
    have HD := Lib.hid hd
    have HX := Lib.hid hE
    clear hE hd
    generalize hwB : wr = wB at *
    by_cases hlt : k < hs.length
    · obtain ⟨b, o, rfl, hb, cR⟩ := HR.out wB HX.out k hlt (by omega)
      obtain ⟨x, hx⟩ : ∃ x, hs.getD k Jh0 = x := ⟨_, rfl⟩
      rw [encH_at hlt x hx] at cR
      have g1 := HA.out _ (getD_memH hlt)
      have g2 := HO.out _ (getD_memH hlt)
      rw [hx] at g1 g2
      have CV := Lib.hid (fun W (hW : Ext w W) => valid_ok x W g2 (g1.ext hW))
      have HXK := Lib.hid hx
      obtain ⟨Ax, dx, ex, -, -, -⟩ := g1.sl.read
      rw [List.length_map] at ex
      obtain ⟨⟨x1, x2, x3⟩, xs, xv⟩ := x
      simp only [] at ex
      subst ex
      have r0 := cR 0 _ (by omega) rfl
      have r1 := cR 1 _ (by omega) rfl
      have r2 := cR 2 _ (by omega) rfl
      have r3 := cR 3 _ (by omega) rfl
      rw [Nat.add_zero] at r0
      clear cR hx g1 g2
      go_wp2_with fail
      refine (CV.out _ (HX.out.alloc _)).mono ?_
      rintro e1 w1 ⟨rfl, hE1⟩
      have HE1 := Lib.hid hE1
      have HSZ : Hid (wB.heap.size < w1.heap.size) := Lib.hid (by have := HE1.out.size; simp at this; omega)
      have s0 : w1.cell? ⟨wB.heap.size, 0, none⟩ = some (iV x1) := HE1.out.cell (new_at wB #[iV x1, iV x2, iV x3, .slice Ax xs.length dx] 81 0 _ rfl)
      have s1 : w1.cell? ⟨wB.heap.size, 1, none⟩ = some (iV x2) := HE1.out.cell (new_at wB #[iV x1, iV x2, iV x3, .slice Ax xs.length dx] 81 1 _ rfl)
      have s2 : w1.cell? ⟨wB.heap.size, 2, none⟩ = some (iV x3) := HE1.out.cell (new_at wB #[iV x1, iV x2, iV x3, .slice Ax xs.length dx] 81 2 _ rfl)
      have HX1 := Lib.hid ((HX.out.alloc _).trans hE1)
      have HS := Lib.hid (And.intro s0 (And.intro s1 s2))
      clear hE1 r0 r1 r2 r3 CV s0 s1 s2 HE1
      go_wp2_with fail
      go_loopw [5] (fun i wq => ∃ q : Nat, q ≤ k ∧ i = iV (q : Int) ∧ (∀ a, a < q → (hs.getD a Jh0).1 ≠ (hs.getD k Jh0).1) ∧ Ext w1 wq) (fun i _ => k - (intOf i).toNat)
      case atStart => exact ⟨0, by omega, rfl, fun a h => by omega, Ext.refl _⟩
      case round =>
        obtain ⟨q, hq, rfl, hn, hE2⟩ := hrel
        have HN := Lib.hid hn
        have HE2 := Lib.hid hE2
        have HX2 := Lib.hid (HX1.out.trans hE2)
        have t0 := hE2.cell HS.out.1
        have t1 := hE2.cell HS.out.2.1
        have t2 := hE2.cell HS.out.2.2
        clear hE2 hn
        by_cases hqk : q < k
        · obtain ⟨b', o', e', hb', cR⟩ := HR.out _ HX2.out q (by omega) (by omega)
          obtain ⟨y, hy⟩ : ∃ y, hs.getD q Jh0 = y := ⟨_, rfl⟩
          rw [encH_at (by omega) y hy] at cR
          rw [Option.some.injEq, Addr.mk.injEq] at e'
          obtain ⟨rfl, rfl, -⟩ := e'
          have HYK := Lib.hid hy
          obtain ⟨⟨y1, y2, y3⟩, ys, yv⟩ := y
          have r0 := cR 0 _ (by omega) rfl
          have r1 := cR 1 _ (by omega) rfl
          have r2 := cR 2 _ (by omega) rfl
          rw [Nat.add_zero] at r0
          clear cR hy
          obtain ⟨bb, hbb⟩ : ∃ bb, eqM (y1, y2, y3) (x1, x2, x3) = bb := ⟨_, rfl⟩
          have HBB := Lib.hid hbb
          have q0 : (0 : Int) ≤ (q : Int) := by omega
          have q1 : (q : Int) < (hs.length : Int) := by omega
          have hsz : wB.heap.size < wr.heap.size := Nat.lt_of_lt_of_le HSZ.out HE2.out.size
          clear hbb
          go_wp2_with fail
          refine wp_region_noPanic ?_
          refine wp_region_held_drew (S := (fun w' => Ext wr w' ∧ ∀ b o, b < wr.heap.size → w'.cell? ⟨b, o, none⟩ = wr.cell? ⟨b, o, none⟩)) (by kernel_rfl) ?_ (fun hHeld => ?_)
          · exact Ext.held (by repeat (first | assumption | exact Ext.refl _ | apply Ext.alloc | apply Ext.drew | apply Ext.drewN))
          refine wpAnyH_take (i := 0) (v := ?_) (oper_at rfl) (by kernel_rfl) (by kernel_rfl) (by kernel_rfl) (fun _ _ _ h => h) (Or.inl ⟨by rfl, ?_⟩) hHeld ?_
          rotate_left
          · (intro ww hSw; (try dsimp only at hSw); go_simp; try (with_reducible rfl))
          try simp only [Act.put, List.setIfInBounds_toArray, List.set_cons_zero, List.set_cons_succ]
          refine wpAnyH_take (i := 1) (v := ?_) (oper_at rfl) (by kernel_rfl) (by kernel_rfl) (by kernel_rfl) (fun _ _ _ h => h) (Or.inl ⟨by rfl, ?_⟩) hHeld ?_
          rotate_left
          · (intro ww hSw; (try dsimp only at hSw); go_simp; try (with_reducible rfl))
          try simp only [Act.put, List.setIfInBounds_toArray, List.set_cons_zero, List.set_cons_succ]
          refine wpAnyH_take (i := 2) (v := ?_) (oper_at rfl) (by kernel_rfl) (by kernel_rfl) (by kernel_rfl) (fun _ _ _ h => h) (Or.inl ⟨by rfl, ?_⟩) hHeld ?_
          rotate_left
          · (intro ww hSw; (try dsimp only at hSw); go_simp; try (with_reducible rfl))
          try simp only [Act.put, List.setIfInBounds_toArray, List.set_cons_zero, List.set_cons_succ]
          refine wpAnyH_take (i := 3) (v := ?_) (oper_at rfl) (by kernel_rfl) (by kernel_rfl) (by kernel_rfl) (fun _ _ _ h => h) (Or.inl ⟨by rfl, ?_⟩) hHeld ?_
          rotate_left
          · (intro ww hSw; (try dsimp only at hSw); go_simp; try (with_reducible rfl))
          try simp only [Act.put, List.setIfInBounds_toArray, List.set_cons_zero, List.set_cons_succ]
          refine wpAnyH_take (i := 4) (v := ?_) (oper_at rfl) (by kernel_rfl) (by kernel_rfl) (by kernel_rfl) (fun _ _ _ h => h) (Or.inl ⟨by rfl, ?_⟩) hHeld ?_
          rotate_left
          · (intro ww hSw; (try dsimp only at hSw); go_simp; try (with_reducible rfl))
          try simp only [Act.put, List.setIfInBounds_toArray, List.set_cons_zero, List.set_cons_succ]
          refine wpAnyH_take (i := 5) (v := ?_) (oper_at rfl) (by kernel_rfl) (by kernel_rfl) (by kernel_rfl) (fun _ _ _ h => h) (Or.inl ⟨by rfl, ?_⟩) hHeld ?_
          rotate_left
          · (intro ww hSw; (try dsimp only at hSw); go_simp; try (with_reducible rfl))
          try simp only [Act.put, List.setIfInBounds_toArray, List.set_cons_zero, List.set_cons_succ]
          refine wpAnyH_take (i := 6) (v := ?_) (oper_at rfl) (by kernel_rfl) (by kernel_rfl) (by kernel_rfl) (fun _ _ _ h => h) (Or.inl ⟨by rfl, ?_⟩) hHeld ?_
          rotate_left
          · (intro ww hSw; (try dsimp only at hSw); go_simp; try (with_reducible rfl))
          try simp only [Act.put, List.setIfInBounds_toArray, List.set_cons_zero, List.set_cons_succ]
          refine wpAnyH_take (i := 7) (v := ?_) (oper_at rfl) (by kernel_rfl) (by kernel_rfl) (by kernel_rfl) (fun _ _ _ h => h) (Or.inl ⟨by rfl, ?_⟩) hHeld ?_
          rotate_left
          · (intro ww hSw; (try dsimp only at hSw); go_simp; try (with_reducible rfl))
          try simp only [Act.put, List.setIfInBounds_toArray, List.set_cons_zero, List.set_cons_succ]
          refine wpAnyH_done (by kernel_rfl) ?_ _
          refine NoPanic.normal ?_
          rw [HBB.out]
          clear r0 r1 r2 t0 t1 t2
          cases bb with
          | true =>
            go_wp2_with fail
            go_ret
            exact ⟨5, rfl, .inr ⟨rfl, fun hd => hd q k hqk hlt (by rw [HXK.out, HYK.out]; exact eqM_true HBB.out)⟩, HX2.out.drew⟩
          | false =>
            go_wp2_with fail
            exact ⟨⟨q + 1, by omega, by go_num, fun a ha => by
              rcases Nat.lt_or_ge a q with h | h
              · exact HN.out a h
              · obtain rfl : a = q := by omega
                rw [HXK.out, HYK.out]
                exact eqM_false HBB.out, HE2.out.drew⟩, by simp [intOf]; omega⟩
        · obtain rfl : q = k := by omega
          go_wp2_with fail
          exact ⟨⟨q + 1, by omega, by go_num, fun a b' h1 h2 => by
            rcases Nat.lt_or_ge b' q with h | h
            · exact HD.out a b' h1 h
            · obtain rfl : b' = q := by omega
              exact HN.out a h1, HX2.out⟩, by simp [intOf]; omega⟩
    · obtain rfl : k = hs.length := by omega
      go_wp2_with fail
      go_ret
      exact ⟨0, rfl, .inl ⟨rfl, HD.out⟩, HX.out⟩
end Go.Proofs.YtehmpbaiefbemaaGreat
namespace Go.Proofs.YtehmpbaiefbemaaGreat
open Go.RowKit
/-- network.valid at a hold that the laws make. -/
theorem valid38_ok (h : Jh) (w : World) (ho : OkH h) (hj : JaAt w h.2.2 h.2.1) : Calls Tryz.prog 48 #[hV h] w (RetV (.bool true) w) := by
  obtain ⟨⟨f, t, n⟩, js, v⟩ := h
  obtain ⟨⟨f1, f2⟩, ⟨t1, t2⟩, ⟨n1, n2⟩, hl, he, ha⟩ := ho
  obtain ⟨hs, hg⟩ := hj
  simp only [] at f1 f2 t1 t2 n1 n2 hl he ha hs hg
  obtain ⟨A, c, rfl, a1, a2, RA⟩ := hs.read
  rw [List.length_map] at a1 RA ⊢
  have HR := Lib.hid RA
  have HE := Lib.hid he
  have HA := Lib.hid ha
  have HG := Lib.hid hg
  clear RA he ha hg hs
  have i1 := comp_any f
  have i2 := comp_any t
  rw [decide_eq_true (by omega)] at i1 i2
  have I1 := Lib.hid i1
  have I2 := Lib.hid i2
  clear i1 i2
  go_enter Tryz.func48, Tryz.ntmps48
  go_wp2_with fail
  refine (I1.out _).mono ?_
  rintro e1 w1 ⟨rfl, rfl⟩
  go_wp2_with fail
  refine (I2.out _).mono ?_
  rintro e1 w1 ⟨rfl, rfl⟩
  go_wp2_with fail
  go_loopw [4, 38] (fun l i wr => ∃ (k : Nat) (m : Int), k ≤ js.length ∧ i = iV (k : Int) ∧ l = iV m ∧ (∀ i, k ≤ i → i < js.length → m ≤ (js.getD i Ja0).1.1) ∧ Ext w wr) (fun _ i _ => js.length - (intOf i).toNat)
  case atStart => exact ⟨0, 1, by omega, rfl, rfl, fun i _ hi => (HE.out _ (getD_memJ hi)).1, (Ext.refl _).alloc _ |>.alloc _⟩
  case round =>
    obtain ⟨k, m, hk, rfl, rfl, hm, hE⟩ := hrel
    have HM := Lib.hid hm
    have HX := Lib.hid hE
    clear hE hm
    by_cases hlt : k < js.length
    · obtain ⟨b, o, rfl, hb, cR⟩ := HR.out wr HX.out k hlt (by omega)
      obtain ⟨x, hx⟩ : ∃ x, js.getD k Ja0 = x := ⟨_, rfl⟩
      rw [encJ_at hlt x hx] at cR
      have b1 := HM.out k (Nat.le_refl _) hlt
      have b2 := HE.out _ (getD_memJ hlt)
      have HN : Hid (∀ i, k + 1 ≤ i → i < js.length → x.1.1 ≤ (js.getD i Ja0).1.1) := Lib.hid (fun i h1 h2 => by rw [← hx]; exact HA.out k i (by omega) h2)
      have g1 := HG.out _ (getD_memJ hlt)
      rw [hx] at b1 b2 g1
      obtain ⟨⟨x1, x2, xs⟩, xv⟩ := x
      obtain ⟨c1, c2, c3, c4, c5⟩ := b2
      obtain ⟨A2, d2, hv, e1, e2, -⟩ := g1.read
      rw [List.length_map] at hv e1
      simp only [] at hv b1 c1 c2 c3 c4 c5
      subst hv
      have r0 := cR 0 _ (by omega) rfl
      have r1 := cR 1 _ (by omega) rfl
      have r2 := cR 2 _ (by omega) rfl
      rw [Nat.add_zero] at r0
      clear cR hx g1
      go_wp2_with fail
      exact ⟨⟨k + 1, x1, by omega, by go_num, rfl, HN.out, HX.out.alloc _⟩, by simp [intOf]; omega⟩
    · go_wp2_with fail
      go_ret
      exact ⟨rfl, HX.out⟩
theorem el36 : El 59 2 (.int .i64 0) 1 8 := ⟨Tryz.underlying59, by kernel_rfl, rfl, by omega, by omega⟩
theorem one_args (xs : List Int) : ∀ u ∈ (xs.map fun x => [iV x]).flatten, u.oneCell' = true := fun u hu => by
  obtain ⟨x, hx, hux⟩ := List.mem_flatten.1 hu
  obtain ⟨c, _, rfl⟩ := List.mem_map.1 hx
  rw [List.mem_singleton.1 hux]
  rfl
attribute [local go_sem ↓] Go.wp_at_zero Go.wp_at_succ
abbrev aV (j : Ja) : Value := .agg #[iV j.1.1, iV j.1.2.1, j.2]
theorem cloneA_any (x1 x2 : Int) (xs : List Int) (v : Value) (w : World) (hv : ArgsAt w v xs) (hl : xs.length ≤ 4) : Calls Tryz.prog 50 #[aV ((x1, x2, xs), v)] w fun e w' => ∃ t, e = .returned (aV ((x1, x2, xs), t)) ∧ Row 1 w' w.heap.size 2 t (xs.map fun x => [iV x]) ∧ Ext w w' := by
  obtain ⟨A, c, rfl, h1, h2, hy⟩ := hv.at_
  have hw := hv.wide
  rw [List.length_map] at h1 ⊢
  have HV := Lib.hid hy
  have HW := Lib.hid hw
  have HL : Hid ((xs.map fun x => [iV x]).length = xs.length) := Lib.hid (List.length_map _)
  clear hy hw hv
  go_enter Tryz.func50, Tryz.ntmps50
  go_upto_region 1 with fail
  generalize hwB : (w.alloc (.cells #[iV x1, iV x2, .slice A xs.length c] 69)).alloc (.cells #[iV 0, iV 0, .slice none 0 0] 69) = wB
  have hE : Ext w wB := by rw [← hwB]; exact ((Ext.refl _).alloc _).alloc _
  have hs : wB.heap.size = w.heap.size + 2 := by rw [← hwB]; simp
  have k0 : wB.cell? ⟨w.heap.size, 0, none⟩ = some (iV x1) := by rw [← hwB]; exact Ext.cell ((Ext.refl _).alloc _) (new_at _ _ _ 0 _ rfl)
  have k1 : wB.cell? ⟨w.heap.size, 1, none⟩ = some (iV x2) := by rw [← hwB]; exact Ext.cell ((Ext.refl _).alloc _) (new_at _ _ _ 1 _ rfl)
  have k2 : wB.cell? ⟨w.heap.size, 2, none⟩ = some (.slice A xs.length c) := by rw [← hwB]; exact Ext.cell ((Ext.refl _).alloc _) (new_at _ _ _ 2 _ rfl)
  have hh : (w.alloc (.cells #[iV x1, iV x2, .slice A xs.length c] 69)).heap.size = w.heap.size + 1 := by simp
  have m0 : wB.cell? ⟨w.heap.size + 1, 0, none⟩ = some (iV 0) := by rw [← hwB, ← hh]; exact new_at (w.alloc (.cells #[iV x1, iV x2, .slice A xs.length c] 69)) #[iV 0, iV 0, .slice none 0 0] 69 0 _ rfl
  have m1 : wB.cell? ⟨w.heap.size + 1, 1, none⟩ = some (iV 0) := by rw [← hwB, ← hh]; exact new_at (w.alloc (.cells #[iV x1, iV x2, .slice A xs.length c] 69)) #[iV 0, iV 0, .slice none 0 0] 69 1 _ rfl
  have m2 : wB.cell? ⟨w.heap.size + 1, 2, none⟩ = some (.slice none 0 0) := by rw [← hwB, ← hh]; exact new_at (w.alloc (.cells #[iV x1, iV x2, .slice A xs.length c] 69)) #[iV 0, iV 0, .slice none 0 0] 69 2 _ rfl
  have f0 : ∀ i, wB.frozen? ⟨w.heap.size, i, none⟩ = false := fun i => by
    rw [← hwB, World.frozen?_alloc_old _ _ _ (by simp)]
    exact World.frozen?_alloc_at _ _ _ _ rfl
  have f1 : ∀ i, wB.frozen? ⟨w.heap.size + 1, i, none⟩ = false := fun i => by rw [← hwB]; exact World.frozen?_alloc_at _ _ _ _ (by simp)
  clear hwB hh
  go_wp2_with (at_builtin; go_loud (refine wapp el36 rfl (.const (.slice none 0 0)) (.tmp 4) rfl (w5 := wB) (vs := []) (us := xs.map fun x => [iV x]) rfl (Ext.refl _) (Row.nil _ _ _ _) rfl HL.out.symm HW.out (HV.out.ext hE) (one_args xs) (by rw [HL.out]; simp; omega) (by rw [HL.out]; simp; omega) ?_; intro v3 w3 hr3 hE3 hg3 hb3; obtain ⟨T, tc, rfl, tl, tz⟩ := hr3.form; have k0' := hE3.cell k0; have k1' := hE3.cell k1; have k2' := hE3.cell k2; have m0' := hE3.cell m0; have m1' := hE3.cell m1; have m2' := hE3.cell m2; have f0' : w3.frozen? ⟨w.heap.size, 2, none⟩ = false := (Below.frozen hE3 (by show w.heap.size < _; omega)).trans (f0 2); have f10 : w3.frozen? ⟨w.heap.size + 1, 0, none⟩ = false := (Below.frozen hE3 (by show w.heap.size + 1 < _; omega)).trans (f1 0); have f11 : w3.frozen? ⟨w.heap.size + 1, 1, none⟩ = false := (Below.frozen hE3 (by show w.heap.size + 1 < _; omega)).trans (f1 1); have f12 : w3.frozen? ⟨w.heap.size + 1, 2, none⟩ = false := (Below.frozen hE3 (by show w.heap.size + 1 < _; omega)).trans (f1 2); have HR3 := Lib.hid hr3; have HE3 := Lib.hid hE3; clear hr3 hE3 hg3 hb3 k0 k1 k2 m0 m1 m2 f0 f1))
  generalize hWF : (((w3.setCell ⟨w.heap.size, 2, none⟩ (.slice T xs.length tc)).setCell ⟨w.heap.size + 1, 0, none⟩ (.int .i64 x1)).setCell ⟨w.heap.size + 1, 1, none⟩ (.int .i64 x2)).setCell ⟨w.heap.size + 1, 2, none⟩ (.slice T xs.length tc) = WF
  have q0 : WF.cell? ⟨w.heap.size + 1, 0, none⟩ = some (iV x1) := by rw [← hWF]; clear hWF; go_simp
  have q1 : WF.cell? ⟨w.heap.size + 1, 1, none⟩ = some (iV x2) := by rw [← hWF]; clear hWF; go_simp
  have q2 : WF.cell? ⟨w.heap.size + 1, 2, none⟩ = some (.slice T xs.length tc) := by rw [← hWF]; clear hWF; go_simp
  have e3 : ([] ++ xs.map fun x => [iV x]).length = xs.length := by simp
  have hr3 : Row 1 w3 wB.heap.size 2 (.slice T xs.length tc) ([] ++ xs.map fun x => [iV x]) := by
    have h3 := HR3.out
    rw [e3] at h3
    exact h3
  have HRW : Row 1 WF wB.heap.size 2 (.slice T xs.length tc) ([] ++ xs.map fun x => [iV x]) := hr3.kept (fun k hk => by
    have := (hr3.lt k hk).1
    rw [← hWF, Below.heap_setCell _ _ _ _ (by show k ≠ w.heap.size + 1; omega), Below.heap_setCell _ _ _ _ (by show k ≠ w.heap.size + 1; omega), Below.heap_setCell _ _ _ _ (by show k ≠ w.heap.size + 1; omega), Below.heap_setCell _ _ _ _ (by show k ≠ w.heap.size; omega)])
  have HXW : Ext w WF := by rw [← hWF]; exact ((((hE.trans HE3.out).set (by show w.heap.size ≤ w.heap.size; omega) _).set (by show w.heap.size ≤ w.heap.size + 1; omega) _).set (by show w.heap.size ≤ w.heap.size + 1; omega) _).set (by show w.heap.size ≤ w.heap.size + 1; omega) _
  refine bodyPost_ret (v := aV ((x1, x2, xs), .slice T xs.length tc)) (by simp [results, Tryz.results50, go_sem, q0, q1, q2]) rfl ⟨_, rfl, (HRW.base (by omega)), HXW⟩
end Go.Proofs.YtehmpbaiefbemaaGreat
namespace Go.Proofs.YtehmpbaiefbemaaGreat
open Go.RowKit
theorem args_at {xs : List Int} {k : Nat} (h : k < xs.length) : (xs.map fun x => [iV x]).getD k [] = [iV (xs.getD k 0)] := by
  rw [List.getD_eq_getElem?_getD, List.getD_eq_getElem?_getD, List.getElem?_map, List.getElem?_eq_getElem h]; rfl
theorem sameArgs_ok (xs : List Int) (v u : Value) (w : World) (hv : ArgsAt w v xs) (hu : ArgsAt w u xs) (hl : xs.length ≤ 4) : Calls Tryz.prog 62 #[v, u] w (RetV (.bool true) w) := by
  obtain ⟨A, c, rfl, a1, a2, RA⟩ := hv.read
  obtain ⟨B, d, rfl, b1, b2, RB⟩ := hu.read
  rw [List.length_map] at a1 RA b1 RB ⊢
  have HA := Lib.hid RA
  have HB := Lib.hid RB
  clear RA RB hv hu
  go_enter Tryz.func62, Tryz.ntmps62
  go_wp2_with fail
  go_loopw [13] (fun i wr => ∃ k : Nat, k ≤ xs.length ∧ i = iV (k : Int) ∧ Ext w wr) (fun i _ => xs.length - (intOf i).toNat)
  case atStart => exact ⟨0, by omega, rfl, Ext.refl _⟩
  case round =>
    obtain ⟨k, hk, rfl, hE⟩ := hrel
    have HX := Lib.hid hE
    clear hE
    by_cases hlt : k < xs.length
    · obtain ⟨b, o, rfl, hb, cA⟩ := HA.out wr HX.out k hlt (by omega)
      obtain ⟨b', o', rfl, hb', cB⟩ := HB.out wr HX.out k hlt (by omega)
      rw [args_at hlt] at cA cB
      obtain ⟨x, hx⟩ : ∃ x, xs.getD k 0 = x := ⟨_, rfl⟩
      rw [hx] at cA cB
      have r0 := cA 0 _ (by omega) rfl
      have s0 := cB 0 _ (by omega) rfl
      rw [Nat.add_zero, Nat.mul_one] at r0 s0
      have q0 : (0 : Int) ≤ (k : Int) := by omega
      have q1 : (k : Int) < (xs.length : Int) := by omega
      clear cA cB hx
      go_wp2_with fail
      refine wp_region_noPanic ?_
      refine wp_region_held_drew (S := (fun w' => Ext wr w' ∧ ∀ b o, b < wr.heap.size → w'.cell? ⟨b, o, none⟩ = wr.cell? ⟨b, o, none⟩)) (by kernel_rfl) ?_ (fun hHeld => ?_)
      · exact Ext.held (by repeat (first | assumption | exact Ext.refl _ | apply Ext.alloc | apply Ext.drew | apply Ext.drewN))
      refine wpAnyH_take (i := 0) (v := ?_) (oper_at rfl) (by kernel_rfl) (by kernel_rfl) (by kernel_rfl) (fun _ _ _ h => h) (Or.inl ⟨by rfl, ?_⟩) hHeld ?_
      rotate_left
      · (intro ww hSw; (try dsimp only at hSw); go_simp; try (with_reducible rfl))
      try simp only [Act.put, List.setIfInBounds_toArray, List.set_cons_zero, List.set_cons_succ]
      refine wpAnyH_take (i := 1) (v := ?_) (oper_at rfl) (by kernel_rfl) (by kernel_rfl) (by kernel_rfl) (fun _ _ _ h => h) (Or.inl ⟨by rfl, ?_⟩) hHeld ?_
      rotate_left
      · (intro ww hSw; (try dsimp only at hSw); go_simp; try (with_reducible rfl))
      try simp only [Act.put, List.setIfInBounds_toArray, List.set_cons_zero, List.set_cons_succ]
      refine wpAnyH_take (i := 2) (v := ?_) (oper_at rfl) (by kernel_rfl) (by kernel_rfl) (by kernel_rfl) (fun _ _ _ h => h) (Or.inl ⟨by rfl, ?_⟩) hHeld ?_
      rotate_left
      · (intro ww hSw; (try dsimp only at hSw); go_simp; try (with_reducible rfl))
      try simp only [Act.put, List.setIfInBounds_toArray, List.set_cons_zero, List.set_cons_succ]
      refine wpAnyH_take (i := 3) (v := ?_) (oper_at rfl) (by kernel_rfl) (by kernel_rfl) (by kernel_rfl) (fun _ _ _ h => h) (Or.inl ⟨by rfl, ?_⟩) hHeld ?_
      rotate_left
      · (intro ww hSw; (try dsimp only at hSw); go_simp; try (with_reducible rfl))
      try simp only [Act.put, List.setIfInBounds_toArray, List.set_cons_zero, List.set_cons_succ]
      refine wpAnyH_take (i := 4) (v := ?_) (oper_at rfl) (by kernel_rfl) (by kernel_rfl) (by kernel_rfl) (fun _ _ _ h => h) (Or.inl ⟨by rfl, ?_⟩) hHeld ?_
      rotate_left
      · (intro ww hSw; (try dsimp only at hSw); go_simp; try (with_reducible rfl))
      try simp only [Act.put, List.setIfInBounds_toArray, List.set_cons_zero, List.set_cons_succ]
      refine wpAnyH_take (i := 5) (v := ?_) (oper_at rfl) (by kernel_rfl) (by kernel_rfl) (by kernel_rfl) (fun _ _ _ h => h) (Or.inl ⟨by rfl, ?_⟩) hHeld ?_
      rotate_left
      · (intro ww hSw; (try dsimp only at hSw); go_simp; try (with_reducible rfl))
      try simp only [Act.put, List.setIfInBounds_toArray, List.set_cons_zero, List.set_cons_succ]
      refine wpAnyH_take (i := 6) (v := ?_) (oper_at rfl) (by kernel_rfl) (by kernel_rfl) (by kernel_rfl) (fun _ _ _ h => h) (Or.inl ⟨by rfl, ?_⟩) hHeld ?_
      rotate_left
      · (intro ww hSw; (try dsimp only at hSw); go_simp; try (with_reducible rfl))
      try simp only [Act.put, List.setIfInBounds_toArray, List.set_cons_zero, List.set_cons_succ]
      refine wpAnyH_take (i := 7) (v := ?_) (oper_at rfl) (by kernel_rfl) (by kernel_rfl) (by kernel_rfl) (fun _ _ _ h => h) (Or.inl ⟨by rfl, ?_⟩) hHeld ?_
      rotate_left
      · (intro ww hSw; (try dsimp only at hSw); go_simp; try (with_reducible rfl))
      try simp only [Act.put, List.setIfInBounds_toArray, List.set_cons_zero, List.set_cons_succ]
      refine wpAnyH_take (i := 8) (v := ?_) (oper_at rfl) (by kernel_rfl) (by kernel_rfl) (by kernel_rfl) (fun _ _ _ h => h) (Or.inl ⟨by rfl, ?_⟩) hHeld ?_
      rotate_left
      · (intro ww hSw; (try dsimp only at hSw); go_simp; try (with_reducible rfl))
      try simp only [Act.put, List.setIfInBounds_toArray, List.set_cons_zero, List.set_cons_succ]
      refine wpAnyH_done (by kernel_rfl) ?_ _
      refine NoPanic.normal ?_
      clear r0 s0
      go_wp2_with fail
      exact ⟨⟨k + 1, by omega, by go_num, HX.out.drew⟩, by simp [intOf]; omega⟩
    · obtain rfl : k = xs.length := by omega
      go_wp2_with fail
      go_ret
      exact ⟨rfl, HX.out⟩
end Go.Proofs.YtehmpbaiefbemaaGreat
namespace Go.Proofs.YtehmpbaiefbemaaGreat
open Go.RowKit
attribute [local go_sem ↓] eq44
attribute [local go_sem] run_eq44
def HasM (hs : List Jh) (m : Ms) : Prop := ∃ h ∈ hs, h.1 = m
/-- A message in memory. -/
def MsAt (w : World) (b : Nat) (m : Ms) : Prop := w.cell? ⟨b, 0, none⟩ = some (iV m.1) ∧ w.cell? ⟨b, 1, none⟩ = some (iV m.2.1) ∧ w.cell? ⟨b, 2, none⟩ = some (iV m.2.2)
theorem MsAt.ext {w w' : World} {b : Nat} {m : Ms} (h : MsAt w b m) (k : Ext w w') : MsAt w' b m := ⟨k.cell h.1, k.cell h.2.1, k.cell h.2.2⟩
theorem held1_any (h m : Ms) (A : Option Addr) (n c b : Nat) (w : World) (hm : MsAt w b m) : Calls Tryz.prog 81 #[.agg #[iV h.1, iV h.2.1, iV h.2.2, .slice A n c], .pointer (some ⟨b, 0, none⟩)] w (RetV (.bool (eqM h m)) w) := by
  obtain ⟨h1, h2, h3⟩ := h
  obtain ⟨m1, m2, m3⟩ := m
  obtain ⟨c0, c1, c2⟩ := hm
  have hb := World.block_lt_of_cell? w _ c0
  simp only [] at c0 c1 c2 hb
  go_enter Tryz.func81, Tryz.ntmps81
  go_wp2_with fail
  go_ret
  exact ⟨rfl, (Ext.refl _).alloc _⟩
theorem index81_any (hs : List Jh) (v : Value) (m : Ms) (b : Nat) (w : World) (hv : HsAt w v hs) (hm : MsAt w b m) : Calls Tryz.prog 108 #[v, .func (.func 81) #[] #[.pointer (some ⟨b, 0, none⟩)]] w fun e w' => ∃ r : Int, e = .returned (.int .i64 r) ∧ (0 ≤ r ∧ HasM hs m ∨ r = -1 ∧ ¬ HasM hs m) ∧ Ext w w' := by
  obtain ⟨sl, ar⟩ := hv
  obtain ⟨A, c, rfl, a1, a2, RA⟩ := sl.read
  rw [List.length_map] at a1 RA ⊢
  have HR := Lib.hid RA
  have HA := Lib.hid ar
  have HM := Lib.hid hm
  have hl : hs.length ≤ 9223372036854775807 := by unfold maxLen at a2; omega
  clear RA ar sl hm
  go_enter Tryz.func108, Tryz.ntmps108
  go_wp2_with fail
  go_loopw [8] (fun i wr => ∃ k : Nat, k ≤ hs.length ∧ i = iV (k : Int) ∧ (∀ a, a < k → (hs.getD a Jh0).1 ≠ m) ∧ Ext w wr) (fun i _ => hs.length - (intOf i).toNat)
  case atStart => exact ⟨0, by omega, rfl, fun a h => by omega, Ext.refl _⟩
  case round =>
    obtain ⟨k, hk, rfl, hn, hE⟩ := hrel
    have HN := Lib.hid hn
    have HX := Lib.hid hE
    clear hE hn
    by_cases hlt : k < hs.length
    · obtain ⟨g, o, rfl, hb, cR⟩ := HR.out wr HX.out k hlt (by omega)
      obtain ⟨x, hx⟩ : ∃ x, hs.getD k Jh0 = x := ⟨_, rfl⟩
      rw [encH_at hlt x hx] at cR
      have g1 := HA.out _ (getD_memH hlt)
      have hmem := getD_memH hlt
      rw [hx] at g1 hmem
      have HME := Lib.hid hmem
      have HXK := Lib.hid hx
      obtain ⟨Ax, dx, ex, -, -, -⟩ := g1.sl.read
      rw [List.length_map] at ex
      obtain ⟨⟨x1, x2, x3⟩, xs, xv⟩ := x
      simp only [] at ex
      subst ex
      have r0 := cR 0 _ (by omega) rfl
      have r1 := cR 1 _ (by omega) rfl
      have r2 := cR 2 _ (by omega) rfl
      have r3 := cR 3 _ (by omega) rfl
      rw [Nat.add_zero] at r0
      clear cR hx g1 hmem
      obtain ⟨bb, hbb⟩ : ∃ bb, eqM (x1, x2, x3) m = bb := ⟨_, rfl⟩
      have CV := held1_any (x1, x2, x3) m Ax xs.length dx b wr (HM.out.ext HX.out)
      rw [hbb] at CV
      have HBB := Lib.hid hbb
      have CV := Lib.hid CV
      clear hbb
      go_wp2_with fail
      refine CV.out.mono ?_
      rintro e1 w1 ⟨rfl, hE1⟩
      have HE1 := Lib.hid hE1
      clear hE1 r0 r1 r2 r3 CV
      cases bb with
      | true =>
        go_wp2_with fail
        go_ret
        exact ⟨_, rfl, .inl ⟨by omega, _, HME.out, eqM_true HBB.out⟩, HX.out.trans HE1.out⟩
      | false =>
        go_wp2_with fail
        exact ⟨⟨k + 1, by omega, by go_num, fun a ha => by
          rcases Nat.lt_or_ge a k with h | h
          · exact HN.out a h
          · obtain rfl : a = k := by omega
            rw [HXK.out]
            exact eqM_false HBB.out, HX.out.trans HE1.out⟩, by simp [intOf]; omega⟩
    · obtain rfl : k = hs.length := by omega
      go_wp2_with fail
      go_ret
      refine ⟨_, rfl, .inr ⟨rfl, ?_⟩, HX.out⟩
      rintro ⟨h, hh, he⟩
      obtain ⟨i, hi, hie⟩ := List.getElem_of_mem hh
      refine HN.out i hi ?_
      rw [List.getD_eq_getElem?_getD, List.getElem?_eq_getElem hi]
      simpa [hie] using he
theorem cont59_any (hs : List Jh) (v : Value) (m : Ms) (b : Nat) (w : World) (hv : HsAt w v hs) (hm : MsAt w b m) : Calls Tryz.prog 80 #[v, .func (.func 81) #[] #[.pointer (some ⟨b, 0, none⟩)]] w fun e w' => ∃ r : Bool, e = .returned (.bool r) ∧ (r = true ↔ HasM hs m) ∧ Ext w w' := by
  have CI := Lib.hid (index81_any hs v m b w hv hm)
  clear hv hm
  go_enter Tryz.func80, Tryz.ntmps80
  go_wp2_with fail
  refine CI.out.mono ?_
  rintro e1 w1 ⟨r, rfl, hr, hE1⟩
  have HE1 := Lib.hid hE1
  have HR := Lib.hid hr
  clear hE1 hr CI
  go_wp2_with fail
  go_ret
  refine ⟨_, rfl, ?_, HE1.out⟩
  rcases HR.out with ⟨h1, h2⟩ | ⟨h1, h2⟩
  · simp [h1, h2]
  · subst h1
    simp [h2]
/-- (*Network).held: it reads but the holds of the network. -/
theorem held30_any (hs : List Jh) (v : Value) (m : Ms) (g : Nat) (w : World) (hg : w.cell? ⟨g, 0 + 1, none⟩ = some v) (hv : HsAt w v hs) : Calls Tryz.prog 49 #[.pointer (some ⟨g, 0, none⟩), .agg #[iV m.1, iV m.2.1, iV m.2.2]] w fun e w' => ∃ r : Bool, e = .returned (.bool r) ∧ (r = true ↔ HasM hs m) ∧ Ext w w' := by
  have hb := World.block_lt_of_cell? w _ hg
  rw [Nat.zero_add] at hg
  obtain ⟨A, c, rfl, -, -, -⟩ := hv.sl.read
  rw [List.length_map] at hg hv
  have e1 : Ext w (w.alloc (.cells #[iV m.1, iV m.2.1, iV m.2.2] 79)) := (Ext.refl _).alloc _
  have CI := Lib.hid (cont59_any hs _ m w.heap.size (w.alloc (.cells #[iV m.1, iV m.2.1, iV m.2.2] 79)) (hv.ext e1) ⟨new_at _ _ _ 0 _ rfl, new_at _ _ _ 1 _ rfl, new_at _ _ _ 2 _ rfl⟩)
  clear hv e1
  obtain ⟨m1, m2, m3⟩ := m
  simp only [] at CI
  simp only [] at hb
  go_enter Tryz.func49, Tryz.ntmps49
  go_wp2_with fail
  refine CI.out.mono ?_
  rintro e2 w2 ⟨r, rfl, hr, hE2⟩
  have HE2 := Lib.hid (((Ext.refl w).alloc _).trans hE2)
  have HR := Lib.hid hr
  clear hE2 hr CI
  go_wp2_with fail
  go_ret
  exact ⟨_, rfl, HR.out, HE2.out⟩
end Go.Proofs.YtehmpbaiefbemaaGreat
