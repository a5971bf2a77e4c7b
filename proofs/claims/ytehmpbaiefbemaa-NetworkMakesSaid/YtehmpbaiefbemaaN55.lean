/- ref.Arrivals: the arrivals of holds in their order. -/
import Derived.Test.YtehmpbaiefbemaaN54
namespace Go.Proofs.Ytehmpbaiefbemaa
open Go.RowKit Go.Sort
attribute [local go_sem ↓] Go.wp_at_zero Go.wp_at_succ
theorem el61 : El 61 65 (.agg #[iV 0, iV 0, iV 0, iV 0, iV 0, iV 0, .slice none 0 0]) 7 72 := ⟨Try.underlying61, by kernel_rfl, rfl, by omega, by omega⟩
theorem encT_one (l : List Tm) : ∀ u ∈ (l.map encT).flatten, u.oneCell' = true := fun u hu => by
  obtain ⟨x, hx, hux⟩ := List.mem_flatten.1 hu
  obtain ⟨y, _, rfl⟩ := List.mem_map.1 hx
  exact one_encT (x := y) u (by simpa using hux)
theorem encT_at {l : List Tm} {k : Nat} (h : k < l.length) (x : Tm) (e : l.getD k Tm0 = x) : (l.map encT).getD k [] = encT x := by
  rw [← e, List.getD_eq_getElem?_getD, List.getD_eq_getElem?_getD, List.getElem?_map, List.getElem?_eq_getElem h]; rfl
theorem SlVs.ext {w w' : World} {A : Option Addr} {vs : List Value} (h : VsAt w A vs) (k : Ext w w') : VsAt w' A vs := VsAt.ext h k
theorem posF_len (x : Tm) (out : List Tm) : (posF x out).length = out.length + 1 := by rw [(posF_perm x out).length_eq, List.length_cons]
theorem foldl_len : ∀ (l out : List Tm), (l.foldl (fun out x => posF x out) out).length = out.length + l.length
  | [], out => by simp
  | x :: l, out => by rw [List.foldl_cons, foldl_len l, posF_len, List.length_cons]; omega
def RetAr (hs : List Jh) (w : World) (e : Ending) (w' : World) : Prop := ∃ u, e = .returned u ∧ Row 7 w' w.heap.size 65 u ((arrF hs).map encT) ∧ Ext w w'
set_option maxRecDepth 100000 in
set_option maxHeartbeats 8000000 in
theorem arrivals18_any (hs : List Jh) (v : Value) (w : World) (hv : HsAt w v hs) (hl : hs.length ≤ 16) (h2 : ∀ h ∈ hs, h.2.1.length ≤ 2) : Calls Try.prog 18 #[v] w (RetAr hs w) := by
  have H2 := Lib.hid h2
  obtain ⟨sl, ar⟩ := hv
  obtain ⟨A, c, rfl, a1, a2, RA⟩ := sl.read
  rw [List.length_map] at a1 RA ⊢
  have HR := Lib.hid RA
  have HA := Lib.hid ar
  clear RA ar sl a2 h2
  go_enter Try.func18, Try.ntmps18
  go_wp2_with fail
  go_loopw [13, 3] (fun i t wr => ∃ (k : Nat) (v : Value), k ≤ hs.length ∧ i = iV (k : Int) ∧ t = v ∧ Row 7 wr w.heap.size 65 v (((timS (hs.take k)).foldl (fun out x => posF x out) []).map encT) ∧ Ext w wr) (fun i _ _ => hs.length - (intOf i).toNat)
  case atStart => exact ⟨0, _, by omega, rfl, rfl, Row.nil _ _ _ _, Ext.refl _⟩
  case round =>
    obtain ⟨k, v, hk, rfl, rfl, hT, hX⟩ := hrel
    obtain ⟨wo, rfl⟩ : ∃ wo, wo = wr := ⟨_, rfl⟩
    have HX := Lib.hid hX
    obtain ⟨us, hus⟩ : ∃ us, (timS (hs.take k)).foldl (fun out x => posF x out) [] = us := ⟨_, rfl⟩
    rw [hus] at hT
    have HUS := Lib.hid hus
    have HT0 := Lib.hid hT
    obtain ⟨Au, cu, eu, -, -⟩ := hT.form
    rw [List.length_map] at eu
    subst eu
    clear hT hX hus
    by_cases hlt : k < hs.length
    · obtain ⟨b, o, rfl, hb, cR⟩ := HR.out wo HX.out k hlt (by omega)
      obtain ⟨x, hx⟩ : ∃ x, hs.getD k Jh0 = x := ⟨_, rfl⟩
      rw [encH_at hlt x hx] at cR
      have gx := HA.out _ (getD_memH hlt)
      have lx := H2.out _ (getD_memH hlt)
      have hts := timS_take hlt
      have HUL : Hid (us.length ≤ 2 * hs.length) := Lib.hid (by
        rw [← HUS.out, foldl_len]
        have e2 := timS_len (hs := hs.take k) (fun h hh => H2.out h (List.mem_of_mem_take hh))
        rw [List.length_take] at e2
        simp only [List.length_nil]
        omega)
      rw [hx] at gx lx hts
      obtain ⟨Ax, dx, ex, ax1, ax2, RJ⟩ := gx.sl.read
      rw [List.length_map] at ex ax1 RJ
      have HRJ := Lib.hid RJ
      have HAJ := Lib.hid gx.args
      obtain ⟨⟨m1, m2, m3⟩, js, jv⟩ := x
      simp only [] at ex ax1 hts lx HRJ HAJ
      subst ex
      have HTS : Hid ((timS (hs.take (k + 1))).foldl (fun out x => posF x out) [] = (timH (m1, m2, m3) 0 js).foldl (fun out x => posF x out) us) := Lib.hid (by rw [hts, List.foldl_append, HUS.out])
      have r0 := cR 0 _ (by omega) rfl
      have r1 := cR 1 _ (by omega) rfl
      have r2 := cR 2 _ (by omega) rfl
      have r3 := cR 3 _ (by omega) rfl
      rw [Nat.add_zero] at r0
      clear cR hx gx hts ax2 RJ
      go_wp2_with fail
      generalize hw1 : wo.alloc _ = w1
      have hE1 : Ext wo w1 := by rw [← hw1]; exact (Ext.refl _).alloc _
      have u0 : w1.cell? ⟨wo.heap.size, 0, none⟩ = some (iV m1) := by rw [← hw1]; exact new_at _ _ _ 0 _ rfl
      have u1 : w1.cell? ⟨wo.heap.size, 1, none⟩ = some (iV m2) := by rw [← hw1]; exact new_at _ _ _ 1 _ rfl
      have u2 : w1.cell? ⟨wo.heap.size, 2, none⟩ = some (iV m3) := by rw [← hw1]; exact new_at _ _ _ 2 _ rfl
      have HU := Lib.hid (And.intro u0 (And.intro u1 u2))
      have HT1 := Lib.hid (HT0.out.ext hE1)
      have HX1 := Lib.hid (HX.out.trans hE1)
      clear hw1 hE1 u0 u1 u2 r0 r1 r2 r3
      go_loopw [20, 3] (fun i t wr => ∃ (q : Nat) (v : Value), q ≤ js.length ∧ i = iV (q : Int) ∧ t = v ∧ Row 7 wr w.heap.size 65 v (((timH (m1, m2, m3) 0 (js.take q)).foldl (fun out x => posF x out) us).map encT) ∧ Ext w1 wr) (fun i _ _ => js.length - (intOf i).toNat)
      case atStart => exact ⟨0, _, by omega, rfl, rfl, HT1.out, Ext.refl _⟩
      case round =>
        obtain ⟨q, v, hq, rfl, rfl, hT, hXi⟩ := hrel
        obtain ⟨wi, rfl⟩ : ∃ wi, wi = wr := ⟨_, rfl⟩
        have HXI := Lib.hid hXi
        obtain ⟨cs, hcs⟩ : ∃ cs, (timH (m1, m2, m3) 0 (js.take q)).foldl (fun out x => posF x out) us = cs := ⟨_, rfl⟩
        rw [hcs] at hT
        have HCS := Lib.hid hcs
        have HRow := Lib.hid hT
        obtain ⟨Av, tc, ev, tc1, tc2⟩ := hT.form
        rw [List.length_map] at ev tc1
        subst ev
        clear hT hXi hcs tc2 HT1
        by_cases hlt' : q < js.length
        · obtain ⟨bj, oj, rfl, hbj, cJ⟩ := HRJ.out wi (HX1.out.trans HXI.out) q hlt' (by omega)
          obtain ⟨y, hy⟩ : ∃ y, js.getD q Ja0 = y := ⟨_, rfl⟩
          rw [encJ_at hlt' y hy] at cJ
          have gy := HAJ.out _ (getD_memJ hlt')
          have htj := timH_take (m := (m1, m2, m3)) (i := 0) hlt'
          rw [hy] at gy htj
          rw [Nat.zero_add] at htj
          have HCL : Hid (cs.length ≤ 1000) := Lib.hid (by
            rw [← HCS.out, foldl_len, timH_len, List.length_take]
            have := HUL.out
            omega)
          obtain ⟨⟨y1, y2, ys⟩, yv⟩ := y
          simp only [] at gy
          obtain ⟨Ay, dy, ey, -, -, -⟩ := gy.at_
          rw [List.length_map] at ey
          subst ey
          have HST2 : Hid ((timH (m1, m2, m3) 0 (js.take (q + 1))).foldl (fun out x => posF x out) us = posF ((m1, m2, m3), q, (y1, y2, ys), Value.slice Ay ys.length dy) cs) := Lib.hid (by rw [htj, List.foldl_append, HCS.out]; rfl)
          have s0 := cJ 0 _ (by omega) rfl
          have s1 := cJ 1 _ (by omega) rfl
          have s2 := cJ 2 _ (by omega) rfl
          rw [Nat.add_zero] at s0
          have v0 := HXI.out.cell HU.out.1
          have v1 := HXI.out.cell HU.out.2.1
          have v2 := HXI.out.cell HU.out.2.2
          have hcl := HCL.out
          have hszi : wo.heap.size < wi.heap.size := World.block_lt_of_cell? wi _ v0
          clear cJ hy gy htj
          go_upto_region 9 with fail
          generalize hw3 : (wi.alloc _).alloc _ = w3
          obtain ⟨hE3, b0, b1, hA3, hB3⟩ := let2 hw3
          have x0 := hB3 0 _ rfl
          have x1 := hB3 1 _ rfl
          have x2 := hB3 2 _ rfl
          have x3 := hB3 3 _ rfl
          have x4 := hB3 4 _ rfl
          have x5 := hB3 5 _ rfl
          have x6 := hB3 6 _ rfl
          have HE3 := Lib.hid hE3
          have HB3 := Lib.hid b1
          clear hA3 hB3 hw3 s0 s1 s2 v0 v1 v2 hE3 b0 b1
          obtain ⟨p, hp⟩ : ∃ p, backF ((m1, m2, m3), q, (y1, y2, ys), Value.slice Ay ys.length dy) cs cs.length = p := ⟨_, rfl⟩
          have hpl : p ≤ cs.length := by rw [← hp]; exact backF_le _
          have HPP := Lib.hid hp
          clear hp
          go_wp2_with fail
          go_loopw [9] (fun t wx => ∃ j : Nat, j ≤ cs.length ∧ t = iV (j : Int) ∧ backF ((m1, m2, m3), q, (y1, y2, ys), Value.slice Ay ys.length dy) cs j = p ∧ Ext w3 wx) (fun t _ => (intOf t).toNat)
          case atStart => exact ⟨cs.length, by omega, rfl, HPP.out, Ext.refl _⟩
          case round =>
            obtain ⟨j, hj, rfl, hp, hX3⟩ := hrel
            obtain ⟨wx, rfl⟩ : ∃ wx, wx = wr := ⟨_, rfl⟩
            have HP := Lib.hid hp
            have HE13 := Lib.hid hX3
            clear hp hX3
            by_cases h0 : j = 0
            · have hpj : p = j := by rw [← HP.out, h0]; rfl
              have tg : decide ((0 : Int) < (j : Int)) = false := decide_eq_false (by omega)
              have tg' : decide (0 < j) = false := decide_eq_false (by omega)
              subst hpj
              have HZ := Lib.hid h0
              clear h0
              go_upto_region 10 with fail
              refine wp_region_noPanic ?_
              refine wp_region_held_drew (S := (fun w' => Ext wx w' ∧ ∀ b o, b < wx.heap.size → w'.cell? ⟨b, o, none⟩ = wx.cell? ⟨b, o, none⟩)) (by kernel_rfl) ?_ (fun hHeld => ?_)
              · exact Ext.held (by repeat (first | assumption | exact Ext.refl _ | apply Ext.alloc | apply Ext.drew | apply Ext.drewN))
              refine wpAnyH_take (i := 0) (v := ?_) (oper_at rfl) (by kernel_rfl) (by kernel_rfl) (by kernel_rfl) (fun _ _ _ h => h) (Or.inl ⟨by rfl, ?_⟩) hHeld ?_
              rotate_left
              · (intro ww hSw; (try dsimp only at hSw); go_simp; try (with_reducible rfl))
              try simp only [Act.put, List.setIfInBounds_toArray, List.set_cons_zero, List.set_cons_succ]
              refine wpAnyH_take (i := 1) (v := ?_) (oper_at rfl) (by kernel_rfl) (by kernel_rfl) (by kernel_rfl) (fun _ _ _ h => h) (Or.inl ⟨by rfl, ?_⟩) hHeld ?_
              rotate_left
              · (intro ww hSw; (try dsimp only at hSw); go_simp; try (with_reducible rfl))
              try simp only [Act.put, List.setIfInBounds_toArray, List.set_cons_zero, List.set_cons_succ]
              refine wpAnyH_take (i := 2) (v := ?_) (oper_at rfl) (by kernel_rfl) (by kernel_rfl) (by kernel_rfl) (fun _ _ _ h => h) (Or.inl ⟨by rfl, ?_⟩) hHeld ?_
              rotate_left
              · (intro ww hSw; (try dsimp only at hSw); go_simp; try (with_reducible rfl))
              try simp only [Act.put, List.setIfInBounds_toArray, List.set_cons_zero, List.set_cons_succ]
              refine wpAnyH_take (i := 3) (v := undef) (oper_at rfl) (by kernel_rfl) (by kernel_rfl) (by kernel_rfl) (fun _ _ _ h => h) (Or.inr ⟨by rfl, rfl⟩) hHeld ?_
              try simp only [Act.put, List.setIfInBounds_toArray, List.set_cons_zero, List.set_cons_succ]
              refine wpAnyH_take (i := 4) (v := undef) (oper_at rfl) (by kernel_rfl) (by kernel_rfl) (by kernel_rfl) (fun _ _ _ h => h) (Or.inr ⟨by rfl, rfl⟩) hHeld ?_
              try simp only [Act.put, List.setIfInBounds_toArray, List.set_cons_zero, List.set_cons_succ]
              refine wpAnyH_take (i := 5) (v := undef) (oper_at rfl) (by kernel_rfl) (by kernel_rfl) (by kernel_rfl) (fun _ _ _ h => h) (Or.inr ⟨by rfl, rfl⟩) hHeld ?_
              try simp only [Act.put, List.setIfInBounds_toArray, List.set_cons_zero, List.set_cons_succ]
              refine wpAnyH_take (i := 6) (v := undef) (oper_at rfl) (by kernel_rfl) (by kernel_rfl) (by kernel_rfl) (fun _ _ _ h => h) (Or.inr ⟨by rfl, rfl⟩) hHeld ?_
              try simp only [Act.put, List.setIfInBounds_toArray, List.set_cons_zero, List.set_cons_succ]
              refine wpAnyH_take (i := 7) (v := undef) (oper_at rfl) (by kernel_rfl) (by kernel_rfl) (by kernel_rfl) (fun _ _ _ h => h) (Or.inr ⟨by rfl, rfl⟩) hHeld ?_
              try simp only [Act.put, List.setIfInBounds_toArray, List.set_cons_zero, List.set_cons_succ]
              refine wpAnyH_take (i := 8) (v := undef) (oper_at rfl) (by kernel_rfl) (by kernel_rfl) (by kernel_rfl) (fun _ _ _ h => h) (Or.inr ⟨by rfl, rfl⟩) hHeld ?_
              try simp only [Act.put, List.setIfInBounds_toArray, List.set_cons_zero, List.set_cons_succ]
              refine wpAnyH_take (i := 9) (v := undef) (oper_at rfl) (by kernel_rfl) (by kernel_rfl) (by kernel_rfl) (fun _ _ _ h => h) (Or.inr ⟨by rfl, rfl⟩) hHeld ?_
              try simp only [Act.put, List.setIfInBounds_toArray, List.set_cons_zero, List.set_cons_succ]
              refine wpAnyH_take (i := 10) (v := ?_) (oper_at rfl) (by kernel_rfl) (by kernel_rfl) (by kernel_rfl) (fun _ _ _ h => h) (Or.inl ⟨by rfl, ?_⟩) hHeld ?_
              rotate_left
              · (intro ww hSw; (try dsimp only at hSw); go_simp; try (with_reducible rfl))
              try simp only [Act.put, List.setIfInBounds_toArray, List.set_cons_zero, List.set_cons_succ]
              refine wpAnyH_done (by kernel_rfl) ?_ _
              refine NoPanic.normal ?_
              have HE36 := Lib.hid (HE13.out.drew)
              have HE6 := Lib.hid (HE3.out.trans HE36.out)
              iterate 4 (try clear hHeld)
              generalize wx.drew = w6 at *
              clear HE13
              go_upto_region 12 with fail
              have hsa := sliced_at (i := p) HRow.out.sl
              try simp only [Option.map_some, addE] at hsa
              have HSA6 := Lib.hid (SlVs.ext hsa HE6.out)
              obtain ⟨S2, sc2, e6, -, -, hvs⟩ := HRow.out.sl.at_
              rw [List.length_map, Value.slice.injEq] at e6
              obtain ⟨rfl, -, rfl⟩ := e6
              have HTA6 := Lib.hid ((take_at hvs HRow.out.sl.wide p).ext HE6.out)
              have HWD : Hid (Wide 7 ((cs.map encT).drop p)) := Lib.hid (fun x hx => HRow.out.1 x (List.mem_of_mem_drop hx))
              have HWT : Hid (Wide 7 ((cs.map encT).take p)) := Lib.hid (fun x hx => HRow.out.1 x (List.mem_of_mem_take hx))
              have HO : Hid (∀ u ∈ (cs.map encT).flatten, u.oneCell' = true) := Lib.hid (encT_one cs)
              have HOD : Hid (∀ u ∈ ((cs.map encT).drop p).flatten, u.oneCell' = true) := Lib.hid (fun u hu => HO.out u (mem_flat (fun x hx => List.mem_of_mem_drop hx) hu))
              have HOT : Hid (∀ u ∈ ((cs.map encT).take p).flatten, u.oneCell' = true) := Lib.hid (fun u hu => HO.out u (mem_flat (fun x hx => List.mem_of_mem_take hx) hu))
              have HW1 : Hid (Wide 7 [encT ((m1, m2, m3), q, (y1, y2, ys), Value.slice Ay ys.length dy)]) := Lib.hid (Wide.one rfl)
              have HSD : Hid (((cs.map encT).drop p).length = cs.length - p) := Lib.hid (by rw [List.length_drop, List.length_map])
              have HST : Hid (((cs.map encT).take p).length = p) := Lib.hid (by rw [List.length_take, List.length_map]; omega)
              have qj1 : (p : Int) ≤ (cs.length : Int) := by omega
              have qj2 : (p : Int) ≤ (tc : Int) := by omega
              have qj0 : (0 : Int) ≤ (p : Int) := by omega
              have dx0 := HE36.out.cell x0
              have dx1 := HE36.out.cell x1
              have dx2 := HE36.out.cell x2
              have dx3 := HE36.out.cell x3
              have dx4 := HE36.out.cell x4
              have dx5 := HE36.out.cell x5
              have dx6 := HE36.out.cell x6
              have bx6 : wi.heap.size + 1 < w6.heap.size := Nat.lt_of_lt_of_le HB3.out HE36.out.size
              clear hvs
              refine wp_region_noPanic ?_
              refine wp_region_held_drew (S := (fun w' => Ext w6 w' ∧ ∀ b o, b < w6.heap.size → w'.cell? ⟨b, o, none⟩ = w6.cell? ⟨b, o, none⟩)) (by kernel_rfl) ?_ (fun hHeld => ?_)
              · exact Ext.held (by repeat (first | assumption | exact Ext.refl _ | apply Ext.alloc | apply Ext.drew | apply Ext.drewN))
              refine wpAnyH_take (i := 0) (v := ?_) (oper_at rfl) (by kernel_rfl) (by kernel_rfl) (by kernel_rfl) (fun _ _ _ h => h) (Or.inl ⟨by rfl, ?_⟩) hHeld ?_
              rotate_left
              · (intro ww hSw; (try dsimp only at hSw); go_simp; try (with_reducible rfl))
              try simp only [Act.put, List.setIfInBounds_toArray, List.set_cons_zero, List.set_cons_succ]
              refine wpAnyH_take (i := 2) (v := ?_) (oper_at rfl) (by kernel_rfl) (by kernel_rfl) (by kernel_rfl) (fun _ _ _ h => h) (Or.inl ⟨by rfl, ?_⟩) hHeld ?_
              rotate_left
              · (intro ww hSw; (try dsimp only at hSw); go_simp; try (with_reducible rfl))
              try simp only [Act.put, List.setIfInBounds_toArray, List.set_cons_zero, List.set_cons_succ]
              refine wpAnyH_take (i := 3) (v := ?_) (oper_at rfl) (by kernel_rfl) (by kernel_rfl) (by kernel_rfl) (fun _ _ _ h => h) (Or.inl ⟨by rfl, ?_⟩) hHeld ?_
              rotate_left
              · (intro ww hSw; (try dsimp only at hSw); go_simp; try (with_reducible rfl))
              try simp only [Act.put, List.setIfInBounds_toArray, List.set_cons_zero, List.set_cons_succ]
              refine wpAnyH_take (i := 4) (v := ?_) (oper_at rfl) (by kernel_rfl) (by kernel_rfl) (by kernel_rfl) (fun _ _ _ h => h) (Or.inl ⟨by rfl, ?_⟩) hHeld ?_
              rotate_left
              · (intro ww hSw; (try dsimp only at hSw); go_simp; try (with_reducible rfl))
              try simp only [Act.put, List.setIfInBounds_toArray, List.set_cons_zero, List.set_cons_succ]
              refine wpAnyH_ready (rs := [1]) (by kernel_rfl) (by simp) (AllReadyH.cons (oper_at rfl) (fun K hK => ?_) AllReadyH.nil)
              go_simp
              refine hK.out _ _ ?_ (fun hHeld => ?_)
              · exact Ext.held (by repeat (first | assumption | exact Ext.refl _ | apply Ext.alloc | apply Ext.drew | apply Ext.drewN))
              clear hK K
              try simp only [Act.put, List.setIfInBounds_toArray, List.set_cons_zero, List.set_cons_succ]
              refine wpAnyH_ready (rs := [5]) (by kernel_rfl) (by simp) (AllReadyH.cons (oper_at rfl) (fun K hK => ?_) AllReadyH.nil)
              refine sapp el61 (by rfl) (.tmp 46) (.tmp 49) (by rfl) (w5 := w6) (vs := [encT ((m1, m2, m3), q, (y1, y2, ys), Value.slice Ay ys.length dy)]) (us := (cs.map encT).drop p) (by rfl) (((Ext.refl _).alloc _).drew) ((row_new (Nat.le_refl _) HW1.out rfl (by simp)).ext ((Ext.refl _).drew)) (by rfl) (by rw [HSD.out]) HWD.out ?hy HOD.out (by rw [HSD.out, List.length_singleton]; omega) (by rw [HSD.out, List.length_singleton]; omega) ?_
              case hy => exact SlVs.ext HSA6.out (((Ext.refl _).alloc _).drew)
              intro v7 w7 hr7 hE7 hg7 hb7
              refine hK.out _ _ ?_ (fun hHeld => ?_)
              · exact Ext.held (by repeat (first | assumption | exact Ext.refl _ | apply Ext.alloc | apply Ext.drew | apply Ext.drewN))
              clear hK K
              try simp only [Act.put, List.setIfInBounds_toArray, List.set_cons_zero, List.set_cons_succ]
              refine wpAnyH_take (i := 6) (v := ?_) (oper_at rfl) (by kernel_rfl) (by kernel_rfl) (by kernel_rfl) (fun _ _ _ h => h) (Or.inl ⟨by rfl, ?_⟩) hHeld ?_
              rotate_left
              · (intro ww hSw; (try dsimp only at hSw); go_simp; try (with_reducible rfl))
              try simp only [Act.put, List.setIfInBounds_toArray, List.set_cons_zero, List.set_cons_succ]
              refine wpAnyH_done (by kernel_rfl) ?_ _
              refine NoPanic.normal ?_
              obtain ⟨V, vc, e8, -, -, hv7⟩ := hr7.sl.at_
              rw [List.length_append, HSD.out, List.length_singleton] at e8
              subst e8
              have HV7 := Lib.hid hv7
              have HW7 := Lib.hid hr7.1
              have HE7 := Lib.hid hE7
              have HO7 : Hid (∀ u ∈ ([encT ((m1, m2, m3), q, (y1, y2, ys), Value.slice Ay ys.length dy)] ++ (cs.map encT).drop p).flatten, u.oneCell' = true) := Lib.hid (fun u hu => by
                rw [List.flatten_append] at hu
                rcases List.mem_append.1 hu with h | h
                · exact encT_one [((m1, m2, m3), q, (y1, y2, ys), Value.slice Ay ys.length dy)] u h
                · exact HOD.out u h)
              have HFM : Hid ([] ++ (cs.map encT).take p ++ ([encT ((m1, m2, m3), q, (y1, y2, ys), Value.slice Ay ys.length dy)] ++ (cs.map encT).drop p) = (posF ((m1, m2, m3), q, (y1, y2, ys), Value.slice Ay ys.length dy) cs).map encT) := by
                unfold posF
                rw [HPP.out]
                exact Lib.hid (by simp [List.map_take, List.map_drop])
              have hSD := HSD.out
              clear hv7 hr7 hE7 hg7 hb7 hHeld dx0 dx1 dx2 dx3 dx4 dx5 dx6
              go_wp2_with (first
                | (at_builtin; (refine wapp el61 rfl (.tmp 51) (.tmp 54) rfl (w5 := w7) (vs := []) (us := (cs.map encT).take p) rfl ((Ext.refl _).alloc _) (row_new (Nat.le_refl _) (Wide.nil 7) rfl (by simp)) rfl (by rw [HST.out]) HWT.out ((HTA6.out.ext HE7.out).ext ((Ext.refl _).alloc _)) HOT.out (by rw [HST.out, List.length_nil]; omega) (by rw [HST.out, List.length_nil]; omega) ?_; intro v8 w8 hr8 hE8 hg8 hb8; have HR8 := Lib.hid hr8; have HE8 := Lib.hid hE8; obtain ⟨V8, vc8, e9, -, -⟩ := hr8.form; rw [List.nil_append, HST.out] at e9; subst e9; clear hr8 hE8 hg8 hb8))
                | (at_builtin; (refine wapp el61 rfl (.tmp 55) (.tmp 56) rfl (w5 := w7) (us := [encT ((m1, m2, m3), q, (y1, y2, ys), Value.slice Ay ys.length dy)] ++ (cs.map encT).drop p) rfl HE8.out HR8.out rfl (by rw [List.length_append, HSD.out, List.length_singleton]) HW7.out (HV7.out.ext HE8.out) HO7.out (by rw [List.length_append, List.length_append, HST.out, HSD.out, List.length_singleton, List.length_nil]; omega) (by rw [List.length_append, List.length_append, HST.out, HSD.out, List.length_singleton, List.length_nil]; omega) ?_; intro v9 w9 hr9 hE9 hg9 hb9; rw [HFM.out] at hr9; have HR9 := Lib.hid (hr9.base (HX1.out.trans (HXI.out.trans (HE6.out.trans HE7.out))).size); have HE9 := Lib.hid ((HXI.out.trans (HE6.out.trans HE7.out)).trans hE9); clear hr9 hE9 hg9 hb9)))
              exact ⟨⟨q + 1, _, by omega, by go_num, rfl, by rw [HST2.out]; exact HR9.out, HE9.out⟩, by simp [intOf]; omega⟩
            · obtain ⟨A1, c1, e1, -, -, RC⟩ := HRow.out.sl.read
              rw [List.length_map] at RC
              obtain ⟨bT, oT, rfl, hbT, cT⟩ := RC wx (HE3.out.trans HE13.out) (j - 1) (by omega) (by omega)
              rw [List.length_map, Value.slice.injEq] at e1
              obtain ⟨rfl, -, -⟩ := e1
              obtain ⟨y, hy⟩ : ∃ y, cs.getD (j - 1) Tm0 = y := ⟨_, rfl⟩
              rw [encT_at (by omega) y hy] at cT
              have HY := Lib.hid hy
              have hbk : backF ((m1, m2, m3), q, (y1, y2, ys), Value.slice Ay ys.length dy) cs j = if tlt ((m1, m2, m3), q, (y1, y2, ys), Value.slice Ay ys.length dy) y then backF ((m1, m2, m3), q, (y1, y2, ys), Value.slice Ay ys.length dy) cs (j - 1) else j := by
                obtain ⟨i, rfl⟩ : ∃ i, j = i + 1 := ⟨j - 1, by omega⟩
                rw [← hy]
                rfl
              have HBK := Lib.hid (HP.out.symm.trans hbk)
              obtain ⟨bb, hbb⟩ : ∃ bb, decide (tlt ((m1, m2, m3), q, (y1, y2, ys), Value.slice Ay ys.length dy) y) = bb := ⟨_, rfl⟩
              have HBB := Lib.hid hbb
              obtain ⟨z8, hz8⟩ : ∃ z, nrm y.2.2.2 = z := ⟨_, rfl⟩
              have HZ8 := Lib.hid hz8
              have cy0 := cT 0 _ (by omega) rfl
              have cy1 := cT 1 _ (by omega) rfl
              have cy2 := cT 2 _ (by omega) rfl
              have cy3 := cT 3 _ (by omega) rfl
              have cy4 := cT 4 _ (by omega) rfl
              have cy5 := cT 5 _ (by omega) rfl
              have cy6 := cT 6 _ (by omega) rfl
              rw [Nat.add_zero] at cy0
              obtain ⟨i, hi⟩ : ∃ i, j - 1 = i := ⟨_, rfl⟩
              rw [hi] at cy0 cy1 cy2 cy3 cy4 cy5 cy6
              have wj : IntKind.i64.wrap ((j : Int) - 1) = (i : Int) := by rw [IntWalk.i64_in _ (by omega)]; omega
              have wj' : wrap64 ((j : Int) - 1) = (i : Int) := by rw [IntWalk.wrap64_in _ (by omega)]; omega
              have q2 : (0 : Int) ≤ (i : Int) := by omega
              have q3 : (i : Int) < (cs.length : Int) := by omega
              have tg : decide ((0 : Int) < (j : Int)) = true := decide_eq_true (by omega)
              have tg' : decide (0 < j) = true := decide_eq_true (by omega)
              have dx0 := HE13.out.cell x0
              have dx1 := HE13.out.cell x1
              have dx2 := HE13.out.cell x2
              have dx3 := HE13.out.cell x3
              have dx4 := HE13.out.cell x4
              have dx5 := HE13.out.cell x5
              have dx6 := HE13.out.cell x6
              have bxx : wi.heap.size + 1 < wx.heap.size := Nat.lt_of_lt_of_le HB3.out HE13.out.size
              have HI := Lib.hid hi
              clear cT RC hy hbk hbb hz8 hi
              go_upto_region 10 with fail
              refine wp_region_noPanic ?_
              refine wp_region_held_drew (S := (fun w' => Ext wx w' ∧ ∀ b o, b < wx.heap.size → w'.cell? ⟨b, o, none⟩ = wx.cell? ⟨b, o, none⟩)) (by kernel_rfl) ?_ (fun hHeld => ?_)
              · exact Ext.held (by repeat (first | assumption | exact Ext.refl _ | apply Ext.alloc | apply Ext.drew | apply Ext.drewN))
              refine wpAnyH_take (i := 0) (v := ?_) (oper_at rfl) (by kernel_rfl) (by kernel_rfl) (by kernel_rfl) (fun _ _ _ h => h) (Or.inl ⟨by rfl, ?_⟩) hHeld ?_
              rotate_left
              · (intro ww hSw; (try dsimp only at hSw); go_simp; try (with_reducible rfl))
              try simp only [Act.put, List.setIfInBounds_toArray, List.set_cons_zero, List.set_cons_succ]
              refine wpAnyH_take (i := 1) (v := ?_) (oper_at rfl) (by kernel_rfl) (by kernel_rfl) (by kernel_rfl) (fun _ _ _ h => h) (Or.inl ⟨by rfl, ?_⟩) hHeld ?_
              rotate_left
              · (intro ww hSw; (try dsimp only at hSw); go_simp; try (with_reducible rfl))
              try simp only [Act.put, List.setIfInBounds_toArray, List.set_cons_zero, List.set_cons_succ]
              refine wpAnyH_take (i := 2) (v := ?_) (oper_at rfl) (by kernel_rfl) (by kernel_rfl) (by kernel_rfl) (fun _ _ _ h => h) (Or.inl ⟨by rfl, ?_⟩) hHeld ?_
              rotate_left
              · (intro ww hSw; (try dsimp only at hSw); go_simp; try (with_reducible rfl))
              try simp only [Act.put, List.setIfInBounds_toArray, List.set_cons_zero, List.set_cons_succ]
              refine wpAnyH_take (i := 3) (v := ?_) (oper_at rfl) (by kernel_rfl) (by kernel_rfl) (by kernel_rfl) (fun _ _ _ h => h) (Or.inl ⟨by rfl, ?_⟩) hHeld ?_
              rotate_left
              · (intro ww hSw; (try dsimp only at hSw); go_simp; try (with_reducible rfl))
              try simp only [Act.put, List.setIfInBounds_toArray, List.set_cons_zero, List.set_cons_succ]
              refine wpAnyH_take (i := 4) (v := ?_) (oper_at rfl) (by kernel_rfl) (by kernel_rfl) (by kernel_rfl) (fun _ _ _ h => h) (Or.inl ⟨by rfl, ?_⟩) hHeld ?_
              rotate_left
              · (intro ww hSw; (try dsimp only at hSw); go_simp; try (with_reducible rfl))
              try simp only [Act.put, List.setIfInBounds_toArray, List.set_cons_zero, List.set_cons_succ]
              refine wpAnyH_take (i := 5) (v := ?_) (oper_at rfl) (by kernel_rfl) (by kernel_rfl) (by kernel_rfl) (fun _ _ _ h => h) (Or.inl ⟨by rfl, ?_⟩) hHeld ?_
              rotate_left
              · (intro ww hSw; (try dsimp only at hSw); go_simp; try (with_reducible rfl))
              try simp only [Act.put, List.setIfInBounds_toArray, List.set_cons_zero, List.set_cons_succ]
              refine wpAnyH_take (i := 6) (v := ?_) (oper_at rfl) (by kernel_rfl) (by kernel_rfl) (by kernel_rfl) (fun _ _ _ h => h) (Or.inl ⟨by rfl, ?_⟩) hHeld ?_
              rotate_left
              · (intro ww hSw; (try dsimp only at hSw); go_simp; try (with_reducible rfl))
              try simp only [Act.put, List.setIfInBounds_toArray, List.set_cons_zero, List.set_cons_succ]
              refine wpAnyH_take (i := 7) (v := ?_) (oper_at rfl) (by kernel_rfl) (by kernel_rfl) (by kernel_rfl) (fun _ _ _ h => h) (Or.inl ⟨by rfl, ?_⟩) hHeld ?_
              rotate_left
              · (intro ww hSw; (try dsimp only at hSw); go_simp; try (with_reducible rfl))
              try simp only [Act.put, List.setIfInBounds_toArray, List.set_cons_zero, List.set_cons_succ]
              refine wpAnyH_take (i := 8) (v := ?_) (oper_at rfl) (by kernel_rfl) (by kernel_rfl) (by kernel_rfl) (fun _ _ _ h => h) (Or.inl ⟨by rfl, ?_⟩) hHeld ?_
              rotate_left
              · (intro ww hSw; (try dsimp only at hSw); go_simp; try (with_reducible rfl))
              try simp only [Act.put, List.setIfInBounds_toArray, List.set_cons_zero, List.set_cons_succ]
              refine wpAnyH_ready (rs := [9]) (by kernel_rfl) (by simp) (AllReadyH.cons (oper_at rfl) (fun K hK => ?_) AllReadyH.nil)
              go_simp
              go_at_call 44
              refine (before44_any ((m1, m2, m3), q, (y1, y2, ys), Value.slice Ay ys.length dy) y _).mono ?_
              rintro e5 w5 ⟨rfl, hE5⟩
              have hX5 : Ext wx w5 := Ext.trans ((Ext.refl wx).drew) hE5
              rw [HBB.out]
              clear hE5
              refine hK.out _ _ ?_ (fun hHeld => ?_)
              · exact Ext.held (by repeat (first | assumption | exact Ext.refl _ | apply Ext.alloc | apply Ext.drew | apply Ext.drewN))
              clear hK K
              try simp only [Act.put, List.setIfInBounds_toArray, List.set_cons_zero, List.set_cons_succ]
              refine wpAnyH_take (i := 10) (v := ?_) (oper_at rfl) (by kernel_rfl) (by kernel_rfl) (by kernel_rfl) (fun _ _ _ h => h) (Or.inl ⟨by rfl, ?_⟩) hHeld ?_
              rotate_left
              · (intro ww hSw; (try dsimp only at hSw); go_simp; try (with_reducible rfl))
              try simp only [Act.put, List.setIfInBounds_toArray, List.set_cons_zero, List.set_cons_succ]
              refine wpAnyH_done (by kernel_rfl) ?_ _
              refine NoPanic.normal ?_
              clear cy0 cy1 cy2 cy3 cy4 cy5 cy6 dx0 dx1 dx2 dx3 dx4 dx5 dx6
              have HE36 := Lib.hid (HE13.out.trans hX5)
              cases bb with
              | true =>
                have HPN : Hid (backF ((m1, m2, m3), q, (y1, y2, ys), Value.slice Ay ys.length dy) cs i = p) := by rw [← HI.out]; exact Lib.hid (by rw [HBK.out, if_pos (of_decide_eq_true HBB.out)])
                clear hX5
                go_wp2_with fail
                exact ⟨⟨i, by omega, by go_num, HPN.out, HE36.out⟩, by show (i : Int).toNat < (j : Int).toNat; have := HI.out; omega⟩
              | false =>
                have hpj : p = j := by rw [HBK.out, if_neg (of_decide_eq_false HBB.out)]
                subst hpj
                have HE6 := Lib.hid (HE3.out.trans HE36.out)
                iterate 6 (try clear hHeld)
                generalize w5 = w6 at *
                clear hX5 HE13
                go_upto_region 12 with fail
                have hsa := sliced_at (i := p) HRow.out.sl
                try simp only [Option.map_some, addE] at hsa
                have HSA6 := Lib.hid (SlVs.ext hsa HE6.out)
                obtain ⟨S2, sc2, e6, -, -, hvs⟩ := HRow.out.sl.at_
                rw [List.length_map, Value.slice.injEq] at e6
                obtain ⟨rfl, -, rfl⟩ := e6
                have HTA6 := Lib.hid ((take_at hvs HRow.out.sl.wide p).ext HE6.out)
                have HWD : Hid (Wide 7 ((cs.map encT).drop p)) := Lib.hid (fun x hx => HRow.out.1 x (List.mem_of_mem_drop hx))
                have HWT : Hid (Wide 7 ((cs.map encT).take p)) := Lib.hid (fun x hx => HRow.out.1 x (List.mem_of_mem_take hx))
                have HO : Hid (∀ u ∈ (cs.map encT).flatten, u.oneCell' = true) := Lib.hid (encT_one cs)
                have HOD : Hid (∀ u ∈ ((cs.map encT).drop p).flatten, u.oneCell' = true) := Lib.hid (fun u hu => HO.out u (mem_flat (fun x hx => List.mem_of_mem_drop hx) hu))
                have HOT : Hid (∀ u ∈ ((cs.map encT).take p).flatten, u.oneCell' = true) := Lib.hid (fun u hu => HO.out u (mem_flat (fun x hx => List.mem_of_mem_take hx) hu))
                have HW1 : Hid (Wide 7 [encT ((m1, m2, m3), q, (y1, y2, ys), Value.slice Ay ys.length dy)]) := Lib.hid (Wide.one rfl)
                have HSD : Hid (((cs.map encT).drop p).length = cs.length - p) := Lib.hid (by rw [List.length_drop, List.length_map])
                have HST : Hid (((cs.map encT).take p).length = p) := Lib.hid (by rw [List.length_take, List.length_map]; omega)
                have qj1 : (p : Int) ≤ (cs.length : Int) := by omega
                have qj2 : (p : Int) ≤ (tc : Int) := by omega
                have qj0 : (0 : Int) ≤ (p : Int) := by omega
                have dx0 := HE36.out.cell x0
                have dx1 := HE36.out.cell x1
                have dx2 := HE36.out.cell x2
                have dx3 := HE36.out.cell x3
                have dx4 := HE36.out.cell x4
                have dx5 := HE36.out.cell x5
                have dx6 := HE36.out.cell x6
                have bx6 : wi.heap.size + 1 < w6.heap.size := Nat.lt_of_lt_of_le HB3.out HE36.out.size
                clear hvs
                refine wp_region_noPanic ?_
                refine wp_region_held_drew (S := (fun w' => Ext w6 w' ∧ ∀ b o, b < w6.heap.size → w'.cell? ⟨b, o, none⟩ = w6.cell? ⟨b, o, none⟩)) (by kernel_rfl) ?_ (fun hHeld => ?_)
                · exact Ext.held (by repeat (first | assumption | exact Ext.refl _ | apply Ext.alloc | apply Ext.drew | apply Ext.drewN))
                refine wpAnyH_take (i := 0) (v := ?_) (oper_at rfl) (by kernel_rfl) (by kernel_rfl) (by kernel_rfl) (fun _ _ _ h => h) (Or.inl ⟨by rfl, ?_⟩) hHeld ?_
                rotate_left
                · (intro ww hSw; (try dsimp only at hSw); go_simp; try (with_reducible rfl))
                try simp only [Act.put, List.setIfInBounds_toArray, List.set_cons_zero, List.set_cons_succ]
                refine wpAnyH_take (i := 2) (v := ?_) (oper_at rfl) (by kernel_rfl) (by kernel_rfl) (by kernel_rfl) (fun _ _ _ h => h) (Or.inl ⟨by rfl, ?_⟩) hHeld ?_
                rotate_left
                · (intro ww hSw; (try dsimp only at hSw); go_simp; try (with_reducible rfl))
                try simp only [Act.put, List.setIfInBounds_toArray, List.set_cons_zero, List.set_cons_succ]
                refine wpAnyH_take (i := 3) (v := ?_) (oper_at rfl) (by kernel_rfl) (by kernel_rfl) (by kernel_rfl) (fun _ _ _ h => h) (Or.inl ⟨by rfl, ?_⟩) hHeld ?_
                rotate_left
                · (intro ww hSw; (try dsimp only at hSw); go_simp; try (with_reducible rfl))
                try simp only [Act.put, List.setIfInBounds_toArray, List.set_cons_zero, List.set_cons_succ]
                refine wpAnyH_take (i := 4) (v := ?_) (oper_at rfl) (by kernel_rfl) (by kernel_rfl) (by kernel_rfl) (fun _ _ _ h => h) (Or.inl ⟨by rfl, ?_⟩) hHeld ?_
                rotate_left
                · (intro ww hSw; (try dsimp only at hSw); go_simp; try (with_reducible rfl))
                try simp only [Act.put, List.setIfInBounds_toArray, List.set_cons_zero, List.set_cons_succ]
                refine wpAnyH_ready (rs := [1]) (by kernel_rfl) (by simp) (AllReadyH.cons (oper_at rfl) (fun K hK => ?_) AllReadyH.nil)
                go_simp
                refine hK.out _ _ ?_ (fun hHeld => ?_)
                · exact Ext.held (by repeat (first | assumption | exact Ext.refl _ | apply Ext.alloc | apply Ext.drew | apply Ext.drewN))
                clear hK K
                try simp only [Act.put, List.setIfInBounds_toArray, List.set_cons_zero, List.set_cons_succ]
                refine wpAnyH_ready (rs := [5]) (by kernel_rfl) (by simp) (AllReadyH.cons (oper_at rfl) (fun K hK => ?_) AllReadyH.nil)
                refine sapp el61 (by rfl) (.tmp 46) (.tmp 49) (by rfl) (w5 := w6) (vs := [encT ((m1, m2, m3), q, (y1, y2, ys), Value.slice Ay ys.length dy)]) (us := (cs.map encT).drop p) (by rfl) (((Ext.refl _).alloc _).drew) ((row_new (Nat.le_refl _) HW1.out rfl (by simp)).ext ((Ext.refl _).drew)) (by rfl) (by rw [HSD.out]) HWD.out ?hy HOD.out (by rw [HSD.out, List.length_singleton]; omega) (by rw [HSD.out, List.length_singleton]; omega) ?_
                case hy => exact SlVs.ext HSA6.out (((Ext.refl _).alloc _).drew)
                intro v7 w7 hr7 hE7 hg7 hb7
                refine hK.out _ _ ?_ (fun hHeld => ?_)
                · exact Ext.held (by repeat (first | assumption | exact Ext.refl _ | apply Ext.alloc | apply Ext.drew | apply Ext.drewN))
                clear hK K
                try simp only [Act.put, List.setIfInBounds_toArray, List.set_cons_zero, List.set_cons_succ]
                refine wpAnyH_take (i := 6) (v := ?_) (oper_at rfl) (by kernel_rfl) (by kernel_rfl) (by kernel_rfl) (fun _ _ _ h => h) (Or.inl ⟨by rfl, ?_⟩) hHeld ?_
                rotate_left
                · (intro ww hSw; (try dsimp only at hSw); go_simp; try (with_reducible rfl))
                try simp only [Act.put, List.setIfInBounds_toArray, List.set_cons_zero, List.set_cons_succ]
                refine wpAnyH_done (by kernel_rfl) ?_ _
                refine NoPanic.normal ?_
                obtain ⟨V, vc, e8, -, -, hv7⟩ := hr7.sl.at_
                rw [List.length_append, HSD.out, List.length_singleton] at e8
                subst e8
                have HV7 := Lib.hid hv7
                have HW7 := Lib.hid hr7.1
                have HE7 := Lib.hid hE7
                have HO7 : Hid (∀ u ∈ ([encT ((m1, m2, m3), q, (y1, y2, ys), Value.slice Ay ys.length dy)] ++ (cs.map encT).drop p).flatten, u.oneCell' = true) := Lib.hid (fun u hu => by
                  rw [List.flatten_append] at hu
                  rcases List.mem_append.1 hu with h | h
                  · exact encT_one [((m1, m2, m3), q, (y1, y2, ys), Value.slice Ay ys.length dy)] u h
                  · exact HOD.out u h)
                have HFM : Hid ([] ++ (cs.map encT).take p ++ ([encT ((m1, m2, m3), q, (y1, y2, ys), Value.slice Ay ys.length dy)] ++ (cs.map encT).drop p) = (posF ((m1, m2, m3), q, (y1, y2, ys), Value.slice Ay ys.length dy) cs).map encT) := by
                  unfold posF
                  rw [HPP.out]
                  exact Lib.hid (by simp [List.map_take, List.map_drop])
                have hSD := HSD.out
                clear hv7 hr7 hE7 hg7 hb7 hHeld dx0 dx1 dx2 dx3 dx4 dx5 dx6
                go_wp2_with (first
                  | (at_builtin; (refine wapp el61 rfl (.tmp 51) (.tmp 54) rfl (w5 := w7) (vs := []) (us := (cs.map encT).take p) rfl ((Ext.refl _).alloc _) (row_new (Nat.le_refl _) (Wide.nil 7) rfl (by simp)) rfl (by rw [HST.out]) HWT.out ((HTA6.out.ext HE7.out).ext ((Ext.refl _).alloc _)) HOT.out (by rw [HST.out, List.length_nil]; omega) (by rw [HST.out, List.length_nil]; omega) ?_; intro v8 w8 hr8 hE8 hg8 hb8; have HR8 := Lib.hid hr8; have HE8 := Lib.hid hE8; obtain ⟨V8, vc8, e9, -, -⟩ := hr8.form; rw [List.nil_append, HST.out] at e9; subst e9; clear hr8 hE8 hg8 hb8))
                  | (at_builtin; (refine wapp el61 rfl (.tmp 55) (.tmp 56) rfl (w5 := w7) (us := [encT ((m1, m2, m3), q, (y1, y2, ys), Value.slice Ay ys.length dy)] ++ (cs.map encT).drop p) rfl HE8.out HR8.out rfl (by rw [List.length_append, HSD.out, List.length_singleton]) HW7.out (HV7.out.ext HE8.out) HO7.out (by rw [List.length_append, List.length_append, HST.out, HSD.out, List.length_singleton, List.length_nil]; omega) (by rw [List.length_append, List.length_append, HST.out, HSD.out, List.length_singleton, List.length_nil]; omega) ?_; intro v9 w9 hr9 hE9 hg9 hb9; rw [HFM.out] at hr9; have HR9 := Lib.hid (hr9.base (HX1.out.trans (HXI.out.trans (HE6.out.trans HE7.out))).size); have HE9 := Lib.hid ((HXI.out.trans (HE6.out.trans HE7.out)).trans hE9); clear hr9 hE9 hg9 hb9)))
                exact ⟨⟨q + 1, _, by omega, by go_num, rfl, by rw [HST2.out]; exact HR9.out, HE9.out⟩, by simp [intOf]; omega⟩
        · obtain rfl : q = js.length := by omega
          go_wp2_with fail
          refine ⟨⟨k + 1, _, by omega, by go_num, rfl, ?_, HX1.out.trans HXI.out⟩, by simp [intOf]; omega⟩
          rw [HTS.out]
          have e := HCS.out
          rw [List.take_length] at e
          rw [e]
          exact HRow.out
    · obtain rfl : k = hs.length := by omega
      go_wp2_with fail
      go_ret
      refine ⟨_, rfl, ?_, HX.out⟩
      have e := HUS.out
      rw [List.take_length] at e
      have e' : arrF hs = us := e
      rw [e']
      exact HT0.out
end Go.Proofs.Ytehmpbaiefbemaa
