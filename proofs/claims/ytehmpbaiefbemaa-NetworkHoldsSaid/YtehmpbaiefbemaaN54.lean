/- (*Network).Held: the arrivals of the holds, by tick. -/
import Derived.Test.YtehmpbaiefbemaaN53
import Derived.Test.YtehmpbaiefbemaaN24
namespace Go.Proofs.Ytehmpbaiefbemaa
open Go.RowKit Go.Sort
attribute [local go_sem ↓] Go.wp_at_zero Go.wp_at_succ
theorem el54 : El 54 64 (.agg #[iV 0, iV 0, iV 0, iV 0, iV 0, iV 0, .slice none 0 0]) 7 72 := ⟨Try.underlying54, by kernel_rfl, rfl, by omega, by omega⟩
theorem one_encT {x : Tm} : ∀ u ∈ [encT x].flatten, u.oneCell' = true := by
  intro u hu
  simp [encT] at hu
  rcases hu with rfl | rfl | rfl | rfl | rfl | rfl | rfl
  all_goals first | rfl | exact nrm_one _
theorem run_b64 {t : Nat} {m1 m2 m3 q y1 y2 : Int} {A : Option Addr} {n c : Nat} {w : World} (ht : t = 64 ∨ t = 65) : (Instr.build t #[(0, .agg #[iV m1, iV m2, iV m3]), (1, iV q), (2, .agg #[iV y1, iV y2, .slice A n c])]).run Try.prog w = .ok (.agg #[iV m1, iV m2, iV m3, iV q, iV y1, iV y2, .slice A n c]) w := by
  rcases ht with rfl | rfl <;> go_simp
theorem wp_b64 {o : Oper} {ops : Array Oper} {a : Act} {w : World} {K : Act → World → Prop} {E : Prop} {Q : Exit → Act → World → Prop} {t : Nat} {i j k : Nat} {m1 m2 m3 q y1 y2 : Int} {A : Option Addr} {n c : Nat} (hgd : o.guard = none) (ho : o.op = .build t #[(0, .tmp i), (1, .tmp j), (2, .tmp k)]) (ht : t = 64 ∨ t = 65)
    (h1 : a.eval (.tmp i) = .agg #[iV m1, iV m2, iV m3]) (h2 : a.eval (.tmp j) = iV q) (h3 : a.eval (.tmp k) = .agg #[iV y1, iV y2, .slice A n c]) (h : K (a.put o.dst (.agg #[iV m1, iV m2, iV m3, iV q, iV y1, iV y2, .slice A n c])) w) :
    if Region.wanted o (yielded ops a.tmps) = true then Oper.wp Try.prog o a w K Q else E := by
  have hw' : Region.wanted o (yielded ops a.tmps) = true := by simp [Region.wanted, hgd]
  have hr := run_b64 (m1 := m1) (m2 := m2) (m3 := m3) (q := q) (y1 := y1) (y2 := y2) (A := A) (n := n) (c := c) (w := w) ht
  rw [if_pos hw']
  unfold Oper.wp execOp
  simp only [ho, Sem.run_bind, Sem.run_pure, Result.andThen_ok, List.map_toArray, List.map_cons, List.map_nil, h1, h2, h3, hr]
  exact h
/-- Held arrivals of the call's own. -/
structure TmOwn (w : World) (B : Nat) (v : Value) (l : List Tm) : Prop where
  row : Row 7 w B 64 v (l.map encT)
  args : ∀ x ∈ l, Row 1 w B 2 x.2.2.2 (x.2.2.1.2.2.map fun x => [iV x])
theorem TmOwn.nil (w : World) (B : Nat) : TmOwn w B (.slice none 0 0) [] := ⟨Row.nil _ _ _ _, by simp⟩
theorem TmOwn.ext {w w' : World} {B : Nat} {v : Value} {l : List Tm} (h : TmOwn w B v l) (k : Ext w w') : TmOwn w' B v l := ⟨h.row.ext k, fun x hx => (h.args x hx).ext k⟩
theorem TmOwn.base {w : World} {B B' : Nat} {v : Value} {l : List Tm} (h : TmOwn w B v l) (hB : B' ≤ B) : TmOwn w B' v l := ⟨h.row.base hB, fun x hx => (h.args x hx).base hB⟩
theorem TmOwn.app {W w6 : World} {B : Nat} {v v6 : Value} {l : List Tm} {x : Tm} (h : TmOwn W B v l) (ha : Row 1 W B 2 x.2.2.2 (x.2.2.1.2.2.map fun x => [iV x])) (hr : Row 7 w6 B 64 v6 (l.map encT ++ [encT x])) (hG : W.grownBy w6 v.ownBlock) : TmOwn w6 B v6 (l ++ [x]) := by
  refine ⟨by rw [List.map_append]; exact hr, fun y hy => ?_⟩
  rcases List.mem_append.1 hy with hy | hy
  · exact (h.args y hy).grown hG (h.row.apart (h.args y hy) (by decide))
  · rw [List.mem_singleton.1 hy]
    exact ha.grown hG (h.row.apart ha (by decide))
def RetHd (os : List Jh) (w : World) (e : Ending) (w' : World) : Prop :=
  ∃ (v : Value) (l : List Tm), e = .returned v ∧ TmOwn w' w.heap.size v l ∧ (l.map plT).Perm ((timS os).map plT) ∧ SortT l ∧ Ext w w'
theorem sortT_of {l : List Tm} (h : l.Pairwise fun x y => ltOf cmpT y x = false) : SortT l := h.imp fun h k => by rw [(cmpT_lt _ _).2 k] at h; cases h
theorem Try.isAgg64 (w : World) : (isAgg 64).run Try.prog w = .ok true w := by go_simp
theorem Try.sizeOf64 (w : World) : (Go.sizeOf 64).run Try.prog w = .ok 7 w := by go_simp
set_option maxRecDepth 100000 in
set_option maxHeartbeats 8000000 in
theorem held15_any (g : Nat) (nv : Value) (os : List Jh) (w : World) (h1 : w.cell? ⟨g, 1, none⟩ = some nv) (ho : HsAt w nv os) (hl : os.length ≤ 16) (h2 : ∀ h ∈ os, h.2.1.length ≤ 2 ∧ ∀ j ∈ h.2.1, j.1.2.2.length ≤ 4) :
    Calls Try.prog 15 #[.pointer (some ⟨g, 0, none⟩)] w (RetHd os w) := by
  have HOS := Lib.hid ho
  have HTL := Lib.hid (timS_len (hs := os) (fun h hh => (h2 h hh).1))
  have H2 := Lib.hid h2
  obtain ⟨sl, ar⟩ := ho
  obtain ⟨A, c, rfl, a1, a2, RA⟩ := sl.read
  rw [List.length_map] at h1 a1 RA
  have HR := Lib.hid RA
  have HA := Lib.hid ar
  clear RA ar sl a2 h2 HOS
  go_enter Try.func15, Try.ntmps15
  go_wp2_with fail
  go_loopw [15, 3] (fun i t wr => ∃ (k : Nat) (us : List Tm) (v : Value), k ≤ os.length ∧ i = iV (k : Int) ∧ t = v ∧ us.map plT = (timS (os.take k)).map plT ∧ TmOwn wr w.heap.size v us ∧ Ext w wr) (fun i _ _ => os.length - (intOf i).toNat)
  case atStart => exact ⟨0, [], _, by omega, rfl, rfl, rfl, TmOwn.nil _ _, Ext.refl _⟩
  case round =>
    obtain ⟨k, us, v, hk, rfl, rfl, hus, hT, hX⟩ := hrel
    obtain ⟨wo, rfl⟩ : ∃ wo, wo = wr := ⟨_, rfl⟩
    have HUS := Lib.hid hus
    have HT0 := Lib.hid hT
    have HX := Lib.hid hX
    obtain ⟨Au, cu, eu, -, -⟩ := hT.row.form
    rw [List.length_map] at eu
    subst eu
    clear hus hT hX
    by_cases hlt : k < os.length
    · obtain ⟨b, o, rfl, hb, cR⟩ := HR.out wo HX.out k hlt (by omega)
      obtain ⟨x, hx⟩ : ∃ x, os.getD k Jh0 = x := ⟨_, rfl⟩
      rw [encH_at hlt x hx] at cR
      have gx := HA.out _ (getD_memH hlt)
      have lx := H2.out _ (getD_memH hlt)
      have hts := timS_take hlt
      have hul : us.length ≤ 2 * os.length := by
        have e1 := congrArg List.length HUS.out
        rw [List.length_map, List.length_map] at e1
        have e2 := timS_len (hs := os.take k) (fun h hh => (H2.out h (List.mem_of_mem_take hh)).1)
        rw [List.length_take] at e2
        omega
      rw [hx] at gx lx hts
      obtain ⟨Ax, dx, ex, ax1, ax2, RJ⟩ := gx.sl.read
      rw [List.length_map] at ex ax1 RJ
      have HRJ := Lib.hid RJ
      have HAJ := Lib.hid gx.args
      obtain ⟨⟨m1, m2, m3⟩, js, jv⟩ := x
      simp only [] at ex ax1 hts lx HRJ HAJ
      subst ex
      have HLX := Lib.hid lx
      have HTS := Lib.hid hts
      have r0 := cR 0 _ (by omega) rfl
      have r1 := cR 1 _ (by omega) rfl
      have r2 := cR 2 _ (by omega) rfl
      have r3 := cR 3 _ (by omega) rfl
      rw [Nat.add_zero] at r0
      have HU0 := Lib.hid hul
      clear cR hx gx lx hts hul ax2 RJ
      go_wp2_with fail
      generalize hw1 : wo.alloc _ = w1
      have hE1 : Ext wo w1 := by rw [← hw1]; exact (Ext.refl _).alloc _
      have hs1 : wo.heap.size < w1.heap.size := by rw [← hw1]; simp
      have u0 : w1.cell? ⟨wo.heap.size, 0, none⟩ = some (iV m1) := by rw [← hw1]; exact new_at _ _ _ 0 _ rfl
      have u1 : w1.cell? ⟨wo.heap.size, 1, none⟩ = some (iV m2) := by rw [← hw1]; exact new_at _ _ _ 1 _ rfl
      have u2 : w1.cell? ⟨wo.heap.size, 2, none⟩ = some (iV m3) := by rw [← hw1]; exact new_at _ _ _ 2 _ rfl
      have C0 : Hid (wo.heap.size < w1.heap.size ∧ w1.cell? ⟨wo.heap.size, 0, none⟩ = some (iV m1) ∧ w1.cell? ⟨wo.heap.size, 1, none⟩ = some (iV m2) ∧ w1.cell? ⟨wo.heap.size, 2, none⟩ = some (iV m3)) := Lib.hid ⟨hs1, u0, u1, u2⟩
      have HT1 := Lib.hid (HT0.out.ext hE1)
      have HX1 := Lib.hid (HX.out.trans hE1)
      have HO1 : Hid ((Value.slice Au us.length cu).ownBlock ≠ some wo.heap.size) := Lib.hid (fun e => by have := (HT0.out.row.lt _ e).2; omega)
      clear hw1 hE1 hs1 u0 u1 u2 r0 r1 r2 r3
      go_loopw [22, 3] (fun i t wr => ∃ (q : Nat) (vs : List Tm) (v : Value), q ≤ js.length ∧ i = iV (q : Int) ∧ t = v ∧ vs.map plT = us.map plT ++ (timH (m1, m2, m3) 0 (js.take q)).map plT ∧ TmOwn wr w.heap.size v vs ∧ Ext w wr ∧ v.ownBlock ≠ some wo.heap.size ∧
        (wo.heap.size < wr.heap.size ∧ wr.cell? ⟨wo.heap.size, 0, none⟩ = some (iV m1) ∧ wr.cell? ⟨wo.heap.size, 1, none⟩ = some (iV m2) ∧ wr.cell? ⟨wo.heap.size, 2, none⟩ = some (iV m3))) (fun i _ _ => js.length - (intOf i).toNat)
      case atStart => exact ⟨0, us, _, by omega, rfl, rfl, by simp [timH], HT1.out, HX1.out, HO1.out, C0.out⟩
      case round =>
        obtain ⟨q, vs, v, hq, rfl, rfl, hvs, hT, hXi, hob, hsz, p0, p1, p2⟩ := hrel
        obtain ⟨wi, rfl⟩ : ∃ wi, wi = wr := ⟨_, rfl⟩
        have HVS := Lib.hid hvs
        have HT := Lib.hid hT
        have HXI := Lib.hid hXi
        obtain ⟨Av, cv, ev, -, -⟩ := hT.row.form
        rw [List.length_map] at ev
        subst ev
        have HOB := Lib.hid hob
        have HOI : Hid ((Value.slice Av vs.length cv).ownBlock ≠ some wi.heap.size) := Lib.hid (fun e => by have := (HT.out.row.lt _ e).2; omega)
        clear hvs hT hXi hob C0 HT1 HX1 HO1
        by_cases hlt' : q < js.length
        · obtain ⟨bj, oj, rfl, hbj, cJ⟩ := HRJ.out wi HXI.out q hlt' (by omega)
          obtain ⟨y, hy⟩ : ∃ y, js.getD q Ja0 = y := ⟨_, rfl⟩
          rw [encJ_at hlt' y hy] at cJ
          have gy := HAJ.out _ (getD_memJ hlt')
          have ly := HLX.out.2 _ (getD_memJ hlt')
          have htj := timH_take (m := (m1, m2, m3)) (i := 0) hlt'
          rw [hy] at gy ly htj
          rw [Nat.zero_add] at htj
          have HTJ := Lib.hid htj
          have HUL : Hid (vs.length ≤ 1000) := Lib.hid (by
            have e1 := congrArg List.length HVS.out
            rw [List.length_append, List.length_map, List.length_map, List.length_map, timH_len, List.length_take] at e1
            have := HU0.out
            have := HLX.out.1
            omega)
          obtain ⟨⟨y1, y2, ys⟩, yv⟩ := y
          simp only [] at gy ly
          obtain ⟨Ay, dy, ey, -, -, -⟩ := gy.at_
          rw [List.length_map] at ey
          subst ey
          have CL := Lib.hid (fun W (hW : Ext w W) => cloneA_any y1 y2 ys _ W (gy.ext hW) ly)
          have s0 := cJ 0 _ (by omega) rfl
          have s1 := cJ 1 _ (by omega) rfl
          have s2 := cJ 2 _ (by omega) rfl
          rw [Nat.add_zero] at s0
          clear cJ hy gy ly htj
          go_upto_region 10 with fail
          generalize hw4 : wi.alloc _ = w4
          have hE4 : Ext wi w4 := by rw [← hw4]; exact (Ext.refl _).alloc _
          have z0 : w4.cell? ⟨wi.heap.size, 0, none⟩ = some (iV y1) := by rw [← hw4]; exact new_at _ _ _ 0 _ rfl
          have z1 : w4.cell? ⟨wi.heap.size, 1, none⟩ = some (iV y2) := by rw [← hw4]; exact new_at _ _ _ 1 _ rfl
          have z2 : w4.cell? ⟨wi.heap.size, 2, none⟩ = some (.slice Ay ys.length dy) := by rw [← hw4]; exact new_at _ _ _ 2 _ rfl
          have HSI : Hid (wi.heap.size < w4.heap.size) := Lib.hid (by rw [← hw4]; simp)
          have HW4 := Lib.hid hE4
          have HX4 := Lib.hid (HXI.out.trans hE4)
          have hX4 := HX4.out
          have HSO : Hid (wo.heap.size < w4.heap.size) := Lib.hid (Nat.lt_of_lt_of_le hsz hE4.size)
          replace p0 := hE4.cell p0
          replace p1 := hE4.cell p1
          replace p2 := hE4.cell p2
          have KB : Hid (∀ W, Ext w4 W → (fun w' => Ext w w' ∧ w'.cell? ⟨wo.heap.size, 0, none⟩ = some (iV m1) ∧ w'.cell? ⟨wo.heap.size, 1, none⟩ = some (iV m2) ∧ w'.cell? ⟨wo.heap.size, 2, none⟩ = some (iV m3) ∧ w'.cell? ⟨wi.heap.size, 0, none⟩ = some (iV y1) ∧ w'.cell? ⟨wi.heap.size, 1, none⟩ = some (iV y2) ∧ w'.cell? ⟨wi.heap.size, 2, none⟩ = some (.slice Ay ys.length dy)) W) := Lib.hid (fun W h => ⟨HX4.out.trans h, h.cell p0, h.cell p1, h.cell p2, h.cell z0, h.cell z1, h.cell z2⟩)
          clear hw4 hE4 s0 s1 s2
          refine wp_region_noPanic ?_
          refine wp_region_held_drew (S := (fun w' => Ext w w' ∧ w'.cell? ⟨wo.heap.size, 0, none⟩ = some (iV m1) ∧ w'.cell? ⟨wo.heap.size, 1, none⟩ = some (iV m2) ∧ w'.cell? ⟨wo.heap.size, 2, none⟩ = some (iV m3) ∧ w'.cell? ⟨wi.heap.size, 0, none⟩ = some (iV y1) ∧ w'.cell? ⟨wi.heap.size, 1, none⟩ = some (iV y2) ∧ w'.cell? ⟨wi.heap.size, 2, none⟩ = some (.slice Ay ys.length dy))) (by kernel_rfl) ?_ (fun hHeld => ?_)
          · first | assumption | exact KB.out _ (by repeat (first | assumption | exact Ext.refl _ | apply Ext.alloc | apply Ext.drew | apply Ext.drewN))
          refine wpAnyH_take (i := 0) (v := ?_) (oper_at rfl) (by kernel_rfl) (by kernel_rfl) (by kernel_rfl) (fun _ _ _ h => h) (Or.inl ⟨by rfl, ?_⟩) hHeld ?_
          rotate_left
          · (intro ww hSw; (try dsimp only at hSw); go_simp; try (with_reducible rfl))
          try simp only [Act.put, List.setIfInBounds_toArray, List.set_cons_zero, List.set_cons_succ]
          refine wpAnyH_take (i := 1) (v := ?_) (oper_at rfl) (by kernel_rfl) (by kernel_rfl) (by kernel_rfl) (fun _ _ _ h => h) (Or.inl ⟨by rfl, ?_⟩) hHeld ?_
          rotate_left
          · (intro ww hSw; (try dsimp only at hSw); go_simp; try (with_reducible rfl))
          try simp only [Act.put, List.setIfInBounds_toArray, List.set_cons_zero, List.set_cons_succ]
          refine wpAnyH_take (i := 2) (v := ?_) (oper_at rfl) (by kernel_rfl) (by kernel_rfl) (by kernel_rfl) (fun _ _ _ h => h) (Or.inl ⟨by rfl, ?_⟩) hHeld ?_
          rotate_left
          · (intro ww hSw; (try dsimp only at hSw); go_simp; try (with_reducible rfl))
          try simp only [Act.put, List.setIfInBounds_toArray, List.set_cons_zero, List.set_cons_succ]
          refine wpAnyH_take (i := 3) (v := ?_) (oper_at rfl) (by kernel_rfl) (by kernel_rfl) (by kernel_rfl) (fun _ _ _ h => h) (Or.inl ⟨by rfl, ?_⟩) hHeld ?_
          rotate_left
          · (intro ww hSw; (try dsimp only at hSw); go_simp; try (with_reducible rfl))
          try simp only [Act.put, List.setIfInBounds_toArray, List.set_cons_zero, List.set_cons_succ]
          refine wpAnyH_take (i := 4) (v := ?_) (oper_at rfl) (by kernel_rfl) (by kernel_rfl) (by kernel_rfl) (fun _ _ _ h => h) (Or.inl ⟨by rfl, ?_⟩) hHeld ?_
          rotate_left
          · (intro ww hSw; (try dsimp only at hSw); go_simp; try (with_reducible rfl))
          try simp only [Act.put, List.setIfInBounds_toArray, List.set_cons_zero, List.set_cons_succ]
          refine wpAnyH_ready (rs := [5]) (by kernel_rfl) (by simp) (AllReadyH.cons (oper_at rfl) (fun K hK => ?_) AllReadyH.nil)
          go_simp
          go_at_call 32
          refine (CL.out _ (HXI.out.trans (by repeat (first | assumption | exact Ext.refl _ | apply Ext.alloc | apply Ext.drew | apply Ext.drewN)))).mono ?_
          rintro e5 w5 ⟨t, rfl, hrt, hbb⟩
          dsimp only [aV]
          obtain ⟨At, cy, et, -, -⟩ := hrt.form
          rw [List.length_map] at et
          subst et
          have hE5 : Ext w4 w5 := Ext.trans (by repeat (first | assumption | exact Ext.refl _ | apply Ext.alloc | apply Ext.drew | apply Ext.drewN)) hbb
          have hX5 : Ext w w5 := HX4.out.trans hE5
          have hR5 := hrt.base (Nat.le_trans HX4.out.size (Ext.size (by repeat (first | assumption | exact Ext.refl _ | apply Ext.alloc | apply Ext.drew | apply Ext.drewN))))
          clear hrt hbb
          refine hK.out _ _ ?_ (fun hHeld => ?_)
          · first | assumption | exact KB.out _ (by repeat (first | assumption | exact Ext.refl _ | apply Ext.alloc | apply Ext.drew | apply Ext.drewN))
          clear hK K
          try simp only [Act.put, List.setIfInBounds_toArray, List.set_cons_zero, List.set_cons_succ]
          refine wpAnyH_ready (rs := [6]) (by kernel_rfl) (by simp) (AllReadyH.cons (oper_at rfl) (fun K hK => ?_) AllReadyH.nil)
          refine wp_b64 (m1 := m1) (m2 := m2) (m3 := m3) (q := (q : Int)) (y1 := y1) (y2 := y2) (A := At) (n := ys.length) (c := cy) rfl rfl (.inl rfl) rfl rfl rfl ?_
          refine hK.out _ _ ?_ (fun hHeld => ?_)
          · first | assumption | exact KB.out _ (by repeat (first | assumption | exact Ext.refl _ | apply Ext.alloc | apply Ext.drew | apply Ext.drewN))
          clear hK K
          try simp only [Act.put, List.setIfInBounds_toArray, List.set_cons_zero, List.set_cons_succ]
          refine wpAnyH_ready (rs := [7]) (by kernel_rfl) (by simp) (AllReadyH.cons (oper_at rfl) (fun K hK => ?_) AllReadyH.nil)
          go_simp
          refine hK.out _ _ ?_ (fun hHeld => ?_)
          · first | assumption | exact KB.out _ (by repeat (first | assumption | exact Ext.refl _ | apply Ext.alloc | apply Ext.drew | apply Ext.drewN))
          clear hK K
          try simp only [Act.put, List.setIfInBounds_toArray, List.set_cons_zero, List.set_cons_succ]
          refine wpAnyH_ready (rs := [8]) (by kernel_rfl) (by simp) (AllReadyH.cons (oper_at rfl) (fun K hK => ?_) AllReadyH.nil)
          refine sapp el54 (by rfl) (.tmp 27) (.tmp 34) (by rfl) (w5 := w) (vs := vs.map encT) (us := [encT ((m1, m2, m3), q, (y1, y2, ys), .slice At ys.length cy)]) (by rfl) (by repeat (first | assumption | exact Ext.refl _ | apply Ext.alloc | apply Ext.drew | apply Ext.drewN)) ((HT.out.row.ext HW4.out).ext (by repeat (first | assumption | exact Ext.refl _ | apply Ext.alloc | apply Ext.drew | apply Ext.drewN))) (by rfl) rfl (Wide.one rfl) (by first | exact vs1 _ _ _ | exact (vs1 _ _ _).ext (by repeat (first | assumption | exact Ext.refl _ | apply Ext.alloc | apply Ext.drew | apply Ext.drewN))) one_encT (by rw [List.length_map]; simp only [List.length_cons, List.length_nil]; have := HUL.out; omega) (by rw [List.length_map]; simp only [List.length_cons, List.length_nil]; have := HUL.out; omega) ?_
          intro v6 w6 hr6 hE6 hg6 hb6
          have hT6 := TmOwn.app (x := ((m1, m2, m3), q, (y1, y2, ys), .slice At ys.length cy)) ((HT.out.ext HW4.out).ext (by repeat (first | assumption | exact Ext.refl _ | apply Ext.alloc | apply Ext.drew | apply Ext.drewN))) (hR5.ext (by repeat (first | assumption | exact Ext.refl _ | apply Ext.alloc | apply Ext.drew | apply Ext.drewN))) hr6 hg6
          have b6 : ∀ o, w6.cell? ⟨wo.heap.size, o, none⟩ = w4.cell? ⟨wo.heap.size, o, none⟩ := fun o => (cell_kept (o := o) (hg6.block _ (Nat.lt_of_lt_of_le HSO.out (Ext.size (a := w4) (by repeat (first | assumption | exact Ext.refl _ | apply Ext.alloc | apply Ext.drew | apply Ext.drewN)))) (fun e => HOB.out e.symm))).trans (Ext.cells (w := w4) (by repeat (first | assumption | exact Ext.refl _ | apply Ext.alloc | apply Ext.drew | apply Ext.drewN)) _ _ HSO.out)
          have c6 : ∀ o, w6.cell? ⟨wi.heap.size, o, none⟩ = w4.cell? ⟨wi.heap.size, o, none⟩ := fun o => (cell_kept (o := o) (hg6.block _ (Nat.lt_of_lt_of_le HSI.out (Ext.size (a := w4) (by repeat (first | assumption | exact Ext.refl _ | apply Ext.alloc | apply Ext.drew | apply Ext.drewN)))) (fun e => HOI.out e.symm))).trans (Ext.cells (w := w4) (by repeat (first | assumption | exact Ext.refl _ | apply Ext.alloc | apply Ext.drew | apply Ext.drewN)) _ _ HSI.out)
          have s6 : (fun w' => Ext w w' ∧ w'.cell? ⟨wo.heap.size, 0, none⟩ = some (iV m1) ∧ w'.cell? ⟨wo.heap.size, 1, none⟩ = some (iV m2) ∧ w'.cell? ⟨wo.heap.size, 2, none⟩ = some (iV m3) ∧ w'.cell? ⟨wi.heap.size, 0, none⟩ = some (iV y1) ∧ w'.cell? ⟨wi.heap.size, 1, none⟩ = some (iV y2) ∧ w'.cell? ⟨wi.heap.size, 2, none⟩ = some (.slice Ay ys.length dy)) w6 := ⟨hE6, (b6 0).trans p0, (b6 1).trans p1, (b6 2).trans p2, (c6 0).trans z0, (c6 1).trans z1, (c6 2).trans z2⟩
          have hs6 : wo.heap.size < w6.heap.size := Nat.lt_of_lt_of_le (Nat.lt_of_lt_of_le HSO.out (Ext.size (a := w4) (by repeat (first | assumption | exact Ext.refl _ | apply Ext.alloc | apply Ext.drew | apply Ext.drewN)))) hg6.size
          have HOB6 : Hid (v6.ownBlock ≠ some wo.heap.size) := Lib.hid (by rcases hb6 with h | h <;> rw [h]; exact HOB.out; exact fun h => by injection h with h; exact absurd h (Nat.ne_of_gt (Nat.lt_of_lt_of_le HSO.out (Ext.size (a := w4) (by repeat (first | assumption | exact Ext.refl _ | apply Ext.alloc | apply Ext.drew | apply Ext.drewN))))))
          have HT6 := Lib.hid hT6
          have HS6 := Lib.hid (And.intro hs6 (And.intro s6.2.1 (And.intro s6.2.2.1 s6.2.2.2.1)))
          have HE6 := Lib.hid hE6
          clear hr6 hg6 hb6 b6 c6 hT6 hs6 hE6
          refine hK.out _ _ ?_ (fun hHeld => ?_)
          · first | exact s6 | assumption
          clear hK K
          try simp only [Act.put, List.setIfInBounds_toArray, List.set_cons_zero, List.set_cons_succ]
          refine wpAnyH_take (i := 9) (v := ?_) (oper_at rfl) (by kernel_rfl) (by kernel_rfl) (by kernel_rfl) (fun _ _ _ h => h) (Or.inl ⟨by rfl, ?_⟩) hHeld ?_
          rotate_left
          · (intro ww hSw; (try dsimp only at hSw); go_simp; try (with_reducible rfl))
          try simp only [Act.put, List.setIfInBounds_toArray, List.set_cons_zero, List.set_cons_succ]
          refine wpAnyH_done (by kernel_rfl) ?_ _
          refine NoPanic.normal ?_
          have hj2 : js.length ≤ 2 := HLX.out.1
          go_wp2_with fail
          exact ⟨⟨q + 1, vs ++ [((m1, m2, m3), q, (y1, y2, ys), .slice At ys.length cy)], _, by omega, by go_num, rfl, by rw [List.map_append, HVS.out, HTJ.out, List.map_append, List.append_assoc]; rfl, HT6.out, HE6.out, HOB6.out, HS6.out⟩, by simp [intOf]; omega⟩
        · obtain rfl : q = js.length := by omega
          go_wp2_with fail
          refine ⟨⟨k + 1, vs, _, by omega, by go_num, rfl, ?_, HT.out, HXI.out⟩, by simp [intOf]; omega⟩
          rw [HVS.out, HUS.out, List.take_length, HTS.out, List.map_append]
    · as_aux_lemma =>
      obtain rfl : k = os.length := by omega
      have hul : us.length ≤ 1000 := by
        have e1 := congrArg List.length HUS.out
        rw [List.length_map, List.length_map, List.take_length] at e1
        have := HTL.out
        omega
      have eg : ∀ args W, (callFunc 40 args).run Try.prog W = .ok (.enter 40 args) W := enters_of Try.func40 (by kernel_rfl) rfl
      have SO := Lib.hid (sort_row Try.laysTi 7 (by omega) Try.isAgg64 Try.sizeOf64 encT (fun _ => rfl) (fun x v hv => one_encT (x := x) v (by simpa using hv)) cmpT cmpT_swo 40 eg us wo w w.heap.size 64 _ HT0.out.row HX.out (Nat.le_refl _) (fun W x y _ _ => cmp40_any x y W) (by omega))
      clear eg
      go_wp2_with fail
      refine SO.out.mono ?_
      rintro e3 w3 ⟨rfl, hE3, hb3, l', hp, hs, hr3⟩
      have hlen : us.length = l'.length := hp.length_eq.symm
      rw [hlen] at hr3 hb3
      have HR3 := Lib.hid hr3
      have HE3 := Lib.hid hE3
      have HB3 := Lib.hid hb3
      have HP := Lib.hid hp
      have HSS := Lib.hid hs
      clear hE3 hb3 hp hs hr3 SO
      go_wp2_with fail
      go_ret
      refine ⟨_, l', rfl, ⟨?_, fun x hx => ?_⟩, ?_, sortT_of HSS.out, HE3.out⟩
      · exact HR3.out
      · have hm := HT0.out.args x (HP.out.mem_iff.1 hx)
        refine hm.kept fun i hi => ?_
        refine HB3.out i (hm.lt i hi).2 (fun e => ?_)
        refine HT0.out.row.apart hm (by decide) i hi ?_
        rw [← hlen] at e
        exact e.symm
      · refine (HP.out.map plT).trans ?_
        rw [HUS.out, List.take_length]
end Go.Proofs.Ytehmpbaiefbemaa
