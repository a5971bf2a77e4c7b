/- Whether a hold is valid: ref.Valid and network.valid at any hold. -/
import Derived.Test.YtehmpbaiefbemaaGreatH3
namespace Go.Proofs.YtehmpbaiefbemaaGreat
open Go.RowKit
/-- Arrivals in order, from a tick on. -/
def okArr : Int → List Ja → Bool
  | _, [] => true
  | m, j :: r => decide (m ≤ j.1.1 ∧ 0 ≤ j.1.2.1 ∧ j.1.2.1 < 8 ∧ j.1.2.2.length ≤ 4) && okArr j.1.1 r
def validF (h : Jh) : Bool := decide (inC h.1.1 ∧ inC h.1.2.1 ∧ 0 ≤ h.1.2.2 ∧ h.1.2.2 ≤ 65535 ∧ h.2.1.length ≤ 2) && okArr 1 h.2.1
theorem okArr_all {m : Int} : ∀ {js : List Ja}, (∀ j ∈ js, 0 ≤ j.1.2.1 ∧ j.1.2.1 ≤ 7 ∧ j.1.2.2.length ≤ 4) → (∀ j ∈ js, m ≤ j.1.1) → (js.Pairwise fun a b => a.1.1 ≤ b.1.1) → okArr m js = true
  | [], _, _, _ => rfl
  | j :: js, h, hm, ha => by
    have h0 := h j (by simp)
    have a0 := List.pairwise_cons.1 ha
    rw [okArr, okArr_all (fun x hx => h x (by simp [hx])) (fun x hx => a0.1 x hx) a0.2, decide_eq_true ⟨hm j (by simp), h0.1, by omega, h0.2.2⟩]
    rfl
theorem OkH.valid {h : Jh} (o : OkH h) : validF h = true := by
  unfold validF
  have e1 := o.f
  have e2 := o.t
  have e3 := o.n
  rw [decide_eq_true ⟨by unfold inC; omega, by unfold inC; omega, by omega, by omega, o.len⟩, okArr_all (fun j hj => (o.each j hj).2.2) (fun j hj => (o.each j hj).1)]
  · rfl
  · rw [List.pairwise_iff_getElem]
    intro i k hi hk hik
    have := o.asc i k hik hk
    rwa [List.getD_eq_getElem?_getD, List.getD_eq_getElem?_getD, List.getElem?_eq_getElem hi, List.getElem?_eq_getElem hk] at this
theorem drop_cons {js : List Ja} {k : Nat} (h : k < js.length) : js.drop k = js.getD k Ja0 :: js.drop (k + 1) := by
  rw [List.drop_eq_getElem_cons h, List.getD_eq_getElem?_getD, List.getElem?_eq_getElem h]
  rfl
set_option maxHeartbeats 4000000 in
theorem valid43_any (h : Jh) (w : World) (hj : JaAt w h.2.2 h.2.1) : Calls Tryz.prog 72 #[hV h] w (RetV (.bool (validF h)) w) := by
  obtain ⟨⟨f, t, n⟩, js, v⟩ := h
  obtain ⟨hs, hg⟩ := hj
  simp only [] at hs hg
  obtain ⟨A, c, rfl, a1, a2, RA⟩ := hs.read
  rw [List.length_map] at a1 RA ⊢
  have HR := Lib.hid RA
  have HG := Lib.hid hg
  have i1 := in_any f
  have i2 := in_any t
  have hVF : Hid (validF ((f, t, n), js, .slice A js.length c) = (decide (inC f ∧ inC t ∧ 0 ≤ n ∧ n ≤ 65535 ∧ js.length ≤ 2) && okArr 1 js)) := rfl
  clear RA hg hs
  generalize validF ((f, t, n), js, .slice A js.length c) = vf at *
  by_cases q1 : 0 ≤ f ∧ f < 8
  case neg =>
    rw [decide_eq_false q1] at i1
    have I1 := Lib.hid i1
    clear i1 i2
    have HF : Hid (vf = false) := by rw [hVF.out, decide_eq_false (by unfold inC; omega)]; exact rfl
    clear hVF HR HG
    go_enter Tryz.func72, Tryz.ntmps72
    go_wp2_with fail
    refine (I1.out _).mono ?_
    rintro e1 w1 ⟨rfl, rfl⟩
    go_wp2_with fail
    go_ret
    exact ⟨ret_bool HF.out.symm, ((Ext.refl _).alloc _).alloc _⟩
  rw [decide_eq_true q1] at i1
  have I1 := Lib.hid i1
  clear i1
  by_cases q2 : 0 ≤ t ∧ t < 8
  case neg =>
    rw [decide_eq_false q2] at i2
    have I2 := Lib.hid i2
    clear i2
    have HF : Hid (vf = false) := by rw [hVF.out, decide_eq_false (by unfold inC; omega)]; exact rfl
    clear hVF HR HG
    go_enter Tryz.func72, Tryz.ntmps72
    go_wp2_with fail
    refine (I1.out _).mono ?_
    rintro e1 w1 ⟨rfl, rfl⟩
    go_wp2_with fail
    refine (I2.out _).mono ?_
    rintro e1 w1 ⟨rfl, rfl⟩
    go_wp2_with fail
    go_ret
    exact ⟨ret_bool HF.out.symm, ((Ext.refl _).alloc _).alloc _⟩
  rw [decide_eq_true q2] at i2
  have I2 := Lib.hid i2
  clear i2
  by_cases q3 : n < 0
  · skip
    have HF : Hid (vf = false) := by rw [hVF.out, decide_eq_false (by unfold inC; omega)]; exact rfl
    clear hVF HR HG
    go_enter Tryz.func72, Tryz.ntmps72
    go_wp2_with fail
    refine (I1.out _).mono ?_
    rintro e1 w1 ⟨rfl, rfl⟩
    go_wp2_with fail
    refine (I2.out _).mono ?_
    rintro e1 w1 ⟨rfl, rfl⟩
    go_wp2_with fail
    go_ret
    exact ⟨ret_bool HF.out.symm, ((Ext.refl _).alloc _).alloc _⟩
  by_cases q4 : 65535 < n
  · skip
    have HF : Hid (vf = false) := by rw [hVF.out, decide_eq_false (by unfold inC; omega)]; exact rfl
    clear hVF HR HG
    go_enter Tryz.func72, Tryz.ntmps72
    go_wp2_with fail
    refine (I1.out _).mono ?_
    rintro e1 w1 ⟨rfl, rfl⟩
    go_wp2_with fail
    refine (I2.out _).mono ?_
    rintro e1 w1 ⟨rfl, rfl⟩
    go_wp2_with fail
    go_ret
    exact ⟨ret_bool HF.out.symm, ((Ext.refl _).alloc _).alloc _⟩
  by_cases q5 : 2 < js.length
  · skip
    have HF : Hid (vf = false) := by rw [hVF.out, decide_eq_false (by unfold inC; omega)]; exact rfl
    clear hVF HR HG
    go_enter Tryz.func72, Tryz.ntmps72
    go_wp2_with fail
    refine (I1.out _).mono ?_
    rintro e1 w1 ⟨rfl, rfl⟩
    go_wp2_with fail
    refine (I2.out _).mono ?_
    rintro e1 w1 ⟨rfl, rfl⟩
    go_wp2_with fail
    go_ret
    exact ⟨ret_bool HF.out.symm, ((Ext.refl _).alloc _).alloc _⟩
  have HV : Hid (vf = okArr 1 js) := by rw [hVF.out, decide_eq_true (by unfold inC; omega), Bool.true_and]; exact rfl
  clear hVF
  go_enter Tryz.func72, Tryz.ntmps72
  go_wp2_with fail
  refine (I1.out _).mono ?_
  rintro e1 w1 ⟨rfl, rfl⟩
  go_wp2_with fail
  refine (I2.out _).mono ?_
  rintro e1 w1 ⟨rfl, rfl⟩
  go_wp2_with fail
  go_loopw [4, 38] (fun l i wr => ∃ (k : Nat) (m : Int), k ≤ js.length ∧ i = iV (k : Int) ∧ l = iV m ∧ vf = okArr m (js.drop k) ∧ Ext w wr) (fun _ i _ => js.length - (intOf i).toNat)
  case atStart => exact ⟨0, 1, by omega, rfl, rfl, HV.out, (Ext.refl _).alloc _ |>.alloc _⟩
  case round =>
    obtain ⟨k, m, hk, rfl, rfl, hm, hE⟩ := hrel
    have HM := Lib.hid hm
    have HX := Lib.hid hE
    clear hE hm HV
    by_cases hlt : k < js.length
    · obtain ⟨b, o, rfl, hb, cR⟩ := HR.out wr HX.out k hlt (by omega)
      obtain ⟨x, hx⟩ : ∃ x, js.getD k Ja0 = x := ⟨_, rfl⟩
      rw [encJ_at hlt x hx] at cR
      have HD : Hid (vf = (decide (m ≤ x.1.1 ∧ 0 ≤ x.1.2.1 ∧ x.1.2.1 < 8 ∧ x.1.2.2.length ≤ 4) && okArr x.1.1 (js.drop (k + 1)))) := Lib.hid (by rw [HM.out, drop_cons hlt, hx]; rfl)
      have g1 := HG.out _ (getD_memJ hlt)
      rw [hx] at g1
      obtain ⟨⟨x1, x2, xs⟩, xv⟩ := x
      obtain ⟨A2, d2, hv, e1, e2, -⟩ := g1.read
      rw [List.length_map] at hv e1
      simp only [] at hv HD e1
      subst hv
      have r0 := cR 0 _ (by omega) rfl
      have r1 := cR 1 _ (by omega) rfl
      have r2 := cR 2 _ (by omega) rfl
      rw [Nat.add_zero] at r0
      have l2 : xs.length ≤ 9223372036854775807 := by unfold maxLen at e2; omega
      clear cR hx g1 HM
      by_cases p0 : x1 < m
      · have HF : Hid (vf = false) := by rw [HD.out, decide_eq_false (by omega)]; exact rfl
        clear HD
        go_wp2_with fail
        go_ret
        exact ⟨ret_bool HF.out.symm, HX.out.alloc _⟩
      by_cases p1 : x2 < 0
      · have HF : Hid (vf = false) := by rw [HD.out, decide_eq_false (by omega)]; exact rfl
        clear HD
        go_wp2_with fail
        go_ret
        exact ⟨ret_bool HF.out.symm, HX.out.alloc _⟩
      by_cases p2 : 7 < x2
      · have HF : Hid (vf = false) := by rw [HD.out, decide_eq_false (by omega)]; exact rfl
        clear HD
        go_wp2_with fail
        go_ret
        exact ⟨ret_bool HF.out.symm, HX.out.alloc _⟩
      by_cases p3 : 4 < xs.length
      · have HF : Hid (vf = false) := by rw [HD.out, decide_eq_false (by omega)]; exact rfl
        clear HD
        go_wp2_with fail
        go_ret
        exact ⟨ret_bool HF.out.symm, HX.out.alloc _⟩
      have HN : Hid (vf = okArr x1 (js.drop (k + 1))) := by rw [HD.out, decide_eq_true (by omega), Bool.true_and]; exact rfl
      clear HD
      go_wp2_with fail
      exact ⟨⟨k + 1, x1, by omega, by go_num, rfl, HN.out, HX.out.alloc _⟩, by simp [intOf]; omega⟩
    · have HF : Hid (vf = true) := by rw [HM.out, List.drop_eq_nil_of_le (by omega)]; exact rfl
      clear HM
      go_wp2_with fail
      go_ret
      exact ⟨ret_bool HF.out.symm, HX.out⟩
set_option maxHeartbeats 4000000 in
theorem valid38_any (h : Jh) (w : World) (hj : JaAt w h.2.2 h.2.1) : Calls Tryz.prog 48 #[hV h] w (RetV (.bool (validF h)) w) := by
  obtain ⟨⟨f, t, n⟩, js, v⟩ := h
  obtain ⟨hs, hg⟩ := hj
  simp only [] at hs hg
  obtain ⟨A, c, rfl, a1, a2, RA⟩ := hs.read
  rw [List.length_map] at a1 RA ⊢
  have HR := Lib.hid RA
  have HG := Lib.hid hg
  have i1 := comp_any f
  have i2 := comp_any t
  have hVF : Hid (validF ((f, t, n), js, .slice A js.length c) = (decide (inC f ∧ inC t ∧ 0 ≤ n ∧ n ≤ 65535 ∧ js.length ≤ 2) && okArr 1 js)) := rfl
  clear RA hg hs
  generalize validF ((f, t, n), js, .slice A js.length c) = vf at *
  by_cases q1 : 0 ≤ f ∧ f < 8
  case neg =>
    rw [decide_eq_false q1] at i1
    have I1 := Lib.hid i1
    clear i1 i2
    have HF : Hid (vf = false) := by rw [hVF.out, decide_eq_false (by unfold inC; omega)]; exact rfl
    clear hVF HR HG
    go_enter Tryz.func48, Tryz.ntmps48
    go_wp2_with fail
    refine (I1.out _).mono ?_
    rintro e1 w1 ⟨rfl, rfl⟩
    go_wp2_with fail
    go_ret
    exact ⟨ret_bool HF.out.symm, ((Ext.refl _).alloc _).alloc _⟩
  rw [decide_eq_true q1] at i1
  have I1 := Lib.hid i1
  clear i1
  by_cases q2 : 0 ≤ t ∧ t < 8
  case neg =>
    rw [decide_eq_false q2] at i2
    have I2 := Lib.hid i2
    clear i2
    have HF : Hid (vf = false) := by rw [hVF.out, decide_eq_false (by unfold inC; omega)]; exact rfl
    clear hVF HR HG
    go_enter Tryz.func48, Tryz.ntmps48
    go_wp2_with fail
    refine (I1.out _).mono ?_
    rintro e1 w1 ⟨rfl, rfl⟩
    go_wp2_with fail
    refine (I2.out _).mono ?_
    rintro e1 w1 ⟨rfl, rfl⟩
    go_wp2_with fail
    go_ret
    exact ⟨ret_bool HF.out.symm, ((Ext.refl _).alloc _).alloc _⟩
  rw [decide_eq_true q2] at i2
  have I2 := Lib.hid i2
  clear i2
  by_cases q3 : n < 0
  · skip
    have HF : Hid (vf = false) := by rw [hVF.out, decide_eq_false (by unfold inC; omega)]; exact rfl
    clear hVF HR HG
    go_enter Tryz.func48, Tryz.ntmps48
    go_wp2_with fail
    refine (I1.out _).mono ?_
    rintro e1 w1 ⟨rfl, rfl⟩
    go_wp2_with fail
    refine (I2.out _).mono ?_
    rintro e1 w1 ⟨rfl, rfl⟩
    go_wp2_with fail
    go_ret
    exact ⟨ret_bool HF.out.symm, ((Ext.refl _).alloc _).alloc _⟩
  by_cases q4 : 65535 < n
  · skip
    have HF : Hid (vf = false) := by rw [hVF.out, decide_eq_false (by unfold inC; omega)]; exact rfl
    clear hVF HR HG
    go_enter Tryz.func48, Tryz.ntmps48
    go_wp2_with fail
    refine (I1.out _).mono ?_
    rintro e1 w1 ⟨rfl, rfl⟩
    go_wp2_with fail
    refine (I2.out _).mono ?_
    rintro e1 w1 ⟨rfl, rfl⟩
    go_wp2_with fail
    go_ret
    exact ⟨ret_bool HF.out.symm, ((Ext.refl _).alloc _).alloc _⟩
  by_cases q5 : 2 < js.length
  · skip
    have HF : Hid (vf = false) := by rw [hVF.out, decide_eq_false (by unfold inC; omega)]; exact rfl
    clear hVF HR HG
    go_enter Tryz.func48, Tryz.ntmps48
    go_wp2_with fail
    refine (I1.out _).mono ?_
    rintro e1 w1 ⟨rfl, rfl⟩
    go_wp2_with fail
    refine (I2.out _).mono ?_
    rintro e1 w1 ⟨rfl, rfl⟩
    go_wp2_with fail
    go_ret
    exact ⟨ret_bool HF.out.symm, ((Ext.refl _).alloc _).alloc _⟩
  have HV : Hid (vf = okArr 1 js) := by rw [hVF.out, decide_eq_true (by unfold inC; omega), Bool.true_and]; exact rfl
  clear hVF
  go_enter Tryz.func48, Tryz.ntmps48
  go_wp2_with fail
  refine (I1.out _).mono ?_
  rintro e1 w1 ⟨rfl, rfl⟩
  go_wp2_with fail
  refine (I2.out _).mono ?_
  rintro e1 w1 ⟨rfl, rfl⟩
  go_wp2_with fail
  go_loopw [4, 38] (fun l i wr => ∃ (k : Nat) (m : Int), k ≤ js.length ∧ i = iV (k : Int) ∧ l = iV m ∧ vf = okArr m (js.drop k) ∧ Ext w wr) (fun _ i _ => js.length - (intOf i).toNat)
  case atStart => exact ⟨0, 1, by omega, rfl, rfl, HV.out, (Ext.refl _).alloc _ |>.alloc _⟩
  case round =>
    obtain ⟨k, m, hk, rfl, rfl, hm, hE⟩ := hrel
    have HM := Lib.hid hm
    have HX := Lib.hid hE
    clear hE hm HV
    by_cases hlt : k < js.length
    · obtain ⟨b, o, rfl, hb, cR⟩ := HR.out wr HX.out k hlt (by omega)
      obtain ⟨x, hx⟩ : ∃ x, js.getD k Ja0 = x := ⟨_, rfl⟩
      rw [encJ_at hlt x hx] at cR
      have HD : Hid (vf = (decide (m ≤ x.1.1 ∧ 0 ≤ x.1.2.1 ∧ x.1.2.1 < 8 ∧ x.1.2.2.length ≤ 4) && okArr x.1.1 (js.drop (k + 1)))) := Lib.hid (by rw [HM.out, drop_cons hlt, hx]; rfl)
      have g1 := HG.out _ (getD_memJ hlt)
      rw [hx] at g1
      obtain ⟨⟨x1, x2, xs⟩, xv⟩ := x
      obtain ⟨A2, d2, hv, e1, e2, -⟩ := g1.read
      rw [List.length_map] at hv e1
      simp only [] at hv HD e1
      subst hv
      have r0 := cR 0 _ (by omega) rfl
      have r1 := cR 1 _ (by omega) rfl
      have r2 := cR 2 _ (by omega) rfl
      rw [Nat.add_zero] at r0
      have l2 : xs.length ≤ 9223372036854775807 := by unfold maxLen at e2; omega
      clear cR hx g1 HM
      by_cases p0 : x1 < m
      · have HF : Hid (vf = false) := by rw [HD.out, decide_eq_false (by omega)]; exact rfl
        clear HD
        go_wp2_with fail
        go_ret
        exact ⟨ret_bool HF.out.symm, HX.out.alloc _⟩
      by_cases p1 : x2 < 0
      · have HF : Hid (vf = false) := by rw [HD.out, decide_eq_false (by omega)]; exact rfl
        clear HD
        go_wp2_with fail
        go_ret
        exact ⟨ret_bool HF.out.symm, HX.out.alloc _⟩
      by_cases p2 : 7 < x2
      · have HF : Hid (vf = false) := by rw [HD.out, decide_eq_false (by omega)]; exact rfl
        clear HD
        go_wp2_with fail
        go_ret
        exact ⟨ret_bool HF.out.symm, HX.out.alloc _⟩
      by_cases p3 : 4 < xs.length
      · have HF : Hid (vf = false) := by rw [HD.out, decide_eq_false (by omega)]; exact rfl
        clear HD
        go_wp2_with fail
        go_ret
        exact ⟨ret_bool HF.out.symm, HX.out.alloc _⟩
      have HN : Hid (vf = okArr x1 (js.drop (k + 1))) := by rw [HD.out, decide_eq_true (by omega), Bool.true_and]; exact rfl
      clear HD
      go_wp2_with fail
      exact ⟨⟨k + 1, x1, by omega, by go_num, rfl, HN.out, HX.out.alloc _⟩, by simp [intOf]; omega⟩
    · have HF : Hid (vf = true) := by rw [HM.out, List.drop_eq_nil_of_le (by omega)]; exact rfl
      clear HM
      go_wp2_with fail
      go_ret
      exact ⟨ret_bool HF.out.symm, HX.out⟩
end Go.Proofs.YtehmpbaiefbemaaGreat
