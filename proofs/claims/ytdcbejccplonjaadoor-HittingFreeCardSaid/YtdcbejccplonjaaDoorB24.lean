/- The walks over the reference's Valid, without and Least, and over short. -/
import Derived.Test.YtdcbejccplonjaaDoorB23
import Derived.Deep.Slices
namespace Go.Proofs.YtdcbejccplonjaaDoor
open Go.RowKit
attribute [local go_sem ↓] Go.wp_at_zero Go.wp_at_succ
theorem SlAt.cut {w : World} {A : Option Addr} {n c k : Nat} {vs : List Value} (h : SlAt w (.slice A n c) vs) (hk : k ≤ vs.length) : SlAt w (.slice A k c) (vs.take k) := by
  obtain ⟨A', c', h1, h2, h3, h4⟩ := h.at_
  simp only [Value.slice.injEq] at h1
  obtain ⟨rfl, rfl, rfl⟩ := h1
  have hl : (vs.take k).length = k := by rw [List.length_take]; omega
  refine ⟨A, c, by rw [hl], by rw [hl]; omega, h3, fun h0 => ?_⟩
  obtain ⟨ad, e, hb, hc⟩ := h4 (by rw [hl] at h0; omega)
  refine ⟨ad, e, hb, fun j u hj => hc j u ?_⟩
  rw [List.getElem?_take] at hj
  split at hj
  · exact hj
  · cases hj
theorem VsAt.drop {w : World} {ad : Addr} {vs : List Value} (h : VsAt w (some ad) vs) (k : Nat) : VsAt w (some (ad.add k)) (vs.drop k) := fun h0 => by
  rw [List.length_drop] at h0
  obtain ⟨ad', e, hb, hc⟩ := h (by omega)
  obtain rfl := Option.some.inj e
  refine ⟨_, rfl, ?_, fun j u hj => ?_⟩
  · unfold Addr.add
    split <;> exact hb
  · rw [Go.Deep.add_add]
    refine hc _ u ?_
    rw [List.getElem?_drop] at hj
    exact hj
theorem VsAt.take {w : World} {A : Option Addr} {vs : List Value} (h : VsAt w A vs) (k : Nat) : VsAt w A (vs.take k) := fun h0 => by
  rw [List.length_take] at h0
  obtain ⟨ad, e, hb, hc⟩ := h (by omega)
  refine ⟨ad, e, hb, fun j u hj => hc j u ?_⟩
  rw [List.getElem?_take] at hj
  split at hj
  · exact hj
  · cases hj
theorem rs_of_row {w w' : World} {B : Nat} {t : Value} {vs : List Value} {ls : List (List Int)} (h : Row w' B 35 t vs) (c : Cont w vs ls) (k : Ext w w') : Rs w' t ls := ⟨vs, h.sl, c.len, fun j hj => (c.is j hj).ext k⟩
def shortF (ls : List (List Int)) : List (List Int) := (ls.take 70).map fun s => s.take 70
set_option maxRecDepth 100000 in
set_option maxHeartbeats 8000000 in
/-- short, behind its first test. -/
theorem short_any (ls : List (List Int)) (v : Value) (w : World) (h : Rs w v ls) : Calls Tryd.prog 16 #[v] w (RetRs (shortF ls) w) := by
  obtain ⟨ms, hms⟩ : ∃ ms, ls.take 70 = ms := ⟨_, rfl⟩
  have hml : ms.length ≤ 70 := by rw [← hms, List.length_take]; omega
  have HSF : Hid (shortF ls = ms.map fun s => s.take 70) := by unfold shortF; rw [hms]; exact Lib.hid rfl
  obtain ⟨A, c, rfl, a1, a2, -⟩ := h.read
  have hl : ls.length ≤ 9223372036854775807 := by unfold maxLen at a2; omega
  have hcut : Rs w (.slice A ms.length c) ms := by
    have e : ms.length = min 70 ls.length := by rw [← hms, List.length_take]
    have := h.cut (k := min 70 ls.length) (by omega)
    rw [e, ← hms]
    have e2 : ls.take (min 70 ls.length) = ls.take 70 := by rw [← List.take_eq_take_min]
    rw [← e2]
    exact this
  obtain ⟨A', c', e', b1, b2, RM⟩ := hcut.read
  simp only [Value.slice.injEq] at e'
  obtain ⟨rfl, -, rfl⟩ := e'
  have HR := Lib.hid RM
  clear RM
  have hcap : (70 : Int) < (ls.length : Int) → (70 : Int) ≤ (c : Int) := fun _ => by omega
  have e70 : 70 < ls.length → ms.length = 70 := fun hq => by rw [← hms, List.length_take]; omega
  have e71 : ¬ 70 < ls.length → ls.length = ms.length := fun hq => by rw [← hms, List.length_take]; omega
  clear hms hcut h a2
  go_enter Tryd.func16, Tryd.ntmps16
  by_cases hq : 70 < ls.length
  · have h70 := e70 hq
    have q1 : (70 : Int) < (ls.length : Int) := by omega
    have q2 : (70 : Int) ≤ (c : Int) := by omega
    have HR := Lib.hid (HR.out w (Ext.refl _))
    clear e70 e71 hcap
    have HQ := Lib.hid h70
    clear h70
    go_wp2_with fail
    go_loopw [3, 13] (fun t i wr => ∃ (k : Nat) (vs : List Value), k ≤ ms.length ∧ i = iV (k : Int) ∧ Row wr w.heap.size 35 t vs ∧ Cont w vs ((ms.take k).map fun s => s.take 70) ∧ Ext w wr) (fun _ i _ => ms.length - (intOf i).toNat)
    case atStart => exact ⟨0, [], by omega, rfl, Row.nil _ _ _, Cont.nil _, Ext.refl _⟩
    case round =>
      obtain ⟨k, vs, hk, rfl, hr, hc, hE⟩ := hrel
      have HRo := Lib.hid hr
      have HC := Lib.hid hc
      have HE := Lib.hid hE
      clear hr hc hE
      by_cases hlt : k < ms.length
      · have q5 : (k : Int) < 70 := by have := HQ.out; omega
        obtain ⟨ad, u, rfl, c1, hu⟩ := HR.out k hlt
        have c1 := HE.out.cell c1
        have HMS : Hid ((ms.take (k + 1)).map (fun s => s.take 70) = (ms.take k).map (fun s => s.take 70) ++ [(ms.getD k []).take 70]) := by
          rw [take_snoc hlt, List.map_append, List.getD_eq_getElem?_getD, List.getElem?_eq_getElem hlt]; exact Lib.hid rfl
        obtain ⟨s, hs⟩ : ∃ s, ms.getD k [] = s := ⟨_, rfl⟩
        rw [hs] at hu HMS
        clear hs
        have hvl : vs.length ≤ 70 := by have := HC.out.len; simp at this; omega
        obtain ⟨U, uc, rfl, d1, d2, -⟩ := hu.read
        have hls : s.length ≤ 9223372036854775807 := by unfold maxLen at d2; omega
        by_cases h70 : 70 < s.length
        · have HIC : Hid (Is w (.slice U 70 uc) (s.take 70)) := by
            have := SlAt.cut (k := 70) hu (by rw [List.length_map]; omega)
            rw [← List.map_take] at this
            exact Lib.hid this
          have q3 : (70 : Int) < (s.length : Int) := by omega
          have q4 : (70 : Int) ≤ (uc : Int) := by omega
          clear hu d2
          go_wp2_with (at_builtin; go_loud (refine wapp el24 rfl (.tmp 22) (.tmp 24) rfl (w5 := w) rfl (HE.out.alloc _) (HRo.out.ext ((Ext.refl _).alloc _)) rfl rfl (vs1 _ _ _) (one1 rfl) ?hm ?_; (case hm => (rw [List.length_singleton]; omega)); intro v1 w1 hr1 hE1 hg1 hb1))
          exact ⟨⟨k + 1, _, by omega, by go_num, hr1, by rw [HMS.out]; exact HC.out.app (cont1 HIC.out), hE1⟩, by simp [intOf]; omega⟩
        · have HIC : Hid (Is w (.slice U s.length uc) (s.take 70)) := by
            rw [List.take_of_length_le (by omega)]; exact Lib.hid hu
          have q3 : (s.length : Int) ≤ (70 : Int) := by omega
          clear hu d2
          go_wp2_with (at_builtin; go_loud (refine wapp el24 rfl (.tmp 22) (.tmp 24) rfl (w5 := w) rfl (HE.out.alloc _) (HRo.out.ext ((Ext.refl _).alloc _)) rfl rfl (vs1 _ _ _) (one1 rfl) ?hm ?_; (case hm => (rw [List.length_singleton]; omega)); intro v1 w1 hr1 hE1 hg1 hb1))
          exact ⟨⟨k + 1, _, by omega, by go_num, hr1, by rw [HMS.out]; exact HC.out.app (cont1 HIC.out), hE1⟩, by simp [intOf]; omega⟩
      · have hk7 : k = 70 := by have := HQ.out; omega
        subst hk7
        have e70' : ms.take 70 = ms := List.take_of_length_le (by omega)
        rw [e70'] at HC
        go_wp2_with fail
        go_ret
        refine ⟨_, rfl, ?_, HE.out⟩
        rw [HSF.out]
        exact rs_of_row HRo.out HC.out HE.out
  · have h71 := e71 hq
    have q1 : (ls.length : Int) ≤ (70 : Int) := by omega
    have HR := Lib.hid (HR.out w (Ext.refl _))
    rw [h71] at hq q1 hl a1
    rw [h71]
    clear e70 e71 h71 hcap
    go_wp2_with fail
    go_loopw [3, 13] (fun t i wr => ∃ (k : Nat) (vs : List Value), k ≤ ms.length ∧ i = iV (k : Int) ∧ Row wr w.heap.size 35 t vs ∧ Cont w vs ((ms.take k).map fun s => s.take 70) ∧ Ext w wr) (fun _ i _ => ms.length - (intOf i).toNat)
    case atStart => exact ⟨0, [], by omega, rfl, Row.nil _ _ _, Cont.nil _, Ext.refl _⟩
    case round =>
      obtain ⟨k, vs, hk, rfl, hr, hc, hE⟩ := hrel
      have HRo := Lib.hid hr
      have HC := Lib.hid hc
      have HE := Lib.hid hE
      clear hr hc hE
      by_cases hlt : k < ms.length
      · obtain ⟨ad, u, rfl, c1, hu⟩ := HR.out k hlt
        have c1 := HE.out.cell c1
        have HMS : Hid ((ms.take (k + 1)).map (fun s => s.take 70) = (ms.take k).map (fun s => s.take 70) ++ [(ms.getD k []).take 70]) := by
          rw [take_snoc hlt, List.map_append, List.getD_eq_getElem?_getD, List.getElem?_eq_getElem hlt]; exact Lib.hid rfl
        obtain ⟨s, hs⟩ : ∃ s, ms.getD k [] = s := ⟨_, rfl⟩
        rw [hs] at hu HMS
        clear hs
        have hvl : vs.length ≤ 70 := by have := HC.out.len; simp at this; omega
        obtain ⟨U, uc, rfl, d1, d2, -⟩ := hu.read
        have hls : s.length ≤ 9223372036854775807 := by unfold maxLen at d2; omega
        by_cases h70 : 70 < s.length
        · have HIC : Hid (Is w (.slice U 70 uc) (s.take 70)) := by
            have := SlAt.cut (k := 70) hu (by rw [List.length_map]; omega)
            rw [← List.map_take] at this
            exact Lib.hid this
          have q3 : (70 : Int) < (s.length : Int) := by omega
          have q4 : (70 : Int) ≤ (uc : Int) := by omega
          clear hu d2
          go_wp2_with (at_builtin; go_loud (refine wapp el24 rfl (.tmp 22) (.tmp 24) rfl (w5 := w) rfl (HE.out.alloc _) (HRo.out.ext ((Ext.refl _).alloc _)) rfl rfl (vs1 _ _ _) (one1 rfl) ?hm ?_; (case hm => (rw [List.length_singleton]; omega)); intro v1 w1 hr1 hE1 hg1 hb1))
          exact ⟨⟨k + 1, _, by omega, by go_num, hr1, by rw [HMS.out]; exact HC.out.app (cont1 HIC.out), hE1⟩, by simp [intOf]; omega⟩
        · have HIC : Hid (Is w (.slice U s.length uc) (s.take 70)) := by
            rw [List.take_of_length_le (by omega)]; exact Lib.hid hu
          have q3 : (s.length : Int) ≤ (70 : Int) := by omega
          clear hu d2
          go_wp2_with (at_builtin; go_loud (refine wapp el24 rfl (.tmp 22) (.tmp 24) rfl (w5 := w) rfl (HE.out.alloc _) (HRo.out.ext ((Ext.refl _).alloc _)) rfl rfl (vs1 _ _ _) (one1 rfl) ?hm ?_; (case hm => (rw [List.length_singleton]; omega)); intro v1 w1 hr1 hE1 hg1 hb1))
          exact ⟨⟨k + 1, _, by omega, by go_num, hr1, by rw [HMS.out]; exact HC.out.app (cont1 HIC.out), hE1⟩, by simp [intOf]; omega⟩
      · obtain rfl : k = ms.length := by omega
        rw [List.take_length] at HC
        go_wp2_with fail
        go_ret
        refine ⟨_, rfl, ?_, HE.out⟩
        rw [HSF.out]
        exact rs_of_row HRo.out HC.out HE.out
end Go.Proofs.YtdcbejccplonjaaDoor
