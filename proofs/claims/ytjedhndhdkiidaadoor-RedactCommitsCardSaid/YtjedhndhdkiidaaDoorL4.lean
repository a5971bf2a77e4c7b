/- The walk over RedactRefuses. -/
import Derived.Test.YtjedhndhdkiidaaDoorV26
namespace Go.Proofs.YtjedhndhdkiidaaDoor
open Go.RowKit
attribute [local go_sem ↓] Go.wp_at_zero Go.wp_at_succ
attribute [local go_sem] baSize baList
theorem fsF_nm {rs : List Rw} {k : Nat} {f : Fd} (h : f ∈ fsF rs k) : f.nm.length ≤ 60 := by
  unfold fsF at h
  obtain ⟨i, -, rfl⟩ := List.mem_map.1 h
  unfold fdOf
  split
  · show (nameF i).length ≤ 60
    unfold nameF
    simp
  · show ((rs.getD i Rw0).nm.take 60).length ≤ 60
    rw [List.length_take]
    omega
theorem discF_nil (fs : List Fd) : (discF fs []).2 = chkF fs ∧ (discF fs []).1.length ≤ 100 ∧ (chkF fs = 0 ↔ 0 < (discF fs []).1.length) := by
  unfold discF
  by_cases h : chkF fs = 0
  · rw [if_neg (by simpa using h), if_pos (by simp)]
    have hd := docOk_of h
    have := hd.pos
    have := hd.le
    refine ⟨h.symm, ?_, fun _ => ?_, fun _ => h⟩
    · rw [List.length_map, docF_len]; omega
    · rw [List.length_map, docF_len]; omega
  · rw [if_pos h]
    exact ⟨rfl, by simp, fun h' => absurd h' h, fun h' => by simp at h'⟩
set_option maxRecDepth 100000 in
set_option maxHeartbeats 1000000 in
theorem refuses_law (rs : List Rw) (v : Value) (w : World) (h : RsAt w v rs) (hT : Tab w) : Calls Tryd.prog 4 #[v] w (RetB true w) := by
  have CF := Lib.hid (fields16_ok rs v w h)
  have HT := Lib.hid hT
  have hnm : ∀ f ∈ fsF rs (min rs.length 70), f.nm.length ≤ 9223372036854775807 := fun f hf => by have := fsF_nm hf; omega
  obtain ⟨fs, hfs⟩ : ∃ fs, fsF rs (min rs.length 70) = fs := ⟨_, rfl⟩
  rw [hfs] at CF hnm
  have HNM := Lib.hid hnm
  obtain ⟨hd1, hd2, hd3⟩ := discF_nil fs
  obtain ⟨xs, hxs⟩ : ∃ xs, (discF fs []).1 = xs := ⟨_, rfl⟩
  obtain ⟨er, her⟩ : ∃ er, chkF fs = er := ⟨_, rfl⟩
  rw [her] at hd1 hd3
  rw [hxs] at hd2 hd3
  have HD := Lib.hid (And.intro hxs (And.intro hd1 (And.intro hd2 her)))
  obtain ⟨A, c, rfl, -, -, -⟩ := h.read
  clear h hT hfs hnm hd1 hd2 hxs her
  go_enter Tryd.func4, Tryd.ntmps4
  go_wp2_with fail
  refine CF.out.mono ?_
  rintro _ w1 ⟨v1, v2, rfl, hf1, hf2, hE1⟩
  have HF2 := Lib.hid hf2
  have HE1 := Lib.hid hE1
  have CD : Hid (Calls Tryd.prog 12 #[v1, .slice none 0 0] w1 (RetD xs er w1)) := Lib.hid (by
    have := disclose12_ok fs v1 [] nilV w1 hf1 (SlAt.nil _ _) (HT.out.ext hE1)
    rw [HD.out.1, HD.out.2.1] at this
    exact this)
  obtain ⟨A1, c1, rfl, -, -, -⟩ := hf1.read
  obtain ⟨A2, c2, rfl, -, -, -⟩ := hf2.read
  clear hf1 hf2 hE1
  go_upto_region 3 with (go_at_call 12; refine CD.out.mono ?_; rintro _ w2 ⟨vd, rfl, hds, hE2⟩; have HDS := Lib.hid hds; have HE2 := Lib.hid hE2; obtain ⟨Ad, cd, rfl, -, -, -⟩ := hds.read; clear hds hE2)
  generalize hw3 : w2.alloc _ = w3
  have HB3 : Hid (Bk w3 w2.heap.size 1 (fun _ => .slice Ad xs.length cd)) := Lib.hid (by rw [← hw3]; exact Bk.new1 _ _ _)
  have HE3 : Hid (Ext w2 w3) := Lib.hid (by rw [← hw3]; exact (Ext.refl _).alloc _)
  clear hw3
  have HX3 := Lib.hid (HE1.out.trans (HE2.out.trans HE3.out))
  have C13 : Hid (∀ W, Ext w3 W → Calls Tryd.prog 13 #[] W (RetB true W)) := Lib.hid (fun W hW => awake13_ok W (HT.out.ext (HX3.out.trans hW)))
  have C17 : Hid (∀ W, Ext w3 W → Calls Tryd.prog 17 #[.slice A2 fs.length c2] W (RetI er W)) := Lib.hid (fun W hW => by
    have := rcheck17_ok fs _ W (HF2.out.ext ((HE2.out.trans HE3.out).trans hW)) HNM.out
    rw [HD.out.2.2.2] at this
    exact this)
  have C15 : Hid (∀ W, Ext w3 W → Calls Tryd.prog 15 #[dsV (.slice Ad xs.length cd)] W (RetSs (xs.map (·.nm)) W)) := Lib.hid (fun W hW => names15_ok xs _ W (HDS.out.ext (HE3.out.trans hW)) HD.out.2.2.1)
  clear CD CF
  by_cases hz : er = 0
  · subst hz
    have hp := hd3.1 rfl
    have q1 : (0 : Int) < (xs.length : Int) := by omega
    have HP := Lib.hid hp
    clear hd3 hp
    go_wp2_with (first
      | (go_at_call 13; refine (C13.out _ (by repeat (first | assumption | exact Ext.refl _ | apply Ext.drew | apply Ext.drewN))).mono ?_; rintro _ w4 ⟨rfl, hE4⟩; have hX4 : Ext w3 w4 := Ext.trans (by repeat (first | assumption | exact Ext.refl _ | apply Ext.drew | apply Ext.drewN)) hE4; have t4 := (HB3.out.ext hX4).cell (k := 0) (by decide); clear hE4)
      | (go_at_call 17; refine (C17.out _ (by repeat (first | assumption | exact Ext.refl _ | apply Ext.drew | apply Ext.drewN))).mono ?_; rintro _ w5 ⟨rfl, hE5⟩; have hX5 : Ext w3 w5 := Ext.trans hX4 hE5; have t5 := (HB3.out.ext hX5).cell (k := 0) (by decide); clear hE5)
      | (go_at_call 15; refine (C15.out _ (by repeat (first | assumption | exact Ext.refl _ | apply Ext.drew | apply Ext.drewN))).mono ?_; rintro _ w6 ⟨vs, rfl, hs6, hE6⟩; have hX6 : Ext w3 w6 := Ext.trans hX5 hE6; obtain ⟨A6, c6, rfl, -, -, -⟩ := SsAt.read hs6; rw [List.length_map]; clear hE6 hs6))
    go_ret
    exact ⟨ret_bool (decide_eq_true HP.out), HX3.out.trans hX6⟩
  · have q0 : (er == 0) = false := by simp [hz]
    have hp : xs.length = 0 := by
      rcases Nat.eq_zero_or_pos xs.length with h0 | h0
      · exact h0
      · exact absurd (hd3.2 h0) hz
    have HP := Lib.hid hp
    clear hd3 hz hp
    go_wp2_with (first
      | (go_at_call 13; refine (C13.out _ (by repeat (first | assumption | exact Ext.refl _ | apply Ext.drew | apply Ext.drewN))).mono ?_; rintro _ w4 ⟨rfl, hE4⟩; have hX4 : Ext w3 w4 := Ext.trans (by repeat (first | assumption | exact Ext.refl _ | apply Ext.drew | apply Ext.drewN)) hE4; have t4 := (HB3.out.ext hX4).cell (k := 0) (by decide); clear hE4)
      | (go_at_call 17; refine (C17.out _ (by repeat (first | assumption | exact Ext.refl _ | apply Ext.drew | apply Ext.drewN))).mono ?_; rintro _ w5 ⟨rfl, hE5⟩; have hX5 : Ext w3 w5 := Ext.trans hX4 hE5; have t5 := (HB3.out.ext hX5).cell (k := 0) (by decide); clear hE5)
      | (go_at_call 15; refine (C15.out _ (by repeat (first | assumption | exact Ext.refl _ | apply Ext.drew | apply Ext.drewN))).mono ?_; rintro _ w6 ⟨vs, rfl, hs6, hE6⟩; have hX6 : Ext w3 w6 := Ext.trans hX5 hE6; obtain ⟨A6, c6, rfl, -, -, -⟩ := SsAt.read hs6; rw [List.length_map]; clear hE6 hs6))
    go_ret
    exact ⟨ret_bool (by rw [HP.out]; rfl), HX3.out.trans hX6⟩
end Go.Proofs.YtjedhndhdkiidaaDoor
