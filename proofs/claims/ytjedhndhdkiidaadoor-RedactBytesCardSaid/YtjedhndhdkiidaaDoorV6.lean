/- The reference: names, check, numbers, what is committed to. -/
import Derived.Test.YtjedhndhdkiidaaDoorV5
namespace Go.Proofs.YtjedhndhdkiidaaDoor
open Go.RowKit
attribute [local go_sem ↓] Go.wp_at_zero Go.wp_at_succ
attribute [local go_sem] baSize baList baGet
set_option maxRecDepth 100000 in
theorem has23_ok (s : List UInt8) (ss : List (List UInt8)) (v : Value) (w : World) (h : SsAt w v ss) : Calls Tryd.prog 23 #[v, sV s] w (RetP (.bool (decide (s ∈ ss))) w) := by
  obtain ⟨A, c, rfl, h1, h2, h3⟩ := h.read
  have HR := Lib.hid h3
  have HL : Hid (ss.length ≤ 9223372036854775807) := Lib.hid (by unfold maxLen at h2; omega)
  clear h h3 h2 h1
  go_enter Tryd.func23, Tryd.ntmps23
  go_wp2_with fail
  go_loopw [9] (fun i wr => ∃ k : Nat, k ≤ ss.length ∧ i = iV (k : Int) ∧ wr = w ∧ s ∉ ss.take k) (fun i _ => ss.length - (intOf i).toNat)
  case atStart => exact ⟨0, by omega, rfl, rfl, by simp⟩
  case round =>
    obtain ⟨k, hk, rfl, rfl, ha⟩ := hrel
    by_cases hlt : k < ss.length
    · have q1 : (k : Int) < (ss.length : Int) := by omega
      have q0 : (0 : Int) ≤ (k : Int) := by omega
      have q2 : (k : Int) < 9223372036854775807 := by have := HL.out; omega
      obtain ⟨b, o, rfl, hb, c0⟩ := HR.out wr (Ext.refl _) k hlt
      obtain ⟨t, ht⟩ : ∃ t, ss.getD k [] = t := ⟨_, rfl⟩
      rw [ht] at c0
      by_cases hst : s = t
      · have q3 : (s == t) = true := by simp [hst]
        go_wp2_with fail
        go_ret
        have hm : s ∈ ss := by
          rw [hst, ← ht, List.getD_eq_getElem?_getD, List.getElem?_eq_getElem hlt]
          exact List.getElem_mem hlt
        exact ⟨by rw [decide_eq_true hm]; rfl, rfl⟩
      · have q3 : (s == t) = false := by simp [hst]
        go_wp2_with fail
        exact ⟨⟨k + 1, by omega, by go_num, trivial, not_mem_take hlt ha (by rw [ht]; exact hst)⟩, by simp [intOf]; omega⟩
    · obtain rfl : k = ss.length := by omega
      rw [List.take_length] at ha
      go_wp2_with fail
      go_ret
      exact ⟨by rw [decide_eq_false ha]; rfl, rfl⟩
set_option maxRecDepth 100000 in
theorem name35_ok (s : List UInt8) (w : World) (hl : s.length ≤ 9223372036854775807) : Calls Tryd.prog 35 #[sV s] w (RetP (.bool (okN s)) w) := by
  go_enter Tryd.func35, Tryd.ntmps35
  go_wp2_with fail
  go_loopw [3] (fun i wr => ∃ k : Nat, k ≤ s.length ∧ i = iV (k : Int) ∧ wr = w ∧ (s.take k).all okC = true) (fun i _ => s.length - (intOf i).toNat)
  case atStart => exact ⟨0, by omega, rfl, rfl, rfl⟩
  case round =>
    obtain ⟨k, hk, rfl, rfl, ha⟩ := hrel
    by_cases hlt : k < s.length
    · have q1 : (k : Int) < (s.length : Int) := by omega
      have q0 : (0 : Int) ≤ (k : Int) := by omega
      have q2 : (k : Int) < 9223372036854775807 := by omega
      obtain ⟨b, hb⟩ : ∃ b, s[k] = b := ⟨_, rfl⟩
      have hs : s.take (k + 1) = s.take k ++ [b] := by rw [List.take_succ_eq_append_getElem hlt, hb]
      have hall : okC b = false → s.all okC = false := fun h => by
        rw [List.all_eq_false]
        exact ⟨b, by rw [← hb]; exact List.getElem_mem hlt, by simp [h]⟩
      by_cases h3 : b.toNat < 33
      · have q3 : ((b.toNat : Nat) : Int) < 33 := by omega
        go_wp2_with fail
        go_ret
        exact ⟨by unfold okN; rw [hall (by unfold okC; simp; omega)]; simp, rfl⟩
      · by_cases h4 : 126 < b.toNat
        · have q3 : ¬ ((b.toNat : Nat) : Int) < 33 := by omega
          have q4 : (126 : Int) < ((b.toNat : Nat) : Int) := by omega
          go_wp2_with fail
          go_ret
          exact ⟨by unfold okN; rw [hall (by unfold okC; simp; omega)]; simp, rfl⟩
        · have q3 : ¬ ((b.toNat : Nat) : Int) < 33 := by omega
          have q4 : ¬ (126 : Int) < ((b.toNat : Nat) : Int) := by omega
          go_wp2_with fail
          refine ⟨⟨k + 1, by omega, by go_num, trivial, ?_⟩, by simp [intOf]; omega⟩
          rw [hs, List.all_append, ha]
          simp [okC]
          omega
    · obtain rfl : k = s.length := by omega
      rw [List.take_length] at ha
      by_cases h1 : 1 ≤ s.length
      · by_cases h2 : s.length ≤ 32
        · have q3 : (1 : Int) ≤ (s.length : Int) := by omega
          have q4 : (s.length : Int) ≤ 32 := by omega
          go_wp2_with fail
          go_ret
          exact ⟨by unfold okN; rw [ha]; simp; omega, rfl⟩
        · have q3 : (1 : Int) ≤ (s.length : Int) := by omega
          have q4 : decide ((s.length : Int) ≤ 32) = false := by rw [decide_eq_false_iff_not]; omega
          go_wp2_with fail
          go_ret
          exact ⟨by unfold okN; rw [ha]; simp; omega, rfl⟩
      · have q3 : decide ((1 : Int) ≤ (s.length : Int)) = false := by rw [decide_eq_false_iff_not]; omega
        go_wp2_with fail
        go_ret
        exact ⟨by unfold okN; rw [ha]; simp; omega, rfl⟩
theorem bv_snoc (xs : List UInt8) {n : Nat} (h : n < 256) : bv xs ++ [[Value.int .u8 (n : Int)]] = bv (xs ++ [UInt8.ofNat n]) := by
  have e : (UInt8.ofNat n).toNat = n := by simp; omega
  rw [bv_app]
  simp only [bv, List.map_cons, List.map_nil, e]
set_option maxRecDepth 100000 in
set_option maxHeartbeats 2000000 in
theorem uint44_ok (n : Nat) (w : World) (hn : n ≤ 1000000) : Calls Tryd.prog 44 #[.int .i64 (n : Int)] w (RetBy (putU n) w) := by
  go_enter Tryd.func44, Tryd.ntmps44
  go_wp2_with fail
  go_loopw [0, 3] (fun i t wr => ∃ (m : Nat) (v : Value) (xs : List UInt8), i = iV (m : Int) ∧ t = v ∧ m ≤ 1000000 ∧ xs.length ≤ 1000000 - m ∧ Row 1 wr w.heap.size 5 v (bv xs) ∧ xs ++ putU m = putU n ∧ Ext w wr) (fun i _ _ => (intOf i).toNat)
  case atStart => exact ⟨n, _, [], rfl, rfl, hn, by simp, Row.nil _ _ _ _, rfl, Ext.refl _⟩
  case round =>
    obtain ⟨m, v, xs, rfl, rfl, hm, hxl, hR, he, hX⟩ := hrel
    by_cases hlt : m < 128
    · have q1 : ¬ (127 : Int) < (m : Int) := by omega
      have q0 : (m : Int) % 256 = (m : Int) := by omega
      have HR := Lib.hid hR
      have HX := Lib.hid hX
      have HE := Lib.hid he
      have HL : Hid ((bv xs).length ≤ 1000000) := Lib.hid (by rw [bv_len]; omega)
      clear hR hX he
      go_wp2_with (at_builtin; go_loud (refine wapp el38 rfl (.tmp 15) (.tmp 18) rfl (w5 := w) (vs := bv xs) (us := [[.int .u8 (m : Int)]]) rfl (HX.out.alloc _) (HR.out.ext ((Ext.refl _).alloc _)) rfl rfl (Wide.one rfl) (vs1 _ _ _) (by simp; rfl) (by have := HL.out; simp; omega) (by have := HL.out; simp; omega) ?_; intro v1 w1 hr1 hE1 hg1 hb1; have HR1 := Lib.hid hr1; have HE1 := Lib.hid hE1; clear hr1 hE1 hg1 hb1))
      go_ret
      refine ⟨_, rfl, ?_, HE1.out⟩
      have e : putU n = xs ++ [UInt8.ofNat m] := by rw [← HE.out, putU_small hlt]
      rw [e]
      have := HR1.out
      rw [bv_snoc xs (by omega)] at this
      exact this
    · have q1 : (127 : Int) < (m : Int) := by omega
      have HR := Lib.hid hR
      have HX := Lib.hid hX
      have HE := Lib.hid he
      have HL : Hid ((bv xs).length ≤ 1000000) := Lib.hid (by rw [bv_len]; omega)
      clear hR hX he
      go_wp2_with (at_builtin; go_loud (refine wapp el38 rfl (.tmp 6) (.tmp 11) rfl (w5 := w) (vs := bv xs) (us := [[.int .u8 ((m : Int) % 128 + 128)]]) rfl (HX.out.alloc _) (HR.out.ext ((Ext.refl _).alloc _)) rfl rfl (Wide.one rfl) (vs1 _ _ _) (by simp; rfl) (by have := HL.out; simp; omega) (by have := HL.out; simp; omega) ?_; intro v1 w1 hr1 hE1 hg1 hb1; have HR1 := Lib.hid hr1; have HE1 := Lib.hid hE1; clear hr1 hE1 hg1 hb1))
      go_wp2_with fail
      have hr := HR1.out
      rw [show (m : Int) % 128 + 128 = ((m % 128 + 128 : Nat) : Int) by omega, bv_snoc xs (by omega)] at hr
      refine ⟨⟨m / 128, v1, xs ++ [UInt8.ofNat (m % 128 + 128)], rfl, rfl, by omega, ?_, hr, ?_, HE1.out⟩, ?_⟩
      · rw [List.length_append]
        simp
        omega
      · rw [← HE.out, putU_large hlt, List.append_assoc]
        rfl
      · simp [intOf]
        omega
set_option maxRecDepth 100000 in
/-- A length and bytes. -/
theorem put45_ok (v : Value) (ys : List UInt8) (w : World) (h : SlB w v ys) (hy : ys.length ≤ 1000000) : Calls Tryd.prog 45 #[v] w (RetBy (putU ys.length ++ ys) w) := by
  obtain ⟨A', c', rfl, k1, k2, kb⟩ := h
  have KB := Lib.hid kb.vs
  have KW := Lib.hid (bv_wide ys)
  have KO := Lib.hid (bv_one ys)
  have KL : Hid ((bv ys).length = ys.length) := Lib.hid (bv_len ys)
  have CU := Lib.hid (uint44_ok ys.length w hy)
  obtain ⟨zs, hzs⟩ : ∃ zs, putU ys.length = zs := ⟨_, rfl⟩
  rw [hzs] at CU ⊢
  have ZL : Hid ((bv zs).length ≤ 1000) := Lib.hid (by
    rw [bv_len, ← hzs]
    have := putU_len (k := 9) (v := ys.length) (by omega)
    omega)
  clear kb k1 k2 hzs
  go_enter Tryd.func45, Tryd.ntmps45
  go_wp2_with fail
  refine CU.out.mono ?_
  rintro _ w1 ⟨v1, rfl, hr1, hE1⟩
  have HR1 := Lib.hid hr1
  have HE1 := Lib.hid hE1
  clear hr1 hE1 CU
  go_wp2_with (at_builtin; go_loud (refine wapp el38 rfl (.tmp 5) (.tmp 6) rfl (w5 := w) (vs := bv zs) (us := bv ys) rfl HE1.out HR1.out rfl (by rw [KL.out]) KW.out (KB.out.ext HE1.out) KO.out (by rw [KL.out]; have := ZL.out; omega) (by rw [KL.out]; have := ZL.out; omega) ?_; intro v4 w4 hr4 hE4 hg4 hb4; rw [← bv_app] at hr4; have HR4 := Lib.hid hr4; have HE4 := Lib.hid hE4; clear hr4 hE4 hg4 hb4))
  go_ret
  exact ⟨_, rfl, HR4.out, HE4.out⟩
set_option maxRecDepth 100000 in
/-- What a field's commitment is the leaf of. -/
theorem committed39_ok (nm : List UInt8) (v s : Value) (vl sl : List UInt8) (w : World) (hv : SlB w v vl) (hs : SlB w s sl) (h1 : vl.length ≤ 1000000) (h2 : sl.length ≤ 1000000) : Calls Tryd.prog 39 #[.agg #[sV nm, v, s]] w (RetBy (sl ++ putU vl.length ++ vl) w) := by
  have CP := Lib.hid (fun W (hW : Ext w W) => put45_ok v vl W (hv.ext hW) h1)
  obtain ⟨A, c, rfl, -, -, -⟩ := hv
  obtain ⟨A', c', rfl, k1, k2, kb⟩ := hs
  have KB := Lib.hid kb.vs
  have KW := Lib.hid (bv_wide sl)
  have KO := Lib.hid (bv_one sl)
  have KL : Hid ((bv sl).length = sl.length) := Lib.hid (bv_len sl)
  obtain ⟨zs, hzs⟩ : ∃ zs, putU vl.length ++ vl = zs := ⟨_, rfl⟩
  rw [List.append_assoc, hzs]
  rw [hzs] at CP
  have ZL : Hid (zs.length ≤ 1000010) := Lib.hid (by
    rw [← hzs, List.length_append]
    have := putU_len (k := 9) (v := vl.length) (by omega)
    omega)
  have ZW := Lib.hid (bv_wide zs)
  have ZO := Lib.hid (bv_one zs)
  have ZN : Hid ((bv zs).length = zs.length) := Lib.hid (bv_len zs)
  clear kb k1 k2 hzs
  go_enter Tryd.func39, Tryd.ntmps39
  go_upto_region 1 with fail
  generalize hwB : w.alloc (.cells #[.string ⟨nm.toArray⟩, .slice A vl.length c, .slice A' sl.length c'] 58) = wB
  have t1 : wB.cell? ⟨w.heap.size, 1, none⟩ = some (.slice A vl.length c) := by rw [← hwB]; exact new_at _ _ _ 1 _ rfl
  have t2 : wB.cell? ⟨w.heap.size, 2, none⟩ = some (.slice A' sl.length c') := by rw [← hwB]; exact new_at _ _ _ 2 _ rfl
  have HT := Lib.hid t1
  have HE0 : Hid (Ext w wB) := Lib.hid (by rw [← hwB]; exact (Ext.refl _).alloc _)
  clear hwB t1
  go_upto_region 3 with (at_builtin; go_loud (refine wapp el38 rfl (.tmp 4) (.tmp 6) rfl (w5 := wB) (vs := []) (us := bv sl) rfl (Ext.refl _) (Row.nil _ _ _ _) rfl (by rw [KL.out]) KW.out (KB.out.ext HE0.out) KO.out (by rw [KL.out, List.length_nil]; omega) (by rw [KL.out, List.length_nil]; omega) ?_; intro v1 w1 hr1 hE1 hg1 hb1; rw [List.nil_append] at hr1; have HR1 := Lib.hid hr1; have HE1 := Lib.hid hE1; clear hr1 hE1 hg1 hb1))
  have t1 := HE1.out.cell HT.out
  go_wp2_with fail
  refine (CP.out _ (HE0.out.trans HE1.out)).mono ?_
  rintro _ w2 ⟨v2, rfl, hr2, hE2⟩
  obtain ⟨A2, c2, rfl, b2, -, -, -⟩ := hr2.bytes
  have HB2 := Lib.hid b2.vs
  have HE2 := Lib.hid hE2
  clear hr2 b2 hE2 t1 t2
  go_wp2_with (at_builtin; go_loud (refine wapp el38 rfl (.tmp 8) (.tmp 11) rfl (w5 := wB) (vs := bv sl) (us := bv zs) rfl (HE1.out.trans HE2.out) (HR1.out.ext HE2.out) rfl (by rw [ZN.out]) ZW.out HB2.out ZO.out (by rw [KL.out, ZN.out]; have := ZL.out; omega) (by rw [KL.out, ZN.out]; have := ZL.out; omega) ?_; intro v4 w4 hr4 hE4 hg4 hb4; rw [← bv_app] at hr4; have HR4 := Lib.hid hr4; have HE4 := Lib.hid hE4; clear hr4 hE4 hg4 hb4))
  go_ret
  exact ⟨_, rfl, HR4.out.base HE0.out.size, HE0.out.trans HE4.out⟩
end Go.Proofs.YtjedhndhdkiidaaDoor
