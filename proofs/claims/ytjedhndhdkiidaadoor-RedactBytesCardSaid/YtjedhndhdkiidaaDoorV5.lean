/- Bytes that are written; clones. -/
import Derived.Test.YtjedhndhdkiidaaDoorV4
namespace Go.Proofs.YtjedhndhdkiidaaDoor
open Go.RowKit
attribute [local go_sem ↓] Go.wp_at_zero Go.wp_at_succ
attribute [local go_sem] baSize baList run_eqnil38
theorem run_eqnil38n (w : World) (n c : Nat) : (binOp .eql 38 (.slice none n c) (.slice none 0 0)).run Tryd.prog w = .ok (.bool true) w := by
  have h0 : ∀ d, (Op.equalIn (d + 1) 38 (.slice none n c) (.slice none 0 0)).run Tryd.prog w = .ok true w := fun d => by
    simp [Op.equalIn, run_underlying Tryd.underlying38, Result.andThen]
  have h1 : (Op.equal 38 (.slice none n c) (.slice none 0 0)).run Tryd.prog w = .ok true w := h0 9999
  simp only [binOp, Sem.run_bind]
  rw [h1]
  rfl
attribute [local go_sem] run_eqnil38n
/-- Bytes are handed back. -/
def RetSl (xs : List UInt8) (w : World) (e : Ending) (w' : World) : Prop := ∃ v, e = .returned v ∧ SlB w' v xs ∧ Ext w w'
theorem SlB.of_row {w : World} {B : Nat} {v : Value} {xs : List UInt8} (h : Row 1 w B 5 v (bv xs)) : SlB w v xs := by
  obtain ⟨A, c, e, h1, h2, h3, -⟩ := h.bytes
  exact ⟨A, c, e, h2, h3, h1⟩
theorem RetBy.sl {xs : List UInt8} {w : World} {e : Ending} {w' : World} (h : RetBy xs w e w') : RetSl xs w e w' := by
  obtain ⟨v, e, h1, h2⟩ := h
  exact ⟨v, e, SlB.of_row h1, h2⟩
theorem clone55_any (xs : List UInt8) (v : Value) (w : World) (h : SlB w v xs) (hl : xs.length ≤ 1000000) : Calls Tryd.prog 55 #[v] w (RetSl xs w) := by
  obtain ⟨A, c, rfl, h1, h2, hb⟩ := h
  cases A with
  | some ad => exact (clone55_ok xs ad c w hb hl).mono fun e w' h => h.sl
  | none =>
    have hx : xs = [] := by
      rcases Nat.eq_zero_or_pos xs.length with h0 | h0
      · exact List.eq_nil_of_length_eq_zero h0
      · obtain ⟨ad, e, -⟩ := hb h0
        cases e
    subst hx
    clear hb h1 h2
    go_enter Tryd.func55, Tryd.ntmps55
    go_wp2_with fail
    go_ret
    exact ⟨nilV, rfl, SlB.nil _, Ext.refl _⟩
theorem row_by {w : World} {B : Nat} {v : Value} {xs : List UInt8} (h : Row 1 w B 5 v (bv xs)) : ByRow w B v xs := by
  have := h.2
  rw [bv_len, bv_flat] at this
  exact this
theorem by_row {w : World} {B : Nat} {v : Value} {xs : List UInt8} (h : ByRow w B v xs) : Row 1 w B 5 v (bv xs) := ⟨bv_wide xs, by rw [bv_len, bv_flat]; exact h⟩
set_option maxRecDepth 100000 in
set_option maxHeartbeats 1000000 in
/-- num.PutUint at any bytes. -/
theorem putuint42_any (n : Nat) (v : Value) (xs : List UInt8) (w : World) (h : SlB w v xs) (hn : n < 18446744073709551616) (hx : xs.length ≤ 1000000) : Calls Tryd.prog 42 #[v, .int .u64 (n : Int)] w (RetBy (xs ++ putU n) w) := by
  obtain ⟨i0, hi0, hz0, hz1, hz2⟩ := info_parts Tryd.info5
  have I0 := Lib.hid hi0
  have Z0 := Lib.hid hz0
  have Z1 := Lib.hid hz1
  have Z2 := Lib.hid hz2
  obtain ⟨A, c, rfl, h1, h2, hb⟩ := h
  have HB := Lib.hid hb.vs
  have HW := Lib.hid (bv_wide xs)
  have HO := Lib.hid (bv_one xs)
  have HL : Hid ((bv xs).length = xs.length) := Lib.hid (bv_len xs)
  have HN := Lib.hid hn
  clear hi0 hz0 hz1 hz2 hb h1 h2 hn
  go_enter Tryd.func42, Tryd.ntmps42
  go_upto_region 2 with (at_make; refine wpList_make_own _ rfl _ _ 38 rfl w.heap.size 5 i0 _ 1 Tryd.underlying38 I0.out Z0.out Z1.out .i64 .i64 _ (xs.length + 10) rfl rfl (by simp) (by rw [Z2.out]; omega) (by unfold maxLen; omega) (Nat.le_refl _) ?_; intro w1 hown1 hgrow1)
  have E1 := Lib.hid (ext_of_grown hgrow1)
  have O1 : Hid (Row 1 w1 w.heap.size 5 _ []) := Lib.hid ⟨Wide.nil 1, hown1⟩
  clear hown1 hgrow1
  go_wp2_with (at_builtin; go_loud (refine wapp el38 rfl (.tmp 10) (.tmp 11) rfl (w5 := w) (vs := []) (us := bv xs) rfl E1.out O1.out rfl (by rw [HL.out]) HW.out (HB.out.ext E1.out) HO.out (by rw [HL.out, List.length_nil]; omega) (by rw [HL.out, List.length_nil]; omega) ?_; intro v2 w2 hr2 hE2 hg2 hb2; rw [List.nil_append] at hr2; have HR2 := Lib.hid hr2; have HE2 := Lib.hid hE2; clear hr2 hE2 hg2 hb2))
  refine (put_any w.heap.size n v2 xs w2 (row_by HR2.out) HE2.out.size HN.out (by omega)).mono ?_
  rintro e w3 ⟨v3, rfl, hr3, hg3⟩
  have R3 := Lib.hid (by_row hr3)
  have E3 : Hid (Ext w w3) := Lib.hid (ext_grow HE2.out hg3.g (fun k hk => (HR2.out.lt k hk).1))
  clear hr3 hg3
  go_wp2_with fail
  go_ret
  exact ⟨_, rfl, R3.out, E3.out⟩
set_option maxRecDepth 100000 in
set_option maxHeartbeats 1000000 in
/-- num.PutBytes. -/
theorem putbytes43_any (v t : Value) (xs ys : List UInt8) (w : World) (h : SlB w v xs) (k : SlB w t ys) (hx : xs.length ≤ 1000000) (hy : ys.length ≤ 1000000) : Calls Tryd.prog 43 #[v, t] w (RetBy (xs ++ putU ys.length ++ ys) w) := by
  obtain ⟨i0, hi0, hz0, hz1, hz2⟩ := info_parts Tryd.info5
  have I0 := Lib.hid hi0
  have Z0 := Lib.hid hz0
  have Z1 := Lib.hid hz1
  have Z2 := Lib.hid hz2
  obtain ⟨A, c, rfl, h1, h2, hb⟩ := h
  obtain ⟨A', c', rfl, k1, k2, kb⟩ := k
  have HB := Lib.hid hb.vs
  have HW := Lib.hid (bv_wide xs)
  have HO := Lib.hid (bv_one xs)
  have HL : Hid ((bv xs).length = xs.length) := Lib.hid (bv_len xs)
  have KB := Lib.hid kb.vs
  have KW := Lib.hid (bv_wide ys)
  have KO := Lib.hid (bv_one ys)
  have KL : Hid ((bv ys).length = ys.length) := Lib.hid (bv_len ys)
  obtain ⟨zs, hzs⟩ : ∃ zs, xs ++ putU ys.length = zs := ⟨_, rfl⟩
  have HP : Hid (zs.length ≤ 1000010) := Lib.hid (by
    rw [← hzs, List.length_append]
    have := putU_len (k := 9) (v := ys.length) (by omega)
    omega)
  have HZ := Lib.hid hzs
  rw [hzs]
  clear hi0 hz0 hz1 hz2 hb h1 h2 kb k1 k2 hzs
  go_enter Tryd.func43, Tryd.ntmps43
  go_upto_region 2 with (at_make; refine wpList_make_own _ rfl _ _ 38 rfl w.heap.size 5 i0 _ 1 Tryd.underlying38 I0.out Z0.out Z1.out .i64 .i64 _ (xs.length + 10 + ys.length) rfl rfl (by simp) (by rw [Z2.out]; omega) (by unfold maxLen; omega) (Nat.le_refl _) ?_; intro w1 hown1 hgrow1)
  have E1 := Lib.hid (ext_of_grown hgrow1)
  have O1 : Hid (Row 1 w1 w.heap.size 5 _ []) := Lib.hid ⟨Wide.nil 1, hown1⟩
  clear hown1 hgrow1
  go_wp2_with (at_builtin; go_loud (refine wapp el38 rfl (.tmp 13) (.tmp 14) rfl (w5 := w) (vs := []) (us := bv xs) rfl E1.out O1.out rfl (by rw [HL.out]) HW.out (HB.out.ext E1.out) HO.out (by rw [HL.out, List.length_nil]; omega) (by rw [HL.out, List.length_nil]; omega) ?_; intro v2 w2 hr2 hE2 hg2 hb2; rw [List.nil_append] at hr2; have HR2 := Lib.hid hr2; have HE2 := Lib.hid hE2; clear hr2 hE2 hg2 hb2))
  refine (put_any w.heap.size ys.length v2 xs w2 (row_by HR2.out) HE2.out.size (by omega) (by omega)).mono ?_
  rintro e w3 ⟨v3, rfl, hr3, hg3⟩
  rw [HZ.out] at hr3
  have R3 := Lib.hid (by_row hr3)
  have E3 : Hid (Ext w w3) := Lib.hid (ext_grow HE2.out hg3.g (fun k hk => (HR2.out.lt k hk).1))
  have ZL : Hid ((bv zs).length = zs.length) := Lib.hid (bv_len zs)
  clear hr3 hg3
  go_wp2_with (at_builtin; go_loud (refine wapp el38 rfl (.tmp 20) (.tmp 21) rfl (w5 := w) (vs := bv zs) (us := bv ys) rfl E3.out R3.out rfl (by rw [KL.out]) KW.out (KB.out.ext E3.out) KO.out (by rw [KL.out, ZL.out]; have := HP.out; omega) (by rw [KL.out, ZL.out]; have := HP.out; omega) ?_; intro v4 w4 hr4 hE4 hg4 hb4; rw [← bv_app] at hr4; have HR4 := Lib.hid hr4; have HE4 := Lib.hid hE4; clear hr4 hE4 hg4 hb4))
  go_ret
  exact ⟨_, rfl, HR4.out, HE4.out⟩
end Go.Proofs.YtjedhndhdkiidaaDoor
