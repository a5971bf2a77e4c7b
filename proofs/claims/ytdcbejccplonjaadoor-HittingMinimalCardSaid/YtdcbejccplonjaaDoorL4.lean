/- The walk over HittingMinimal. -/
import Derived.Test.YtdcbejccplonjaaDoorH10
import Derived.Test.YtdcbejccplonjaaDoorB28
namespace Go.Proofs.YtdcbejccplonjaaDoor
open Go.RowKit
attribute [local go_sem ↓] Go.wp_at_zero Go.wp_at_succ
theorem minR8 {xs : List Nat} (hu : U8 xs) (m : Nat) : minRes (famF xs) (m : Int) = (minR (famF xs) 8 (m : Int), 0) := by
  have h8 := take8 hu
  obtain ⟨r, h1, _, h3⟩ := min8 (famF_read xs hu) h8 m
  rw [h1]
  have h8' : ∀ s ∈ (famF xs).map maskI, s < 256 := by rw [famF_masks hu]; exact h8
  rw [min_ref (famF_fam xs) h8' (r := r) (by rw [famF_masks hu]; exact h3)]
theorem minR_len (fam : List (List Int)) (most : Int) : (minR fam 8 most).length ≤ 256 := by
  rw [← minTo_end]
  exact minTo_len fam most 256
set_option maxRecDepth 100000 in
set_option maxHeartbeats 8000000 in
theorem minimal_law (xs : List Nat) (v : Value) (most : Int) (w : World) (h : Bs w v xs) (hu : U8 xs) (_h1 : -9223372036854775808 ≤ most) (h2 : most ≤ 9223372036854775807) (hT : Tab w) : Calls Tryd.prog 3 #[v, .int .i64 most] w (RetB true w) := by
  have HT := Lib.hid hT
  have HV := Lib.hid h
  have HU := Lib.hid hu
  have hfl := famF_len xs
  clear h hT
  go_enter Tryd.func3, Tryd.ntmps3
  go_wp2_with fail
  refine (sets_any xs v w HV.out HU.out).mono ?_
  rintro e1 w1 ⟨v1, rfl, hr1, hE1⟩
  have HE1 := Lib.hid hE1
  have MI := Lib.hid (minimal_any _ v1 most w1 hr1 (by omega) h2 (HT.out.ext hE1))
  clear hr1 hE1
  by_cases hm : most < 0
  · rw [minRes_neg (famF_read xs hu) hm] at MI
    go_wp2_with fail
    refine MI.out.mono ?_
    rintro e2 w2 ⟨v2, rfl, hr2, hE2⟩
    obtain ⟨N, nc, e3, -, -, -⟩ := hr2.read
    subst e3
    have HE2 := Lib.hid hE2
    clear hr2 hE2 MI
    go_wp2_with fail
    refine (awake_any _ (HT.out.ext (HE1.out.trans HE2.out))).mono ?_
    rintro e4 w4 ⟨rfl, hE4⟩
    have HE4 := Lib.hid hE4
    clear hE4
    go_wp2_with fail
    go_ret
    exact ⟨rfl, (HE1.out.trans HE2.out).trans HE4.out⟩
  · obtain ⟨m, rfl⟩ := Int.eq_ofNat_of_zero_le (show 0 ≤ most by omega)
    have hm' : ¬ ((m : Int) < 0) := by omega
    rw [minR8 hu m] at MI
    have hrl := minR_len (famF xs) (m : Int)
    clear hu
    go_wp2_with fail
    refine MI.out.mono ?_
    rintro e2 w2 ⟨v2, rfl, hr2, hE2⟩
    have HR2 : Hid (Rs w2 v2 (minR (famF xs) 8 (m : Int))) := Lib.hid hr2
    have HE2 := Lib.hid (HE1.out.trans hE2)
    clear hr2 hE2 MI
    go_wp2_with fail
    refine (awake_any _ (HT.out.ext HE2.out)).mono ?_
    rintro e4 w4 ⟨rfl, hE4⟩
    have HE4 := Lib.hid hE4
    clear hE4
    go_wp2_with fail
    refine (sets_any xs v w4 (HV.out.ext (HE2.out.trans HE4.out)) HU.out).mono ?_
    rintro e5 w5 ⟨v5, rfl, hr5, hE5⟩
    have HE5 := Lib.hid hE5
    have RM := Lib.hid (rminimal_any (famF xs) (m : Int) v5 w5 hr5)
    clear hr5 hE5
    go_wp2_with fail
    refine RM.out.mono ?_
    rintro e6 w6 ⟨v6, rfl, hr6, hE6⟩
    have HR6 := Lib.hid hr6
    have HE6 := Lib.hid hE6
    obtain ⟨V, vc, e6, -, -, -⟩ := hr6.read
    subst e6
    clear hr6 hE6 RM
    go_wp2_with fail
    refine (same_any _ _ _ _ _ ((HR2.out.ext ((HE4.out.trans HE5.out).trans HE6.out)).ext ((Ext.refl _).alloc _)) (rss1 (x := minR (famF xs) 8 (m : Int)) rfl rfl HR6.out) (by simp; omega) (by simp)).mono ?_
    rintro e9 w9 ⟨rfl, hE9⟩
    have HE9 : Hid (Ext w6 w9) := Lib.hid (((Ext.refl w6).alloc _).trans hE9)
    rw [show decide (minR (famF xs) 8 (m : Int) = [minR (famF xs) 8 (m : Int)].flatten) = true by simp]
    clear hE9
    go_wp2_with fail
    go_ret
    exact ⟨rfl, (((HE2.out.trans HE4.out).trans HE5.out).trans HE6.out).trans HE9.out⟩
end Go.Proofs.YtdcbejccplonjaaDoor
