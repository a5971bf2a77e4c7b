/- The walk over HittingDual. -/
import Derived.Test.YtdcbejccplonjaaDoorH10
namespace Go.Proofs.YtdcbejccplonjaaDoor
open Go.RowKit
attribute [local go_sem ↓] Go.wp_at_zero Go.wp_at_succ
set_option maxRecDepth 100000 in
set_option maxHeartbeats 8000000 in
theorem dual_law (xs : List Nat) (v : Value) (w : World) (h : Bs w v xs) (hu : U8 xs) (hT : Tab w) : Calls Tryd.prog 7 #[v] w (RetB true w) := by
  have HT := Lib.hid hT
  have HV := Lib.hid h
  have HU := Lib.hid hu
  obtain ⟨R, d1, d2, d3, d4, d5⟩ := dual8 hu
  have D1 := Lib.hid d1
  have D2 := Lib.hid d2
  have D5 := Lib.hid d5
  have hrl := Nat.le_trans (lsF_len R) (r_len d3 d4)
  have hll := Nat.le_trans (lsF_len (leastF (xs.take 10))) (least_length (xs.take 10))
  rw [List.length_take] at hll
  obtain ⟨La, hLa⟩ : ∃ La, lsF (leastF (xs.take 10)) = La := ⟨_, rfl⟩
  rw [hLa] at D1 D5 hll
  obtain ⟨Ra, hRa⟩ : ∃ Ra, lsF R = Ra := ⟨_, rfl⟩
  rw [hRa] at D2 D5 hrl
  clear h hu hT d1 d2 d3 d4 d5 hLa hRa
  have hfl := famF_len xs
  go_enter Tryd.func7, Tryd.ntmps7
  go_wp2_with fail
  refine (sets_any xs v w HV.out HU.out).mono ?_
  rintro e1 w1 ⟨v1, rfl, hr1, hE1⟩
  have HE1 := Lib.hid hE1
  have RD := Lib.hid (reduce_any _ v1 w1 hr1 (by omega) (HT.out.ext hE1))
  rw [D1.out] at RD
  clear hr1 hE1
  go_wp2_with fail
  refine RD.out.mono ?_
  rintro e2 w2 ⟨v2, rfl, hr2, hE2⟩
  have HR2 := Lib.hid hr2
  have HE2 := Lib.hid (HE1.out.trans hE2)
  clear hr2 hE2 RD
  go_wp2_with fail
  refine (sets_any xs v w2 (HV.out.ext HE2.out) HU.out).mono ?_
  rintro e3 w3 ⟨v3, rfl, hr3, hE3⟩
  have HE3 := Lib.hid hE3
  have RD := Lib.hid (minimal_any _ v3 8 w3 hr3 (by omega) (by omega) (HT.out.ext (HE2.out.trans hE3)))
  rw [D2.out] at RD
  clear hr3 hE3
  go_wp2_with fail
  refine RD.out.mono ?_
  rintro e4 w4 ⟨v4, rfl, hr4, hE4⟩
  have HR4 := Lib.hid hr4
  have HE4 := Lib.hid (HE3.out.trans hE4)
  clear hr4 hE4 RD
  go_wp2_with fail
  refine (awake_any w4 (HT.out.ext (HE2.out.trans HE4.out))).mono ?_
  rintro e5 w5 ⟨rfl, hE5⟩
  have HE5 := Lib.hid hE5
  clear hE5
  obtain ⟨M, mc, e6, -, -, -⟩ := HR4.out.read
  subst e6
  by_cases h64 : Ra.length ≤ 64
  · have RM := Lib.hid (minimal_any _ _ 8 w5 (HR4.out.ext HE5.out) (by omega) (by omega) (HT.out.ext ((HE2.out.trans HE4.out).trans HE5.out)))
    rw [D5.out h64] at RM
    go_wp2_with fail
    refine RM.out.mono ?_
    rintro e7 w7 ⟨v7, rfl, hr7, hE7⟩
    have HR7 := Lib.hid hr7
    have HE7 := Lib.hid hE7
    clear hr7 hE7 RM
    have HR2' := Lib.hid (HR2.out.ext ((HE4.out.trans HE5.out).trans HE7.out))
    obtain ⟨L, lc, e8, -, -, -⟩ := HR2.out.read
    subst e8
    go_wp2_with fail
    refine (same_any _ _ _ _ _ (HR7.out.ext ((Ext.refl _).alloc _)) (rss1 (x := La) rfl rfl HR2'.out) (by simp; omega) (by simp)).mono ?_
    rintro e9 w9 ⟨rfl, hE9⟩
    have HE9 : Hid (Ext w7 w9) := Lib.hid (((Ext.refl w7).alloc _).trans hE9)
    rw [show decide (La = [La].flatten) = true by simp]
    clear hE9
    go_wp2_with fail
    go_ret
    exact ⟨rfl, (((HE2.out.trans HE4.out).trans HE5.out).trans HE7.out).trans HE9.out⟩
  · have q1 : (64 : Int) < ((Ra.length : Nat) : Int) := by omega
    go_wp2_with fail
    go_ret
    exact ⟨rfl, (HE2.out.trans HE4.out).trans HE5.out⟩
end Go.Proofs.YtdcbejccplonjaaDoor
