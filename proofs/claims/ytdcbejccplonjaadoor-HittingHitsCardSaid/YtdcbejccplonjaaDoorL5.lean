/- The walk over HittingHits. -/
import Derived.Test.YtdcbejccplonjaaDoorL2
import Derived.Test.YtdcbejccplonjaaDoorB30
namespace Go.Proofs.YtdcbejccplonjaaDoor
open Go.RowKit
attribute [local go_sem ↓] Go.wp_at_zero Go.wp_at_succ
set_option maxRecDepth 100000 in
set_option maxHeartbeats 8000000 in
theorem hits_law (set : List Int) (v0 : Value) (other : List Int) (v1 : Value) (ls : List (List Int)) (v2 : Value) (w : World) (hs : Is w v0 set) (ho : Is w v1 other) (h : Rs w v2 ls) (hT : Tab w) : Calls Tryd.prog 9 #[v0, v1, v2] w (RetB true w) := by
  have HT := Lib.hid hT
  have SH := Lib.hid (short_any ls v2 w h)
  have HS := Lib.hid hs
  have HO := Lib.hid ho
  obtain ⟨fam, hfam⟩ : ∃ fam, shortF ls = fam := ⟨_, rfl⟩
  rw [hfam] at SH
  obtain ⟨S, sc, rfl, -, -, -⟩ := hs.read
  obtain ⟨O, oc, rfl, -, -, -⟩ := ho.read
  clear h hT hfam hs ho
  go_enter Tryd.func9, Tryd.ntmps9
  go_wp2_with fail
  refine SH.out.mono ?_
  rintro e1 w1 ⟨v3, rfl, hr1, hE1⟩
  have HR1 := Lib.hid hr1
  have HE1 := Lib.hid hE1
  clear hr1 hE1 SH
  by_cases hbig : 70 < set.length ∨ 70 < other.length
  · have hor : (70 : Int) < (set.length : Int) ∨ ((set.length : Int) ≤ 70 ∧ (70 : Int) < (other.length : Int)) := by omega
    clear hbig
    rcases hor with h1 | ⟨h1, h2⟩
    · go_wp2_with fail
      refine (awake_any _ (HT.out.ext HE1.out)).mono ?_
      rintro e4 w4 ⟨rfl, hE4⟩
      have HE4 := Lib.hid hE4
      clear hE4
      go_wp2_with fail
      go_ret
      exact ⟨rfl, HE1.out.trans HE4.out⟩
    · go_wp2_with fail
      refine (awake_any _ (HT.out.ext HE1.out)).mono ?_
      rintro e4 w4 ⟨rfl, hE4⟩
      have HE4 := Lib.hid hE4
      clear hE4
      go_wp2_with fail
      go_ret
      exact ⟨rfl, HE1.out.trans HE4.out⟩
  · have h1 : (set.length : Int) ≤ 70 := by omega
    have h2 : (other.length : Int) ≤ 70 := by omega
    clear hbig
    go_wp2_with fail
    refine (awake_any _ (HT.out.ext HE1.out)).mono ?_
    rintro e4 w4 ⟨rfl, hE4⟩
    have HE4 := Lib.hid (HE1.out.trans hE4)
    have HR4 := Lib.hid (HR1.out.ext hE4)
    clear hE4
    have HM := Lib.hid (hitsM_any set fam (.slice S set.length sc) v3 w4 (HS.out.ext HE4.out) HR4.out)
    generalize hb : hitsR set fam = b at *
    have HB := Lib.hid hb
    clear hb
    go_wp2_with fail
    refine HM.out.mono ?_
    rintro e5 w5 ⟨rfl, hE5⟩
    have HE5 := Lib.hid (HE4.out.trans hE5)
    have RM := Lib.hid (rhits_any set fam (.slice S set.length sc) v3 w5 (HS.out.ext HE5.out) (HR4.out.ext hE5))
    rw [HB.out] at RM
    clear hE5 HM
    go_wp2_with fail
    refine RM.out.mono ?_
    rintro e6 w6 ⟨rfl, rfl⟩
    have LS := Lib.hid (less_any set other (.slice S set.length sc) (.slice O other.length oc) w5 (HS.out.ext HE5.out) (HO.out.ext HE5.out))
    generalize hd : decide (cmpF set other < 0) = d at *
    have HD := Lib.hid hd
    clear hd RM
    have tb : (b == b) = true := by simp
    have td : (d == d) = true := by simp
    go_wp2_with fail
    refine LS.out.mono ?_
    rintro e7 w7 ⟨rfl, hE7⟩
    have HE7 := Lib.hid (HE5.out.trans hE7)
    have RL := Lib.hid (rless_any set other (.slice S set.length sc) (.slice O other.length oc) w7 (HS.out.ext HE7.out) (HO.out.ext HE7.out))
    rw [HD.out] at RL
    clear hE7 LS
    go_wp2_with fail
    refine RL.out.mono ?_
    rintro e8 w8 ⟨rfl, hE8⟩
    have HE8 := Lib.hid (HE7.out.trans hE8)
    clear hE8 RL
    go_wp2_with fail
    go_ret
    exact ⟨ret_bool (by cases b <;> cases d <;> rfl), HE8.out⟩
end Go.Proofs.YtdcbejccplonjaaDoor
