/- The walk over HittingGreedy. -/
import Derived.Test.YtdcbejccplonjaaDoorL2
import Derived.Test.YtdcbejccplonjaaDoorB31
namespace Go.Proofs.YtdcbejccplonjaaDoor
open Go.RowKit
attribute [local go_sem ↓] Go.wp_at_zero Go.wp_at_succ
theorem greedy_least {fam : List (List Int)} (h : Fam fam) (h0 : 0 ∉ fam.map maskI) : leastR (nI (elems (greedyF (fam.map maskI)))) fam = true := by
  obtain ⟨h1, h2⟩ := greedy_min h0 (fam_u64 h)
  exact (least_mask h2 h).2 h1
set_option maxRecDepth 100000 in
set_option maxHeartbeats 8000000 in
theorem greedy_law (ls : List (List Int)) (v : Value) (w : World) (h : Rs w v ls) (hT : Tab w) : Calls Tryd.prog 5 #[v] w (RetB true w) := by
  have HT := Lib.hid hT
  have SH := Lib.hid (short_any ls v w h)
  have hfl := shortF_len ls
  obtain ⟨fam, hfam⟩ : ∃ fam, shortF ls = fam := ⟨_, rfl⟩
  rw [hfam] at SH hfl
  clear h hT hfam
  go_enter Tryd.func5, Tryd.ntmps5
  go_wp2_with fail
  refine SH.out.mono ?_
  rintro e1 w1 ⟨v1, rfl, hr1, hE1⟩
  have HR1 := Lib.hid hr1
  have HE1 := Lib.hid hE1
  have GR := Lib.hid (greedy_any fam v1 w1 hr1 (by omega) (HT.out.ext hE1))
  clear hr1 hE1 SH
  obtain ⟨A, c, e1, -, -, -⟩ := HR1.out.read
  subst e1
  have VA := Lib.hid (fun W (hW : Ext w1 W) => valid_any fam (.slice A fam.length c) W (HR1.out.ext hW))
  cases hv : validR fam with
  | false =>
    rw [greRes_none (read_invalid hv)] at GR
    rw [hv] at VA
    clear hv
    go_wp2_with fail
    refine GR.out.mono ?_
    rintro e2 w2 ⟨v2, rfl, hr2, hE2⟩
    obtain ⟨N, nc, e3, -, -, -⟩ := hr2.read
    subst e3
    have HE2 := Lib.hid hE2
    clear hr2 hE2 GR
    go_wp2_with fail
    refine (VA.out _ HE2.out).mono ?_
    rintro e3 w3 ⟨rfl, rfl⟩
    go_wp2_with fail
    refine (awake_any _ (HT.out.ext (HE1.out.trans HE2.out))).mono ?_
    rintro e4 w4 ⟨rfl, hE4⟩
    have HE4 := Lib.hid hE4
    clear hE4
    go_wp2_with fail
    go_ret
    exact ⟨rfl, (HE1.out.trans HE2.out).trans HE4.out⟩
  | true =>
    obtain ⟨hrd, hfm, -⟩ := read_valid hv
    have HFM := Lib.hid hfm
    have RG := Lib.hid (fun W (hW : Ext w1 W) => rgreedy_any fam (.slice A fam.length c) W (HR1.out.ext hW) hfm (by omega))
    rw [hv] at VA
    clear hv
    by_cases h0 : 0 ∈ fam.map maskI
    · rw [greRes_zero hrd h0] at GR
      rw [rgre_zero h0] at RG
      clear hrd hfm h0
      go_wp2_with fail
      refine GR.out.mono ?_
      rintro e2 w2 ⟨v2, rfl, hr2, hE2⟩
      obtain ⟨N, nc, e3, -, -, -⟩ := hr2.read
      subst e3
      have HE2 := Lib.hid hE2
      clear hr2 hE2 GR
      go_wp2_with fail
      refine (VA.out _ HE2.out).mono ?_
      rintro e3 w3 ⟨rfl, rfl⟩
      go_wp2_with fail
      refine (RG.out _ HE2.out).mono ?_
      rintro e4 w4 ⟨v4, rfl, -, hE4⟩
      have HE4 := Lib.hid (HE2.out.trans hE4)
      clear hE4
      go_wp2_with fail
      refine (awake_any _ (HT.out.ext (HE1.out.trans HE4.out))).mono ?_
      rintro e5 w5 ⟨rfl, hE5⟩
      have HE5 := Lib.hid hE5
      clear hE5
      go_wp2_with fail
      go_ret
      exact ⟨rfl, (HE1.out.trans HE4.out).trans HE5.out⟩
    · have HL := Lib.hid (greedy_least hfm h0)
      rw [greRes_ok hrd h0] at GR
      rw [rgre_ok h0] at RG
      have hcl : (nI (elems (greedyF (fam.map maskI)))).length ≤ 64 := by rw [nI_len]; exact card_le64 _
      obtain ⟨G, hG⟩ : ∃ G, nI (elems (greedyF (fam.map maskI))) = G := ⟨_, rfl⟩
      rw [hG] at GR RG HL hcl
      clear hrd hfm h0 hG
      go_wp2_with fail
      refine GR.out.mono ?_
      rintro e2 w2 ⟨v2, rfl, hr2, hE2⟩
      have HR2 : Hid (Is w2 v2 G) := Lib.hid hr2
      obtain ⟨N, nc, e3, -, -, -⟩ := hr2.read
      subst e3
      have HE2 := Lib.hid hE2
      clear hr2 hE2 GR
      go_wp2_with fail
      refine (VA.out _ HE2.out).mono ?_
      rintro e3 w3 ⟨rfl, rfl⟩
      go_wp2_with fail
      refine (RG.out _ HE2.out).mono ?_
      rintro e4 w4 ⟨v4, rfl, hr4, hE4⟩
      have HR4 : Hid (Is w4 v4 G) := Lib.hid hr4
      have HE4 := Lib.hid (HE2.out.trans hE4)
      have HE24 := Lib.hid hE4
      clear hE4 hr4
      go_wp2_with fail
      refine (awake_any _ (HT.out.ext (HE1.out.trans HE4.out))).mono ?_
      rintro e5 w5 ⟨rfl, hE5⟩
      have HE5 := Lib.hid (HE4.out.trans hE5)
      have HS2 := Lib.hid (HR2.out.ext (HE24.out.trans hE5))
      have HS4 := Lib.hid (HR4.out.ext hE5)
      clear hE5
      go_wp2_with fail
      refine (equal_any _ _ _ _ _ HS2.out HS4.out).mono ?_
      rintro e6 w6 ⟨rfl, hE6⟩
      have HE6 := Lib.hid (HE5.out.trans hE6)
      have HS6 := Lib.hid (HS2.out.ext hE6)
      clear hE6
      rw [show decide (G = G) = true by simp]
      go_wp2_with fail
      refine (rleast_any _ _ _ _ _ HS6.out (HR1.out.ext HE6.out) (by omega)).mono ?_
      rintro e7 w7 ⟨rfl, hE7⟩
      rw [HL.out]
      have HE7 := Lib.hid hE7
      clear hE7
      go_wp2_with fail
      go_ret
      exact ⟨rfl, (HE1.out.trans HE6.out).trans HE7.out⟩
end Go.Proofs.YtdcbejccplonjaaDoor
