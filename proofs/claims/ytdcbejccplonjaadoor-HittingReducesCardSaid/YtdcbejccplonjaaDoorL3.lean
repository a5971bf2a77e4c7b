/- The walk over HittingReduces. -/
import Derived.Test.YtdcbejccplonjaaDoorL2
import Derived.Test.YtdcbejccplonjaaDoorB27
namespace Go.Proofs.YtdcbejccplonjaaDoor
open Go.RowKit
attribute [local go_sem ↓] Go.wp_at_zero Go.wp_at_succ
theorem redRes_valid {fam : List (List Int)} (hv : validR fam = true) : redRes fam = (redR fam, 0) := by
  obtain ⟨hr, hf, _⟩ := read_valid hv
  rw [redRes_ok hr, red_mask hf]
theorem redRes_invalid {fam : List (List Int)} (hv : validR fam = false) : redRes fam = ([], 1) := redRes_none (read_invalid hv)
theorem redR_len (fam : List (List Int)) : (redR fam).length ≤ fam.length := by
  rw [← redTo_end]
  exact redTo_len fam _
set_option maxRecDepth 100000 in
set_option maxHeartbeats 8000000 in
theorem reduces_law (ls : List (List Int)) (v : Value) (w : World) (h : Rs w v ls) (hT : Tab w) : Calls Tryd.prog 6 #[v] w (RetB true w) := by
  have HT := Lib.hid hT
  have SH := Lib.hid (short_any ls v w h)
  have hfl := shortF_len ls
  obtain ⟨fam, hfam⟩ : ∃ fam, shortF ls = fam := ⟨_, rfl⟩
  rw [hfam] at SH hfl
  clear h hT hfam
  go_enter Tryd.func6, Tryd.ntmps6
  go_wp2_with fail
  refine SH.out.mono ?_
  rintro e1 w1 ⟨v1, rfl, hr1, hE1⟩
  have HR1 := Lib.hid hr1
  have HE1 := Lib.hid hE1
  have RD := Lib.hid (reduce_any fam v1 w1 hr1 (by omega) (HT.out.ext hE1))
  clear hr1 hE1 SH
  obtain ⟨A, c, e1, -, -, -⟩ := HR1.out.read
  subst e1
  have VA := Lib.hid (fun W (hW : Ext w1 W) => valid_any fam (.slice A fam.length c) W (HR1.out.ext hW))
  cases hv : validR fam with
  | false =>
    rw [redRes_invalid hv] at RD
    rw [hv] at VA
    clear hv
    go_wp2_with fail
    refine RD.out.mono ?_
    rintro e2 w2 ⟨v2, rfl, hr2, hE2⟩
    obtain ⟨N, nc, e3, -, -, -⟩ := hr2.read
    subst e3
    have HE2 := Lib.hid hE2
    clear hr2 hE2 RD
    go_wp2_with fail
    refine (VA.out _ HE2.out).mono ?_
    rintro e3 w3 ⟨rfl, rfl⟩
    go_wp2_with fail
    refine (awake_any _ (HT.out.ext (HE1.out.trans HE2.out))).mono ?_
    rintro e4 w4 ⟨rfl, hE4⟩
    have HE4 := Lib.hid hE4
    clear hE4
    go_wp2_with fail
    go_ret
    exact ⟨rfl, (HE1.out.trans HE2.out).trans HE4.out⟩
  | true =>
    rw [redRes_valid hv] at RD
    rw [hv] at VA
    have hrl := redR_len fam
    clear hv
    go_wp2_with fail
    refine RD.out.mono ?_
    rintro e2 w2 ⟨v2, rfl, hr2, hE2⟩
    have HR2 : Hid (Rs w2 v2 (redR fam)) := Lib.hid hr2
    have HE2 := Lib.hid hE2
    clear hr2 hE2 RD
    go_wp2_with fail
    refine (VA.out _ HE2.out).mono ?_
    rintro e3 w3 ⟨rfl, rfl⟩
    go_wp2_with fail
    refine (awake_any _ (HT.out.ext (HE1.out.trans HE2.out))).mono ?_
    rintro e4 w4 ⟨rfl, hE4⟩
    have HE4 := Lib.hid hE4
    have RR := Lib.hid (rreduce_any fam _ w4 (HR1.out.ext (HE2.out.trans hE4)) (by omega))
    clear hE4
    go_wp2_with fail
    refine RR.out.mono ?_
    rintro e5 w5 ⟨v5, rfl, hr5, hE5⟩
    have HR5 := Lib.hid hr5
    have HE5 := Lib.hid hE5
    obtain ⟨V, vc, e6, -, -, -⟩ := hr5.read
    subst e6
    clear hr5 hE5 RR
    go_wp2_with fail
    refine (same_any _ _ _ _ _ ((HR2.out.ext (HE4.out.trans HE5.out)).ext ((Ext.refl _).alloc _)) (rss1 (x := redR fam) rfl rfl HR5.out) (by simp; omega) (by simp)).mono ?_
    rintro e9 w9 ⟨rfl, hE9⟩
    have HE9 : Hid (Ext w5 w9) := Lib.hid (((Ext.refl w5).alloc _).trans hE9)
    rw [show decide (redR fam = [redR fam].flatten) = true by simp]
    clear hE9
    go_wp2_with fail
    go_ret
    exact ⟨rfl, (((HE1.out.trans HE2.out).trans HE4.out).trans HE5.out).trans HE9.out⟩
end Go.Proofs.YtdcbejccplonjaaDoor
