/- The walks over hits, smallest, lists; slices.SortFunc at lists of numbers. -/
import Derived.Test.YtdcbejccplonjaaDoorB10
import Derived.Test.YtdcbejccplonjaaDoorH9
import Derived.Test.YtdcbejccplonjaaDoorShelf2
namespace Go.Proofs.YtdcbejccplonjaaDoor
open Go.RowKit
attribute [local go_sem ↓] Go.wp_at_zero Go.wp_at_succ
/-- What the search finds is bounded by the sets found. -/
theorem small_zero {sets : List Nat} {n : Nat} (h : searchF sets n 0 ≠ []) : 0 < (searchF sets n 0).length := List.length_pos_iff.2 h
theorem smallFrom_succ (sets : List Nat) (most k n : Nat) : smallFrom sets most (k + 1) n = if searchF sets n 0 = [] then smallFrom sets most k (n + 1) else n := by
  rw [smallFrom]
def RetK (n : Nat) (w : World) (e : Ending) (w' : World) : Prop := e = .returned (.int .i64 (n : Int)) ∧ Ext w w'
set_option maxHeartbeats 4000000 in
theorem smallest_any (sets : List Nat) (vs : Value) (most : Nat) (w : World) (hs : Us w vs sets) (hu : U64 sets) (hl : sets.length ≤ 64) (hT : Tab w) (hm : smallF sets most ≤ 64) (hM : most ≤ 9223372036854775807) : Calls Tryd.prog 32 #[vs, .int .i64 (most : Int)] w (RetK (smallF sets most) w) := by
  have HU := Lib.hid hu
  have HT := Lib.hid hT
  have HSs := Lib.hid hs
  have HM := Lib.hid hm
  obtain ⟨S, cs, rfl, _, _, RS⟩ := hs.read
  clear RS hs hu hT hm
  go_enter Tryd.func32, Tryd.ntmps32
  go_wp2_with fail
  go_loopw [5, 6] (fun i _ wr => ∃ k n : Nat, i = iV (n : Int) ∧ 1 ≤ n ∧ n + k = min most sets.length + 1 ∧ smallF sets most = smallFrom sets most k n ∧ Ext w wr) (fun i _ _ => 66 - (intOf i).toNat)
  case atStart => exact ⟨min most sets.length, 1, rfl, by omega, by omega, rfl, Ext.refl _⟩
  case round =>
    obtain ⟨k, n, rfl, hn, hk, he, hE⟩ := hrel
    have HE := Lib.hid he
    have HX := Lib.hid hE
    clear he hE
    by_cases hle : n ≤ min most sets.length
    · obtain ⟨k, rfl⟩ : ∃ k', k = k' + 1 := ⟨k - 1, by omega⟩
      have HS := Lib.hid (smallFrom_succ sets most k n)
      have NS := Lib.hid (newSearch_any sets (.slice S sets.length cs) n 0 wr (HSs.out.ext HX.out) HU.out hl (HT.out.ext HX.out))
      have q1 : (n : Int) ≤ min (most : Int) (sets.length : Int) := by omega
      go_wp2_with fail
      refine NS.out.mono ?_
      rintro e1 w1 ⟨g, rfl, hg, hS, hE1⟩
      have SR := Lib.hid (search_any (wB := wr) hE1 hg hS (HSs.out.ext HX.out) HU.out hl (HT.out.ext HX.out) (by omega))
      clear hS NS
      go_wp2_with fail
      refine SR.out.mono ?_
      rintro e2 w2 ⟨rfl, hE2, vf, d67, hr⟩
      have HX2 := Lib.hid (HX.out.trans hE2)
      obtain ⟨F, cf, e3, -, -⟩ := hr.form
      rw [List.length_map] at e3
      subst e3
      by_cases h0 : searchF sets n 0 = []
      · have HN : Hid (smallF sets most = smallFrom sets most k (n + 1)) := by rw [HE.out, HS.out, if_pos h0]; exact Lib.hid rfl
        rw [h0] at d67
        clear hr h0 SR HS HE
        go_wp2_with fail
        exact ⟨⟨k, n + 1, by go_num, by omega, by omega, HN.out, HX2.out⟩, by simp [intOf]; omega⟩
      · have hpos := List.length_pos_iff.2 h0
        have HN : Hid (smallF sets most = n) := by rw [HE.out, HS.out, if_neg h0]; exact Lib.hid rfl
        clear hr h0 SR HS HE
        go_wp2_with fail
        go_ret
        exact ⟨ret_int (by rw [HN.out]), HX2.out⟩
    · obtain rfl : k = 0 := by omega
      have HN : Hid (smallF sets most = most + 1) := by rw [HE.out, smallFrom]; exact Lib.hid rfl
      have hm1 : most ≤ 63 := by have := HM.out; rw [HN.out] at this; omega
      have wq : IntKind.i64.wrap ((most : Int) + 1) = ((most + 1 : Nat) : Int) := by rw [IntWalk.i64_in _ (by omega)]; omega
      have q1 : min (most : Int) (sets.length : Int) < (n : Int) := by omega
      go_wp2_with fail
      go_ret
      exact ⟨ret_int (by rw [HN.out]; omega), HX.out⟩
end Go.Proofs.YtdcbejccplonjaaDoor
