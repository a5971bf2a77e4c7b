/- The walk over the reference's Minimal, at subsets of eight numbers. -/
import Derived.Test.YtdcbejccplonjaaDoorB27
namespace Go.Proofs.YtdcbejccplonjaaDoor
open Go.RowKit
attribute [local go_sem ↓] Go.wp_at_zero Go.wp_at_succ
theorem shr_biti (b : Nat) {k : Nat} (hb : b < 256) : bits .and .i64 ((b : Int) / (2 : Int) ^ k) 1 = (if b.testBit k = true then 1 else 0) := by
  have e : ((b : Int) / (2 : Int) ^ k) = ((b / 2 ^ k : Nat) : Int) := by rw [pow2]; exact (Int.natCast_ediv b (2 ^ k)).symm
  have l : b / 2 ^ k < 256 := Nat.lt_of_le_of_lt (Nat.div_le_self _ _) hb
  have h3 : bits .and .i64 ((b / 2 ^ k : Nat) : Int) 1 = ((b / 2 ^ k % 2 : Nat) : Int) := by
    generalize b / 2 ^ k = n at l
    have key : ∀ n, n < 256 → bits .and .i64 ((n : Nat) : Int) 1 = ((n % 2 : Nat) : Int) := by decide +kernel
    exact key n l
  rw [e, h3, Nat.testBit_eq_decide_div_mod_eq]
  have h2 := Nat.mod_two_eq_zero_or_one (b / 2 ^ k)
  rcases h2 with h | h <;> rw [h] <;> simp
def okM (fam : List (List Int)) (most : Int) (s : List Int) : Bool := decide ((s.length : Int) ≤ most) && leastR s fam
def minTo (fam : List (List Int)) (most : Int) (k : Nat) : List (List Int) := insAll (((List.range k).map fun b => nI (elems b)).filter (okM fam most))
theorem minTo_succ (fam : List (List Int)) (most : Int) (k : Nat) : minTo fam most (k + 1) = if okM fam most (nI (elems k)) = true then insF (nI (elems k)) (minTo fam most k) else minTo fam most k := by
  unfold minTo
  rw [List.range_succ, List.map_append, List.map_singleton, List.filter_append, List.filter_cons]
  split
  · rw [List.filter_nil, insAll_snoc]
  · rw [List.filter_nil, List.append_nil]
theorem minTo_end (fam : List (List Int)) (most : Int) : minTo fam most 256 = minR fam 8 most := rfl
theorem minTo_len (fam : List (List Int)) (most : Int) (k : Nat) : (minTo fam most k).length ≤ k := by
  unfold minTo
  have h1 := insAll_le (((List.range k).map fun b => nI (elems b)).filter (okM fam most))
  have h2 := List.length_filter_le (okM fam most) ((List.range k).map fun b => nI (elems b))
  rw [List.length_map, List.length_range] at h2
  omega
set_option maxRecDepth 100000 in
set_option maxHeartbeats 8000000 in
theorem rminimal_any (fam : List (List Int)) (most : Int) (v : Value) (w : World) (h : Rs w v fam) : Calls Tryd.prog 15 #[v, .int .i64 8, .int .i64 most] w (RetRs (minR fam 8 most) w) := by
  have HF := Lib.hid h
  clear h
  go_enter Tryd.func15, Tryd.ntmps15
  go_wp2_with fail
  go_loopw [7, 8] (fun t i wr => ∃ k : Nat, k ≤ 256 ∧ i = iV (k : Int) ∧ Rs wr t (minTo fam most k) ∧ Ext w wr) (fun _ i _ => 256 - (intOf i).toNat)
  case atStart => exact ⟨0, by omega, rfl, Rs.nil _, Ext.refl _⟩
  case round =>
    obtain ⟨k, hk, rfl, hr, hE⟩ := hrel
    have HO := Lib.hid hr
    have HE := Lib.hid hE
    clear hr hE
    by_cases hlt : k < 256
    · have HS := Lib.hid (minTo_succ fam most k)
      have hml := minTo_len fam most k
      have HB8 := Lib.hid (bitsTo_8 hlt)
      have hlt' : (k : Int) < 256 := by omega
      generalize hwr : wr = wc at *
      go_wp2_with fail
      go_loopw [9, 10] (fun s x wq => ∃ j : Nat, j ≤ 8 ∧ x = iV (j : Int) ∧ Row wq wc.heap.size 3 s ((nI (bitsTo k j)).map iV) ∧ Ext wc wq) (fun _ x _ => 8 - (intOf x).toNat)
      case atStart => exact ⟨0, by omega, rfl, Row.nil _ _ _, Ext.refl _⟩
      case round =>
        obtain ⟨j, hj, rfl, hr, hE⟩ := hrel
        have HRj := Lib.hid hr
        have HEj := Lib.hid hE
        clear hr hE
        by_cases hj8 : j < 8
        · have esh := shr_biti k (k := j) hlt
          have HSb := Lib.hid (bitsTo_succ k j)
          have hbl := bitsTo_len k j
          have q1 : (0 : Int) ≤ (j : Int) := by omega
          cases hbit : k.testBit j with
          | true =>
            rw [hbit, if_pos rfl] at esh
            rw [hbit, if_pos rfl] at HSb
            clear hbit
            go_wp2_with (at_builtin; go_loud (refine wapp el35 rfl (.tmp 27) (.tmp 29) rfl (w5 := wc) rfl (HEj.out.alloc _) (HRj.out.ext ((Ext.refl _).alloc _)) rfl rfl (vs1 _ _ _) (one1 rfl) ?hm ?_; (case hm => (rw [List.length_map, nI_len, List.length_singleton]; omega)); intro v1 w1 hr1 hE1 hg1 hb1))
            exact ⟨⟨j + 1, by omega, by go_num, by rw [HSb.out]; simpa [nI] using hr1, hE1⟩, by simp [intOf]; omega⟩
          | false =>
            rw [hbit, if_neg (by simp)] at esh
            rw [hbit, if_neg (by simp), List.append_nil] at HSb
            clear hbit
            go_wp2_with fail
            exact ⟨⟨j + 1, by omega, by go_num, by rw [HSb.out]; exact HRj.out, HEj.out⟩, by simp [intOf]; omega⟩
        · obtain rfl : j = 8 := by omega
          rw [HB8.out] at HRj
          have h64 := card_le64 k
          unfold card at h64
          have hsl : (nI (elems k)).length ≤ 64 := by rw [nI_len]; exact h64
          obtain ⟨s, hs⟩ : ∃ s, nI (elems k) = s := ⟨_, rfl⟩
          rw [hs] at HRj HS hsl
          clear hs h64
          obtain ⟨V, vc, e1, -, -⟩ := HRj.out.form
          rw [List.length_map] at e1
          subst e1
          have HIs : Hid (Is wr (.slice V s.length vc) s) := Lib.hid HRj.out.sl
          have HM : Hid (okM fam most s = (decide ((s.length : Int) ≤ most) && leastR s fam)) := Lib.hid rfl
          have HE2 := Lib.hid (HE.out.trans HEj.out)
          have HO2 := Lib.hid (HO.out.ext HEj.out)
          by_cases hm : (s.length : Int) ≤ most
          · have LE := Lib.hid (rleast_any s fam (.slice V s.length vc) v wr HIs.out (HF.out.ext HE2.out) (by omega))
            cases hl : leastR s fam with
            | true =>
              have HS' : Hid (minTo fam most (k + 1) = insF s (minTo fam most k)) := by rw [HS.out, HM.out, decide_eq_true hm, hl]; exact Lib.hid rfl
              rw [hl] at LE
              clear HS HM hl
              go_wp2_with fail
              refine LE.out.mono ?_
              rintro e2 w2 ⟨rfl, hE2⟩
              have INS := Lib.hid (insert_any (minTo fam most k) s _ _ w2 (HO2.out.ext hE2) (HIs.out.ext hE2) (by omega))
              have HE3 := Lib.hid (HE2.out.trans hE2)
              clear hE2 LE
              go_wp2_with fail
              refine INS.out.mono ?_
              rintro e4 w4 ⟨v4, rfl, hr4, hE4⟩
              have HR4 := Lib.hid hr4
              have HE4 := Lib.hid (HE3.out.trans hE4)
              clear hr4 hE4 INS
              go_wp2_with fail
              exact ⟨⟨k + 1, by omega, by go_num, by rw [HS'.out]; exact HR4.out, HE4.out⟩, by simp [intOf]; omega⟩
            | false =>
              have HS' : Hid (minTo fam most (k + 1) = minTo fam most k) := by rw [HS.out, HM.out, decide_eq_true hm, hl]; exact Lib.hid rfl
              rw [hl] at LE
              clear HS HM hl
              go_wp2_with fail
              refine LE.out.mono ?_
              rintro e2 w2 ⟨rfl, hE2⟩
              have HE3 := Lib.hid (HE2.out.trans hE2)
              have HO3 := Lib.hid (HO2.out.ext hE2)
              clear hE2 LE
              go_wp2_with fail
              exact ⟨⟨k + 1, by omega, by go_num, by rw [HS'.out]; exact HO3.out, HE3.out⟩, by simp [intOf]; omega⟩
          · have HS' : Hid (minTo fam most (k + 1) = minTo fam most k) := by rw [HS.out, HM.out, decide_eq_false hm, Bool.false_and]; exact Lib.hid rfl
            have hm' : most < (s.length : Int) := by omega
            clear HS HM
            go_wp2_with fail
            exact ⟨⟨k + 1, by omega, by go_num, by rw [HS'.out]; exact HO2.out, HE2.out⟩, by simp [intOf]; omega⟩
    · obtain rfl : k = 256 := by omega
      rw [minTo_end] at HO
      go_wp2_with fail
      go_ret
      exact ⟨_, rfl, HO.out, HE.out⟩
end Go.Proofs.YtdcbejccplonjaaDoor
