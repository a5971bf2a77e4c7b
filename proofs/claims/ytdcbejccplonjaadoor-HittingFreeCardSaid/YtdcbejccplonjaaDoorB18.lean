/- The walk over Greedy. -/
import Derived.Test.YtdcbejccplonjaaDoorB15
import Derived.Test.YtdcbejccplonjaaDoorB17
namespace Go.Proofs.YtdcbejccplonjaaDoor
open Go.RowKit
attribute [local go_sem ↓] Go.wp_at_zero Go.wp_at_succ
def greRes (ls : List (List Int)) : List Int × Int := match readF ls with
  | none => ([], 1)
  | some ms => if 0 ∈ ms then ([], 4) else (nI (elems (greedyF ms)), 0)
theorem greRes_none {ls : List (List Int)} (h : readF ls = none) : greRes ls = ([], 1) := by unfold greRes; rw [h]
theorem greRes_zero {ls : List (List Int)} {ms : List Nat} (h : readF ls = some ms) (h0 : 0 ∈ ms) : greRes ls = ([], 4) := by
  unfold greRes
  rw [h]
  exact if_pos h0
theorem greRes_ok {ls : List (List Int)} {ms : List Nat} (h : readF ls = some ms) (h0 : 0 ∉ ms) : greRes ls = (nI (elems (greedyF ms)), 0) := by
  unfold greRes
  rw [h]
  exact if_neg h0
def RetG (r : List Int × Int) (w : World) (e : Ending) (w' : World) : Prop := ∃ v, e = .returned (.tuple #[v, .int .i64 r.2]) ∧ Is w' v r.1 ∧ Ext w w'
theorem Is.nil (w : World) : Is w (.slice none 0 0) [] := SlAt.nil w
def cntTo (ms : List Nat) (H x i : Nat) : Nat := ((ms.take i).filter fun s => decide (s &&& H = 0) && s.testBit x).length
theorem cntTo_succ (ms : List Nat) (H x : Nat) {i : Nat} (h : i < ms.length) : cntTo ms H x (i + 1) = cntTo ms H x i + (if (decide (ms.getD i 0 &&& H = 0) && (ms.getD i 0).testBit x) = true then 1 else 0) := by
  unfold cntTo
  rw [filter_snoc _ h, List.length_append, List.getD_eq_getElem?_getD, List.getElem?_eq_getElem h]
  congr 1
  simp only [Option.getD_some]
  split <;> rfl
theorem cntTo_end (ms : List Nat) (H x : Nat) : cntTo ms H x ms.length = cntF ms H x := by unfold cntTo cntF; rw [List.take_length]
theorem cntTo_le (ms : List Nat) (H x i : Nat) : cntTo ms H x i ≤ ms.length := by
  unfold cntTo
  have h1 := List.length_filter_le (fun s => decide (s &&& H = 0) && s.testBit x) (ms.take i)
  rw [List.length_take] at h1
  omega
theorem grow_hit {ms : List Nat} {n H : Nat} (h : hitF ms H = true) : growG ms n H = H := by
  cases n with
  | zero => rfl
  | succ n => rw [growG, if_pos h]
theorem bestTo_succ (ms : List Nat) (H k : Nat) : bestF ms H (List.range (k + 1)) = bestS ms H (bestF ms H (List.range k)) k := by rw [List.range_succ, best_snoc]
theorem bestTo_le (ms : List Nat) (H k : Nat) : (bestF ms H (List.range k)).2 ≤ ms.length := by
  induction k with
  | zero => simp [bestF]
  | succ k ih =>
    rw [bestTo_succ]
    unfold bestS
    split
    · exact Nat.le_trans (List.length_filter_le _ _) (Nat.le_refl _)
    · exact ih
theorem shr_bit (s : Nat) {k : Nat} (hs : s < 18446744073709551616) : bits .and .u64 ((s : Int) / (2 : Int) ^ k) 1 = (if s.testBit k = true then 1 else 0) := by
  have e : ((s : Int) / (2 : Int) ^ k) = ((s / 2 ^ k : Nat) : Int) := by rw [pow2]; exact (Int.natCast_ediv s (2 ^ k)).symm
  have l : s / 2 ^ k < 18446744073709551616 := Nat.lt_of_le_of_lt (Nat.div_le_self _ _) hs
  have this : bits .and .u64 ((s / 2 ^ k : Nat) : Int) 1 = ((s / 2 ^ k &&& 1 : Nat) : Int) := bits_and_u64_nat (s / 2 ^ k) 1 l (by omega)
  rw [e, this, Nat.and_one_is_mod, Nat.testBit_eq_decide_div_mod_eq]
  have h2 := Nat.mod_two_eq_zero_or_one (s / 2 ^ k)
  rcases h2 with h | h <;> rw [h] <;> simp
set_option maxRecDepth 100000 in
set_option maxHeartbeats 16000000 in
theorem greedy_any (ls : List (List Int)) (v : Value) (w : World) (h : Rs w v ls) (hb : ls.length ≤ 100000) (hT : Tab w) : Calls Tryd.prog 20 #[v] w (RetG (greRes ls) w) := by
  have RD := Lib.hid (read_any ls v w h hb)
  have HT := Lib.hid hT
  clear h hT
  go_enter Tryd.func20, Tryd.ntmps20
  go_wp2_with fail
  refine RD.out.mono ?_
  intro e1 w1 h1
  cases hr : readF ls with
  | none =>
    rw [hr] at h1
    obtain ⟨rfl, hE⟩ := h1
    have HX := Lib.hid hE
    have HR := Lib.hid (greRes_none hr)
    clear hE hr RD
    go_wp2_with fail
    go_ret2
    rw [HR.out]
    exact ⟨_, rfl, Is.nil _, HX.out⟩
  | some ms =>
    rw [hr] at h1
    obtain ⟨vr, rfl, hrow, hE⟩ := h1
    have HX := Lib.hid hE
    have HRow := Lib.hid hrow
    obtain ⟨-, -, hml, hmu⟩ := readF_facts hr
    have HU := Lib.hid hmu
    have HZ := Lib.hid (fun h => greRes_zero hr h)
    have HK := Lib.hid (fun h => greRes_ok hr h)
    have CT := Lib.hid (contains_any ms 0 vr w1 hrow.sl)
    obtain ⟨L, lc, e2, -, -⟩ := hrow.form
    rw [List.length_map] at e2
    subst e2
    have HI : Us w1 (.slice L ms.length lc) ms := hrow.sl
    obtain ⟨L', lc', e3, _, _, RL⟩ := HI.read
    simp only [Value.slice.injEq] at e3
    obtain ⟨rfl, -, rfl⟩ := e3
    have HRL := Lib.hid RL
    clear hE hr RD hrow hmu HI RL
    go_wp2_with fail
    refine CT.out.mono ?_
    rintro e4 w4 ⟨rfl, rfl⟩
    by_cases h0 : 0 ∈ ms
    · have HR := Lib.hid (HZ.out h0)
      rw [decide_eq_true h0]
      clear HZ HK CT h0
      go_wp2_with fail
      go_ret2
      rw [HR.out]
      exact ⟨_, rfl, Is.nil _, HX.out⟩
    · have HR := Lib.hid (HK.out h0)
      have HN0 := Lib.hid h0
      rw [decide_eq_false h0]
      clear HZ HK CT h0
      go_wp2_with fail
      go_loopw [6] (fun c wr => ∃ n H : Nat, c = uV H ∧ H < 18446744073709551616 ∧ 64 ≤ card H + n ∧ growG ms n H = growG ms 64 0 ∧ Ext w1 wr) (fun c _ => 65 - card (intOf c).toNat)
      case atStart => exact ⟨64, 0, rfl, by omega, by omega, rfl, Ext.refl _⟩
      case round =>
        obtain ⟨n, H, rfl, hH, hn, hg, hE⟩ := hrel
        have HE := Lib.hid hE
        have HG := Lib.hid hg
        have HN := Lib.hid hn
        have HP := Lib.hid (hitsP_any H ms (.slice L ms.length lc) wr w.heap.size (HRow.out.ext hE) HU.out hH (by omega))
        clear hE hg hn
        go_wp2_with fail
        refine HP.out.mono ?_
        rintro e5 w5 ⟨rfl, hE5⟩
        have HE5 := Lib.hid (HE.out.trans hE5)
        clear hE5 HP
        cases hh : hitF ms H with
        | true =>
          have HGH : Hid (growG ms 64 0 = H) := by rw [← HG.out]; exact Lib.hid (grow_hit hh)
          have HGR : Hid (trimG ms 64 H = greedyF ms) := by unfold greedyF; rw [HGH.out]; exact Lib.hid rfl
          clear hh
          go_wp2_with fail
          go_loopw [6, 13] (fun c i wq => ∃ k H' : Nat, k ≤ 64 ∧ i = iV ((k : Int) - 1) ∧ c = uV H' ∧ H' < 18446744073709551616 ∧ trimG ms k H' = greedyF ms ∧ Ext w5 wq) (fun _ i _ => (intOf i + 1).toNat)
          case atStart => exact ⟨64, H, by omega, rfl, rfl, hH, HGR.out, Ext.refl _⟩
          case round =>
            obtain ⟨k, H', hk, rfl, rfl, hH', ht, hE6⟩ := hrel
            have HTR := Lib.hid ht
            have HE6 := Lib.hid hE6
            have HE7 := Lib.hid ((HX.out.trans HE5.out).trans hE6)
            clear ht hE6
            cases k with
            | zero =>
              have HF : Hid (greedyF ms = H') := by rw [← HTR.out, trimG]; exact Lib.hid rfl
              have LI := Lib.hid (list_any H' wr hH' (HT.out.ext HE7.out))
              rw [show ((0 : Nat) : Int) - 1 = -1 by omega]
              go_wp2_with fail
              refine LI.out.mono ?_
              rintro e8 w8 ⟨v8, rfl, hr8, hE8⟩
              have HR8 := Lib.hid hr8
              have HE8 := Lib.hid (HE7.out.trans hE8)
              clear hr8 hE8 LI
              go_wp2_with fail
              go_ret2
              rw [HR.out, HF.out]
              exact ⟨_, rfl, HR8.out.sl, HE8.out⟩
            | succ j =>
              have hj : j < 64 := by omega
              rw [show ((j + 1 : Nat) : Int) - 1 = (j : Int) by omega]
              have HTS : Hid (trimG ms (j + 1) H' = trimG ms j (if hitF ms (dif H' (2 ^ j)) then dif H' (2 ^ j) else H')) := Lib.hid rfl
              have sh := powW hj
              have ld : dif H' (2 ^ j) < 18446744073709551616 := dif_lt hH'
              have ed : bits .andNot .u64 (H' : Int) ((2 : Int) ^ j) = ((dif H' (2 ^ j) : Nat) : Int) := by rw [pow2]; exact andNot_dif hH' (pow64 hj)
              have q1 : (0 : Int) ≤ (j : Int) := by omega
              obtain ⟨D, hD⟩ : ∃ D, dif H' (2 ^ j) = D := ⟨_, rfl⟩
              rw [hD] at HTS ld ed
              clear hD
              have HP := Lib.hid (hitsP_any D ms (.slice L ms.length lc) wr w.heap.size (HRow.out.ext (HE5.out.trans HE6.out)) HU.out ld (by omega))
              go_wp2_with fail
              refine HP.out.mono ?_
              rintro e8 w8 ⟨rfl, hE8⟩
              have HE8 := Lib.hid (HE6.out.trans hE8)
              clear hE8 HP
              cases hd : hitF ms D with
              | true =>
                have HN1 : Hid (trimG ms j D = greedyF ms) := by rw [← HTR.out, HTS.out, hd, if_pos rfl]; exact Lib.hid rfl
                clear hd HTS HTR
                go_wp2_with fail
                exact ⟨⟨j, D, by omega, by go_num, rfl, ld, HN1.out, HE8.out⟩, by simp [intOf]⟩
              | false =>
                have HN1 : Hid (trimG ms j H' = greedyF ms) := by rw [← HTR.out, HTS.out, hd, if_neg (by simp)]; exact Lib.hid rfl
                clear hd HTS HTR
                go_wp2_with fail
                exact ⟨⟨j, H', by omega, by go_num, rfl, hH', HN1.out, HE8.out⟩, by simp [intOf]⟩
        | false =>
          obtain ⟨n, rfl⟩ : ∃ n', n = n' + 1 := by
            cases n with
            | zero =>
              have := hitF_iff.2 (full_hits HN0.out HU.out (by have := HN.out; omega : 64 ≤ card H))
              rw [hh] at this; cases this
            | succ n => exact ⟨n, rfl⟩
          have HGS : Hid (growG ms (n + 1) H = growG ms n (H ||| 2 ^ (bestF ms H (List.range 64)).1)) := by
            rw [growG, if_neg (by rw [hh]; simp)]; exact Lib.hid rfl
          have HBN := Lib.hid (best_new (best_ok HN0.out HU.out hh))
          clear hh
          go_wp2_with fail
          go_loop [7, 8, 27] (fun b m x => ∃ k : Nat, k ≤ 64 ∧ x = iV (k : Int) ∧ b = iV ((bestF ms H (List.range k)).1 : Nat) ∧ m = iV ((bestF ms H (List.range k)).2 : Nat)) (fun _ _ x => 64 - (intOf x).toNat)
          case atStart => exact ⟨0, by omega, rfl, rfl, rfl⟩
          case round =>
            obtain ⟨k, hk, rfl, rfl, rfl⟩ := hrel
            by_cases hk64 : k < 64
            · have HBS := Lib.hid (bestTo_succ ms H k)
              have HCE := Lib.hid (cntTo_end ms H k)
              have HCS := Lib.hid (fun i hi => cntTo_succ ms H k (i := i) hi)
              have HCL := Lib.hid (fun i => cntTo_le ms H k i)
              have hb2 := bestTo_le ms H k
              obtain ⟨bb, hbb⟩ : ∃ bb, bestF ms H (List.range k) = bb := ⟨_, rfl⟩
              rw [hbb] at HBS hb2 ⊢
              clear hbb
              obtain ⟨b0, c0⟩ := bb
              simp only [] at hb2 ⊢
              go_wp2_with fail
              go_loop [10, 32] (fun c i => ∃ j : Nat, j ≤ ms.length ∧ i = iV (j : Int) ∧ c = iV (cntTo ms H k j : Nat)) (fun _ i => ms.length - (intOf i).toNat)
              case atStart => exact ⟨0, by omega, rfl, rfl⟩
              case round =>
                obtain ⟨j, hj, rfl, rfl⟩ := hrel
                by_cases hjl : j < ms.length
                · obtain ⟨ad, rfl, c1⟩ := HRL.out w5 HE5.out j hjl
                  have sl := getD_lt HU.out j
                  have hcs := HCS.out j hjl
                  have hcl := HCL.out j
                  obtain ⟨s, hs⟩ : ∃ s, ms.getD j 0 = s := ⟨_, rfl⟩
                  rw [hs] at c1 sl hcs
                  clear hs
                  obtain ⟨cn, hcn⟩ : ∃ cn, cntTo ms H k j = cn := ⟨_, rfl⟩
                  rw [hcn] at hcs hcl ⊢
                  clear hcn
                  have ea := and_u64 sl hH
                  have eb := beq0 (s &&& H)
                  have q1 : (0 : Int) ≤ (k : Int) := by omega
                  have esh := shr_bit s (k := k) sl
                  by_cases hs0 : s &&& H = 0
                  · rw [decide_eq_true hs0] at hcs eb
                    rw [Bool.true_and] at hcs
                    cases hbit : s.testBit k with
                    | true =>
                      rw [hbit] at hcs esh
                      rw [if_pos rfl] at hcs
                      have HCn := Lib.hid hcs
                      clear hcs hbit
                      go_wp2_with fail
                      exact ⟨⟨j + 1, by omega, by go_num, by rw [HCn.out]; exact congrArg (Value.int .i64) (by omega)⟩, by simp [intOf]; omega⟩
                    | false =>
                      rw [hbit] at hcs esh
                      rw [if_neg (by simp), Nat.add_zero] at hcs
                      have HCn := Lib.hid hcs
                      clear hcs hbit
                      go_wp2_with fail
                      exact ⟨⟨j + 1, by omega, by go_num, by rw [HCn.out]; exact congrArg (Value.int .i64) (by omega)⟩, by simp [intOf]; omega⟩
                  · rw [decide_eq_false hs0] at hcs eb
                    rw [Bool.false_and, if_neg (by simp), Nat.add_zero] at hcs
                    have HCn := Lib.hid hcs
                    clear hcs esh
                    go_wp2_with fail
                    exact ⟨⟨j + 1, by omega, by go_num, by rw [HCn.out]; exact congrArg (Value.int .i64) (by omega)⟩, by simp [intOf]; omega⟩
                · obtain rfl : j = ms.length := by omega
                  rw [HCE.out]
                  have HBS' : Hid (bestF ms H (List.range (k + 1)) = if c0 < cntF ms H k then (k, cntF ms H k) else (b0, c0)) := HBS
                  have hcf := HCL.out ms.length
                  rw [HCE.out] at hcf
                  obtain ⟨cn, hcn⟩ : ∃ cn, cntF ms H k = cn := ⟨_, rfl⟩
                  rw [hcn] at HBS' hcf ⊢
                  clear hcn HBS HCE HCS HCL
                  by_cases hlt : c0 < cn
                  · have HB2 : Hid (bestF ms H (List.range (k + 1)) = (k, cn)) := by rw [HBS'.out, if_pos hlt]; exact Lib.hid rfl
                    clear HBS'
                    go_wp2_with fail
                    exact ⟨⟨k + 1, by omega, by go_num, by rw [HB2.out], by rw [HB2.out]⟩, by simp [intOf]; omega⟩
                  · have HB2 : Hid (bestF ms H (List.range (k + 1)) = (b0, c0)) := by rw [HBS'.out, if_neg hlt]; exact Lib.hid rfl
                    clear HBS'
                    go_wp2_with fail
                    exact ⟨⟨k + 1, by omega, by go_num, by rw [HB2.out], by rw [HB2.out]⟩, by simp [intOf]; omega⟩
            · obtain rfl : k = 64 := by omega
              obtain ⟨hb64, hbn⟩ := HBN.out
              have HCA := Lib.hid (card_add hb64 hbn)
              obtain ⟨bb, hbb⟩ : ∃ bb, (bestF ms H (List.range 64)).1 = bb := ⟨_, rfl⟩
              rw [hbb] at hb64 HCA HGS ⊢
              clear hbb hbn HBN
              have sh := powW hb64
              have eo := orP hH hb64
              have lo := or_pow_lt hH hb64
              have q1 : (0 : Int) ≤ (bb : Int) := by omega
              have c64 := card_le64 (H ||| 2 ^ bb)
              rw [HCA.out] at c64
              have HCB := Lib.hid HCA.out
              go_wp2_with fail
              refine ⟨⟨n, H ||| 2 ^ bb, rfl, lo, by have := HN.out; rw [HCB.out]; omega, by rw [← HG.out, HGS.out], HE5.out⟩, ?_⟩
              simp only [intOf]
              have e1 : ((((H ||| 2 ^ bb : Nat) : Int)).toNat) = H ||| 2 ^ bb := by simp
              have e2 : ((H : Int)).toNat = H := by simp
              rw [e1, e2, HCB.out]
              omega
end Go.Proofs.YtdcbejccplonjaaDoor
