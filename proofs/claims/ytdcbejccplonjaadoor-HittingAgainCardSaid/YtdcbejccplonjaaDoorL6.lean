/- The walk over HittingAgain. -/
import Derived.Test.YtdcbejccplonjaaDoorH10
import Derived.Test.YtdcbejccplonjaaDoorB30
namespace Go.Proofs.YtdcbejccplonjaaDoor
open Go.RowKit
attribute [local go_sem ↓] Go.wp_at_zero Go.wp_at_succ
theorem hit_congr {A B : List Nat} {H : Nat} (h : ∀ s, s ∈ A ↔ s ∈ B) : Hit H A ↔ Hit H B := ⟨fun k s hs => k s ((h s).2 hs), fun k s hs => k s ((h s).1 hs)⟩
theorem again8 {xs : List Nat} (hu : U8 xs) {b : Nat} (hb : b < 256) : ∃ R, redRes (famF xs) = (lsF (leastF (xs.take 10)), 0) ∧ minRes (famF xs) 8 = (lsF R, 0) ∧ hitsR (nI (elems b)) (lsF (leastF (xs.take 10))) = hitsR (nI (elems b)) (famF xs) ∧ ((lsF R).any fun t => withinR t (nI (elems b))) = hitsR (nI (elems b)) (famF xs) := by
  have h8 := take8 hu
  have h64 := u64_8 h8
  have hb64 : b < 2 ^ 64 := Nat.lt_of_lt_of_le hb (by decide)
  obtain ⟨r, h1, h2, h3⟩ := min8 (famF_read xs hu) h8 8
  have h3' : ∀ H, H ∈ r ↔ Min H (xs.take 10) := fun H => (h3 H).trans (min_card8 h8)
  refine ⟨r, redRes_ok (famF_read xs hu), h1, ?_, ?_⟩
  · rw [Bool.eq_iff_iff, hits_mask hb64 (lsF_fam _), hits_mask hb64 (famF_fam xs), famF_masks hu, hit_congr (lsF_masks (least_u64 h64)), hit_least h64]
  · rw [Bool.eq_iff_iff, hits_mask hb64 (famF_fam xs), famF_masks hu, List.any_eq_true]
    constructor
    · rintro ⟨t, ht, hw⟩
      obtain ⟨G, hG, rfl⟩ := mem_lsF.1 ht
      have hm := (h3' G).1 hG
      have hs := (within_mask (ok_elems G) (ok_elems b)).1 hw
      rw [mask_of_list (hm.lt h64), mask_of_list hb64] at hs
      exact hm.hit.mono hs
    · intro hh
      obtain ⟨G, hs, hm⟩ := min_below _ _ hb64 rfl hh
      refine ⟨nI (elems G), mem_lsF.2 ⟨G, (h3' G).2 hm, rfl⟩, (within_mask (ok_elems G) (ok_elems b)).2 ?_⟩
      rw [mask_of_list (hm.lt h64), mask_of_list hb64]
      exact hs
theorem fam1_at {w : World} {b k : Nat} (h : k = w.heap.size) : Bs (w.alloc (.cells #[.int .u8 (b : Int)] 5)) (.slice (some ⟨k, 0, none⟩) 1 1) [b] := slC h rfl rfl (by omega)
theorem famF_one {b : Nat} : famF [b] = [nI (elems b)] := rfl
set_option maxRecDepth 100000 in
set_option maxHeartbeats 8000000 in
theorem again_law (xs : List Nat) (v : Value) (b : Nat) (w : World) (h : Bs w v xs) (hu : U8 xs) (hb : b < 256) (hT : Tab w) : Calls Tryd.prog 10 #[v, bV b] w (RetB true w) := by
  have HT := Lib.hid hT
  have HV := Lib.hid h
  have HU := Lib.hid hu
  obtain ⟨R, d1, d2, d3, d4⟩ := again8 hu hb
  have D1 := Lib.hid d1
  have D2 := Lib.hid d2
  have D3 := Lib.hid d3
  have D4 := Lib.hid d4
  have hfl := famF_len xs
  have U1 : Hid (U8 [b]) := Lib.hid (fun x hx => by rw [List.mem_singleton.1 hx]; exact hb)
  obtain ⟨s, hs⟩ : ∃ s, nI (elems b) = s := ⟨_, rfl⟩
  have HS1 : Hid (famF [b] = [s]) := by rw [famF_one, hs]; exact Lib.hid rfl
  rw [hs] at D3 D4
  obtain ⟨La, hLa⟩ : ∃ La, lsF (leastF (xs.take 10)) = La := ⟨_, rfl⟩
  rw [hLa] at D1 D3
  obtain ⟨Ra, hRa⟩ : ∃ Ra, lsF R = Ra := ⟨_, rfl⟩
  rw [hRa] at D2 D4
  obtain ⟨hh, hhe⟩ : ∃ hh, hitsR s (famF xs) = hh := ⟨_, rfl⟩
  rw [hhe] at D3 D4
  have HH := Lib.hid hhe
  clear h hu hT d1 d2 d3 d4 hLa hRa hs hhe
  go_enter Tryd.func10, Tryd.ntmps10
  go_wp2_with fail
  refine (sets_any xs v w HV.out HU.out).mono ?_
  rintro e1 w1 ⟨v1, rfl, hr1, hE1⟩
  have HE1 := Lib.hid hE1
  have HR1 := Lib.hid hr1
  clear hr1 hE1
  go_wp2_with fail
  refine (sets_any [b] _ _ (fam1_at rfl) U1.out).mono ?_
  rintro e2 w2 ⟨v2, rfl, hr2, hE2⟩
  rw [HS1.out] at hr2
  have HE2 : Hid (Ext w1 w2) := Lib.hid (((Ext.refl _).alloc _).trans hE2)
  obtain ⟨P, pc, rfl, -, -, RP⟩ := hr2.read
  obtain ⟨pd, us, rfl, cs, hus⟩ := RP w2 (Ext.refl _) 0 (by simp)
  have HUS : Hid (Is w2 us s) := Lib.hid hus
  have cs' : w2.cell? pd = some us := by simpa [Addr.add] using cs
  have RD := Lib.hid (reduce_any (famF xs) v1 w2 (HR1.out.ext HE2.out) (by omega) (HT.out.ext (HE1.out.trans HE2.out)))
  rw [D1.out] at RD
  clear hr2 hE2 RP hus
  go_wp2_with fail
  refine RD.out.mono ?_
  rintro e3 w3 ⟨v3, rfl, hr3, hE3⟩
  have HR3 : Hid (Rs w3 v3 La) := Lib.hid hr3
  have HE3 := Lib.hid (HE2.out.trans hE3)
  have HUS3 := Lib.hid (HUS.out.ext hE3)
  have MI := Lib.hid (minimal_any (famF xs) v1 8 w3 (HR1.out.ext HE3.out) (by omega) (by omega) (HT.out.ext (HE1.out.trans HE3.out)))
  rw [D2.out] at MI
  clear hr3 hE3 RD cs cs'
  go_wp2_with fail
  refine MI.out.mono ?_
  rintro e4 w4 ⟨v4, rfl, hr4, hE4⟩
  have HR4 : Hid (Rs w4 v4 Ra) := Lib.hid hr4
  have HE4 := Lib.hid (HE3.out.trans hE4)
  have HR34 := Lib.hid (HR3.out.ext hE4)
  have HUS4 := Lib.hid (HUS3.out.ext hE4)
  clear hr4 hE4 MI
  go_wp2_with fail
  refine (awake_any w4 (HT.out.ext (HE1.out.trans HE4.out))).mono ?_
  rintro e5 w5 ⟨rfl, hE5⟩
  have HE5 := Lib.hid (HE4.out.trans hE5)
  have HUS5 := Lib.hid (HUS4.out.ext hE5)
  have HX := Lib.hid (hitsM_any s La us v3 w5 HUS5.out (HR34.out.ext hE5))
  rw [D3.out] at HX
  have HR45 := Lib.hid (HR4.out.ext hE5)
  clear hE5
  go_wp2_with fail
  refine HX.out.mono ?_
  rintro e6 w6 ⟨rfl, hE6⟩
  have HE6 := Lib.hid (HE5.out.trans hE6)
  have HUS6 := Lib.hid (HUS5.out.ext hE6)
  have HL := Lib.hid (hitsM_any s (famF xs) us v1 w6 HUS6.out (HR1.out.ext HE6.out))
  rw [HH.out] at HL
  have HR46 := Lib.hid (HR45.out.ext hE6)
  clear hE6 HX
  go_wp2_with fail
  refine HL.out.mono ?_
  rintro e7 w7 ⟨rfl, hE7⟩
  have HE7 := Lib.hid (HE6.out.trans hE7)
  have HUS7 := Lib.hid (HUS6.out.ext hE7)
  have HR47 := Lib.hid (HR46.out.ext hE7)
  clear hE7 HL
  have tb : (hh != hh) = false := by simp
  obtain ⟨M, mc, rfl, m1, m2, RM⟩ := HR47.out.read
  have HRM := Lib.hid RM
  have hml : Ra.length ≤ 9223372036854775807 := by unfold maxLen at m2; omega
  clear RM m1 m2
  go_wp2_with fail
  go_loopw [11, 52] (fun d i wr => ∃ k : Nat, k ≤ Ra.length ∧ i = iV (k : Int) ∧ d = .bool ((Ra.take k).any fun t => withinR t s) ∧ Ext w7 wr) (fun _ i _ => Ra.length - (intOf i).toNat)
  case atStart => exact ⟨0, by omega, rfl, by simp, Ext.refl _⟩
  case round =>
    obtain ⟨k, hk, rfl, rfl, hE⟩ := hrel
    have HE := Lib.hid hE
    clear hE
    by_cases hlt : k < Ra.length
    · obtain ⟨ad, u, rfl, c1, hu⟩ := HRM.out wr HE.out k hlt
      have HA := Lib.hid (any_take (fun t => withinR t s) Ra (d := ([] : List Int)) hlt)
      obtain ⟨t, ht⟩ : ∃ t, Ra.getD k [] = t := ⟨_, rfl⟩
      rw [ht] at hu HA
      clear ht
      have WI := Lib.hid (within_any t s u us wr hu (HUS7.out.ext HE.out))
      obtain ⟨U, uc, rfl, -, -, -⟩ := hu.read
      clear hu
      cases ha : (Ra.take k).any fun t => withinR t s with
      | true =>
        have HA' : Hid (((Ra.take (k + 1)).any fun t => withinR t s) = true) := by rw [HA.out, ha]; exact Lib.hid rfl
        clear HA ha WI
        go_wp2_with fail
        exact ⟨⟨k + 1, by omega, by go_num, by rw [HA'.out], HE.out⟩, by simp [intOf]; omega⟩
      | false =>
        have HA' : Hid (((Ra.take (k + 1)).any fun t => withinR t s) = withinR t s) := by rw [HA.out, ha]; exact Lib.hid rfl
        clear HA ha
        go_wp2_with fail
        refine WI.out.mono ?_
        rintro e8 w8 ⟨rfl, rfl⟩
        clear WI
        go_wp2_with fail
        exact ⟨⟨k + 1, by omega, by go_num, by rw [HA'.out], HE.out⟩, by simp [intOf]; omega⟩
    · obtain rfl : k = Ra.length := by omega
      rw [List.take_length, D4.out]
      have HL := Lib.hid (hitsM_any s (famF xs) us v1 wr (HUS7.out.ext HE.out) (HR1.out.ext (HE7.out.trans HE.out)))
      rw [HH.out] at HL
      have tb2 : (hh == hh) = true := by simp
      go_wp2_with fail
      refine HL.out.mono ?_
      rintro e8 w8 ⟨rfl, hE8⟩
      have HE8 := Lib.hid (HE.out.trans hE8)
      clear hE8 HL
      go_wp2_with fail
      go_ret
      exact ⟨ret_bool (by cases hh <;> rfl), (HE1.out.trans HE7.out).trans HE8.out⟩
end Go.Proofs.YtdcbejccplonjaaDoor
