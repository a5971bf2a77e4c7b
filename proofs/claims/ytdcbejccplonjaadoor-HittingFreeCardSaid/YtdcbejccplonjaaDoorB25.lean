/- The walks over the reference's Valid, without and Least. -/
import Derived.Test.YtdcbejccplonjaaDoorB24
namespace Go.Proofs.YtdcbejccplonjaaDoor
open Go.RowKit
attribute [local go_sem ↓] Go.wp_at_zero Go.wp_at_succ
theorem valid_false {ls : List (List Int)} {i k : Nat} {l : List Int} (hi : i < ls.length) (hl : ls.getD i [] = l) (hk : k < l.length) (hf : okAt l k = false) : validR ls = false := by
  unfold validR
  rw [Bool.and_eq_false_iff]
  left
  rw [List.all_eq_false]
  refine ⟨l, by rw [← hl]; exact getD_mem' hi, ?_⟩
  intro h1
  have h2 := List.all_eq_true.1 h1 k (by simpa using hk)
  rw [hf] at h2; cases h2
set_option maxHeartbeats 4000000 in
theorem valid_any (ls : List (List Int)) (v : Value) (w : World) (h : Rs w v ls) : Calls Tryd.prog 17 #[v] w fun e w' => e = .returned (.bool (validR ls)) ∧ w = w' := by
  obtain ⟨A, c, rfl, a1, a2, RA⟩ := h.read
  have HR := Lib.hid (RA w (Ext.refl _))
  have hl0 : ls.length ≤ 9223372036854775807 := by unfold maxLen at a2; omega
  clear RA h a1 a2
  go_enter Tryd.func17, Tryd.ntmps17
  go_wp2_with fail
  go_loop [9] (fun i => ∃ k : Nat, k ≤ ls.length ∧ i = .int .i64 (k : Int) ∧ (∀ j, j < k → okL (ls.getD j []) = true)) (fun i => ls.length - (intOf i).toNat)
  case atStart => exact ⟨0, by omega, rfl, fun j hj => by omega⟩
  case round =>
    obtain ⟨i, hi, rfl, ho⟩ := hrel
    have HO := Lib.hid ho
    clear ho
    by_cases hlt : i < ls.length
    · obtain ⟨ad, u, rfl, c0, hu⟩ := HR.out i hlt
      obtain ⟨l, hl⟩ : ∃ l, ls.getD i [] = l := ⟨_, rfl⟩
      rw [hl] at hu
      have HLI := Lib.hid hl
      clear hl
      obtain ⟨B, cb, rfl, _, lB, RB⟩ := hu.read
      have HB := Lib.hid (RB w (Ext.refl _))
      have lb : l.length ≤ 9223372036854775807 := by unfold maxLen at lB; omega
      clear RB hu lB
      go_wp2_with fail
      go_loop [15] (fun j => ∃ k : Nat, k ≤ l.length ∧ j = .int .i64 (k : Int) ∧ (∀ i, i < k → okAt l i = true)) (fun j => l.length - (intOf j).toNat)
      case atStart => exact ⟨0, by omega, rfl, fun j hj => by omega⟩
      case round =>
        obtain ⟨k, hk, rfl, ho⟩ := hrel
        have HK := Lib.hid ho
        clear ho
        by_cases hkl : k < l.length
        · obtain ⟨bd, rfl, c1⟩ := HB.out k hkl
          have OK : Hid (okAt l k = (decide (0 ≤ l.getD k 0) && (decide (l.getD k 0 ≤ 63) && (decide (k = 0) || decide (l.getD (k - 1) 0 < l.getD k 0))))) := Lib.hid rfl
          obtain ⟨x, hx⟩ : ∃ x, l.getD k 0 = x := ⟨_, rfl⟩
          rw [hx] at c1 OK
          clear hx
          have NO := Lib.hid (fun h => valid_false hlt HLI.out hkl h)
          by_cases h0 : x < 0
          · have HN : Hid (validR ls = false) := Lib.hid (NO.out (by rw [OK.out, decide_eq_false (by omega)]; rfl))
            go_wp2_with fail
            go_ret
            rw [HN.out]
            exact ⟨rfl, rfl⟩
          · by_cases h63 : 63 < x
            · have HN : Hid (validR ls = false) := Lib.hid (NO.out (by rw [OK.out, decide_eq_false (show ¬ x ≤ 63 by omega)]; simp))
              go_wp2_with fail
              go_ret
              rw [HN.out]
              exact ⟨rfl, rfl⟩
            · by_cases hk0 : k = 0
              · have HO' : Hid (∀ i, i < k + 1 → okAt l i = true) := Lib.hid (fun i hi => by
                  have : i = k := by omega
                  rw [this, OK.out, decide_eq_true (show (0 : Int) ≤ x by omega), decide_eq_true (show x ≤ 63 by omega), decide_eq_true hk0]; rfl)
                have tk : decide (0 < k) = false := by simp; omega
                have hk0' : k ≤ 0 := by omega
                clear hk0
                go_wp2_with fail
                exact ⟨⟨k + 1, by omega, by go_num, HO'.out⟩, by simp [intOf]; omega⟩
              · obtain ⟨bd', e', c2⟩ := HB.out (k - 1) (by omega)
                obtain rfl := Option.some.inj e'
                obtain ⟨y, hy⟩ : ∃ y, l.getD (k - 1) 0 = y := ⟨_, rfl⟩
                rw [hy] at c2 OK
                clear hy e'
                have hk1 : 0 < k := by omega
                have wk : IntKind.i64.wrap ((k : Int) - 1) = ((k - 1 : Nat) : Int) := by rw [IntWalk.i64_in _ (by omega)]; omega
                clear hk0
                by_cases hp : x ≤ y
                · have HN : Hid (validR ls = false) := Lib.hid (NO.out (by rw [OK.out, decide_eq_false (show ¬ k = 0 by omega), decide_eq_false (show ¬ y < x by omega)]; simp))
                  go_wp2_with fail
                  go_ret
                  rw [HN.out]
                  exact ⟨rfl, rfl⟩
                · have HO' : Hid (∀ i, i < k + 1 → okAt l i = true) := Lib.hid (fun i hi => by
                    rcases Nat.lt_or_ge i k with h | h
                    · exact HK.out i h
                    · have : i = k := by omega
                      rw [this, OK.out, decide_eq_true (show (0 : Int) ≤ x by omega), decide_eq_true (show x ≤ 63 by omega), decide_eq_true (show y < x by omega)]; simp)
                  go_wp2_with fail
                  exact ⟨⟨k + 1, by omega, by go_num, HO'.out⟩, by simp [intOf]; omega⟩
        · obtain rfl : k = l.length := by omega
          have ok : okL l = true := by
            unfold okL
            rw [List.all_eq_true]
            intro j hj
            exact HK.out j (by simpa using hj)
          have HO' : Hid (∀ j, j < i + 1 → okL (ls.getD j []) = true) := Lib.hid (fun j hj => by
            rcases Nat.lt_or_ge j i with h | h
            · exact HO.out j h
            · have : j = i := by omega
              rw [this, HLI.out]; exact ok)
          clear ok
          go_wp2_with fail
          exact ⟨⟨i + 1, by omega, by go_num, HO'.out⟩, by simp [intOf]; omega⟩
    · obtain rfl : i = ls.length := by omega
      have HN : Hid (validR ls = decide (ls.length ≤ 64)) := by
        unfold validR
        have : ls.all okL = true := by
          rw [List.all_eq_true]
          intro l hl
          obtain ⟨j, hj, e⟩ := List.mem_iff_getElem.1 hl
          have := HO.out j hj
          rw [List.getD_eq_getElem?_getD, List.getElem?_eq_getElem hj] at this
          rw [← e]; exact this
        rw [this]
        exact Lib.hid (Bool.true_and _)
      go_wp2_with fail
      go_ret
      rw [HN.out]
      refine ⟨ret_bool ?_, rfl⟩
      first | rfl | exact decide_eq_decide.2 (by omega) | simp
theorem Is.some_of {w : World} {v : Value} {zs : List Int} (h : Is w v zs) (hn : 0 < zs.length) : ∃ (ad : Addr) (c : Nat), v = .slice (some ad) zs.length c ∧ zs.length ≤ c ∧ c ≤ maxLen ∧ VsAt w (some ad) (zs.map iV) := by
  obtain ⟨A, c, h1, h2, h3, h4⟩ := SlAt.at_ h
  rw [List.length_map] at h1 h2
  obtain ⟨ad, e, _⟩ := h4 (by rw [List.length_map]; exact hn)
  subst e
  exact ⟨ad, c, h1, h2, h3, h4⟩
set_option maxRecDepth 100000 in
set_option maxHeartbeats 4000000 in
theorem without_any (s : List Int) (i : Nat) (v : Value) (w : World) (h : Is w v s) (hi : i < s.length) (hl : s.length ≤ 100000) : Calls Tryd.prog 38 #[v, .int .i64 (i : Int)] w (RetI (dropR s i) w) := by
  obtain ⟨ad, c, rfl, a1, a2, hv⟩ := h.some_of (by omega)
  have HV := Lib.hid hv
  have ht : (s.take i).length = i := by rw [List.length_take]; omega
  have hd : (s.drop (i + 1)).length = s.length - (i + 1) := List.length_drop
  have HDR : Hid (dropR s i = s.take i ++ s.drop (i + 1)) := Lib.hid rfl
  have HT := Lib.hid (hv.take i)
  have HD := Lib.hid (hv.drop (i + 1))
  rw [← List.map_take] at HT
  rw [← List.map_drop] at HD
  clear h hv
  have q1 : (i : Int) ≤ (c : Int) := by omega
  have hmm : ((s.take i).map iV).length + ((s.drop (i + 1)).map iV).length ≤ 1000000 := by rw [List.length_map, List.length_map, ht, hd]; omega
  have hi100 : i ≤ 100000 := by omega
  by_cases hc : c = i + 1
  · have hz : s.drop (i + 1) = [] := List.drop_eq_nil_of_le (by omega)
    have HZ := Lib.hid hz
    have hm0 : ((s.take i).map iV).length + ([] : List Value).length ≤ 1000000 := by rw [List.length_map, ht, List.length_nil]; omega
    have hsub : s.length - (i + 1) = 0 := by omega
    have hsn : s.length = i + 1 := by omega
    rw [hsn]
    clear hz hd HD hmm hsub
    subst hc
    have HSN := Lib.hid hsn
    clear hsn hi a1 hl
    go_enter Tryd.func38, Tryd.ntmps38
    go_wp2_with (first
      | (at_builtin; refine wapp el35 rfl (.tmp 6) (.tmp 9) rfl (w5 := w) rfl (Ext.refl _) (Row.nil _ _ _) rfl (by rw [List.length_map, ht]) HT.out (fun x hx => by obtain ⟨y, _, rfl⟩ := List.mem_map.1 hx; rfl) (by rw [List.length_map, ht]; simp; omega) ?_; intro v1 w1 hr1 hE1 hg1 hb1; obtain ⟨V, vc, e1, -, -⟩ := hr1.form; rw [List.nil_append, List.length_map, ht] at e1; subst e1; rw [List.nil_append] at hr1)
      | (at_builtin; go_loud (refine wapp el35 rfl (.tmp 11) (.tmp 15) rfl (w5 := w) (us := []) rfl hE1 hr1 rfl rfl (VsAt.nil _ _) (by simp) hm0 ?_; intro v2 w2 hr2 hE2 hg2 hb2)))
    go_ret
    refine ⟨_, rfl, ?_, hE2⟩
    rw [HDR.out, HZ.out, List.append_nil]
    rw [List.append_nil] at hr2
    exact hr2
  · go_enter Tryd.func38, Tryd.ntmps38
    go_wp2_with (first
      | (at_builtin; refine wapp el35 rfl (.tmp 6) (.tmp 9) rfl (w5 := w) rfl (Ext.refl _) (Row.nil _ _ _) rfl (by rw [List.length_map, ht]) HT.out (fun x hx => by obtain ⟨y, _, rfl⟩ := List.mem_map.1 hx; rfl) (by rw [List.length_map, ht]; simp; omega) ?_; intro v1 w1 hr1 hE1 hg1 hb1; obtain ⟨V, vc, e1, -, -⟩ := hr1.form; rw [List.nil_append, List.length_map, ht] at e1; subst e1; rw [List.nil_append] at hr1)
      | (at_builtin; go_loud (refine wapp el35 rfl (.tmp 11) (.tmp 15) rfl (w5 := w) rfl hE1 hr1 rfl (by rw [List.length_map, hd]) (VsAt.ext HD.out hE1) (fun x hx => by obtain ⟨y, _, rfl⟩ := List.mem_map.1 hx; rfl) (by omega) ?_; intro v2 w2 hr2 hE2 hg2 hb2)))
    go_ret
    refine ⟨_, rfl, ?_, hE2⟩
    rw [HDR.out, List.map_append]
    exact hr2
set_option maxRecDepth 100000 in
set_option maxHeartbeats 4000000 in
theorem rleast_any (set : List Int) (fam : List (List Int)) (vs vf : Value) (w : World) (hs : Is w vs set) (hf : Rs w vf fam) (hl : set.length ≤ 100000) : Calls Tryd.prog 18 #[vs, vf] w (RetB (leastR set fam) w) := by
  have HS := Lib.hid hs
  have HF := Lib.hid hf
  have HH := Lib.hid (rhits_any set fam vs vf w hs hf)
  obtain ⟨A, c, rfl, a1, a2, -⟩ := hs.read
  have HLR : Hid (leastR set fam = (hitsR set fam && (List.range set.length).all fun i => !hitsR (dropR set i) fam)) := Lib.hid rfl
  clear hs hf a1 a2
  cases hh : hitsR set fam with
  | false =>
    have HN : Hid (leastR set fam = false) := by rw [HLR.out, hh]; exact Lib.hid rfl
    rw [hh] at HH
    clear HLR hh
    go_enter Tryd.func18, Tryd.ntmps18
    go_wp2_with fail
    refine HH.out.mono ?_
    rintro e1 w1 ⟨rfl, rfl⟩
    go_wp2_with fail
    go_ret
    rw [HN.out]
    exact ⟨rfl, Ext.refl _⟩
  | true =>
    have HN : Hid (leastR set fam = (List.range set.length).all fun i => !hitsR (dropR set i) fam) := by rw [HLR.out, hh]; exact Lib.hid (Bool.true_and _)
    rw [hh] at HH
    clear HLR hh
    go_enter Tryd.func18, Tryd.ntmps18
    go_wp2_with fail
    refine HH.out.mono ?_
    rintro e1 w1 ⟨rfl, rfl⟩
    clear HH
    go_wp2_with fail
    go_loopw [12] (fun i wr => ∃ k : Nat, k ≤ set.length ∧ i = iV (k : Int) ∧ (∀ j, j < k → hitsR (dropR set j) fam = false) ∧ Ext w wr) (fun i _ => set.length - (intOf i).toNat)
    case atStart => exact ⟨0, by omega, rfl, fun j hj => by omega, Ext.refl _⟩
    case round =>
      obtain ⟨k, hk, rfl, hn, hE⟩ := hrel
      have HK := Lib.hid hn
      have HE := Lib.hid hE
      clear hn hE
      by_cases hlt : k < set.length
      · have WO := Lib.hid (without_any set k (.slice A set.length c) wr (HS.out.ext HE.out) hlt hl)
        go_wp2_with fail
        refine WO.out.mono ?_
        rintro e2 w2 ⟨v2, rfl, hr2, hE2⟩
        have HW := Lib.hid (rhits_any (dropR set k) fam v2 vf w2 hr2.sl ((HF.out.ext HE.out).ext hE2))
        have HE2 := Lib.hid (HE.out.trans hE2)
        clear hr2 hE2 WO
        cases hd : hitsR (dropR set k) fam with
        | true =>
          have HF' : Hid (leastR set fam = false) := by
            rw [HN.out]
            exact Lib.hid (List.all_eq_false.2 ⟨k, List.mem_range.2 hlt, by rw [hd]; simp⟩)
          rw [hd] at HW
          clear hd
          go_wp2_with fail
          refine HW.out.mono ?_
          rintro e3 w3 ⟨rfl, rfl⟩
          go_wp2_with fail
          go_ret
          rw [HF'.out]
          exact ⟨rfl, HE2.out⟩
        | false =>
          have HK' : Hid (∀ j, j < k + 1 → hitsR (dropR set j) fam = false) := Lib.hid (fun j hj => by
            rcases Nat.lt_or_ge j k with h | h
            · exact HK.out j h
            · have : j = k := by omega
              rw [this]; exact hd)
          rw [hd] at HW
          clear hd
          go_wp2_with fail
          refine HW.out.mono ?_
          rintro e3 w3 ⟨rfl, rfl⟩
          go_wp2_with fail
          exact ⟨⟨k + 1, by omega, by go_num, HK'.out, HE2.out⟩, by simp [intOf]; omega⟩
      · obtain rfl : k = set.length := by omega
        have HF' : Hid (leastR set fam = true) := by
          rw [HN.out]
          exact Lib.hid (List.all_eq_true.2 fun i hi => by rw [HK.out i (List.mem_range.1 hi)]; rfl)
        go_wp2_with fail
        go_ret
        rw [HF'.out]
        exact ⟨rfl, HE.out⟩
end Go.Proofs.YtdcbejccplonjaaDoor
