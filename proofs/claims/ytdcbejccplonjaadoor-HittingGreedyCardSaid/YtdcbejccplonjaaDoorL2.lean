/- The walk over HittingSound. -/
import Derived.Test.YtdcbejccplonjaaDoorH10
import Derived.Test.YtdcbejccplonjaaDoorB25
namespace Go.Proofs.YtdcbejccplonjaaDoor
open Go.RowKit
attribute [local go_sem ↓] Go.wp_at_zero Go.wp_at_succ
/-- What the law asks of the sets that Minimal returns. -/
structure Snd (fam : List (List Int)) (n : Nat) (l : List (List Int)) : Prop where
  len : ∀ j, j < l.length → (l.getD j []).length ≤ n
  least : ∀ j, j < l.length → leastR (l.getD j []) fam = true
  valid : ∀ j, j < l.length → validR [l.getD j []] = true
  less : ∀ j, j < l.length → 0 < j → decide (cmpF (l.getD (j - 1) []) (l.getD j []) < 0) = true
theorem snd_of {fam : List (List Int)} {n : Nat} {r : List Nat} (hf : Fam fam) (hu : U64 (fam.map maskI)) (h : ∀ H ∈ r, Min H (fam.map maskI) ∧ card H ≤ n) : Snd fam n (lsF r) := by
  have key : ∀ j, j < (lsF r).length → ∃ H, Min H (fam.map maskI) ∧ card H ≤ n ∧ nI (elems H) = (lsF r).getD j [] := fun j hj => by
    have hm : (lsF r).getD j [] ∈ lsF r := getD_mem' hj
    obtain ⟨H, hH, e⟩ := mem_lsF.1 hm
    exact ⟨H, (h H hH).1, (h H hH).2, e⟩
  refine ⟨fun j hj => ?_, fun j hj => ?_, fun j hj => ?_, fun j hj h0 => ?_⟩
  · obtain ⟨H, _, h2, e⟩ := key j hj
    rw [← e, nI_len]
    exact h2
  · obtain ⟨H, h1, _, e⟩ := key j hj
    rw [← e]
    exact (least_mask (h1.lt hu) hf).2 h1
  · obtain ⟨H, _, _, e⟩ := key j hj
    rw [← e]
    unfold validR
    simp [ok_elems]
  · have hp := List.pairwise_iff_getElem.1 (lsF_sorted r) (j - 1) j (by omega) hj (by omega)
    refine decide_eq_true (cmp_neg.2 ?_)
    rw [List.getD_eq_getElem?_getD, List.getD_eq_getElem?_getD, List.getElem?_eq_getElem hj, List.getElem?_eq_getElem (by omega)]
    exact hp
theorem sound8 {fam : List (List Int)} (hv : validR fam = true) (n : Nat) : (minRes fam (n : Int) = ([], 3) ∧ 1 < fam.length) ∨ ∃ l, minRes fam (n : Int) = (l, 0) ∧ Snd fam n l := by
  obtain ⟨hr, hf, hl⟩ := read_valid hv
  have hu := fam_u64 hf
  have hl' : (fam.map maskI).length ≤ 64 := by rw [List.length_map]; exact hl
  cases hm : minF (fam.map maskI) n with
  | none =>
    left
    refine ⟨by rw [minRes_pos n hr, hm]; rfl, Classical.byContradiction fun hq => ?_⟩
    match hfm : fam, hq with
    | [], _ =>
      obtain ⟨r, h1, _⟩ := min_all (sets := []) (U := [0]) n (by simp) (by simp [U64]) few0
      rw [List.map_nil, h1] at hm
      cases hm
    | [s], _ =>
      have hs : maskI s < 2 ^ 64 := hu _ (by simp)
      obtain ⟨r, h1, _⟩ := min_all (sets := [maskI s]) n (by simp) (by simpa [U64] using hs) (few1 hs)
      rw [List.map_singleton, h1] at hm
      cases hm
    | s :: t :: q, hq => simp at hq
  | some r =>
    right
    exact ⟨lsF r, by rw [minRes_pos n hr, hm]; rfl, snd_of hf hu (min_sound hl' hu hm).2⟩
theorem minRes_invalid {fam : List (List Int)} (hv : validR fam = false) (n : Int) : minRes fam n = ([], 1) := minRes_none (read_invalid hv)
theorem shortF_len (ls : List (List Int)) : (shortF ls).length ≤ 70 := by unfold shortF; rw [List.length_map, List.length_take]; omega
set_option maxRecDepth 100000 in
set_option maxHeartbeats 8000000 in
theorem sound_law (ls : List (List Int)) (v : Value) (x : Nat) (w : World) (h : Rs w v ls) (hx : x < 256) (hT : Tab w) : Calls Tryd.prog 4 #[v, bV x] w (RetB true w) := by
  have HT := Lib.hid hT
  have SH := Lib.hid (short_any ls v w h)
  have hfl := shortF_len ls
  obtain ⟨fam, hfam⟩ : ∃ fam, shortF ls = fam := ⟨_, rfl⟩
  rw [hfam] at SH hfl
  clear h hT hfam
  go_enter Tryd.func4, Tryd.ntmps4
  go_wp2_with fail
  refine SH.out.mono ?_
  rintro e1 w1 ⟨v1, rfl, hr1, hE1⟩
  have HR1 := Lib.hid hr1
  have HE1 := Lib.hid hE1
  have MI := Lib.hid (minimal_any fam v1 ((x % 5 : Nat) : Int) w1 hr1 (by omega) (by omega) (HT.out.ext hE1))
  clear hr1 hE1 SH
  obtain ⟨A, c, e1, -, -, -⟩ := HR1.out.read
  subst e1
  obtain ⟨n, hn⟩ : ∃ n, x % 5 = n := ⟨_, rfl⟩
  have hn5 : ((x : Int) % 5) = (n : Int) := by omega
  have hn4 : n < 5 := by omega
  rw [hn] at MI
  clear hn
  have VA := Lib.hid (fun W (hW : Ext w1 W) => valid_any fam (.slice A fam.length c) W (HR1.out.ext hW))
  cases hv : validR fam with
  | false =>
    rw [minRes_invalid hv] at MI
    rw [hv] at VA
    clear hv
    go_wp2_with fail
    rw [hn5]
    refine MI.out.mono ?_
    rintro e2 w2 ⟨v2, rfl, hr2, hE2⟩
    obtain ⟨N, nc, e3, -, -, -⟩ := hr2.read
    subst e3
    have HE2 := Lib.hid hE2
    clear hr2 hE2 MI
    go_wp2_with fail
    refine (VA.out _ HE2.out).mono ?_
    rintro e3 w3 ⟨rfl, rfl⟩
    go_wp2_with fail
    refine (awake_any _ (HT.out.ext (HE1.out.trans HE2.out))).mono ?_
    rintro e4 w4 ⟨rfl, hE4⟩
    have HE4 := Lib.hid hE4
    clear hE4
    go_wp2_with fail
    go_ret
    exact ⟨rfl, (HE1.out.trans HE2.out).trans HE4.out⟩
  | true =>
    have SD := sound8 hv n
    rw [hv] at VA
    clear hv
    rcases SD with ⟨hm, h1⟩ | ⟨l, hm, hs⟩
    · rw [hm] at MI
      have q1 : (1 : Int) < (fam.length : Int) := by omega
      clear hm h1
      go_wp2_with fail
      rw [hn5]
      refine MI.out.mono ?_
      rintro e2 w2 ⟨v2, rfl, hr2, hE2⟩
      obtain ⟨N, nc, e3, -, -, -⟩ := hr2.read
      subst e3
      have HE2 := Lib.hid hE2
      clear hr2 hE2 MI
      go_wp2_with fail
      refine (VA.out _ HE2.out).mono ?_
      rintro e3 w3 ⟨rfl, rfl⟩
      go_wp2_with fail
      refine (awake_any _ (HT.out.ext (HE1.out.trans HE2.out))).mono ?_
      rintro e4 w4 ⟨rfl, hE4⟩
      have HE4 := Lib.hid hE4
      clear hE4
      go_wp2_with fail
      go_ret
      exact ⟨rfl, (HE1.out.trans HE2.out).trans HE4.out⟩
    · rw [hm] at MI
      have HS := Lib.hid hs
      clear hm hs
      go_wp2_with fail
      rw [hn5]
      refine MI.out.mono ?_
      rintro e2 w2 ⟨v2, rfl, hr2, hE2⟩
      have hr2' : Rs w2 v2 l := hr2
      obtain ⟨N, nc, e3, b1, b2, RN⟩ := hr2'.read
      subst e3
      have HE2 := Lib.hid hE2
      have HRN := Lib.hid RN
      have hll : l.length ≤ 9223372036854775807 := by unfold maxLen at b2; omega
      clear hr2 hr2' hE2 MI RN b1 b2
      go_wp2_with fail
      refine (VA.out _ HE2.out).mono ?_
      rintro e3 w3 ⟨rfl, rfl⟩
      clear VA
      go_wp2_with fail
      generalize hw2 : w2 = wc at *
      go_loopw [49] (fun i wr => ∃ k : Nat, k ≤ l.length ∧ i = iV (k : Int) ∧ Ext wc wr) (fun i _ => l.length - (intOf i).toNat)
      case atStart => exact ⟨0, by omega, rfl, Ext.refl _⟩
      case round =>
        obtain ⟨k, hk, rfl, hE⟩ := hrel
        have HE := Lib.hid hE
        clear hE
        by_cases hlt : k < l.length
        · obtain ⟨ad, u, rfl, c1, hu⟩ := HRN.out wr HE.out k hlt
          have s1 := HS.out.len k hlt
          have s2 := HS.out.least k hlt
          have s3 := HS.out.valid k hlt
          have HSL := Lib.hid (HS.out.less k hlt)
          obtain ⟨s, hs⟩ : ∃ s, l.getD k [] = s := ⟨_, rfl⟩
          rw [hs] at hu s1 s2 s3 HSL
          clear hs
          have LE := Lib.hid (rleast_any s fam u (.slice A fam.length c) wr hu (HR1.out.ext (HE2.out.trans HE.out)) (by omega))
          rw [s2] at LE
          have HU := Lib.hid hu
          have HS3 := Lib.hid s3
          obtain ⟨U, uc, rfl, -, -, -⟩ := hu.read
          clear hu s2 s3
          have q1 : ((s.length : Nat) : Int) ≤ (n : Int) := by omega
          go_wp2_with fail
          refine LE.out.mono ?_
          rintro e4 w4 ⟨rfl, hE4⟩
          have HE4 := Lib.hid (HE.out.trans hE4)
          have VS := Lib.hid (valid_any [s] _ _ (rsC (cs := #[Value.slice U s.length uc]) (k := w4.heap.size) (n := 1) rfl rfl rfl (by omega) (cont1 (HU.out.ext hE4))))
          rw [HS3.out] at VS
          have HU4 := Lib.hid ((HU.out.ext hE4).ext ((Ext.refl _).alloc (.cells #[Value.slice U s.length uc] 35)))
          clear hE4 LE
          by_cases h0 : 0 < k
          · obtain ⟨ad', u', e', c2, hu'⟩ := HRN.out (w4.alloc (.cells #[Value.slice U s.length uc] 35)) (HE4.out.alloc _) (k - 1) (by omega)
            obtain rfl := Option.some.inj e'
            have LS := Lib.hid (rless_any _ _ _ _ _ hu' HU4.out)
            rw [HSL.out h0] at LS
            have wk : IntKind.i64.wrap ((k : Int) - 1) = ((k - 1 : Nat) : Int) := by rw [IntWalk.i64_in _ (by omega)]; omega
            obtain ⟨U', uc', rfl, -, -, -⟩ := hu'.read
            clear hu' e' HSL
            go_wp2_with fail
            refine VS.out.mono ?_
            rintro e5 w5 ⟨rfl, rfl⟩
            go_wp2_with fail
            refine LS.out.mono ?_
            rintro e6 w6 ⟨rfl, hE6⟩
            have HE6 := Lib.hid ((HE4.out.alloc _).trans hE6)
            clear hE6 LS VS
            go_wp2_with fail
            exact ⟨⟨k + 1, by omega, by go_num, HE6.out⟩, by simp [intOf]; omega⟩
          · have q2 : ¬ (0 < (k : Int)) := by omega
            have q3 : k ≤ 0 := by omega
            have tk : decide (0 < k) = false := by simp; omega
            clear h0
            go_wp2_with fail
            refine VS.out.mono ?_
            rintro e5 w5 ⟨rfl, rfl⟩
            clear VS
            go_wp2_with fail
            exact ⟨⟨k + 1, by omega, by go_num, HE4.out.alloc _⟩, by simp [intOf]; omega⟩
        · obtain rfl : k = l.length := by omega
          go_wp2_with fail
          refine (awake_any _ (HT.out.ext ((HE1.out.trans HE2.out).trans HE.out))).mono ?_
          rintro e4 w4 ⟨rfl, hE4⟩
          have HE4 := Lib.hid hE4
          clear hE4
          go_wp2_with fail
          go_ret
          exact ⟨rfl, ((HE1.out.trans HE2.out).trans HE.out).trans HE4.out⟩
end Go.Proofs.YtdcbejccplonjaaDoor
