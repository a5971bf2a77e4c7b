/- Items in memory; looking a name up. -/
import Derived.Test.YtjedhndhdkiidaaDoorV3
namespace Go.Proofs.YtjedhndhdkiidaaDoor
open Go.RowKit
attribute [local go_sem ↓] Go.wp_at_zero Go.wp_at_succ
attribute [local go_sem] baSize baList
attribute [local go_sem ↓] ld75 ld48 ld73 st75 st48 al75 al48 bu75 bu48
attribute [local go_sem] run_al75 run_al48 run_bu48 run_bu75n run_bu75c run_bu75o run_st75n run_st48n
/-- An item of a disclosure. -/
structure It where
  nm : List UInt8
  op : Bool
  cm : List UInt8
  vl : List UInt8
  sl : List UInt8
abbrev It0 : It := ⟨[], false, [], [], []⟩
def ItAt (w : World) (u : List Value) (x : It) : Prop := ∃ v, u = (itA x.nm x.op x.cm v x.sl).toList ∧ SlB w v x.vl
theorem ItAt.ext {w w' : World} {u : List Value} {x : It} (h : ItAt w u x) (k : Ext w w') : ItAt w' u x := by
  obtain ⟨v, e, h1⟩ := h
  exact ⟨v, e, h1.ext k⟩
theorem ItAt.len {w : World} {u : List Value} {x : It} (h : ItAt w u x) : u.length = 51 := by
  obtain ⟨v, rfl, h1⟩ := h
  rw [Array.length_toList, arV_size]
/-- Items behind a slice. -/
def DsAt (w : World) (v : Value) (xs : List It) : Prop := ∃ us, SlAt 51 w v us ∧ us.length = xs.length ∧ ∀ j, j < xs.length → ItAt w (us.getD j []) (xs.getD j It0)
theorem DsAt.ext {w w' : World} {v : Value} {xs : List It} (h : DsAt w v xs) (k : Ext w w') : DsAt w' v xs := by
  obtain ⟨us, h1, h2, h3⟩ := h
  exact ⟨us, h1.ext k, h2, fun j hj => (h3 j hj).ext k⟩
theorem DsAt.read {w : World} {v : Value} {xs : List It} (h : DsAt w v xs) : ∃ A c, v = .slice A xs.length c ∧ xs.length ≤ c ∧ c ≤ maxLen ∧ ∀ W, Ext w W → ∀ j, j < xs.length → ∃ (b o : Nat) (A1 : Option Addr) (c1 : Nat), A = some ⟨b, o, none⟩ ∧ b < W.heap.size ∧
    (∀ i, i < 51 → W.cell? ⟨b, o + j * 51 + i, none⟩ = some (itF (xs.getD j It0).nm (xs.getD j It0).op (xs.getD j It0).cm (.slice A1 (xs.getD j It0).vl.length c1) (xs.getD j It0).sl i)) ∧ (xs.getD j It0).vl.length ≤ c1 ∧ c1 ≤ maxLen ∧ BytesAt W A1 (xs.getD j It0).vl := by
  obtain ⟨us, h1, h2, h3⟩ := h
  obtain ⟨A, c, e, k1, k2, k3⟩ := h1.read
  refine ⟨A, c, by rw [e, h2], by omega, k2, fun W hW j hj => ?_⟩
  obtain ⟨b, o, e2, hb, hc⟩ := k3 W hW j (by omega) (by omega)
  obtain ⟨v1, e3, ⟨A1, c1, rfl, a1, a2, a3⟩⟩ := h3 j hj
  rw [e3] at hc
  exact ⟨b, o, A1, c1, e2, hb, fun i hi => hc i _ hi (by rw [Array.getElem?_toList, arV_at hi]), a1, a2, a3.ext hW⟩
/-- The names ascend. -/
def Asc (xs : List It) : Prop := xs.Pairwise fun a b => a.nm < b.nm
theorem Asc.get {xs : List It} (h : Asc xs) {i j : Nat} (hij : i < j) (hj : j < xs.length) : (xs.getD i It0).nm < (xs.getD j It0).nm := by
  have := List.pairwise_iff_getElem.1 h i j (by omega) hj hij
  rw [List.getD_eq_getElem?_getD, List.getElem?_eq_getElem (by omega), List.getD_eq_getElem?_getD, List.getElem?_eq_getElem hj]
  exact this
/-- Where a name is. -/
def RetF (xs : List It) (s : List UInt8) (w : World) (e : Ending) (w' : World) : Prop :=
  ∃ i : Nat, ∃ b : Bool, e = .returned (.tuple #[iV (i : Int), .bool b]) ∧ i ≤ xs.length ∧ (b = true ∧ i < xs.length ∧ (xs.getD i It0).nm = s ∨ b = false ∧ s ∉ xs.map (·.nm)) ∧ Ext w w'
set_option maxRecDepth 100000 in
set_option maxHeartbeats 1000000 in
theorem bin61_ok (xs : List It) (v : Value) (s : List UInt8) (w : World) (hv : DsAt w v xs) (ha : Asc xs) (hl : xs.length ≤ 1000) : Calls Tryd.prog 61 #[v, sV s, .func (.func 62) #[] #[]] w (RetF xs s w) := by
  obtain ⟨A, c, rfl, a1, a2, RA⟩ := hv.read
  have HR := Lib.hid RA
  have HAS := Lib.hid ha
  clear RA ha hv
  go_enter Tryd.func61, Tryd.ntmps61
  go_wp2_with fail
  go_loopw [9, 10] (fun i j wr => ∃ lo hi : Nat, i = iV (lo : Int) ∧ j = iV (hi : Int) ∧ lo ≤ hi ∧ hi ≤ xs.length ∧ (∀ t, t < lo → (xs.getD t It0).nm < s) ∧ (∀ t, hi ≤ t → t < xs.length → ¬ (xs.getD t It0).nm < s) ∧ Ext w wr) (fun i j _ => (intOf j).toNat - (intOf i).toNat)
  case atStart => exact ⟨0, xs.length, rfl, rfl, by omega, by omega, fun t ht => by omega, fun t h1 h2 => by omega, Ext.refl _⟩
  case round =>
    obtain ⟨lo, hi, rfl, rfl, hlh, hin, h1, h2, hX⟩ := hrel
    have H1 := Lib.hid h1
    have H2 := Lib.hid h2
    have HX := Lib.hid hX
    clear h1 h2 hX
    by_cases hlt : lo < hi
    · obtain ⟨mid, hmid⟩ : ∃ mid, (lo + hi) / 2 = mid := ⟨_, rfl⟩
      have hm1 : mid < xs.length := by omega
      obtain ⟨b, o, A1, c1, rfl, hb, cR, -⟩ := HR.out wr HX.out mid hm1
      obtain ⟨x, hx⟩ : ∃ x, xs.getD mid It0 = x := ⟨_, rfl⟩
      rw [hx] at cR
      have l1 := run_ld75 cR
      have HXK := Lib.hid hx
      have CC := Lib.hid (fun W => cmp62_ok x.nm s x.op x.cm (.slice A1 x.vl.length c1) x.sl W)
      have HN : Hid (cmpS x.nm s < 0 ↔ x.nm < s) := Lib.hid cmpS_neg
      obtain ⟨cv, hcv⟩ : ∃ cv, cmpS x.nm s = cv := ⟨_, rfl⟩
      rw [hcv] at CC HN
      have hmi : ((lo : Int) + (hi : Int)) / 2 = (mid : Int) := by omega
      have q0 : (0 : Int) ≤ (mid : Int) := by omega
      have q1 : (mid : Int) < (xs.length : Int) := by omega
      clear cR hx hcv
      by_cases hc : cv < 0
      · go_wp2_with fail
        go_at_call 62
        refine (CC.out _).mono ?_
        rintro e1 w1 ⟨rfl, hg⟩
        have HG := Lib.hid hg.ext
        clear hg l1
        go_wp2_with fail
        exact ⟨⟨mid + 1, hi, by go_num, rfl, by omega, hin, fun t ht => by
          rcases Nat.lt_or_ge t mid with h | h
          · have h3 := HAS.out.get h hm1
            rw [HXK.out] at h3
            exact slt_trans h3 (HN.out.1 hc)
          · obtain rfl : t = mid := by omega
            rw [HXK.out]
            exact HN.out.1 hc, H2.out, HX.out.trans HG.out⟩, by simp [intOf]; omega⟩
      · have HCN := Lib.hid hc
        go_wp2_with fail
        go_at_call 62
        refine (CC.out _).mono ?_
        rintro e1 w1 ⟨rfl, hg⟩
        have HG := Lib.hid hg.ext
        clear hg l1
        go_wp2_with fail
        exact ⟨⟨lo, mid, rfl, by go_num, by omega, by omega, H1.out, fun t ht htn h => by
          rcases Nat.lt_or_ge mid t with h4 | h4
          · have h3 := HAS.out.get h4 htn
            rw [HXK.out] at h3
            exact absurd (HN.out.2 (slt_trans h3 h)) (Int.not_lt.2 HCN.out)
          · obtain rfl : t = mid := by omega
            rw [HXK.out] at h
            exact absurd (HN.out.2 h) (Int.not_lt.2 HCN.out), HX.out.trans HG.out⟩, by simp [intOf]; omega⟩
    · obtain rfl : hi = lo := by omega
      have HNO : Hid (∀ t, t < xs.length → (xs.getD t It0).nm = s → t = hi) := Lib.hid (fun t ht e => by
        rcases Nat.lt_trichotomy t hi with h | h | h
        · have := H1.out t h
          rw [e] at this
          exact absurd this (slt_irrefl _)
        · exact h
        · have h5 : hi < xs.length := by omega
          have h3 := HAS.out.get h ht
          rw [e] at h3
          exact absurd h3 (H2.out hi (by omega) h5))
      have HNK : Hid (¬ (hi < xs.length ∧ (xs.getD hi It0).nm = s) → s ∉ xs.map (·.nm)) := Lib.hid (fun hno hm => by
        obtain ⟨y, hy, hye⟩ := List.mem_map.1 hm
        obtain ⟨i, hi', he⟩ := List.getElem_of_mem hy
        have e : xs.getD i It0 = y := by rw [List.getD_eq_getElem?_getD, List.getElem?_eq_getElem hi']; exact he
        have := HNO.out i hi' (by rw [e]; exact hye)
        subst this
        exact hno ⟨hi', by rw [e]; exact hye⟩)
      by_cases hn : hi < xs.length
      · obtain ⟨b, o, A1, c1, rfl, hb, cR, -⟩ := HR.out wr HX.out hi hn
        obtain ⟨x, hx⟩ : ∃ x, xs.getD hi It0 = x := ⟨_, rfl⟩
        rw [hx] at cR
        have l1 := run_ld75 cR
        have HXK := Lib.hid hx
        have CC := Lib.hid (fun W => cmp62_ok x.nm s x.op x.cm (.slice A1 x.vl.length c1) x.sl W)
        have HN : Hid (cmpS x.nm s = 0 ↔ x.nm = s) := Lib.hid cmpS_zero
        obtain ⟨cv, hcv⟩ : ∃ cv, cmpS x.nm s = cv := ⟨_, rfl⟩
        rw [hcv] at CC HN
        have q0 : (0 : Int) ≤ (hi : Int) := by omega
        have q1 : (hi : Int) < (xs.length : Int) := by omega
        clear cR hx hcv
        by_cases hc : cv = 0
        · have t0 : (cv == 0) = true := by simp [hc]
          have HC := Lib.hid hc
          clear hc
          go_wp2_with fail
          go_at_call 62
          refine (CC.out _).mono ?_
          rintro e1 w1 ⟨rfl, hg⟩
          have HG := Lib.hid hg.ext
          clear hg l1
          go_wp2_with fail
          go_ret2
          exact ⟨hi, true, by simp, by omega, .inl ⟨rfl, hn, by rw [HXK.out]; exact HN.out.1 HC.out⟩, HX.out.trans HG.out⟩
        · have t0 : (cv == 0) = false := by simp [hc]
          have HC := Lib.hid hc
          clear hc
          go_wp2_with fail
          go_at_call 62
          refine (CC.out _).mono ?_
          rintro e1 w1 ⟨rfl, hg⟩
          have HG := Lib.hid hg.ext
          clear hg l1
          go_wp2_with fail
          go_ret2
          exact ⟨hi, false, by simp, by omega, .inr ⟨rfl, HNK.out fun h => HC.out (by rw [HXK.out] at h; exact HN.out.2 h.2)⟩, HX.out.trans HG.out⟩
      · have q1 : decide ((hi : Int) < (xs.length : Int)) = false := by rw [decide_eq_false_iff_not]; omega
        go_wp2_with fail
        go_ret2
        exact ⟨hi, false, by simp, by omega, .inr ⟨rfl, HNK.out fun h => hn h.1⟩, HX.out⟩
/-- A disclosure: a struct of one field. -/
abbrev dsV (v : Value) : Value := .agg #[v]
theorem find37_ok (xs : List It) (v : Value) (s : List UInt8) (w : World) (hv : DsAt w v xs) (ha : Asc xs) (hl : xs.length ≤ 1000) : Calls Tryd.prog 37 #[dsV v, sV s] w (RetF xs s w) := by
  have CB := Lib.hid (fun W (hW : Ext w W) => bin61_ok xs v s W (hv.ext hW) ha hl)
  obtain ⟨A, c, rfl, -, -, -⟩ := hv.read
  clear hv ha
  go_enter Tryd.func37, Tryd.ntmps37
  go_wp2_with fail
  refine (CB.out _ ((Ext.refl _).alloc _)).mono ?_
  rintro e1 w1 ⟨i, b, rfl, hi, hb, hE⟩
  have HB := Lib.hid hb
  have HE := Lib.hid hE
  clear hb hE CB
  go_wp2_with fail
  go_ret2
  exact ⟨i, b, rfl, hi, HB.out, ((Ext.refl _).alloc _).trans HE.out⟩
set_option maxRecDepth 100000 in
/-- All of these names are there. -/
theorem has30_ok (xs : List It) (v : Value) (ss : List (List UInt8)) (t : Value) (w : World) (hv : DsAt w v xs) (ha : Asc xs) (hl : xs.length ≤ 1000) (ht : SsAt w t ss) : Calls Tryd.prog 30 #[dsV v, t] w (RetB (ss.all fun s => decide (s ∈ xs.map (·.nm))) w) := by
  have CB := Lib.hid (fun W (hW : Ext w W) s => find37_ok xs v s W (hv.ext hW) ha hl)
  obtain ⟨A, c, rfl, -, -, -⟩ := hv.read
  obtain ⟨A', c', rfl, h1, h2, h3⟩ := ht.read
  have HR := Lib.hid h3
  have HL : Hid (ss.length ≤ 9223372036854775807) := Lib.hid (by unfold maxLen at h2; omega)
  clear hv ha h3 h2 h1 ht
  go_enter Tryd.func30, Tryd.ntmps30
  go_wp2_with fail
  generalize hwB : w.alloc (.cells #[.slice A xs.length c] 32) = wB
  have t0 : wB.cell? ⟨w.heap.size, 0, none⟩ = some (.slice A xs.length c) := by rw [← hwB]; exact new_at _ _ _ 0 _ rfl
  have HT := Lib.hid t0
  have HE0 : Hid (Ext w wB) := Lib.hid (by rw [← hwB]; exact (Ext.refl _).alloc _)
  clear hwB t0
  go_loopw [11] (fun i wr => ∃ k : Nat, k ≤ ss.length ∧ i = iV (k : Int) ∧ Ext wB wr ∧ (ss.take k).all (fun s => decide (s ∈ xs.map (·.nm))) = true) (fun i _ => ss.length - (intOf i).toNat)
  case atStart => exact ⟨0, by omega, rfl, Ext.refl _, by simp⟩
  case round =>
    obtain ⟨k, hk, rfl, hX, ha⟩ := hrel
    have HX := Lib.hid hX
    have HA := Lib.hid ha
    clear hX ha
    by_cases hlt : k < ss.length
    · have q1 : (k : Int) < (ss.length : Int) := by omega
      have q0 : (0 : Int) ≤ (k : Int) := by omega
      have q2 : (k : Int) < 9223372036854775807 := by have := HL.out; omega
      obtain ⟨bb, o, rfl, hb, e0⟩ := HR.out wr (HE0.out.trans HX.out) k hlt
      obtain ⟨s, hs⟩ : ∃ s, ss.getD k [] = s := ⟨_, rfl⟩
      rw [hs] at e0
      have HS : Hid (ss.take (k + 1) = ss.take k ++ [s]) := Lib.hid (by
        rw [List.take_succ_eq_append_getElem hlt, ← hs, List.getD_eq_getElem?_getD, List.getElem?_eq_getElem hlt]
        rfl)
      have HM : Hid (s ∈ ss) := Lib.hid (by
        rw [← hs, List.getD_eq_getElem?_getD, List.getElem?_eq_getElem hlt]
        exact List.getElem_mem hlt)
      clear hs
      have t0 := HX.out.cell HT.out
      go_wp2_with fail
      refine (CB.out _ (HE0.out.trans HX.out) s).mono ?_
      rintro _ w1 ⟨i, b, rfl, hi, hb1, hE1⟩
      have HE1 := Lib.hid hE1
      rcases hb1 with ⟨rfl, h3, h4⟩ | ⟨rfl, h3⟩
      · have HI : Hid (s ∈ xs.map (·.nm)) := Lib.hid (List.mem_map.2 ⟨xs.getD i It0, by
          rw [List.getD_eq_getElem?_getD, List.getElem?_eq_getElem h3]
          exact List.getElem_mem h3, h4⟩)
        clear h3 h4 hE1 hi e0 t0
        go_wp2_with fail
        refine ⟨⟨k + 1, by omega, by go_num, HX.out.trans HE1.out, ?_⟩, by simp [intOf]; omega⟩
        rw [HS.out, List.all_append, HA.out]
        simp only [List.all_cons, List.all_nil, Bool.true_and, Bool.and_true]
        exact decide_eq_true HI.out
      · have HI := Lib.hid h3
        clear h3 hE1 hi e0 t0
        go_wp2_with fail
        go_ret
        refine ⟨?_, HE0.out.trans (HX.out.trans HE1.out)⟩
        rw [List.all_eq_false.2 ⟨s, HM.out, by rw [decide_eq_true_iff]; exact HI.out⟩]
        rfl
    · obtain rfl : k = ss.length := by omega
      have ha := HA.out
      rw [List.take_length] at ha
      go_wp2_with fail
      go_ret
      exact ⟨by rw [ha]; rfl, HE0.out.trans HX.out⟩
end Go.Proofs.YtjedhndhdkiidaaDoor
