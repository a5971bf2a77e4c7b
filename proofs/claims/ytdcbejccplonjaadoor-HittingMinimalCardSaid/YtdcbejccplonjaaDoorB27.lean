/- The walk over the reference's Reduce. -/
import Derived.Test.YtdcbejccplonjaaDoorB26
namespace Go.Proofs.YtdcbejccplonjaaDoor
open Go.RowKit
attribute [local go_sem ↓] Go.wp_at_zero Go.wp_at_succ
def badR (s t : List Int) : Bool := withinR t s && decide (t.length < s.length)
theorem needR_eq (fam : List (List Int)) (s : List Int) : needR fam s = fam.all fun t => !badR s t := rfl
def redTo (fam : List (List Int)) (k : Nat) : List (List Int) := insAll ((fam.take k).filter (needR fam))
theorem redTo_succ (fam : List (List Int)) {k : Nat} (h : k < fam.length) : redTo fam (k + 1) = if needR fam (fam.getD k []) = true then insF (fam.getD k []) (redTo fam k) else redTo fam k := by
  unfold redTo
  rw [filter_snoc _ h, List.getD_eq_getElem?_getD, List.getElem?_eq_getElem h]
  show insAll _ = if needR fam fam[k] = true then insF fam[k] _ else _
  split
  · rw [insAll_snoc]
  · rw [List.append_nil]
theorem redTo_end (fam : List (List Int)) : redTo fam fam.length = redR fam := by unfold redTo redR; rw [List.take_length]
theorem insAll_le (ss : List (List Int)) : (insAll ss).length ≤ ss.length := by
  induction ss using snoc_ind with
  | h0 => simp [insAll]
  | h1 l x ih =>
    rw [insAll_snoc, List.length_append, List.length_singleton]
    have : ∀ (s : List Int) (l : List (List Int)), (insF s l).length ≤ l.length + 1 := fun s l => by
      induction l with
      | nil => simp [insF]
      | cons t r ih2 =>
        rw [insF]
        split
        · simp
        · split
          · simp only [List.length_cons]; omega
          · simp only [List.length_cons]; omega
    have := this x (insAll l)
    omega
theorem redTo_len (fam : List (List Int)) (k : Nat) : (redTo fam k).length ≤ fam.length := by
  unfold redTo
  have h1 := insAll_le ((fam.take k).filter (needR fam))
  have h2 := List.length_filter_le (needR fam) (fam.take k)
  rw [List.length_take] at h2
  omega
set_option maxRecDepth 100000 in
set_option maxHeartbeats 8000000 in
theorem rreduce_any (fam : List (List Int)) (v : Value) (w : World) (h : Rs w v fam) (hb : fam.length ≤ 100000) : Calls Tryd.prog 24 #[v] w (RetRs (redR fam) w) := by
  obtain ⟨A, c, rfl, a1, a2, RA⟩ := h.read
  have HR := Lib.hid RA
  clear RA h a1 a2
  go_enter Tryd.func24, Tryd.ntmps24
  go_wp2_with fail
  go_loopw [3, 11] (fun t i wr => ∃ k : Nat, k ≤ fam.length ∧ i = iV (k : Int) ∧ Rs wr t (redTo fam k) ∧ Ext w wr) (fun _ i _ => fam.length - (intOf i).toNat)
  case atStart => exact ⟨0, by omega, rfl, Rs.nil _, Ext.refl _⟩
  case round =>
    obtain ⟨k, hk, rfl, hr, hE⟩ := hrel
    have HO := Lib.hid hr
    have HE := Lib.hid hE
    clear hr hE
    by_cases hlt : k < fam.length
    · obtain ⟨ad, u, rfl, c1, hu⟩ := HR.out wr HE.out k hlt
      have HS := Lib.hid (redTo_succ fam hlt)
      have hlr := redTo_len fam k
      obtain ⟨s, hs⟩ : ∃ s, fam.getD k [] = s := ⟨_, rfl⟩
      rw [hs] at hu HS
      clear hs
      have HU := Lib.hid hu
      obtain ⟨U, uc, rfl, u1, u2, -⟩ := hu.read
      have hus : s.length ≤ 9223372036854775807 := by unfold maxLen at u2; omega
      clear hu u1 u2
      go_wp2_with fail
      go_loop [6, 17] (fun b i => ∃ j : Nat, j ≤ fam.length ∧ i = iV (j : Int) ∧ b = .bool ((fam.take j).all fun t => !badR s t)) (fun _ i => fam.length - (intOf i).toNat)
      case atStart => exact ⟨0, by omega, rfl, by simp⟩
      case round =>
        obtain ⟨j, hj, rfl, rfl⟩ := hrel
        by_cases hjl : j < fam.length
        · obtain ⟨ad', u', e', c2, hu'⟩ := HR.out wr HE.out j hjl
          obtain rfl := Option.some.inj e'
          have HA := Lib.hid (all_take (fun t => !badR s t) fam (d := ([] : List Int)) hjl)
          obtain ⟨t, ht⟩ : ∃ t, fam.getD j [] = t := ⟨_, rfl⟩
          rw [ht] at hu' HA
          clear ht e'
          have WI := Lib.hid (within_any t s _ _ wr hu' HU.out)
          obtain ⟨U', uc', rfl, -, -, -⟩ := hu'.read
          clear hu'
          have HB : Hid (badR s t = (withinR t s && decide (t.length < s.length))) := Lib.hid rfl
          obtain ⟨ac, hac⟩ : ∃ ac, ((fam.take j).all fun t => !badR s t) = ac := ⟨_, rfl⟩
          rw [hac] at HA ⊢
          clear hac
          go_wp2_with fail
          refine WI.out.mono ?_
          rintro e3 w3 ⟨rfl, rfl⟩
          cases hw : withinR t s with
          | false =>
            have HN : Hid (((fam.take (j + 1)).all fun t => !badR s t) = ac) := by rw [HA.out, HB.out, hw]; simp [Hid]
            clear HA HB hw WI
            go_wp2_with fail
            exact ⟨⟨j + 1, by omega, by go_num, by rw [HN.out]⟩, by simp [intOf]; omega⟩
          | true =>
            by_cases hl : t.length < s.length
            · have HN : Hid (((fam.take (j + 1)).all fun t => !badR s t) = false) := by rw [HA.out, HB.out, hw, decide_eq_true hl]; simp [Hid]
              have q1 : ((t.length : Nat) : Int) < ((s.length : Nat) : Int) := by omega
              clear HA HB hw WI
              go_wp2_with fail
              exact ⟨⟨j + 1, by omega, by go_num, by rw [HN.out]⟩, by simp [intOf]; omega⟩
            · have HN : Hid (((fam.take (j + 1)).all fun t => !badR s t) = ac) := by rw [HA.out, HB.out, hw, decide_eq_false hl]; simp [Hid]
              have q1 : ((s.length : Nat) : Int) ≤ ((t.length : Nat) : Int) := by omega
              clear HA HB hw WI
              go_wp2_with fail
              exact ⟨⟨j + 1, by omega, by go_num, by rw [HN.out]⟩, by simp [intOf]; omega⟩
        · obtain rfl : j = fam.length := by omega
          rw [List.take_length]
          have HNe := Lib.hid (needR_eq fam s)
          cases hn : (fam.all fun t => !badR s t) with
          | true =>
            have HS' : Hid (redTo fam (k + 1) = insF s (redTo fam k)) := by rw [HS.out, HNe.out, hn, if_pos rfl]; exact Lib.hid rfl
            have INS := Lib.hid (insert_any (redTo fam k) s _ _ wr HO.out HU.out (by omega))
            clear hn HS HNe
            go_wp2_with fail
            refine INS.out.mono ?_
            rintro e4 w4 ⟨v4, rfl, hr4, hE4⟩
            have HR4 := Lib.hid hr4
            have HE4 := Lib.hid (HE.out.trans hE4)
            clear hr4 hE4 INS
            go_wp2_with fail
            exact ⟨⟨k + 1, by omega, by go_num, by rw [HS'.out]; exact HR4.out, HE4.out⟩, by simp [intOf]; omega⟩
          | false =>
            have HS' : Hid (redTo fam (k + 1) = redTo fam k) := by rw [HS.out, HNe.out, hn, if_neg (by simp)]; exact Lib.hid rfl
            clear hn HS HNe
            go_wp2_with fail
            exact ⟨⟨k + 1, by omega, by go_num, by rw [HS'.out]; exact HO.out, HE.out⟩, by simp [intOf]; omega⟩
    · obtain rfl : k = fam.length := by omega
      rw [redTo_end] at HO
      go_wp2_with fail
      go_ret
      exact ⟨_, rfl, HO.out, HE.out⟩
end Go.Proofs.YtdcbejccplonjaaDoor
