/- The walks over the reference's Has, Hits, Within and Less. -/
import Derived.Test.YtdcbejccplonjaaDoorB22
namespace Go.Proofs.YtdcbejccplonjaaDoor
open Go.RowKit
attribute [local go_sem ↓] Go.wp_at_zero Go.wp_at_succ
set_option maxHeartbeats 4000000 in
theorem has_any (l : List Int) (x : Int) (v : Value) (w : World) (h : Is w v l) : Calls Tryd.prog 42 #[v, .int .i64 x] w fun e w' => e = .returned (.bool (decide (x ∈ l))) ∧ w = w' := by
  obtain ⟨A, c, rfl, a1, a2, RA⟩ := h.read
  have HR := Lib.hid (RA w (Ext.refl _))
  have hl : l.length ≤ 9223372036854775807 := by unfold maxLen at a2; omega
  clear RA h a1 a2
  go_enter Tryd.func42, Tryd.ntmps42
  go_wp2_with fail
  go_loop [9] (fun i => ∃ k : Nat, k ≤ l.length ∧ i = iV (k : Int) ∧ ∀ j, j < k → l.getD j 0 ≠ x) (fun i => l.length - (intOf i).toNat)
  case atStart => exact ⟨0, by omega, rfl, fun j hj => by omega⟩
  case round =>
    obtain ⟨k, hk, rfl, hn⟩ := hrel
    have HN := Lib.hid hn
    clear hn
    by_cases hlt : k < l.length
    · obtain ⟨ad, rfl, c1⟩ := HR.out k hlt
      have HM : Hid (l.getD k 0 ∈ l) := by
        rw [List.getD_eq_getElem?_getD, List.getElem?_eq_getElem hlt]; exact Lib.hid (List.getElem_mem hlt)
      obtain ⟨y, hy⟩ : ∃ y, l.getD k 0 = y := ⟨_, rfl⟩
      have HY := Lib.hid hy
      rw [hy] at c1 HM
      clear hy
      by_cases he : x = y
      · subst he
        have hd : decide (x ∈ l) = true := decide_eq_true HM.out
        go_wp2_with fail
        go_ret
        exact ⟨rfl, rfl⟩
      · have t0 : (x == y) = false := by simpa using he
        have HE := Lib.hid he
        clear he
        go_wp2_with fail
        refine ⟨⟨k + 1, by omega, by go_num, fun j hj => ?_⟩, by simp [intOf]; omega⟩
        rcases Nat.lt_or_ge j k with h1 | h1
        · exact HN.out j h1
        · have : j = k := by omega
          rw [this, HY.out]
          exact fun e => HE.out e.symm
    · obtain rfl : k = l.length := by omega
      have hd : decide (x ∈ l) = false := decide_eq_false fun hm => by
        obtain ⟨i, hi, e⟩ := List.mem_iff_getElem.1 hm
        refine HN.out i hi ?_
        rw [List.getD_eq_getElem?_getD, List.getElem?_eq_getElem hi]
        exact e
      go_wp2_with fail
      go_ret
      exact ⟨rfl, rfl⟩
theorem all_take {α : Type} (f : α → Bool) (l : List α) {k : Nat} {d : α} (h : k < l.length) : (l.take (k + 1)).all f = ((l.take k).all f && f (l.getD k d)) := by
  rw [take_snoc h, List.all_append, List.getD_eq_getElem?_getD, List.getElem?_eq_getElem h]
  simp
theorem any_take {α : Type} (f : α → Bool) (l : List α) {k : Nat} {d : α} (h : k < l.length) : (l.take (k + 1)).any f = ((l.take k).any f || f (l.getD k d)) := by
  rw [take_snoc h, List.any_append, List.getD_eq_getElem?_getD, List.getElem?_eq_getElem h]
  simp
theorem all_false {α : Type} (f : α → Bool) {l : List α} {k : Nat} {d : α} (h : k < l.length) (hf : f (l.getD k d) = false) : l.all f = false := by
  rw [List.all_eq_false]
  rw [List.getD_eq_getElem?_getD, List.getElem?_eq_getElem h] at hf
  exact ⟨l[k], List.getElem_mem h, by simpa using hf⟩
set_option maxHeartbeats 4000000 in
theorem within_any (a b : List Int) (va vb : Value) (w : World) (ha : Is w va a) (hb : Is w vb b) : Calls Tryd.prog 28 #[va, vb] w fun e w' => e = .returned (.bool (withinR a b)) ∧ w = w' := by
  obtain ⟨A, c, rfl, a1, a2, RA⟩ := ha.read
  have HR := Lib.hid (RA w (Ext.refl _))
  have HB := Lib.hid hb
  have hl : a.length ≤ 9223372036854775807 := by unfold maxLen at a2; omega
  clear RA ha hb a1 a2
  have HW : Hid (withinR a b = a.all fun x => decide (x ∈ b)) := Lib.hid rfl
  go_enter Tryd.func28, Tryd.ntmps28
  go_wp2_with fail
  go_loop [9] (fun i => ∃ k : Nat, k ≤ a.length ∧ i = iV (k : Int) ∧ (a.take k).all (fun x => decide (x ∈ b)) = true) (fun i => a.length - (intOf i).toNat)
  case atStart => exact ⟨0, by omega, rfl, by simp⟩
  case round =>
    obtain ⟨k, hk, rfl, hn⟩ := hrel
    have HN := Lib.hid hn
    clear hn
    by_cases hlt : k < a.length
    · obtain ⟨ad, rfl, c1⟩ := HR.out k hlt
      have HS := Lib.hid (all_take (fun x => decide (x ∈ b)) a (d := (0 : Int)) hlt)
      have HF := Lib.hid (fun h => all_false (fun x => decide (x ∈ b)) (l := a) (d := (0 : Int)) hlt h)
      obtain ⟨y, hy⟩ : ∃ y, a.getD k 0 = y := ⟨_, rfl⟩
      rw [hy] at c1 HS HF
      clear hy
      have HH := Lib.hid (has_any b y vb w HB.out)
      go_wp2_with fail
      refine HH.out.mono ?_
      rintro e1 w1 ⟨rfl, rfl⟩
      cases hd : decide (y ∈ b) with
      | true =>
        have HS' : Hid ((a.take (k + 1)).all (fun x => decide (x ∈ b)) = true) := by rw [HS.out, HN.out]; simp only [hd]; exact Lib.hid rfl
        clear HS HF HH hd
        go_wp2_with fail
        exact ⟨⟨k + 1, by omega, by go_num, HS'.out⟩, by simp [intOf]; omega⟩
      | false =>
        have HS' : Hid (withinR a b = false) := by rw [HW.out]; exact Lib.hid (HF.out hd)
        clear HS HF HH hd
        go_wp2_with fail
        go_ret
        rw [HS'.out]
        exact ⟨rfl, rfl⟩
    · obtain rfl : k = a.length := by omega
      have HS' : Hid (withinR a b = true) := by
        have := HN.out
        rw [List.take_length] at this
        rw [HW.out]
        exact Lib.hid this
      go_wp2_with fail
      go_ret
      rw [HS'.out]
      exact ⟨rfl, rfl⟩
set_option maxHeartbeats 4000000 in
theorem rhits_any (set : List Int) (fam : List (List Int)) (vs vf : Value) (w : World) (hs : Is w vs set) (hf : Rs w vf fam) : Calls Tryd.prog 26 #[vs, vf] w fun e w' => e = .returned (.bool (hitsR set fam)) ∧ w = w' := by
  obtain ⟨A, c, rfl, a1, a2, RA⟩ := hf.read
  have HR := Lib.hid (RA w (Ext.refl _))
  have HB := Lib.hid hs
  have hl : fam.length ≤ 9223372036854775807 := by unfold maxLen at a2; omega
  clear RA hf hs a1 a2
  have HW : Hid (hitsR set fam = fam.all fun s => s.any fun x => decide (x ∈ set)) := Lib.hid rfl
  go_enter Tryd.func26, Tryd.ntmps26
  go_wp2_with fail
  go_loop [12] (fun i => ∃ k : Nat, k ≤ fam.length ∧ i = iV (k : Int) ∧ (fam.take k).all (fun s => s.any fun x => decide (x ∈ set)) = true) (fun i => fam.length - (intOf i).toNat)
  case atStart => exact ⟨0, by omega, rfl, by simp⟩
  case round =>
    obtain ⟨k, hk, rfl, hn⟩ := hrel
    have HN := Lib.hid hn
    clear hn
    by_cases hlt : k < fam.length
    · obtain ⟨ad, u, rfl, c1, hu⟩ := HR.out k hlt
      have HS := Lib.hid (all_take (fun s => s.any fun x => decide (x ∈ set)) fam (d := ([] : List Int)) hlt)
      have HF := Lib.hid (fun h => all_false (fun s => s.any fun x => decide (x ∈ set)) (l := fam) (d := ([] : List Int)) hlt h)
      obtain ⟨s, hsy⟩ : ∃ s, fam.getD k [] = s := ⟨_, rfl⟩
      rw [hsy] at hu HS HF
      clear hsy
      obtain ⟨U, uc, rfl, b1, b2, RU⟩ := hu.read
      have HU := Lib.hid (RU w (Ext.refl _))
      have hls : s.length ≤ 9223372036854775807 := by unfold maxLen at b2; omega
      clear RU hu b1 b2
      go_wp2_with fail
      go_loop [7, 18] (fun b i => ∃ j : Nat, j ≤ s.length ∧ i = iV (j : Int) ∧ b = .bool ((s.take j).any fun x => decide (x ∈ set))) (fun _ i => s.length - (intOf i).toNat)
      case atStart => exact ⟨0, by omega, rfl, by simp⟩
      case round =>
        obtain ⟨j, hj, rfl, rfl⟩ := hrel
        by_cases hjl : j < s.length
        · obtain ⟨ad2, rfl, c2⟩ := HU.out j hjl
          have HA := Lib.hid (any_take (fun x => decide (x ∈ set)) s (d := (0 : Int)) hjl)
          obtain ⟨y, hy⟩ : ∃ y, s.getD j 0 = y := ⟨_, rfl⟩
          rw [hy] at c2 HA
          clear hy
          have HH := Lib.hid (has_any set y vs w HB.out)
          cases hb : (s.take j).any fun x => decide (x ∈ set) with
          | true =>
            have HA' : Hid ((s.take (j + 1)).any (fun x => decide (x ∈ set)) = true) := by rw [HA.out, hb]; exact Lib.hid rfl
            clear HA hb HH
            go_wp2_with fail
            exact ⟨⟨j + 1, by omega, by go_num, by rw [HA'.out]⟩, by simp [intOf]; omega⟩
          | false =>
            have HA' : Hid ((s.take (j + 1)).any (fun x => decide (x ∈ set)) = decide (y ∈ set)) := by rw [HA.out, hb]; exact Lib.hid rfl
            clear HA hb
            go_wp2_with fail
            refine HH.out.mono ?_
            rintro e1 w1 ⟨rfl, rfl⟩
            clear HH
            go_wp2_with fail
            exact ⟨⟨j + 1, by omega, by go_num, by rw [HA'.out]⟩, by simp [intOf]; omega⟩
        · obtain rfl : j = s.length := by omega
          rw [List.take_length]
          cases hb : s.any fun x => decide (x ∈ set) with
          | true =>
            have HS' : Hid ((fam.take (k + 1)).all (fun s => s.any fun x => decide (x ∈ set)) = true) := by rw [HS.out, HN.out]; simp only [hb]; exact Lib.hid rfl
            clear HS HF hb
            go_wp2_with fail
            exact ⟨⟨k + 1, by omega, by go_num, HS'.out⟩, by simp [intOf]; omega⟩
          | false =>
            have HS' : Hid (hitsR set fam = false) := by rw [HW.out]; exact Lib.hid (HF.out hb)
            clear HS HF hb
            go_wp2_with fail
            go_ret
            rw [HS'.out]
            exact ⟨rfl, rfl⟩
    · obtain rfl : k = fam.length := by omega
      have HS' : Hid (hitsR set fam = true) := by
        have := HN.out
        rw [List.take_length] at this
        rw [HW.out]
        exact Lib.hid this
      go_wp2_with fail
      go_ret
      rw [HS'.out]
      exact ⟨rfl, rfl⟩
theorem drewN_ext (w : World) (n : Nat) : Ext w (w.drewN n) := (Ext.refl _).drewN n
set_option maxHeartbeats 4000000 in
theorem rless_any (a b : List Int) (va vb : Value) (w : World) (ha : Is w va a) (hb : Is w vb b) : Calls Tryd.prog 19 #[va, vb] w (RetB (decide (cmpF a b < 0)) w) := by
  obtain ⟨A, ca, rfl, a1, a2, RA⟩ := ha.read
  obtain ⟨B, cb, rfl, b1, b2, RB⟩ := hb.read
  have HA := Lib.hid RA
  have HB := Lib.hid RB
  have hla : a.length ≤ 9223372036854775807 := by unfold maxLen at a2; omega
  have hlb : b.length ≤ 9223372036854775807 := by unfold maxLen at b2; omega
  have HC : Hid (cmpF a b = if Lib.compareInt (a.length : Int) (b.length : Int) ≠ 0 then Lib.compareInt (a.length : Int) (b.length : Int) else lexC a b) := Lib.hid rfl
  clear RA RB ha hb a1 a2 b1 b2
  by_cases hl : a.length = b.length
  · have HN : Hid (cmpF a b = lexC a b) := by
      rw [HC.out, if_neg (by rw [hl]; simpa using ci_zero.2 rfl)]; exact Lib.hid rfl
    have t0 : (((a.length : Nat) : Int) != ((b.length : Nat) : Int)) = false := by simp; omega
    have HL := Lib.hid hl
    clear HC hl
    go_enter Tryd.func19, Tryd.ntmps19
    go_wp2_with fail
    clear t0
    go_loopw [18] (fun i wr => ∃ k : Nat, k ≤ a.length ∧ i = iV (k : Int) ∧ lexC a b = lexC (a.drop k) (b.drop k) ∧ Ext w wr) (fun i _ => a.length - (intOf i).toNat)
    case atStart => exact ⟨0, by omega, rfl, rfl, Ext.refl _⟩
    case round =>
      obtain ⟨k, hk, rfl, ht, hE⟩ := hrel
      have HTk := Lib.hid ht
      have HE := Lib.hid hE
      clear ht hE
      by_cases hlt : k < a.length
      · have hlb' : k < b.length := by have := HL.out; omega
        obtain ⟨ad, rfl, c1⟩ := HA.out wr HE.out k hlt
        obtain ⟨bd, rfl, c2⟩ := HB.out wr HE.out k hlb'
        have HLD := Lib.hid (lex_drop hlt hlb')
        obtain ⟨x, hx⟩ : ∃ x, a.getD k 0 = x := ⟨_, rfl⟩
        obtain ⟨y, hy⟩ : ∃ y, b.getD k 0 = y := ⟨_, rfl⟩
        rw [hx] at c1 HLD
        rw [hy] at c2 HLD
        clear hx hy
        by_cases he : x = y
        · have HNx : Hid (lexC a b = lexC (a.drop (k + 1)) (b.drop (k + 1))) := by
            rw [HTk.out, HLD.out, if_neg (by simpa using ci_zero.2 he)]; exact Lib.hid rfl
          subst he
          clear HLD HTk
          go_wp2_with fail
          go_quiet (fail)
          go_wp2_with fail
          exact ⟨⟨k + 1, by omega, by go_num, HNx.out, HE.out.drewN _⟩, by simp [intOf]; omega⟩
        · have HF : Hid (decide (cmpF a b < 0) = decide (x < y)) := by
            have e : cmpF a b = Lib.compareInt x y := by rw [HN.out, HTk.out, HLD.out, if_pos (fun h => he (ci_zero.1 h))]
            rw [e]
            exact Lib.hid (decide_eq_decide.2 ci_neg)
          have t0 : (x != y) = true := by simpa using he
          clear HLD HTk he
          go_wp2_with fail
          go_quiet (fail)
          generalize hw2 : wr.drewN nq = w2
          have hE2 : Ext wr w2 := by rw [← hw2]; exact drewN_ext _ _
          replace c1 := hE2.cell c1
          replace c2 := hE2.cell c2
          have HE2 := Lib.hid (HE.out.trans hE2)
          clear hw2 hE2
          go_wp2_with fail
          go_quiet (fail)
          go_wp2_with fail
          go_ret
          rw [HF.out]
          exact ⟨rfl, HE2.out.drewN _⟩
      · obtain rfl : k = a.length := by omega
        have HF : Hid (decide (cmpF a b < 0) = false) := by
          have e : cmpF a b = 0 := by
            rw [HN.out, HTk.out]
            exact lex_end0 (Nat.le_refl _) (by have := HL.out; omega)
          rw [e]
          exact Lib.hid rfl
        go_wp2_with fail
        go_ret
        rw [HF.out]
        exact ⟨rfl, HE.out⟩
  · have HF : Hid (decide (cmpF a b < 0) = decide ((a.length : Int) < (b.length : Int))) := by
      have e : cmpF a b = Lib.compareInt (a.length : Int) (b.length : Int) := by
        rw [HC.out, if_pos (fun h => hl (by have := ci_zero.1 h; omega))]
      rw [e]
      exact Lib.hid (decide_eq_decide.2 ci_neg)
    have t0 : (((a.length : Nat) : Int) != ((b.length : Nat) : Int)) = true := by simp; omega
    go_enter Tryd.func19, Tryd.ntmps19
    go_wp2_with fail
    go_ret
    rw [HF.out]
    refine ⟨ret_bool ?_, Ext.refl _⟩
    first | rfl | exact decide_eq_decide.2 (by omega) | simp
end Go.Proofs.YtdcbejccplonjaaDoor
