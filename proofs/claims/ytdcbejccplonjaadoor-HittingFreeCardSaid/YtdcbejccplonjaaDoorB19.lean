/- The walks over Reduce, equal and same. -/
import Derived.Test.YtdcbejccplonjaaDoorB18
namespace Go.Proofs.YtdcbejccplonjaaDoor
open Go.RowKit
attribute [local go_sem ↓] Go.wp_at_zero Go.wp_at_succ
def redRes (ls : List (List Int)) : List (List Int) × Int := match readF ls with
  | none => ([], 1)
  | some ms => (lsF (leastF ms), 0)
theorem redRes_none {ls : List (List Int)} (h : readF ls = none) : redRes ls = ([], 1) := by unfold redRes; rw [h]
theorem redRes_ok {ls : List (List Int)} {ms : List Nat} (h : readF ls = some ms) : redRes ls = (lsF (leastF ms), 0) := by unfold redRes; rw [h]
set_option maxHeartbeats 4000000 in
theorem reduce_any (ls : List (List Int)) (v : Value) (w : World) (h : Rs w v ls) (hb : ls.length ≤ 100000) (hT : Tab w) : Calls Tryd.prog 23 #[v] w (RetL (redRes ls) w) := by
  have RD := Lib.hid (read_any ls v w h hb)
  have HT := Lib.hid hT
  clear h hT
  go_enter Tryd.func23, Tryd.ntmps23
  go_wp2_with fail
  refine RD.out.mono ?_
  intro e1 w1 h1
  cases hr : readF ls with
  | none =>
    rw [hr] at h1
    obtain ⟨rfl, hE⟩ := h1
    have HX := Lib.hid hE
    have HR := Lib.hid (redRes_none hr)
    clear hE hr RD
    go_wp2_with fail
    go_ret2
    rw [HR.out]
    exact ⟨_, rfl, Rs.nil _, HX.out⟩
  | some ms =>
    rw [hr] at h1
    obtain ⟨vr, rfl, hrow, hE⟩ := h1
    have HX := Lib.hid hE
    obtain ⟨-, -, hml, hmu⟩ := readF_facts hr
    have HR := Lib.hid (redRes_ok hr)
    have LE := Lib.hid (least_any ms vr w1 hrow.sl hmu (by omega))
    have HU := Lib.hid (least_u64 hmu)
    have HN := Lib.hid (least_nodup ms)
    have hll := least_length ms
    clear hE hr RD hrow hmu
    go_wp2_with fail
    refine LE.out.mono ?_
    rintro e2 w2 ⟨v2, rfl, hr2, hE2⟩
    have LS := Lib.hid (lists_any (leastF ms) v2 w2 hr2.sl HU.out (by omega) HN.out (HT.out.ext (HX.out.trans hE2)))
    have HX2 := Lib.hid (HX.out.trans hE2)
    clear hr2 hE2 LE
    go_wp2_with fail
    refine LS.out.mono ?_
    rintro e3 w3 ⟨v3, rfl, hr3, hE3⟩
    have HRS := Lib.hid hr3
    have HX3 := Lib.hid (HX2.out.trans hE3)
    clear hr3 hE3 LS
    go_wp2_with fail
    go_ret2
    rw [HR.out]
    exact ⟨_, rfl, HRS.out, HX3.out⟩
theorem take_eq_succ {α : Type} {a b : List α} {k : Nat} {d : α} (ha : k < a.length) (hb : k < b.length) : a.take (k + 1) = b.take (k + 1) ↔ a.take k = b.take k ∧ a.getD k d = b.getD k d := by
  rw [take_snoc ha, take_snoc hb, List.getD_eq_getElem?_getD, List.getD_eq_getElem?_getD, List.getElem?_eq_getElem ha, List.getElem?_eq_getElem hb]
  constructor
  · intro h
    have h1 := List.append_inj h (by simp; omega)
    exact ⟨h1.1, by simpa using h1.2⟩
  · rintro ⟨h1, h2⟩
    rw [h1]
    congr 1
    simpa using h2
theorem ne_of_take {α : Type} {a b : List α} {k : Nat} (h : a.take k ≠ b.take k) : a ≠ b := fun e => h (by rw [e])
set_option maxHeartbeats 4000000 in
theorem equal_any (a b : List Int) (va vb : Value) (w : World) (ha : Is w va a) (hb : Is w vb b) : Calls Tryd.prog 22 #[va, vb] w (RetB (decide (a = b)) w) := by
  obtain ⟨A, ca, rfl, a1, a2, RA⟩ := ha.read
  obtain ⟨B, cb, rfl, b1, b2, RB⟩ := hb.read
  have HA := Lib.hid RA
  have HB := Lib.hid RB
  have hla : a.length ≤ 9223372036854775807 := by unfold maxLen at a2; omega
  have hlb : b.length ≤ 9223372036854775807 := by unfold maxLen at b2; omega
  clear RA RB ha hb a1 a2 b1 b2
  by_cases hl : a.length = b.length
  · go_enter Tryd.func22, Tryd.ntmps22
    go_wp2_with fail
    go_loopw [13] (fun i wr => ∃ k : Nat, k ≤ a.length ∧ i = iV (k : Int) ∧ a.take k = b.take k ∧ Ext w wr) (fun i _ => a.length - (intOf i).toNat)
    case atStart => exact ⟨0, by omega, rfl, by simp, Ext.refl _⟩
    case round =>
      obtain ⟨k, hk, rfl, ht, hE⟩ := hrel
      have HTk := Lib.hid ht
      have HE := Lib.hid hE
      clear ht hE
      by_cases hlt : k < a.length
      · obtain ⟨ad, rfl, c1⟩ := HA.out wr HE.out k hlt
        obtain ⟨bd, rfl, c2⟩ := HB.out wr HE.out k (by omega)
        have HTS := Lib.hid (take_eq_succ (d := (0 : Int)) hlt (show k < b.length by omega))
        obtain ⟨x, hx⟩ : ∃ x, a.getD k 0 = x := ⟨_, rfl⟩
        obtain ⟨y, hy⟩ : ∃ y, b.getD k 0 = y := ⟨_, rfl⟩
        rw [hx] at c1 HTS
        rw [hy] at c2 HTS
        clear hx hy
        by_cases he : x = y
        · have HN : Hid (a.take (k + 1) = b.take (k + 1)) := Lib.hid (HTS.out.2 ⟨HTk.out, he⟩)
          subst he
          clear HTS
          go_wp2_with fail
          go_quiet (fail)
          go_wp2_with fail
          exact ⟨⟨k + 1, by omega, by go_num, HN.out, HE.out.drewN _⟩, by simp [intOf]; omega⟩
        · have HN : Hid (decide (a = b) = false) := Lib.hid (decide_eq_false (ne_of_take (k := k + 1) fun h => he (HTS.out.1 h).2))
          have t0 : (x != y) = true := by simpa using he
          clear HTS he
          go_wp2_with fail
          go_quiet (fail)
          go_wp2_with fail
          go_ret
          rw [HN.out]
          exact ⟨rfl, HE.out.drewN _⟩
      · obtain rfl : k = a.length := by omega
        have HN : Hid (decide (a = b) = true) := Lib.hid (decide_eq_true (by
          have := HTk.out
          rw [List.take_length, hl, List.take_length] at this
          exact this))
        go_wp2_with fail
        go_ret
        rw [HN.out]
        exact ⟨rfl, HE.out⟩
  · have HN : Hid (decide (a = b) = false) := Lib.hid (decide_eq_false fun e => hl (by rw [e]))
    have t0 : (((a.length : Nat) : Int) != ((b.length : Nat) : Int)) = true := by simp; omega
    go_enter Tryd.func22, Tryd.ntmps22
    go_wp2_with fail
    go_ret
    rw [HN.out]
    exact ⟨rfl, Ext.refl _⟩
end Go.Proofs.YtdcbejccplonjaaDoor
