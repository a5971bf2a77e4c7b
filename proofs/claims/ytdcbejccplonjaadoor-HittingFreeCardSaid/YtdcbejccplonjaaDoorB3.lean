/- The walks over least and read. -/
import Derived.Test.YtdcbejccplonjaaDoorB2
namespace Go.Proofs.YtdcbejccplonjaaDoor
open Go.RowKit
attribute [local go_sem ↓] Go.wp_at_zero Go.wp_at_succ
theorem dif_and {a b : Nat} (ha : a < 18446744073709551616) (hb : b < 18446744073709551616) : a &&& (18446744073709551615 - b) = dif a b := ext_bit fun i => by
  have e : 18446744073709551615 - b = 2 ^ 64 - (b + 1) := by omega
  rw [Nat.testBit_and, dif_bit, e, Nat.testBit_two_pow_sub_succ (by omega)]
  rcases Nat.lt_or_ge i 64 with h | h
  · simp [h]
  · have : a.testBit i = false := by
      cases hb : a.testBit i with
      | false => rfl
      | true => have := bit_lt (m := a) (by omega) hb; omega
    simp [this]
theorem andNot_dif {a b : Nat} (ha : a < 18446744073709551616) (hb : b < 18446744073709551616) : bits .andNot .u64 (a : Int) (b : Int) = ((dif a b : Nat) : Int) := by rw [u64_andNot_nat a b ha hb, dif_and ha hb]
theorem dif_lt {a b : Nat} (ha : a < 18446744073709551616) : dif a b < 18446744073709551616 := lt_of_bits (n := 64) fun i hi => bit_lt ha (by rw [dif_bit, Bool.and_eq_true] at hi; exact hi.1)
theorem beq0 (n : Nat) : (((n : Nat) : Int) == 0) = decide (n = 0) := by rw [Bool.eq_iff_iff]; simp
theorem bneN (a b : Nat) : (((a : Nat) : Int) != ((b : Nat) : Int)) = decide (a ≠ b) := by rw [Bool.eq_iff_iff]; simp; omega
def RetU (ys : List Nat) (w : World) (e : Ending) (w' : World) : Prop := ∃ v, e = .returned v ∧ Row w' w.heap.size 52 v (ys.map uV) ∧ Ext w w'
def ndl (sets : List Nat) (i k : Nat) : Bool := (List.range k).any fun k => decide (dif (sets.getD k 0) (sets.getD i 0) = 0) && (decide (sets.getD k 0 ≠ sets.getD i 0) || decide (k < i))
theorem ndl_succ (sets : List Nat) (i k : Nat) : ndl sets i (k + 1) = (ndl sets i k || (decide (dif (sets.getD k 0) (sets.getD i 0) = 0) && (decide (sets.getD k 0 ≠ sets.getD i 0) || decide (k < i)))) := by
  simp [ndl, List.range_succ]
def leastTo (sets : List Nat) (k : Nat) : List Nat := ((List.range k).filter fun i => !needless sets i).map fun i => sets.getD i 0
theorem leastTo_succ (sets : List Nat) (k : Nat) : leastTo sets (k + 1) = leastTo sets k ++ (if needless sets k then [] else [sets.getD k 0]) := by
  simp only [leastTo, List.range_succ, List.filter_append, List.map_append, List.filter_cons, List.filter_nil]
  cases needless sets k <;> simp
theorem leastTo_len (sets : List Nat) (k : Nat) : (leastTo sets k).length ≤ k := by
  unfold leastTo
  rw [List.length_map]
  have := List.length_filter_le (fun i => !needless sets i) (List.range k)
  rwa [List.length_range] at this
theorem getD_lt {sets : List Nat} (h : U64 sets) (i : Nat) : sets.getD i 0 < 18446744073709551616 := by
  rcases Nat.lt_or_ge i sets.length with h1 | h1
  · exact h _ (getD_mem h1)
  · rw [List.getD_eq_getElem?_getD, List.getElem?_eq_none h1]; decide
set_option maxHeartbeats 4000000 in
theorem least_any (xs : List Nat) (v : Value) (w : World) (h : Us w v xs) (hx : U64 xs) (hl : xs.length ≤ 100000) : Calls Tryd.prog 30 #[v] w (RetU (leastF xs) w) := by
  obtain ⟨A, c, rfl, _, _, RA⟩ := h.read
  have HR := Lib.hid RA
  have HU := Lib.hid hx
  clear RA h hx
  go_enter Tryd.func30, Tryd.ntmps30
  go_wp2_with fail
  go_loopw [3, 11] (fun t i wr => ∃ k : Nat, k ≤ xs.length ∧ i = .int .i64 (k : Int) ∧ Row wr w.heap.size 52 t ((leastTo xs k).map uV) ∧ Ext w wr) (fun _ i _ => xs.length - (intOf i).toNat)
  case atStart => exact ⟨0, by omega, rfl, Row.nil _ _ _, Ext.refl _⟩
  case round =>
    obtain ⟨i, hi, rfl, hr, hE⟩ := hrel
    have HX := Lib.hid hE
    have HRo := Lib.hid hr
    clear hE hr
    by_cases hlt : i < xs.length
    · obtain ⟨ad, rfl, c0⟩ := HR.out wr HX.out i hlt
      have HN := Lib.hid (leastTo_succ xs i)
      have hll := leastTo_len xs i
      have si : Hid (xs.getD i 0 < 18446744073709551616) := Lib.hid (getD_lt HU.out i)
      obtain ⟨s, hs⟩ : ∃ s, xs.getD i 0 = s := ⟨_, rfl⟩
      have HSI := Lib.hid hs
      rw [hs] at c0 HN si
      clear hs
      go_wp2_with fail
      go_loop [6, 18] (fun b j => ∃ k : Nat, k ≤ xs.length ∧ j = .int .i64 (k : Int) ∧ b = .bool (ndl xs i k)) (fun _ j => xs.length - (intOf j).toNat)
      case atStart => exact ⟨0, by omega, rfl, rfl⟩
      case round =>
        obtain ⟨k, hk, rfl, rfl⟩ := hrel
        by_cases hkl : k < xs.length
        · obtain ⟨ad', e', c1⟩ := HR.out wr HX.out k hkl
          obtain rfl := Option.some.inj e'
          have HS := Lib.hid (ndl_succ xs i k)
          have lt := getD_lt HU.out k
          rw [HSI.out] at HS
          obtain ⟨t, ht⟩ : ∃ t, xs.getD k 0 = t := ⟨_, rfl⟩
          rw [ht] at c1 HS lt
          have eD := andNot_dif lt si.out
          have eN := bneN t s
          have eZ := beq0 (dif t s)
          clear e' ht lt
          generalize ndl xs i k = b at *
          generalize hd : decide (dif t s = 0) = b1 at *
          generalize hn : decide (t ≠ s) = b2 at *
          generalize hq : decide (k < i) = b3 at *
          clear hd hn
          cases b <;> cases b1 <;> cases b2 <;> cases b3
          all_goals
            go_wp2_with fail
            exact ⟨⟨k + 1, by omega, by go_num, by rw [HS.out]; rfl⟩, by simp [intOf]; omega⟩
        · obtain rfl : k = xs.length := by omega
          have e6 : ndl xs i xs.length = needless xs i := rfl
          cases hb : needless xs i with
          | true =>
            rw [hb] at e6
            have HN' : Hid (leastTo xs (i + 1) = leastTo xs i) := by rw [HN.out, hb]; simp [Hid]
            clear hb
            go_wp2_with fail
            exact ⟨⟨i + 1, by omega, by go_num, by rw [HN'.out]; exact HRo.out, HX.out⟩, by simp [intOf]; omega⟩
          | false =>
            rw [hb] at e6
            have HN' : Hid (leastTo xs (i + 1) = leastTo xs i ++ [s]) := by rw [HN.out, hb]; simp [Hid]
            clear hb
            go_wp2_with (at_builtin; refine wapp el48 rfl (.tmp 43) (.tmp 45) rfl (w5 := w) rfl (HX.out.alloc _) (HRo.out.ext ((Ext.refl _).alloc _)) rfl rfl (vs1 _ _ _) (one1 rfl) (by simp; omega) ?_; intro v1 w1 hr1 hE1 hg1 hb1)
            exact ⟨⟨i + 1, by omega, by go_num, by rw [HN'.out]; simpa using hr1, hE1⟩, by simp [intOf]; omega⟩
    · obtain rfl : i = xs.length := by omega
      go_wp2_with fail
      go_ret
      exact ⟨_, rfl, HRo.out, HX.out⟩
end Go.Proofs.YtdcbejccplonjaaDoor
