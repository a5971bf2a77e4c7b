/- The walk over read. -/
import Derived.Test.YtdcbejccplonjaaDoorB3
namespace Go.Proofs.YtdcbejccplonjaaDoor
open Go.RowKit
attribute [local go_sem ↓] Go.wp_at_zero Go.wp_at_succ
/-- Is the number at place i of a set as it must be? -/
def okAt (l : List Int) (i : Nat) : Bool := decide (0 ≤ l.getD i 0) && (decide (l.getD i 0 ≤ 63) && (decide (i = 0) || decide (l.getD (i - 1) 0 < l.getD i 0)))
def okL (l : List Int) : Bool := (List.range l.length).all (okAt l)
def maskI (l : List Int) : Nat := maskOf (l.map Int.toNat)
def readF (ls : List (List Int)) : Option (List Nat) := if 64 < ls.length then none else if ls.all okL then some (ls.map maskI) else none
def RetRd (r : Option (List Nat)) (w : World) (e : Ending) (w' : World) : Prop := match r with
  | none => e = .returned (.tuple #[.slice none 0 0, .bool false]) ∧ Ext w w'
  | some ys => ∃ v, e = .returned (.tuple #[v, .bool true]) ∧ Row w' w.heap.size 52 v (ys.map uV) ∧ Ext w w'
theorem maskI_take {l : List Int} {k : Nat} (h : k < l.length) : maskI (l.take (k + 1)) = maskI (l.take k) ||| 2 ^ (l.getD k 0).toNat := by
  unfold maskI
  rw [List.take_succ_eq_append_getElem h, List.map_append, List.map_cons, List.map_nil, maskOf_snoc, List.getD_eq_getElem?_getD, List.getElem?_eq_getElem h]
  rfl
theorem maskI_lt {l : List Int} {k : Nat} (h : ∀ i, i < k → okAt l i = true) (hk : k ≤ l.length) : maskI (l.take k) < 18446744073709551616 := by
  refine maskOf_lt (n := 64) fun x hx => ?_
  obtain ⟨y, hy, rfl⟩ := List.mem_map.1 hx
  obtain ⟨i, hi, e⟩ := List.mem_iff_getElem.1 hy
  rw [List.length_take] at hi
  have h1 := h i (by omega)
  unfold okAt at h1
  have e2 : l.getD i 0 = y := by
    rw [← e, List.getElem_take, List.getD_eq_getElem?_getD, List.getElem?_eq_getElem (by omega)]; rfl
  rw [e2] at h1
  simp only [Bool.and_eq_true, decide_eq_true_eq] at h1
  omega
theorem pow2 (n : Nat) : ((2 : Int) ^ n) = ((2 ^ n : Nat) : Int) := by simp
theorem pow64 {n : Nat} (h : n < 64) : 2 ^ n < 18446744073709551616 := Nat.pow_lt_pow_right (n := 64) (by decide) h
theorem powW {n : Nat} (h : n < 64) : IntKind.u64.wrap ((2 : Int) ^ n) = (2 : Int) ^ n := by
  have h1 := pow64 h
  rw [pow2, IntKind.wrap_u64]
  generalize 2 ^ n = p at *
  omega
theorem orP {m n : Nat} (hm : m < 18446744073709551616) (hn : n < 64) : bits .or .u64 (m : Int) ((2 : Int) ^ n) = ((m ||| 2 ^ n : Nat) : Int) := by
  rw [pow2, u64_or_nat m (2 ^ n) hm (pow64 hn)]
theorem getD_mem' {ls : List (List Int)} {i : Nat} (h : i < ls.length) : ls.getD i [] ∈ ls := by
  rw [List.getD_eq_getElem?_getD, List.getElem?_eq_getElem h]; exact List.getElem_mem h
theorem read_none {ls : List (List Int)} {i k : Nat} {l : List Int} (h64 : ¬ 64 < ls.length) (hi : i < ls.length) (hl : ls.getD i [] = l) (hk : k < l.length) (hf : okAt l k = false) : readF ls = none := by
  unfold readF
  rw [if_neg h64, if_neg]
  intro h
  have h1 := List.all_eq_true.1 h _ (getD_mem' hi)
  rw [hl] at h1
  have h2 := List.all_eq_true.1 h1 k (by simpa using hk)
  rw [hf] at h2; cases h2
set_option maxHeartbeats 4000000 in
theorem read_any (ls : List (List Int)) (v : Value) (w : World) (h : Rs w v ls) (hb : ls.length ≤ 100000) : Calls Tryd.prog 29 #[v] w (RetRd (readF ls) w) := by
  obtain ⟨A, c, rfl, _, _, RA⟩ := h.read
  have HR := Lib.hid RA
  clear RA h
  by_cases h64 : 64 < ls.length
  · have HN : Hid (readF ls = none) := by unfold readF; rw [if_pos h64]; exact Lib.hid rfl
    go_enter Tryd.func29, Tryd.ntmps29
    go_wp2_with fail
    go_ret2
    rw [HN.out]
    exact ⟨rfl, Ext.refl _⟩
  · go_enter Tryd.func29, Tryd.ntmps29
    go_wp2_with fail
    go_loopw [4, 15] (fun t i wr => ∃ k : Nat, k ≤ ls.length ∧ i = .int .i64 (k : Int) ∧ (∀ j, j < k → okL (ls.getD j []) = true) ∧ Row wr w.heap.size 52 t (((ls.take k).map maskI).map uV) ∧ Ext w wr) (fun _ i _ => ls.length - (intOf i).toNat)
    case atStart => exact ⟨0, by omega, rfl, fun j hj => by omega, Row.nil _ _ _, Ext.refl _⟩
    case round =>
      obtain ⟨i, hi, rfl, ho, hr, hE⟩ := hrel
      have HX := Lib.hid hE
      have HRo := Lib.hid hr
      have HO := Lib.hid ho
      clear hE hr ho
      by_cases hlt : i < ls.length
      · obtain ⟨ad, u, rfl, c0, hu⟩ := HR.out wr HX.out i hlt
        obtain ⟨l, hl⟩ : ∃ l, ls.getD i [] = l := ⟨_, rfl⟩
        rw [hl] at hu
        have HLI := Lib.hid hl
        clear hl
        obtain ⟨B, cb, rfl, _, lB, RB⟩ := hu.read
        have HB := Lib.hid (RB wr (Ext.refl _))
        have lb : l.length ≤ 9223372036854775807 := by unfold maxLen at lB; omega
        clear RB hu lB
        go_wp2_with fail
        go_loop [7, 21] (fun s j => ∃ k : Nat, k ≤ l.length ∧ j = .int .i64 (k : Int) ∧ (∀ i, i < k → okAt l i = true) ∧ s = .int .u64 ((maskI (l.take k) : Nat) : Int)) (fun _ j => l.length - (intOf j).toNat)
        case atStart => exact ⟨0, by omega, rfl, fun j hj => by omega, rfl⟩
        case round =>
          obtain ⟨k, hk, rfl, ho, rfl⟩ := hrel
          have HK := Lib.hid ho
          clear ho
          by_cases hkl : k < l.length
          · obtain ⟨bd, rfl, c1⟩ := HB.out k hkl
            have MK := Lib.hid (maskI_take hkl)
            have ML := maskI_lt HK.out hk
            have OK : Hid (okAt l k = (decide (0 ≤ l.getD k 0) && (decide (l.getD k 0 ≤ 63) && (decide (k = 0) || decide (l.getD (k - 1) 0 < l.getD k 0))))) := Lib.hid rfl
            obtain ⟨x, hx⟩ : ∃ x, l.getD k 0 = x := ⟨_, rfl⟩
            rw [hx] at c1 MK OK
            clear hx
            generalize maskI (l.take k) = m at *
            have NO := Lib.hid (fun h => read_none h64 hlt HLI.out hkl h)
            by_cases h0 : x < 0
            · have HN : Hid (readF ls = none) := Lib.hid (NO.out (by rw [OK.out, decide_eq_false (by omega)]; rfl))
              go_wp2_with fail
              go_ret2
              rw [HN.out]
              exact ⟨rfl, HX.out⟩
            · by_cases h63 : 63 < x
              · have HN : Hid (readF ls = none) := Lib.hid (NO.out (by rw [OK.out, decide_eq_false (show ¬ x ≤ 63 by omega)]; simp))
                go_wp2_with fail
                go_ret2
                rw [HN.out]
                exact ⟨rfl, HX.out⟩
              · obtain ⟨n, rfl⟩ := Int.eq_ofNat_of_zero_le (show 0 ≤ x by omega)
                have hn : n < 64 := by omega
                have sh := powW hn
                have eo := orP ML hn
                have MK' : Hid (maskI (l.take (k + 1)) = m ||| 2 ^ n) := MK
                by_cases hk0 : k = 0
                · have HO' : Hid (∀ i, i < k + 1 → okAt l i = true) := Lib.hid (fun i hi => by
                    have : i = k := by omega
                    rw [this, OK.out, decide_eq_true (show (0 : Int) ≤ (n : Int) by omega), decide_eq_true (show (n : Int) ≤ 63 by omega), decide_eq_true hk0]; rfl)
                  have tk : decide (0 < k) = false := by simp; omega
                  have hk0' : k ≤ 0 := by omega
                  clear hk0
                  go_wp2_with fail
                  exact ⟨⟨k + 1, by omega, by go_num, HO'.out, by rw [MK'.out]⟩, by simp [intOf]; omega⟩
                · obtain ⟨bd', e', c2⟩ := HB.out (k - 1) (by omega)
                  obtain rfl := Option.some.inj e'
                  obtain ⟨y, hy⟩ : ∃ y, l.getD (k - 1) 0 = y := ⟨_, rfl⟩
                  rw [hy] at c2 OK
                  clear hy e'
                  have hk1 : 0 < k := by omega
                  have wk : IntKind.i64.wrap ((k : Int) - 1) = ((k - 1 : Nat) : Int) := by rw [IntWalk.i64_in _ (by omega)]; omega
                  clear hk0
                  by_cases hp : (n : Int) ≤ y
                  · have HN : Hid (readF ls = none) := Lib.hid (NO.out (by rw [OK.out, decide_eq_false (show ¬ k = 0 by omega), decide_eq_false (show ¬ y < (n : Int) by omega)]; simp))
                    go_wp2_with fail
                    go_ret2
                    rw [HN.out]
                    exact ⟨rfl, HX.out⟩
                  · have HO' : Hid (∀ i, i < k + 1 → okAt l i = true) := Lib.hid (fun i hi => by
                      rcases Nat.lt_or_ge i k with h | h
                      · exact HK.out i h
                      · have : i = k := by omega
                        rw [this, OK.out, decide_eq_true (show (0 : Int) ≤ (n : Int) by omega), decide_eq_true (show (n : Int) ≤ 63 by omega), decide_eq_true (show y < (n : Int) by omega)]; simp)
                    go_wp2_with fail
                    exact ⟨⟨k + 1, by omega, by go_num, HO'.out, by rw [MK'.out]⟩, by simp [intOf]; omega⟩
          · obtain rfl : k = l.length := by omega
            have ok : okL l = true := by
              unfold okL
              rw [List.all_eq_true]
              intro j hj
              exact HK.out j (by simpa using hj)
            have HO' : Hid (∀ j, j < i + 1 → okL (ls.getD j []) = true) := Lib.hid (fun j hj => by
              rcases Nat.lt_or_ge j i with h | h
              · exact HO.out j h
              · have : j = i := by omega
                rw [this, HLI.out]; exact ok)
            have HM : Hid ((ls.take (i + 1)).map maskI = (ls.take i).map maskI ++ [maskI l]) := by
              rw [List.take_succ_eq_append_getElem hlt, List.map_append]
              have := HLI.out
              rw [List.getD_eq_getElem?_getD, List.getElem?_eq_getElem hlt] at this
              have e : ls[i] = l := this
              rw [e]
              exact Lib.hid rfl
            have TL : Hid (maskI (l.take l.length) = maskI l) := by rw [List.take_length]; exact Lib.hid rfl
            have hti : (ls.take i).length ≤ 64 := by rw [List.length_take]; omega
            rw [TL.out]
            generalize maskI l = m at *
            clear ok
            go_wp2_with (at_builtin; refine wapp el48 rfl (.tmp 50) (.tmp 52) rfl (w5 := w) rfl (HX.out.alloc _) (HRo.out.ext ((Ext.refl _).alloc _)) rfl rfl (vs1 _ _ _) (one1 rfl) (by simp at hti ⊢; omega) ?_; intro v1 w1 hr1 hE1 hg1 hb1)
            exact ⟨⟨i + 1, by omega, by go_num, HO'.out, by rw [HM.out]; simpa using hr1, hE1⟩, by simp [intOf]; omega⟩
      · obtain rfl : i = ls.length := by omega
        have HN : Hid (readF ls = some (ls.map maskI)) := by
          unfold readF
          rw [if_neg h64, if_pos]
          · exact Lib.hid rfl
          · rw [List.all_eq_true]
            intro l hl
            obtain ⟨j, hj, e⟩ := List.mem_iff_getElem.1 hl
            have := HO.out j hj
            rw [List.getD_eq_getElem?_getD, List.getElem?_eq_getElem hj] at this
            rw [← e]; exact this
        have HT : Hid ((ls.take ls.length).map maskI = ls.map maskI) := by rw [List.take_length]; exact Lib.hid rfl
        go_wp2_with fail
        go_ret2
        rw [HN.out]
        exact ⟨_, rfl, by have := HRo.out; rw [HT.out] at this; exact this, HX.out⟩
end Go.Proofs.YtdcbejccplonjaaDoor
