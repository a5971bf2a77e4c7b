/- The walks over slices.Compare, cmp.Or, compare and Less. -/
import Derived.Test.YtdcbejccplonjaaDoorB1
namespace Go.Proofs.YtdcbejccplonjaaDoor
open Go.RowKit
attribute [local go_sem ↓] Go.wp_at_zero Go.wp_at_succ
theorem cmp_any (x y : Int) (w : World) : Calls Tryd.prog 55 #[.int .i64 x, .int .i64 y] w fun e w' => e = .returned (.int .i64 (Lib.compareInt x y)) ∧ w = w' :=
  (Any.cmp_Compare_int Tryd.lays122 x y w).mono fun _ _ ⟨h1, h2⟩ => ⟨h1, h2.symm⟩
/-- The order of lists, letter by letter. -/
def lexC : List Int → List Int → Int
  | [], [] => 0
  | [], _ :: _ => -1
  | _ :: _, [] => 1
  | a :: l, b :: m => if Lib.compareInt a b ≠ 0 then Lib.compareInt a b else lexC l m
/-- The order of sets. -/
def cmpF (a b : List Int) : Int := if Lib.compareInt (a.length : Int) (b.length : Int) ≠ 0 then Lib.compareInt (a.length : Int) (b.length : Int) else lexC a b
theorem lex_drop {a b : List Int} {k : Nat} (ha : k < a.length) (hb : k < b.length) : lexC (a.drop k) (b.drop k) = if Lib.compareInt (a.getD k 0) (b.getD k 0) ≠ 0 then Lib.compareInt (a.getD k 0) (b.getD k 0) else lexC (a.drop (k + 1)) (b.drop (k + 1)) := by
  rw [List.drop_eq_getElem_cons ha, List.drop_eq_getElem_cons hb, lexC, List.getD_eq_getElem?_getD, List.getD_eq_getElem?_getD, List.getElem?_eq_getElem ha, List.getElem?_eq_getElem hb]
  rfl
theorem lex_end1 {a b : List Int} {k : Nat} (ha : k < a.length) (hb : b.length ≤ k) : lexC (a.drop k) (b.drop k) = 1 := by
  rw [List.drop_eq_getElem_cons ha, List.drop_eq_nil_of_le hb, lexC]
theorem lex_end2 {a b : List Int} {k : Nat} (ha : a.length ≤ k) (hb : k < b.length) : lexC (a.drop k) (b.drop k) = -1 := by
  rw [List.drop_eq_nil_of_le ha, List.drop_eq_getElem_cons hb, lexC]
theorem lex_end0 {a b : List Int} {k : Nat} (ha : a.length ≤ k) (hb : b.length ≤ k) : lexC (a.drop k) (b.drop k) = 0 := by
  rw [List.drop_eq_nil_of_le ha, List.drop_eq_nil_of_le hb, lexC]
theorem ret_int {k : IntKind} {a b : Int} (h : a = b) : Ending.returned (.int k a) = .returned (.int k b) := by rw [h]
set_option maxHeartbeats 2000000 in
theorem lex_any (a b : List Int) (va vb : Value) (w : World) (ha : Is w va a) (hb : Is w vb b) : Calls Tryd.prog 56 #[va, vb] w fun e w' => e = .returned (.int .i64 (lexC a b)) ∧ w = w' := by
  obtain ⟨A, ca, rfl, _, lA, RA⟩ := ha.read
  obtain ⟨B, cb, rfl, _, lB, RB⟩ := hb.read
  have HA := Lib.hid (RA w (Ext.refl _))
  have HB := Lib.hid (RB w (Ext.refl _))
  have la : a.length ≤ 9223372036854775807 := by unfold maxLen at lA; omega
  have lb : b.length ≤ 9223372036854775807 := by unfold maxLen at lB; omega
  clear RA RB ha hb lA lB
  go_enter Tryd.func56, Tryd.ntmps56
  go_wp2
  go_loop [11] (fun i => ∃ k : Nat, k ≤ a.length ∧ k ≤ b.length ∧ i = .int .i64 (k : Int) ∧ lexC a b = lexC (a.drop k) (b.drop k)) (fun i => a.length - (intOf i).toNat)
  case atStart => exact ⟨0, by omega, by omega, rfl, rfl⟩
  case round =>
    obtain ⟨k, hk, hkb, rfl, he⟩ := hrel
    have HE := Lib.hid he
    clear he
    by_cases hlt : k < a.length
    · obtain ⟨ad, rfl, c0⟩ := HA.out k hlt
      by_cases hlb : k < b.length
      · obtain ⟨bd, rfl, c1⟩ := HB.out k hlb
        have HL := Lib.hid (lex_drop hlt hlb)
        generalize a.getD k 0 = x at *
        generalize b.getD k 0 = y at *
        have CM := Lib.hid (cmp_any x y w)
        by_cases hc : Lib.compareInt x y = 0
        · rw [hc] at CM
          have HN : Hid (lexC a b = lexC (a.drop (k + 1)) (b.drop (k + 1))) := by
            have := HL.out
            rw [hc] at this
            rw [HE.out, this]
            exact Lib.hid rfl
          clear hc HL
          go_wp2_with fail
          refine CM.out.mono ?_
          rintro e w1 ⟨rfl, rfl⟩
          go_wp2_with fail
          exact ⟨⟨k + 1, by omega, by omega, by go_num, HN.out⟩, by simp [intOf]; omega⟩
        · have HN : Hid (lexC a b = Lib.compareInt x y) := by
            have := HL.out
            rw [if_pos hc] at this
            rw [HE.out, this]
            exact Lib.hid rfl
          have t1 : (Lib.compareInt x y != 0) = true := by simp [hc]
          clear hc HL
          generalize Lib.compareInt x y = z at *
          go_wp2_with fail
          refine CM.out.mono ?_
          rintro e w1 ⟨rfl, rfl⟩
          go_wp2_with fail
          go_ret
          exact ⟨ret_int HN.out.symm, rfl⟩
      · have HN : Hid (lexC a b = 1) := by rw [HE.out, lex_end1 hlt (by omega)]; exact Lib.hid rfl
        have hge : b.length ≤ k := by omega
        go_wp2_with fail
        go_ret
        exact ⟨ret_int HN.out.symm, rfl⟩
    · have hka : a.length ≤ k := by omega
      by_cases hlb : a.length < b.length
      · have HN : Hid (lexC a b = -1) := by rw [HE.out, lex_end2 hka (by omega)]; exact Lib.hid rfl
        go_wp2_with fail
        go_ret
        exact ⟨ret_int HN.out.symm, rfl⟩
      · have HN : Hid (lexC a b = 0) := by rw [HE.out, lex_end0 hka (by omega)]; exact Lib.hid rfl
        go_wp2_with fail
        go_ret
        exact ⟨ret_int HN.out.symm, rfl⟩
/-- The first of two numbers that is not 0. -/
def orF (x y : Int) : Int := if x ≠ 0 then x else y
set_option maxHeartbeats 2000000 in
theorem or_any (x y : Int) (g : Nat) (w : World) (h0 : w.cell? ⟨g, 0, none⟩ = some (iV x)) (h1 : w.cell? ⟨g, 1, none⟩ = some (iV y)) : Calls Tryd.prog 54 #[.slice (some ⟨g, 0, none⟩) 2 2] w fun e w' => e = .returned (.int .i64 (orF x y)) ∧ w = w' := by
  by_cases hx : x = 0
  · have e1 : orF x y = y := by unfold orF; rw [if_neg (by simp [hx])]
    rw [e1]
    subst hx
    by_cases hy : y = 0
    · subst hy
      go_enter Tryd.func54, Tryd.ntmps54
      go_wp2
      refine wp_loop_rounds 3 ?_
      rw [rounds_succ]
      go_wp2
      rw [rounds_succ]
      go_wp2
      rw [rounds_succ]
      go_wp2
      go_ret
      exact ⟨rfl, rfl⟩
    · have t1 : (y != 0) = true := by simp [hy]
      go_enter Tryd.func54, Tryd.ntmps54
      go_wp2
      refine wp_loop_rounds 2 ?_
      rw [rounds_succ]
      go_wp2
      rw [rounds_succ]
      go_wp2
      go_ret
      exact ⟨rfl, rfl⟩
  · have e1 : orF x y = x := by unfold orF; rw [if_pos hx]
    rw [e1]
    have t1 : (x != 0) = true := by simp [hx]
    go_enter Tryd.func54, Tryd.ntmps54
    go_wp2
    refine wp_loop_rounds 1 ?_
    rw [rounds_succ]
    go_wp2
    go_ret
    exact ⟨rfl, rfl⟩
def RetN (z : Int) (w : World) (e : Ending) (w' : World) : Prop := e = .returned (.int .i64 z) ∧ Ext w w'
def RetB (b : Bool) (w : World) (e : Ending) (w' : World) : Prop := e = .returned (.bool b) ∧ Ext w w'
theorem cmp_or (a b : List Int) : cmpF a b = orF (Lib.compareInt (a.length : Int) (b.length : Int)) (lexC a b) := rfl
set_option maxHeartbeats 2000000 in
theorem compare_any (a b : List Int) (va vb : Value) (w : World) (ha : Is w va a) (hb : Is w vb b) : Calls Tryd.prog 45 #[va, vb] w (RetN (cmpF a b) w) := by
  have LX := Lib.hid (lex_any a b va vb w ha hb)
  obtain ⟨A, ca, rfl, _, lA, RA⟩ := ha.read
  obtain ⟨B, cb, rfl, _, lB, RB⟩ := hb.read
  have CM := Lib.hid (cmp_any (a.length : Int) (b.length : Int) w)
  have HC := Lib.hid (cmp_or a b)
  clear RA RB ha hb lA lB
  generalize Lib.compareInt (a.length : Int) (b.length : Int) = x at *
  generalize lexC a b = y at *
  go_enter Tryd.func45, Tryd.ntmps45
  go_wp2_with fail
  refine CM.out.mono ?_
  rintro e w1 ⟨rfl, rfl⟩
  go_wp2_with fail
  refine LX.out.mono ?_
  rintro e w1 ⟨rfl, rfl⟩
  go_wp2_with fail
  refine (or_any x y w.heap.size _ (new_at _ _ _ _ _ rfl) (new_at _ _ _ _ _ rfl)).mono ?_
  rintro e w1 ⟨rfl, rfl⟩
  go_wp2_with fail
  go_ret
  exact ⟨ret_int HC.out.symm, (Ext.refl _).alloc _⟩
theorem less_any (a b : List Int) (va vb : Value) (w : World) (ha : Is w va a) (hb : Is w vb b) : Calls Tryd.prog 27 #[va, vb] w (RetB (decide (cmpF a b < 0)) w) := by
  have CP := Lib.hid (compare_any a b va vb w ha hb)
  clear ha hb
  generalize cmpF a b = z at *
  go_enter Tryd.func27, Tryd.ntmps27
  go_wp2_with fail
  refine CP.out.mono ?_
  rintro e w1 ⟨rfl, hE⟩
  go_wp2_with fail
  go_ret
  exact ⟨rfl, hE⟩
end Go.Proofs.YtdcbejccplonjaaDoor
