/- The comparator of keys in Consumed. -/
import Derived.Test.YtehmpbaiefbemaaN12
namespace Go.Proofs.Ytehmpbaiefbemaa
open Go.RowKit Go.Sort
def cfK (x y : Ky) : Int := if klt x y then -1 else if klt y x then 1 else 0
/-- choice.Less: it only draws and allocates. -/
theorem less_g (x y : Ky) (w : World) : Calls Try.prog 47 #[keyV x, keyV y] w fun e w' => e = .returned (.bool (decide (klt x y))) ∧ Gr w w' := by
  have HC := Lib.hid (compare_any x y)
  have HN := Lib.hid (cmpK_neg (x := x) (y := y))
  obtain ⟨c, hc⟩ : ∃ c, cmpK x y = c := ⟨_, rfl⟩
  rw [hc] at HC HN
  obtain ⟨x1, x2, x3, x4⟩ := x
  obtain ⟨y1, y2, y3, y4⟩ := y
  clear hc
  go_enter Try.func47, Try.ntmps47
  go_wp2_with fail
  refine (HC.out _).mono ?_
  rintro e1 w1 ⟨rfl, hE⟩
  have HE := Lib.hid hE
  clear hE
  go_wp2_with fail
  go_ret
  exact ⟨ret_bool (decide_eq_decide.2 HN.out), (((Gr.refl _).alloc _).alloc _).trans HE.out⟩
theorem cmp46_any (x y : Ky) (w : World) : Calls Try.prog 46 #[keyV x, keyV y] w (RetG (cfK x y) w) := by
  have L1 := Lib.hid (less_g x y)
  have L2 := Lib.hid (less_g y x)
  have HC : Hid (cfK x y = if klt x y then -1 else if klt y x then 1 else 0) := Lib.hid rfl
  obtain ⟨cc, hcc⟩ : ∃ c, cfK x y = c := ⟨_, rfl⟩
  rw [hcc] at HC ⊢
  obtain ⟨b1, hb1⟩ : ∃ b, decide (klt x y) = b := ⟨_, rfl⟩
  obtain ⟨b2, hb2⟩ : ∃ b, decide (klt y x) = b := ⟨_, rfl⟩
  rw [hb1] at L1
  rw [hb2] at L2
  have H1 := Lib.hid hb1
  have H2 := Lib.hid hb2
  clear hb1 hb2 hcc
  obtain ⟨x1, x2, x3, x4⟩ := x
  obtain ⟨y1, y2, y3, y4⟩ := y
  go_enter Try.func46, Try.ntmps46
  go_wp2_with fail
  refine (L1.out _).mono ?_
  rintro e1 w1 ⟨rfl, hg1⟩
  have HG1 := Lib.hid ((((Gr.refl w).alloc _).alloc _).trans hg1)
  have s := hg1.ext
  obtain ⟨p0, p1, p2, p3⟩ : w1.cell? ⟨w.heap.size, 0, none⟩ = some (kV x1) ∧ w1.cell? ⟨w.heap.size, 1, none⟩ = some (iV x2) ∧ w1.cell? ⟨w.heap.size, 2, none⟩ = some (iV x3) ∧ w1.cell? ⟨w.heap.size, 3, none⟩ = some (iV x4) :=
    ⟨s.cell (Ext.cell ((Ext.refl _).alloc _) (new_at _ _ _ 0 _ rfl)), s.cell (Ext.cell ((Ext.refl _).alloc _) (new_at _ _ _ 1 _ rfl)), s.cell (Ext.cell ((Ext.refl _).alloc _) (new_at _ _ _ 2 _ rfl)), s.cell (Ext.cell ((Ext.refl _).alloc _) (new_at _ _ _ 3 _ rfl))⟩
  have hh : (w.alloc (.cells #[kV x1, iV x2, iV x3, iV x4] 73)).heap.size = w.heap.size + 1 := by simp
  obtain ⟨q0, q1, q2, q3⟩ : w1.cell? ⟨w.heap.size + 1, 0, none⟩ = some (kV y1) ∧ w1.cell? ⟨w.heap.size + 1, 1, none⟩ = some (iV y2) ∧ w1.cell? ⟨w.heap.size + 1, 2, none⟩ = some (iV y3) ∧ w1.cell? ⟨w.heap.size + 1, 3, none⟩ = some (iV y4) := by
    rw [← hh]
    exact ⟨s.cell (new_at _ _ _ 0 _ rfl), s.cell (new_at _ _ _ 1 _ rfl), s.cell (new_at _ _ _ 2 _ rfl), s.cell (new_at _ _ _ 3 _ rfl)⟩
  clear hg1 s hh
  cases b1 with
  | true =>
    go_wp2_with fail
    go_ret
    exact ⟨ret_int (by rw [HC.out, if_pos (of_decide_eq_true H1.out)]), HG1.out⟩
  | false =>
    go_wp2_with fail
    refine (L2.out _).mono ?_
    rintro e2 w2 ⟨rfl, hg2⟩
    have HG2 := Lib.hid (HG1.out.trans hg2)
    clear hg2
    cases b2 with
    | true =>
      go_wp2_with fail
      go_ret
      exact ⟨ret_int (by rw [HC.out, if_neg (of_decide_eq_false H1.out), if_pos (of_decide_eq_true H2.out)]), HG2.out⟩
    | false =>
      go_wp2_with fail
      go_ret
      exact ⟨ret_int (by rw [HC.out, if_neg (of_decide_eq_false H1.out), if_neg (of_decide_eq_false H2.out)]), HG2.out⟩
theorem cfK_lt (c d : Ky) : ltOf cfK c d = true ↔ klt c d := by
  unfold ltOf cfK
  rw [decide_eq_true_iff]
  constructor
  · intro h
    by_cases h1 : klt c d
    · exact h1
    · rw [if_neg h1] at h
      split at h <;> omega
  · intro h
    rw [if_pos h]
    omega
theorem cfK_swo : SWO (ltOf cfK) where
  irrefl x := by rw [Bool.eq_false_iff, ne_eq, cfK_lt]; exact klt_irrefl _
  trans x y z h k := by rw [cfK_lt] at *; exact klt_trans h k
  ntrans x y z h k := by
    rw [Bool.eq_false_iff, ne_eq, cfK_lt] at *
    intro hxz
    rcases klt_total x y with h1 | h1 | h1
    · exact h h1
    · exact k (h1 ▸ hxz)
    · exact k (klt_trans h1 hxz)
end Go.Proofs.Ytehmpbaiefbemaa
