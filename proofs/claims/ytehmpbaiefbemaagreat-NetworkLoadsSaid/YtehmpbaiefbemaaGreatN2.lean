/- The walks over mod, component, in, within, timed, clone, CheckKey, Check, and the closures on choices. -/
import Derived.Test.YtehmpbaiefbemaaGreatN1
namespace Go.Proofs.YtehmpbaiefbemaaGreat
open Go.RowKit
attribute [local go_sem ↓] Go.wp_at_zero Go.wp_at_succ
def modF (a n : Int) : Int := (Int.tmod a n + n) % n
theorem tmod_lo {a n : Int} (h : 0 < n) : -n < Int.tmod a n ∧ Int.tmod a n < n := by
  have h1 := Int.natAbs_tmod a n
  have h2 : a.natAbs % n.natAbs < n.natAbs := Nat.mod_lt _ (by omega)
  omega
theorem modF_range {a n : Int} (h : 0 < n) : 0 ≤ modF a n ∧ modF a n < n := by
  unfold modF
  exact ⟨Int.emod_nonneg _ (by omega), Int.emod_lt_of_pos _ h⟩
set_option maxHeartbeats 2000000 in
theorem mod_any (a n : Int) (w : World) (h0 : 0 < n) (h1 : n ≤ 1000) : Calls Tryz.prog 40 #[.int .i64 a, .int .i64 n] w fun e w' => e = .returned (.int .i64 (modF a n)) ∧ w = w' := by
  have HM : Hid (modF a n = (Int.tmod a n + n) % n) := Lib.hid rfl
  have h2 := tmod_lo (a := a) h0
  obtain ⟨m, hm⟩ : ∃ m, Int.tmod a n = m := ⟨_, rfl⟩
  rw [hm] at h2 HM
  have t0 : (n == 0) = false := by simp; omega
  have t1 : (n == -1) = false := by simp; omega
  have q1 : 0 ≤ m + n := by omega
  go_enter Tryz.func40, Tryz.ntmps40
  go_wp2_with fail
  go_ret
  exact ⟨ret_int HM.out.symm, rfl⟩
theorem comp_any (c : Int) (w : World) : Calls Tryz.prog 51 #[.int .i64 c] w fun e w' => e = .returned (.bool (decide (0 ≤ c ∧ c < 8))) ∧ w = w' := by
  go_enter Tryz.func51, Tryz.ntmps51
  by_cases h0 : 0 ≤ c
  · by_cases h1 : c < 8
    · rw [decide_eq_true ⟨h0, h1⟩]
      go_wp2_with fail
      go_ret
      exact ⟨rfl, rfl⟩
    · have h1' : 8 ≤ c := by omega
      rw [decide_eq_false (fun h => h1 h.2)]
      clear h1
      go_wp2_with fail
      go_ret
      exact ⟨ret_bool (decide_eq_false (by omega)), rfl⟩
  · have h0' : c < 0 := by omega
    rw [decide_eq_false (fun h => h0 h.1)]
    clear h0
    go_wp2_with fail
    go_ret
    exact ⟨rfl, rfl⟩
theorem in_any (c : Int) (w : World) : Calls Tryz.prog 83 #[.int .i64 c] w fun e w' => e = .returned (.bool (decide (0 ≤ c ∧ c < 8))) ∧ w = w' := by
  go_enter Tryz.func83, Tryz.ntmps83
  by_cases h0 : 0 ≤ c
  · by_cases h1 : c < 8
    · rw [decide_eq_true ⟨h0, h1⟩]
      go_wp2_with fail
      go_ret
      exact ⟨rfl, rfl⟩
    · have h1' : 8 ≤ c := by omega
      rw [decide_eq_false (fun h => h1 h.2)]
      clear h1
      go_wp2_with fail
      go_ret
      exact ⟨ret_bool (decide_eq_false (by omega)), rfl⟩
  · have h0' : c < 0 := by omega
    rw [decide_eq_false (fun h => h0 h.1)]
    clear h0
    go_wp2_with fail
    go_ret
    exact ⟨rfl, rfl⟩
theorem within_ok (v lo hi : Int) (w : World) (h0 : lo ≤ v) (h1 : v ≤ hi) : Calls Tryz.prog 75 #[.int .i64 v, .int .i64 lo, .int .i64 hi] w fun e w' => e = .returned (.bool true) ∧ w = w' := by
  go_enter Tryz.func75, Tryz.ntmps75
  go_wp2_with fail
  go_ret
  exact ⟨rfl, rfl⟩
/-- A choice: its key and its number D; its tick is 0, and it has no arguments. -/
abbrev Ch := Ky × Int
def encC (c : Ch) : List Value := [kV c.1.1, iV c.1.2.1, iV c.1.2.2.1, iV c.1.2.2.2, iV 0, iV c.2, .slice none 0 0]
abbrev chV (c : Ch) : Value := .agg #[kV c.1.1, iV c.1.2.1, iV c.1.2.2.1, iV c.1.2.2.2, iV 0, iV c.2, .slice none 0 0]
def RetV (v : Value) (w : World) (e : Ending) (w' : World) : Prop := e = .returned v ∧ Ext w w'
/-- The choices that the laws make. -/
structure OkK (k : Ky) : Prop where
  kind : 1 ≤ k.1 ∧ k.1 ≤ 9
  a : 0 ≤ k.2.1 ∧ k.2.1 ≤ 2
  b : 0 ≤ k.2.2.1 ∧ k.2.2.1 ≤ 2
  pair : k.1 ≠ 1 → k.1 ≠ 5 → k.1 ≠ 6 → k.1 ≠ 7 → k.2.2.1 = 0
  n : 0 ≤ k.2.2.2 ∧ k.2.2.2 ≤ 65535
structure OkC (c : Ch) : Prop where
  key : OkK c.1
  six : c.1.1 = 6 ∨ c.1.1 = 7 → 1 ≤ c.2 ∧ c.2 ≤ 5
  nine : c.1.1 = 9 ∨ c.1.1 = 3 → 1 ≤ c.2 ∧ c.2 ≤ 3
  none : c.1.1 ≠ 6 → c.1.1 ≠ 7 → c.1.1 ≠ 9 → c.1.1 ≠ 3 → c.2 = 0
set_option maxHeartbeats 4000000 in
theorem checkKey_ok (k : Ky) (w : World) (h : OkK k) : Calls Tryz.prog 73 #[keyV k] w (RetI 0 w) := by
  obtain ⟨kd, a, b, n⟩ := k
  obtain ⟨⟨k1, k2⟩, ⟨a1, a2⟩, ⟨b1, b2⟩, hp, ⟨n1, n2⟩⟩ := h
  simp only [] at k1 k2 a1 a2 b1 b2 hp n1 n2
  have hc : kd = 1 ∨ kd = 2 ∨ kd = 3 ∨ kd = 4 ∨ kd = 5 ∨ kd = 6 ∨ kd = 7 ∨ kd = 8 ∨ kd = 9 := by omega
  go_enter Tryz.func73, Tryz.ntmps73
  rcases hc with rfl | rfl | rfl | rfl | rfl | rfl | rfl | rfl | rfl
  all_goals
    simp at hp
    go_wp2_with fail
    refine (within_ok _ _ _ _ (by omega) (by omega)).mono ?_
    rintro e1 w1 ⟨rfl, rfl⟩
    go_wp2_with fail
    refine (within_ok _ _ _ _ (by omega) (by omega)).mono ?_
    rintro e1 w1 ⟨rfl, rfl⟩
    go_wp2_with fail
    refine (within_ok _ _ _ _ (by omega) (by omega)).mono ?_
    rintro e1 w1 ⟨rfl, rfl⟩
    go_wp2_with fail
    go_ret
    exact ⟨rfl, (Ext.refl _).alloc _⟩
theorem timed_any (k : Nat) (w : World) (h1 : 1 ≤ k) (h2 : k ≤ 9) : Calls Tryz.prog 74 #[kV k] w fun e w' => e = .returned (.bool (decide (k ≤ 4))) ∧ w = w' := by
  have hc : k = 1 ∨ k = 2 ∨ k = 3 ∨ k = 4 ∨ k = 5 ∨ k = 6 ∨ k = 7 ∨ k = 8 ∨ k = 9 := by omega
  go_enter Tryz.func74, Tryz.ntmps74
  rcases hc with rfl | rfl | rfl | rfl | rfl | rfl | rfl | rfl | rfl
  all_goals
    go_wp2_with fail
    go_ret
    exact ⟨rfl, rfl⟩
theorem box7 {w w' : World} {a b c d e f g : Value} {T : Nat} (h : Ext (w.alloc (.cells #[a, b, c, d, e, f, g] T)) w') : w'.cell? ⟨w.heap.size, 0, none⟩ = some a ∧ w'.cell? ⟨w.heap.size, 4, none⟩ = some e ∧ w'.cell? ⟨w.heap.size, 5, none⟩ = some f ∧ w'.cell? ⟨w.heap.size, 6, none⟩ = some g :=
  ⟨h.cell (new_at _ _ _ _ _ rfl), h.cell (new_at _ _ _ _ _ rfl), h.cell (new_at _ _ _ _ _ rfl), h.cell (new_at _ _ _ _ _ rfl)⟩
set_option maxHeartbeats 8000000 in
theorem check_ok (c : Ch) (w : World) (h : OkC c) : Calls Tryz.prog 43 #[chV c] w (RetI 0 w) := by
  have HK := Lib.hid (fun W => checkKey_ok c.1 W h.key)
  obtain ⟨⟨kd, a, b, n⟩, d⟩ := c
  obtain ⟨⟨⟨k1, k2⟩, -, -, -, -⟩, h6, h9, hn⟩ := h
  simp only [] at k1 k2 h6 h9 hn HK
  have hc : kd = 1 ∨ kd = 2 ∨ kd = 3 ∨ kd = 4 ∨ kd = 5 ∨ kd = 6 ∨ kd = 7 ∨ kd = 8 ∨ kd = 9 := by omega
  go_enter Tryz.func43, Tryz.ntmps43
  rcases hc with rfl | rfl | rfl | rfl | rfl | rfl | rfl | rfl | rfl
  all_goals
    simp at h6 h9 hn
    go_wp2_with fail
    refine (HK.out _).mono ?_
    rintro e1 w1 ⟨rfl, hE⟩
    have HE := Lib.hid hE
    have cc := box7 hE
    obtain ⟨c0, c4, c5, c6⟩ := cc
    clear hE
    go_wp2_with fail
    refine (timed_any _ _ (by omega) (by omega)).mono ?_
    rintro e1 w1 ⟨rfl, rfl⟩
    go_wp2_with fail
    refine (within_ok _ _ _ _ (by omega) (by omega)).mono ?_
    rintro e1 w1 ⟨rfl, rfl⟩
    go_wp2_with fail
    refine (within_ok _ _ _ _ (by omega) (by omega)).mono ?_
    rintro e1 w1 ⟨rfl, rfl⟩
    go_wp2_with fail
    go_ret
    exact ⟨rfl, ((Ext.refl _).alloc _).trans HE.out⟩
theorem clone_any (c : Ch) (w : World) : Calls Tryz.prog 44 #[chV c] w (RetV (chV c) w) := by
  obtain ⟨⟨kd, a, b, n⟩, d⟩ := c
  go_enter Tryz.func44, Tryz.ntmps44
  go_wp2_with fail
  refine bodyPost_ret (v := chV ((kd, a, b, n), d)) (by simp [results, Tryz.results44, go_sem]) rfl ⟨rfl, ((Ext.refl _).alloc _).alloc _⟩
set_option maxHeartbeats 2000000 in
/-- The comparison of two choices, by their keys. -/
theorem cmpC_any (x y : Ch) (w : World) : Calls Tryz.prog 46 #[chV x, chV y] w (RetG (cmpK x.1 y.1) w) := by
  have HC := Lib.hid (compare_any x.1 y.1)
  obtain ⟨c, hc⟩ : ∃ c, cmpK x.1 y.1 = c := ⟨_, rfl⟩
  rw [hc] at HC ⊢
  obtain ⟨⟨x1, x2, x3, x4⟩, x5⟩ := x
  obtain ⟨⟨y1, y2, y3, y4⟩, y5⟩ := y
  clear hc
  go_enter Tryz.func46, Tryz.ntmps46
  go_wp2_with fail
  refine (HC.out _).mono ?_
  rintro e1 w1 ⟨rfl, hE⟩
  have HE := Lib.hid hE
  clear hE
  go_wp2_with fail
  go_ret
  exact ⟨rfl, (((Gr.refl _).alloc _).alloc _).trans HE.out⟩
set_option maxHeartbeats 2000000 in
theorem cmpCK_any (x : Ch) (y : Ky) (w : World) : Calls Tryz.prog 97 #[chV x, keyV y] w (RetG (cmpK x.1 y) w) := by
  have HC := Lib.hid (compare_any x.1 y)
  obtain ⟨c, hc⟩ : ∃ c, cmpK x.1 y = c := ⟨_, rfl⟩
  rw [hc] at HC ⊢
  obtain ⟨⟨x1, x2, x3, x4⟩, x5⟩ := x
  obtain ⟨y1, y2, y3, y4⟩ := y
  clear hc
  go_enter Tryz.func97, Tryz.ntmps97
  go_wp2_with fail
  refine (HC.out _).mono ?_
  rintro e1 w1 ⟨rfl, hE⟩
  have HE := Lib.hid hE
  clear hE
  go_wp2_with fail
  go_ret
  exact ⟨rfl, (((Gr.refl _).alloc _).alloc _).trans HE.out⟩
set_option maxHeartbeats 4000000 in
/-- The reference's order of keys. -/
theorem rless_any (x y : Ky) (w : World) : Calls Tryz.prog 41 #[keyV x, keyV y] w (RetB (decide (klt x y)) w) := by
  have HK : Hid (klt x y ↔ (x.1 < y.1 ∨ x.1 = y.1 ∧ (x.2.1 < y.2.1 ∨ x.2.1 = y.2.1 ∧ (x.2.2.1 < y.2.2.1 ∨ x.2.2.1 = y.2.2.1 ∧ x.2.2.2 < y.2.2.2)))) := Lib.hid Iff.rfl
  obtain ⟨x1, x2, x3, x4⟩ := x
  obtain ⟨y1, y2, y3, y4⟩ := y
  obtain ⟨P, hP⟩ : ∃ P : Bool, decide (klt (x1, x2, x3, x4) (y1, y2, y3, y4)) = P := ⟨_, rfl⟩
  have HP := Lib.hid hP
  rw [hP]
  clear hP
  go_enter Tryz.func41, Tryz.ntmps41
  by_cases h1 : x1 = y1
  · by_cases h2 : x2 = y2
    · by_cases h3 : x3 = y3
      · have HF : Hid (P = decide (x4 < y4)) := by rw [← HP.out]; exact Lib.hid (decide_eq_decide.2 (by rw [HK.out]; simp only []; omega))
        subst h1
        subst h2
        subst h3
        go_wp2_with fail
        go_ret
        exact ⟨by rw [HF.out]; rfl, ((Ext.refl _).alloc _).alloc _⟩
      · have HF : Hid (P = decide (x3 < y3)) := by rw [← HP.out]; exact Lib.hid (decide_eq_decide.2 (by rw [HK.out]; simp only []; omega))
        have t3 : (x3 != y3) = true := by simpa using h3
        subst h1
        subst h2
        clear h3
        go_wp2_with fail
        go_ret
        exact ⟨by rw [HF.out]; rfl, ((Ext.refl _).alloc _).alloc _⟩
    · have HF : Hid (P = decide (x2 < y2)) := by rw [← HP.out]; exact Lib.hid (decide_eq_decide.2 (by rw [HK.out]; simp only []; omega))
      have t3 : (x2 != y2) = true := by simpa using h2
      subst h1
      clear h2
      go_wp2_with fail
      go_ret
      exact ⟨by rw [HF.out]; rfl, ((Ext.refl _).alloc _).alloc _⟩
  · have HF : Hid (P = decide (x1 < y1)) := by rw [← HP.out]; exact Lib.hid (decide_eq_decide.2 (by rw [HK.out]; simp only []; omega))
    have t3 : ((x1 : Int) != (y1 : Int)) = true := by simp; omega
    clear h1
    go_wp2_with fail
    go_ret
    exact ⟨by rw [HF.out]; rfl, ((Ext.refl _).alloc _).alloc _⟩
end Go.Proofs.YtehmpbaiefbemaaGreat
