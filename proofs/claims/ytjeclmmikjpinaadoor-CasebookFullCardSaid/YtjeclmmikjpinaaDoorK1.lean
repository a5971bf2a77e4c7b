/- The walks over the functions on wide numbers: plus, minus, less, greater. -/
import Derived.Test.YtjeclmmikjpinaaDoorK0
namespace Go.Proofs.YtjeclmmikjpinaaDoor.I
open Go.RowKit
def add64E : Array Value → Sem Value := fun args => do
  let (x, y, c) ← Extern.MathBitsCarry.three "Add64" args
  pure (Extern.MathBitsCarry.pair ((x + y + c) % Extern.MathBitsCarry.m64) ((x + y + c) / Extern.MathBitsCarry.m64))
def sub64E : Array Value → Sem Value := fun args => do
  let (x, y, b) ← Extern.MathBitsCarry.three "Sub64" args
  pure (Extern.MathBitsCarry.pair ((x + Extern.MathBitsCarry.m64 - y - b) % Extern.MathBitsCarry.m64) (if x < y + b then 1 else 0))
def carry (a b : Nat) : Nat := (lo a + lo b) / 18446744073709551616
def lowsum (a b : Nat) : Nat := (lo a + lo b) % 18446744073709551616
theorem run_add (a b : Nat) (w : World) : (callFunc 65 #[.int .u64 (lo a), .int .u64 (lo b), .int .u64 0]).run Tryd.prog w = .ok (.value (.tuple #[.int .u64 (lowsum a b), .int .u64 (carry a b)])) w := by
  rw [run_callFunc_extern Tryd.func65 (by kernel_rfl) (by kernel_rfl) (by kernel_rfl) (e := add64E) (by kernel_rfl)]
  have := run_add64 (P := Tryd.prog) (lo a) (lo b) 0 (by omega) (by omega) (by omega) (by omega) w
  rw [show add64E = add64Entry from rfl, this]
  simp only [Result.andThen, lowsum, carry]
  congr 5 <;> omega
def borrow (a b : Nat) : Nat := if lo a < lo b then 1 else 0
def lowdiff (a b : Nat) : Nat := (lo a + 18446744073709551616 - lo b) % 18446744073709551616
theorem run_sub (a b : Nat) (w : World) : (callFunc 68 #[.int .u64 (lo a), .int .u64 (lo b), .int .u64 0]).run Tryd.prog w = .ok (.value (.tuple #[.int .u64 (lowdiff a b), .int .u64 (borrow a b)])) w := by
  rw [run_callFunc_extern Tryd.func68 (by kernel_rfl) (by kernel_rfl) (by kernel_rfl) (e := sub64E) (by kernel_rfl)]
  rfl
theorem plus_hi (a b : Nat) : hi a + hi b + carry a b = hi (a + b) := by unfold hi carry lo; omega
theorem plus_lo (a b : Nat) : lowsum a b = lo (a + b) := by unfold lowsum lo; omega
theorem minus_hi (a b : Nat) (h : b ≤ a) : hi a = hi b + borrow a b + hi (a - b) := by unfold hi borrow lo; split <;> omega
theorem minus_lo (a b : Nat) (h : b ≤ a) : lowdiff a b = lo (a - b) := by unfold lowdiff lo; omega
set_option maxHeartbeats 400000 in
theorem plus_any (a b : Nat) (w : World) (h : a + b < 2 ^ 127) : Calls Tryd.prog 46 #[Wd a, Wd b] w (RetW (a + b) w) := by
  have h1 := run_add a b
  have h2 := plus_hi a b
  have h3 := hi_lt _ h
  have h4 : hi a + hi b + carry a b ≤ 9223372036854775807 := by omega
  have H2 := Lib.hid h2
  clear h2 h3 h
  go_enter Tryd.func46, Tryd.ntmps46
  go_wp2
  refine bodyPost_ret (v := Wd (a + b)) ?_ rfl ⟨rfl, (((Ext.refl _).alloc _).alloc _).alloc _⟩
  simp [results, Tryd.results46, go_sem]
  rw [← H2.out, ← plus_lo]; simp
set_option maxHeartbeats 400000 in
theorem minus_any (a b : Nat) (w : World) (h : b ≤ a) (h' : a < 2 ^ 127) : Calls Tryd.prog 58 #[Wd a, Wd b] w (RetW (a - b) w) := by
  have h1 := run_sub a b
  have h2 := minus_hi a b h
  have h3 := hi_lt _ h'
  have H5 := Lib.hid (minus_lo a b h)
  have h4 : hi b + borrow a b ≤ hi a := by omega
  have H2 := Lib.hid h2
  clear h2 h h'
  go_enter Tryd.func58, Tryd.ntmps58
  go_wp2
  refine bodyPost_ret (v := Wd (a - b)) ?_ rfl ⟨rfl, (((Ext.refl _).alloc _).alloc _).alloc _⟩
  simp [results, Tryd.results58, go_sem]
  rw [← H5.out]
  have := H2.out
  exact ⟨by omega, rfl⟩
set_option maxHeartbeats 400000 in
theorem less_any (a b : Nat) (w : World) : Calls Tryd.prog 48 #[Wd a, Wd b] w (RetB (decide (a < b)) w) := by
  have hx := lt_iff_wide a b
  by_cases h1 : hi a < hi b
  · have H : Hid (decide (a < b) = true) := by rw [decide_eq_true_eq, hx]; exact .inl h1
    clear hx
    go_enter Tryd.func48, Tryd.ntmps48
    go_wp2
    go_ret
    exact ⟨by rw [H.out]; rfl, ((Ext.refl _).alloc _).alloc _⟩
  · by_cases h2 : hi a = hi b
    · by_cases h3 : lo a < lo b
      · have H : Hid (decide (a < b) = true) := by rw [decide_eq_true_eq, hx]; exact .inr ⟨h2, h3⟩
        clear hx
        have h4 : decide (hi a < hi b) = false := by simpa using h1
        have h5 : ((hi a : Int) == (hi b : Int)) = true := by simp [h2]
        have H2 := Lib.hid h2
        clear h2
        go_enter Tryd.func48, Tryd.ntmps48
        go_wp2
        go_ret
        exact ⟨by rw [H.out]; rfl, ((Ext.refl _).alloc _).alloc _⟩
      · have H : Hid (decide (a < b) = false) := by rw [decide_eq_false_iff_not, hx]; rintro (h | h) <;> omega
        clear hx
        have h4 : decide (hi a < hi b) = false := by simpa using h1
        have h5 : ((hi a : Int) == (hi b : Int)) = true := by simp [h2]
        have h6 : decide (lo a < lo b) = false := by simpa using h3
        have H2 := Lib.hid h2
        clear h2
        go_enter Tryd.func48, Tryd.ntmps48
        go_wp2
        go_ret
        exact ⟨by rw [H.out]; rfl, ((Ext.refl _).alloc _).alloc _⟩
    · have H : Hid (decide (a < b) = false) := by rw [decide_eq_false_iff_not, hx]; rintro (h | h) <;> omega
      clear hx
      have h4 : decide (hi a < hi b) = false := by simpa using h1
      have h5 : ((hi a : Int) == (hi b : Int)) = false := by simp; omega
      go_enter Tryd.func48, Tryd.ntmps48
      go_wp2
      go_ret
      exact ⟨by rw [H.out]; rfl, ((Ext.refl _).alloc _).alloc _⟩
set_option maxHeartbeats 400000 in
theorem greater_any (a b : Nat) (w : World) : Calls Tryd.prog 56 #[Wd a, Wd b] w (RetW (max a b) w) := by
  by_cases h : a < b
  · have hd : decide (a < b) = true := by simpa using h
    have H : Hid (max a b = b) := Nat.max_eq_right (by omega)
    go_enter Tryd.func56, Tryd.ntmps56
    go_wp2_with (go_at_call 48; refine (less_any a b _).mono ?_; rintro e w1 ⟨rfl, hb⟩; obtain ⟨hc, hf⟩ := hb.both; have hz : w.heap.size + 2 < w1.heap.size := (by have := hb.size; simp at this; omega))
    have HX := ((Ext.refl w).alloc _).alloc _ |>.alloc _ |>.trans hb
    refine bodyPost_ret (v := Wd (max a b)) (by rw [H.out]; simp [results, Tryd.results56, go_sem, hc]) rfl ⟨rfl, ?_⟩
    exact (HX.set (by simp; omega) _).set (by simp; omega) _
  · have hd : decide (a < b) = false := by simpa using h
    have H : Hid (max a b = a) := Nat.max_eq_left (by omega)
    go_enter Tryd.func56, Tryd.ntmps56
    go_wp2_with (go_at_call 48; refine (less_any a b _).mono ?_; rintro e w1 ⟨rfl, hb⟩; obtain ⟨hc, hf⟩ := hb.both; have hz : w.heap.size + 2 < w1.heap.size := (by have := hb.size; simp at this; omega))
    have HX := ((Ext.refl w).alloc _).alloc _ |>.alloc _ |>.trans hb
    refine bodyPost_ret (v := Wd (max a b)) (by rw [H.out]; simp [results, Tryd.results56, go_sem, hc]) rfl ⟨rfl, ?_⟩
    exact (HX.set (by simp; omega) _).set (by simp; omega) _
theorem run_eql_wide (a b : Nat) (w : World) : (binOp .eql 74 (Wd a) (Wd b)).run Tryd.prog w = .ok (.bool (a == b)) w := by
  rw [run_eql_struct]
  simp [go_sem, Tryd.underlying74]
  have c1 : ((hi a : Int) = (hi b : Int)) ↔ hi a = hi b := by omega
  have c2 : ((lo a : Int) = (lo b : Int)) ↔ lo a = lo b := by omega
  simp only [c1, c2]
  have := @wide_ext a b
  by_cases h1 : hi a = hi b <;> by_cases h2 : lo a = lo b <;> by_cases h : a = b <;> simp_all
theorem run_neq_wide (a b : Nat) (w : World) : (binOp .neq 74 (Wd a) (Wd b)).run Tryd.prog w = .ok (.bool (!(a == b))) w := by
  have := run_eql_wide a b w
  rw [run_eql_struct] at this
  rw [run_neq_struct]
  generalize (Op.equalIn 10000 74 (Wd a) (Wd b)).run Tryd.prog w = r at this
  cases r with
  | ok x w' => simp only [Result.andThen_ok, Result.ok.injEq, Value.bool.injEq] at this ⊢; obtain ⟨rfl, rfl⟩ := this; exact ⟨rfl, rfl⟩
  | halt x w' => simp [Result.andThen] at this
end Go.Proofs.YtjeclmmikjpinaaDoor.I
