/- The elements of a mask, as the library's functions find them: the lowest bit, and the number of bits. No program in sight. -/
import Derived.Test.YtdcbejccplonjaaDoorH1
import Derived.Lib.TrailingZeros
namespace Go.Proofs.YtdcbejccplonjaaDoor
theorem filter_first {p : Nat → Bool} {k : Nat} (hk : p k = true) (h : ∀ i, i < k → p i = false) : ∀ n, k < n → (List.range n).filter p = k :: (List.range n).filter (fun i => p i && !decide (i = k)) := by
  intro n
  induction n with
  | zero => intro h; omega
  | succ n ih =>
    intro hn
    rw [List.range_succ, List.filter_append, List.filter_append]
    rcases Nat.lt_or_ge k n with h1 | h1
    · rw [ih h1]
      have e : ([n].filter fun i => p i && !decide (i = k)) = [n].filter p := by
        simp only [List.filter_cons, List.filter_nil, show (decide (n = k)) = false by simp; omega]
        cases p n <;> rfl
      rw [e]; rfl
    · have hkn : k = n := by omega
      subst hkn
      have e1 : (List.range k).filter p = [] := by
        rw [List.filter_eq_nil_iff]; intro a ha; rw [h a (by simpa using ha)]; simp
      have e2 : ((List.range k).filter fun i => p i && !decide (i = k)) = [] := by
        rw [List.filter_eq_nil_iff]; intro a ha; rw [h a (by simpa using ha)]; simp
      rw [e1, e2]
      simp [hk]
theorem low_bits (k q i : Nat) : (2 ^ k * (2 * q + 1)).testBit i = (decide (i = k) || (decide (k < i) && q.testBit (i - k - 1))) := by
  rw [Nat.testBit_two_pow_mul]
  rcases Nat.lt_trichotomy i k with h | h | h
  · have : ¬ k ≤ i := by omega
    have h2 : ¬ i = k := by omega
    have h3 : ¬ k < i := by omega
    simp [this, h2, h3]
  · subst h
    simp
  · have h1 : k ≤ i := by omega
    have h2 : ¬ i = k := by omega
    obtain ⟨j, rfl⟩ : ∃ j, i = k + (j + 1) := ⟨i - k - 1, by omega⟩
    have e : k + (j + 1) - k = j + 1 := by omega
    have e2 : k + (j + 1) - k - 1 = j := by omega
    rw [e, Nat.testBit_succ]
    have : (2 * q + 1) / 2 = q := by omega
    rw [this]
    simp
theorem low_pred (k q i : Nat) : (2 ^ k * (2 * q + 1) - 1).testBit i = (decide (i < k) || (decide (k < i) && q.testBit (i - k - 1))) := by
  have hp := Nat.two_pow_pos k
  have e : 2 ^ k * (2 * q + 1) - 1 = 2 ^ k * (2 * q) + (2 ^ k - 1) := by rw [Nat.mul_add, Nat.mul_one]; omega
  rw [e, Nat.testBit_two_pow_mul_add _ (by omega)]
  rcases Nat.lt_trichotomy i k with h | h | h
  · simp [h]
  · subst h; simp
  · have h1 : ¬ i < k := by omega
    obtain ⟨j, rfl⟩ : ∃ j, i = k + (j + 1) := ⟨i - k - 1, by omega⟩
    have e1 : k + (j + 1) - k = j + 1 := by omega
    have e2 : k + (j + 1) - k - 1 = j := by omega
    rw [if_neg h1, e1, Nat.testBit_succ]
    have : 2 * q / 2 = q := by omega
    rw [this]
    simp [h1]
theorem ctz_lt {m : Nat} (h0 : m ≠ 0) (hm : m < 2 ^ 64) : Lib.ctz 64 m < 64 := by
  unfold Lib.ctz
  rw [if_neg h0]
  obtain ⟨q, _, h⟩ := Lib.ctzFrom_spec 64 m (by omega) hm
  exact h
theorem elems_step {m : Nat} (h0 : m ≠ 0) (hm : m < 2 ^ 64) : elems m = Lib.ctz 64 m :: elems (m &&& (m - 1)) := by
  have hk := ctz_lt h0 hm
  obtain ⟨q, hq⟩ : ∃ q, m = 2 ^ Lib.ctz 64 m * (2 * q + 1) := by
    unfold Lib.ctz
    rw [if_neg h0]
    obtain ⟨q, h1, _⟩ := Lib.ctzFrom_spec 64 m (by omega) hm
    exact ⟨q, h1⟩
  generalize Lib.ctz 64 m = k at *
  have hb : ∀ i, m.testBit i = (decide (i = k) || (decide (k < i) && q.testBit (i - k - 1))) := fun i => by rw [hq]; exact low_bits k q i
  have hp : ∀ i, (m - 1).testBit i = (decide (i < k) || (decide (k < i) && q.testBit (i - k - 1))) := fun i => by
    have := low_pred k q i
    rw [← hq] at this
    exact this
  have hc : ∀ i, (m &&& (m - 1)).testBit i = (m.testBit i && !decide (i = k)) := fun i => by
    rw [Nat.testBit_and, hb, hp]
    rcases Nat.lt_trichotomy i k with h | h | h
    · have h2 : ¬ i = k := by omega
      have h3 : ¬ k < i := by omega
      simp [h2, h3]
    · subst h; simp
    · have h2 : ¬ i = k := by omega
      have h3 : ¬ i < k := by omega
      simp [h, h2, h3]
  unfold elems
  rw [filter_first (p := fun i => m.testBit i) (k := k) (by rw [hb]; simp) (fun i hi => by
    rw [hb]
    have h2 : ¬ i = k := by omega
    have h3 : ¬ k < i := by omega
    simp [h2, h3]) 64 hk]
  congr 1
  refine List.filter_congr fun i _ => ?_
  rw [hc]
theorem and_lt {a b n : Nat} (h : a < n) : a &&& b < n := Nat.lt_of_le_of_lt Nat.and_le_left h
theorem elems_zero : elems 0 = [] := by decide
theorem and_byte (a b c d : Nat) (hb : b < 256) (hd : d < 256) : (256 * a + b) &&& (256 * c + d) = 256 * (a &&& c) + (b &&& d) := by
  have h1 : ((256 * a + b) &&& (256 * c + d)) / 2 ^ 8 = a &&& c := by
    rw [Nat.and_div_two_pow]
    congr 1 <;> omega
  have h2 : ((256 * a + b) &&& (256 * c + d)) % 2 ^ 8 = b &&& d := by
    rw [Nat.and_mod_two_pow]
    congr 1 <;> omega
  have h3 : ((256 * a + b) &&& (256 * c + d)) = 256 * (((256 * a + b) &&& (256 * c + d)) / 256) + ((256 * a + b) &&& (256 * c + d)) % 256 := by omega
  rw [h3]
  rw [show (2 ^ 8 : Nat) = 256 from rfl] at h1 h2
  rw [h1, h2]
/-- Masks of n bytes. -/
def rep (b : Nat) : Nat → Nat
  | 0 => 0
  | n + 1 => 256 * rep b n + b
def stA (n x : Nat) : Nat := (x / 2 &&& rep 85 n) + (x &&& rep 85 n)
def stB (n x : Nat) : Nat := (x / 4 &&& rep 51 n) + (x &&& rep 51 n)
def stC (n x : Nat) : Nat := (x / 16 + x) &&& rep 15 n
/-- The number of bits of a byte. -/
def pop8 (r : Nat) : Nat := (List.range 8).countP fun i => r.testBit i
def a8 (r : Nat) : Nat := (r / 2 &&& 85) + (r &&& 85)
def b8 (r : Nat) : Nat := (r / 4 &&& 51) + (r &&& 51)
set_option maxRecDepth 100000 in
theorem byte_facts : ∀ r : Fin 256, a8 r.val < 256 ∧ b8 (a8 r.val) < 256 ∧ b8 (a8 r.val) / 16 ≤ 4 ∧ b8 (a8 r.val) % 16 ≤ 4 ∧ b8 (a8 r.val) / 16 + b8 (a8 r.val) % 16 = pop8 r.val := by decide
set_option maxRecDepth 100000 in
theorem a_fact : ∀ r : Fin 256, ∀ b : Fin 2, (128 * b.val + r.val / 2) &&& 85 = r.val / 2 &&& 85 := by decide
set_option maxRecDepth 100000 in
theorem b_fact : ∀ r : Fin 256, ∀ b : Fin 4, (64 * b.val + r.val / 4) &&& 51 = r.val / 4 &&& 51 := by decide
theorem stA_step (n q r : Nat) (hr : r < 256) : stA (n + 1) (256 * q + r) = 256 * stA n q + a8 r := by
  simp only [stA, rep, a8]
  have e : (256 * q + r) / 2 = 256 * (q / 2) + (128 * (q % 2) + r / 2) := by omega
  have f := a_fact ⟨r, hr⟩ ⟨q % 2, by omega⟩
  simp only [] at f
  rw [e, and_byte _ _ _ _ (by omega) (by omega), and_byte _ _ _ _ hr (by omega), f]
  omega
theorem stB_step (n q r : Nat) (hr : r < 256) : stB (n + 1) (256 * q + r) = 256 * stB n q + b8 r := by
  simp only [stB, rep, b8]
  have e : (256 * q + r) / 4 = 256 * (q / 4) + (64 * (q % 4) + r / 4) := by omega
  have f := b_fact ⟨r, hr⟩ ⟨q % 4, by omega⟩
  simp only [] at f
  rw [e, and_byte _ _ _ _ (by omega) (by omega), and_byte _ _ _ _ hr (by omega), f]
  omega
theorem stC_step (n q r : Nat) (h1 : r / 16 ≤ 4) (h2 : r % 16 ≤ 4) (h3 : q % 16 ≤ 4) : stC (n + 1) (256 * q + r) = 256 * stC n q + (r / 16 + r % 16) := by
  simp only [stC, rep]
  have e : (256 * q + r) / 16 + (256 * q + r) = 256 * (q / 16 + q) + (16 * (q % 16) + r / 16 + r) := by omega
  rw [e, and_byte _ _ _ _ (by omega) (by omega)]
  have : (16 * (q % 16) + r / 16 + r) &&& 15 = r / 16 + r % 16 := by
    rw [show (15 : Nat) = 2 ^ 4 - 1 from rfl, Nat.and_two_pow_sub_one_eq_mod]
    omega
  rw [this]
/-- The bytes of a number, each as the number of its bits. -/
def bytesOf : Nat → Nat → Nat
  | 0, _ => 0
  | n + 1, x => 256 * bytesOf n (x / 256) + pop8 (x % 256)
theorem low_ok (n x : Nat) : stB n (stA n x) % 16 ≤ 4 ∧ (n = 0 → stB n (stA n x) = 0) := by
  cases n with
  | zero => refine ⟨?_, fun _ => ?_⟩ <;> simp [stB, stA, rep]
  | succ n =>
    refine ⟨?_, fun h => by omega⟩
    have hr : x % 256 < 256 := Nat.mod_lt _ (by omega)
    have e : x = 256 * (x / 256) + x % 256 := by omega
    obtain ⟨f1, f2, f3, f4, f5⟩ := byte_facts ⟨x % 256, hr⟩
    simp only [] at f1 f2 f3 f4 f5
    rw [e, stA_step _ _ _ hr, stB_step _ _ _ f1]
    omega
theorem stages (n : Nat) : ∀ x, stC n (stB n (stA n x)) = bytesOf n x := by
  induction n with
  | zero => intro x; simp [stC, stB, stA, rep, bytesOf]
  | succ n ih =>
    intro x
    have hr : x % 256 < 256 := Nat.mod_lt _ (by omega)
    have e : x = 256 * (x / 256) + x % 256 := by omega
    obtain ⟨f1, f2, f3, f4, f5⟩ := byte_facts ⟨x % 256, hr⟩
    simp only [] at f1 f2 f3 f4 f5
    rw [bytesOf, ← ih (x / 256)]
    conv => lhs; rw [e]
    rw [stA_step _ _ _ hr, stB_step _ _ _ f1, stC_step _ _ _ f3 f4 (low_ok n (x / 256)).1, f5]
theorem pop8_le (r : Nat) : pop8 r ≤ 8 := by
  unfold pop8
  have := List.countP_le_length (l := List.range 8) (p := fun i => r.testBit i)
  rwa [List.length_range] at this
theorem byte_bit (q r i : Nat) (hr : r < 256) : (256 * q + r).testBit i = if i < 8 then r.testBit i else q.testBit (i - 8) := by
  have := Nat.testBit_two_pow_mul_add q (i := 8) (b := r) (by omega) i
  rw [show (2 ^ 8 : Nat) = 256 from rfl] at this
  rw [this]
theorem count_bytes (n : Nat) : ∀ x, (List.range (n + 8)).countP (fun i => x.testBit i) = (List.range n).countP (fun i => (x / 256).testBit i) + pop8 (x % 256) := by
  intro x
  have hr : x % 256 < 256 := Nat.mod_lt _ (by omega)
  have e : x = 256 * (x / 256) + x % 256 := by omega
  rw [Nat.add_comm n 8, List.range_add, List.countP_append, List.countP_map]
  have h1 : (List.range 8).countP (fun i => x.testBit i) = pop8 (x % 256) := by
    unfold pop8
    refine List.countP_congr fun i hi => ?_
    have : i < 8 := by simpa using hi
    rw [e, byte_bit _ _ _ hr, if_pos this]
    rw [show (256 * (x / 256) + x % 256) % 256 = x % 256 by omega]
  have h2 : (List.range n).countP ((fun i => x.testBit i) ∘ fun x => 8 + x) = (List.range n).countP (fun i => (x / 256).testBit i) := by
    refine List.countP_congr fun i _ => ?_
    simp only [Function.comp]
    rw [show x.testBit (8 + i) = (256 * (x / 256) + x % 256).testBit (8 + i) by rw [← e], byte_bit _ _ _ hr, if_neg (by omega), show 8 + i - 8 = i by omega]
  rw [h1, h2]
  omega
theorem card_count (x : Nat) : card x = (List.range 64).countP fun i => x.testBit i := by unfold card elems; rw [List.countP_eq_length_filter]
/-- The last stages add the bytes up. -/
theorem sum_bytes (x : Nat) : (let y := bytesOf 8 x; let y1 := y + y / 256; let y2 := y1 + y1 / 65536; let y3 := y2 + y2 / 4294967296; y3 % 128) = card x ∧ bytesOf 8 x < 1157442765409226768 := by
  have c : card x = pop8 (x % 256) + pop8 (x / 256 % 256) + pop8 (x / 256 / 256 % 256) + pop8 (x / 256 / 256 / 256 % 256) + pop8 (x / 256 / 256 / 256 / 256 % 256) + pop8 (x / 256 / 256 / 256 / 256 / 256 % 256) + pop8 (x / 256 / 256 / 256 / 256 / 256 / 256 % 256) + pop8 (x / 256 / 256 / 256 / 256 / 256 / 256 / 256 % 256) := by
    rw [card_count, count_bytes 56, count_bytes 48, count_bytes 40, count_bytes 32, count_bytes 24, count_bytes 16, count_bytes 8, count_bytes 0]
    simp only [List.range_zero, List.countP_nil]
    omega
  rw [c]
  simp only [bytesOf]
  have l0 := pop8_le (x % 256)
  have l1 := pop8_le (x / 256 % 256)
  have l2 := pop8_le (x / 256 / 256 % 256)
  have l3 := pop8_le (x / 256 / 256 / 256 % 256)
  have l4 := pop8_le (x / 256 / 256 / 256 / 256 % 256)
  have l5 := pop8_le (x / 256 / 256 / 256 / 256 / 256 % 256)
  have l6 := pop8_le (x / 256 / 256 / 256 / 256 / 256 / 256 % 256)
  have l7 := pop8_le (x / 256 / 256 / 256 / 256 / 256 / 256 / 256 % 256)
  generalize pop8 (x % 256) = b0 at *
  generalize pop8 (x / 256 % 256) = b1 at *
  generalize pop8 (x / 256 / 256 % 256) = b2 at *
  generalize pop8 (x / 256 / 256 / 256 % 256) = b3 at *
  generalize pop8 (x / 256 / 256 / 256 / 256 % 256) = b4 at *
  generalize pop8 (x / 256 / 256 / 256 / 256 / 256 % 256) = b5 at *
  generalize pop8 (x / 256 / 256 / 256 / 256 / 256 / 256 % 256) = b6 at *
  generalize pop8 (x / 256 / 256 / 256 / 256 / 256 / 256 / 256 % 256) = b7 at *
  have d1 : ∀ A B : Nat, B < 256 → (256 * A + B) / 256 = A := fun A B h => by omega
  have d2 : ∀ A B : Nat, B < 65536 → (65536 * A + B) / 65536 = A := fun A B h => by omega
  have d3 : ∀ A B : Nat, B < 4294967296 → (4294967296 * A + B) / 4294967296 = A := fun A B h => by omega
  have d4 : ∀ A B : Nat, B < 128 → (128 * A + B) % 128 = B := fun A B h => by omega
  clear c
  rw [d1 _ b0 (by omega)]
  have e1 : 256 * (256 * (256 * (256 * (256 * (256 * (256 * (256 * 0 + b7) + b6) + b5) + b4) + b3) + b2) + b1) + b0 + (256 * (256 * (256 * (256 * (256 * (256 * (256 * 0 + b7) + b6) + b5) + b4) + b3) + b2) + b1)
      = 65536 * ((b2 + b3) + 256 * (b3 + b4) + 65536 * (b4 + b5) + 16777216 * (b5 + b6) + 4294967296 * (b6 + b7) + 1099511627776 * b7) + ((b0 + b1) + 256 * (b1 + b2)) := by omega
  rw [e1, d2 _ _ (by omega)]
  have e2 : 65536 * ((b2 + b3) + 256 * (b3 + b4) + 65536 * (b4 + b5) + 16777216 * (b5 + b6) + 4294967296 * (b6 + b7) + 1099511627776 * b7) + ((b0 + b1) + 256 * (b1 + b2)) + ((b2 + b3) + 256 * (b3 + b4) + 65536 * (b4 + b5) + 16777216 * (b5 + b6) + 4294967296 * (b6 + b7) + 1099511627776 * b7)
      = 4294967296 * ((b4 + b5 + b6 + b7) + 256 * (b5 + b6 + b7) + 65536 * (b6 + b7) + 16777216 * b7) + ((b0 + b1 + b2 + b3) + 256 * (b1 + b2 + b3 + b4) + 65536 * (b2 + b3 + b4 + b5) + 16777216 * (b3 + b4 + b5 + b6)) := by omega
  rw [e2, d3 _ _ (by omega)]
  have e3 : 4294967296 * ((b4 + b5 + b6 + b7) + 256 * (b5 + b6 + b7) + 65536 * (b6 + b7) + 16777216 * b7) + ((b0 + b1 + b2 + b3) + 256 * (b1 + b2 + b3 + b4) + 65536 * (b2 + b3 + b4 + b5) + 16777216 * (b3 + b4 + b5 + b6)) + ((b4 + b5 + b6 + b7) + 256 * (b5 + b6 + b7) + 65536 * (b6 + b7) + 16777216 * b7)
      = 128 * (33554432 * ((b4 + b5 + b6 + b7) + 256 * (b5 + b6 + b7) + 65536 * (b6 + b7) + 16777216 * b7) + 2 * (b1 + b2 + b3 + b4) + 512 * (b2 + b3 + b4 + b5) + 131072 * (b3 + b4 + b5 + b6) + 2 * (b5 + b6 + b7) + 512 * (b6 + b7) + 131072 * b7) + (b0 + b1 + b2 + b3 + b4 + b5 + b6 + b7) := by omega
  rw [e3, d4 _ _ (by omega)]
  exact ⟨rfl, by omega⟩
end Go.Proofs.YtdcbejccplonjaaDoor
