/- Numbers as bytes; the reader of numbers (num.Uint), in the numbers of the seat of Redact. -/
import Derived.Test.YtjeclmmikjpinaaDoorR0
import Derived.Outline
namespace Go.Proofs.YtjeclmmikjpinaaDoor
open Go.RowKit
/-- A number in groups of seven bits. -/
def putU (v : Nat) : List UInt8 := if v < 128 then [UInt8.ofNat v] else UInt8.ofNat (v % 128 + 128) :: putU (v / 128)
termination_by v
decreasing_by omega
theorem putU_small {v : Nat} (h : v < 128) : putU v = [UInt8.ofNat v] := by rw [putU, if_pos h]
theorem putU_large {v : Nat} (h : ¬ v < 128) : putU v = UInt8.ofNat (v % 128 + 128) :: putU (v / 128) := by rw [putU, if_neg h]
/-- The reader of numbers, at place i, with what was read so far. -/
def uintAt (i v : Nat) : List UInt8 → Option (Nat × Nat)
  | [] => none
  | b :: p => if i = 9 ∧ 1 < b.toNat then none else
      if b.toNat < 128 then (if b.toNat = 0 ∧ 0 < i then none else some (v + b.toNat % 128 * 128 ^ i, i + 1)) else uintAt (i + 1) (v + b.toNat % 128 * 128 ^ i) p
def uintF (p : List UInt8) : Option (Nat × Nat) := uintAt 0 0 p
theorem ofNat_toNat (b : UInt8) : UInt8.ofNat b.toNat = b := by simp
/-- What the reader of numbers accepts. -/
theorem uintAt_facts : ∀ (p : List UInt8) (i v r n : Nat), uintAt i v p = some (r, n) → ∃ x k, r = v + x * 128 ^ i ∧ n = i + k ∧ 1 ≤ k ∧ k ≤ p.length ∧ p.take k = putU x ∧ (0 < i → 0 < x)
  | [], i, v, r, n, h => by simp [uintAt] at h
  | b :: p, i, v, r, n, h => by
    have hb := b.toNat_lt
    rw [uintAt] at h
    split at h
    · cases h
    · split at h
      · rename_i hlt
        split at h
        · cases h
        · rename_i hz
          simp only [Option.some.injEq, Prod.mk.injEq] at h
          refine ⟨b.toNat, 1, ?_, h.2.symm, Nat.le_refl _, by simp, ?_, fun hi => ?_⟩
          · rw [← h.1, Nat.mod_eq_of_lt hlt]
          · rw [putU_small hlt, ofNat_toNat]; rfl
          · omega
      · rename_i hge
        obtain ⟨x, k, e1, e2, e3, e4, e5, e6⟩ := uintAt_facts p (i + 1) _ r n h
        have hx := e6 (by omega)
        refine ⟨b.toNat % 128 + 128 * x, k + 1, ?_, by omega, by omega, by simp; omega, ?_, fun _ => by omega⟩
        · rw [e1, Nat.pow_succ, Nat.add_mul, Nat.add_assoc, Nat.mul_assoc 128 x, Nat.mul_comm 128 (x * 128 ^ i), ← Nat.mul_assoc]
        · rw [putU_large (by omega), List.take_succ_cons, e5]
          congr 1
          · rw [Nat.add_mul_mod_self_left, Nat.mod_mod, show b.toNat % 128 + 128 = b.toNat by omega, ofNat_toNat]
          · congr 1; omega
theorem uintF_facts {p : List UInt8} {r n : Nat} (h : uintF p = some (r, n)) : 1 ≤ n ∧ n ≤ p.length ∧ p.take n = putU r := by
  obtain ⟨x, k, e1, e2, e3, e4, e5, _⟩ := uintAt_facts p 0 0 r n h
  simp only [Nat.pow_zero, Nat.mul_one, Nat.zero_add] at e1 e2
  subst e1 e2
  exact ⟨e3, e4, e5⟩
attribute [local go_sem ↓] Go.wp_at_zero Go.wp_at_succ
/-- Bytes that lie in memory, nil let in. -/
def BytesAt (w : World) (A : Option Addr) (xs : List UInt8) : Prop := 0 < xs.length → ∃ ad : Addr, A = some ad ∧ ad.block < w.heap.size ∧ ∀ j b, xs[j]? = some b → w.cell? (ad.add j) = some (.int .u8 ((b.toNat : Nat) : Int))
theorem block_of_add (a : Addr) (n : Nat) : (a.add n).block = a.block := by unfold Addr.add; split <;> rfl
theorem add_of_add (a : Addr) (i j : Nat) : (a.add i).add j = a.add (i + j) := by
  unfold Addr.add
  by_cases hi : i = 0 <;> by_cases hj : j = 0 <;> simp [hi, hj, Nat.add_assoc]
theorem BytesAt.ext {w w' : World} {A : Option Addr} {xs : List UInt8} (h : BytesAt w A xs) (k : Ext w w') : BytesAt w' A xs := fun h0 => by
  obtain ⟨ad, e, hb, hc⟩ := h h0
  exact ⟨ad, e, k.lt _ hb, fun j b hj => k.cell (hc j b hj)⟩
theorem BytesAt.cut {w : World} {A : Option Addr} {xs : List UInt8} (h : BytesAt w A xs) {k c : Nat} (hc : xs.length ≤ c) : BytesAt w (if c = k then A else A.map (·.add k)) (xs.drop k) := fun h0 => by
  rw [List.length_drop] at h0
  obtain ⟨ad, rfl, hb, hcell⟩ := h (by omega)
  rw [if_neg (by omega)]
  refine ⟨ad.add k, rfl, by rw [block_of_add]; exact hb, fun j b hj => ?_⟩
  rw [add_of_add]
  exact hcell _ b (by rw [← hj, List.getElem?_drop])
def RetU (r : Option (Nat × Nat)) (w : World) (e : Ending) (w' : World) : Prop := match r with
  | none => e = .returned (.tuple #[.int .u64 0, .int .i64 0, .int .i64 6]) ∧ w = w'
  | some (v, n) => e = .returned (.tuple #[.int .u64 v, .int .i64 n, .int .i64 0]) ∧ w = w'
theorem pow128 (k : Nat) : 128 ^ k = 2 ^ (7 * k) := by rw [Nat.pow_mul]
theorem uval (m n k : Nat) (hk : k ≤ 9) (hm : m < 128 ^ k) (hn : n < 256) (h9 : k = 9 → n ≤ 1) :
    bits .or .u64 (m : Int) (IntKind.u64.wrap (IntKind.u64.wrap (bits .and .u8 (n : Int) 127) * 2 ^ (7 * k))) = ((m + n % 128 * 128 ^ k : Nat) : Int) := by
  have e1 : bits .and .u8 (n : Int) 127 = ((n % 128 : Nat) : Int) := by
    have := u8_and_nat n 127 hn (by decide)
    rw [show ((127 : Nat) : Int) = 127 from rfl] at this
    rw [this, show (127 : Nat) = 2 ^ 7 - 1 from rfl, Nat.and_two_pow_sub_one_eq_mod]
  have hp : n % 128 * 128 ^ k < 18446744073709551616 := by
    by_cases h : k = 9
    · have := h9 h
      subst h
      have : n % 128 ≤ 1 := by omega
      have : n % 128 * 128 ^ 9 ≤ 1 * 128 ^ 9 := Nat.mul_le_mul_right _ this
      omega
    · have h8 : 128 ^ k ≤ 128 ^ 8 := Nat.pow_le_pow_right (by omega) (by omega)
      have h1 : n % 128 * 128 ^ k ≤ 127 * 128 ^ 8 := Nat.mul_le_mul (by omega) h8
      omega
  have hm64 : m < 18446744073709551616 := by
    have : 128 ^ k ≤ 128 ^ 9 := Nat.pow_le_pow_right (by omega) hk
    omega
  rw [e1, show IntKind.u64.wrap ((n % 128 : Nat) : Int) = ((n % 128 : Nat) : Int) by rw [IntKind.wrap_u64]; omega,
    show ((n % 128 : Nat) : Int) * 2 ^ (7 * k) = ((n % 128 * 128 ^ k : Nat) : Int) by rw [pow128]; simp, IntKind.wrap_u64, show ((n % 128 * 128 ^ k : Nat) : Int) % 18446744073709551616 = ((n % 128 * 128 ^ k : Nat) : Int) by omega,
    u64_or_nat _ _ hm64 hp]
  congr 1
  rw [pow128] at hm ⊢
  have := Nat.two_pow_add_eq_or_of_lt hm (n % 128)
  rw [Nat.or_comm, Nat.mul_comm, ← this, Nat.add_comm]
theorem uval_lt (m n k : Nat) (hm : m < 128 ^ k) : m + n % 128 * 128 ^ k < 128 ^ (k + 1) := by
  have h1 : n % 128 * 128 ^ k ≤ 127 * 128 ^ k := Nat.mul_le_mul_right _ (by omega)
  rw [Nat.pow_succ]
  omega
theorem ret_u {a b : Nat} {x : Int} (h : x = (a : Int)) (n : Int) (hn : n = (b : Int)) : Ending.returned (.tuple #[.int .u64 x, .int .i64 n, .int .i64 0]) = .returned (.tuple #[.int .u64 (a : Int), .int .i64 (b : Int), .int .i64 0]) := by rw [h, hn]
theorem retU_none {xs : List UInt8} {w : World} {e : Ending} (h : uintF xs = none) (he : e = .returned (.tuple #[.int .u64 0, .int .i64 0, .int .i64 6])) : RetU (uintF xs) w e w := by rw [h]; exact ⟨he, rfl⟩
theorem retU_some {xs : List UInt8} {w : World} {e : Ending} {v n : Nat} (h : uintF xs = some (v, n)) (he : e = .returned (.tuple #[.int .u64 v, .int .i64 n, .int .i64 0])) : RetU (uintF xs) w e w := by rw [h]; exact ⟨he, rfl⟩
end Go.Proofs.YtjeclmmikjpinaaDoor
