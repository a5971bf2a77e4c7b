/- The reader of numbers at well-formed bytes (num.Reader), in the numbers of the seat of Redact. -/
import Derived.Test.YtjeclmmikjpinaaDoorQ2
namespace Go.Proofs.YtjeclmmikjpinaaDoor
open Go.RowKit
attribute [local go_sem ↓] Go.wp_at_zero Go.wp_at_succ
theorem uintAt_put : ∀ (k v i a : Nat) (rest : List UInt8), (putU v).length ≤ k → i + k ≤ 9 → (0 < i → 0 < v) → uintAt i a (putU v ++ rest) = some (a + v * 128 ^ i, i + (putU v).length)
  | 0, v, _, _, _, h, _, _ => by
    rw [putU] at h
    split at h <;> simp at h
  | k + 1, v, i, a, rest, h, hk, hv => by
    by_cases hlt : v < 128
    · have hn : (UInt8.ofNat v).toNat = v := by simp; omega
      rw [putU_small hlt, List.singleton_append, uintAt, if_neg (by omega), hn, if_pos hlt, if_neg (by omega)]
      rw [Nat.mod_eq_of_lt hlt]
      rfl
    · have hn : (UInt8.ofNat (v % 128 + 128)).toNat = v % 128 + 128 := by simp; omega
      rw [putU_large hlt, List.length_cons] at h
      rw [putU_large hlt, List.cons_append, uintAt, if_neg (by omega), hn, if_neg (by omega)]
      rw [uintAt_put k (v / 128) (i + 1) _ rest (by omega) (by omega) (fun _ => by omega)]
      have h1 : (v % 128 + 128) % 128 = v % 128 := by omega
      have h2 : a + v % 128 * 128 ^ i + v / 128 * 128 ^ (i + 1) = a + v * 128 ^ i := by
        rw [Nat.pow_succ, Nat.mul_comm (128 ^ i) 128, ← Nat.mul_assoc, Nat.add_assoc, ← Nat.add_mul]
        congr 2
        omega
      rw [h1, h2, List.length_cons, Nat.add_assoc, Nat.add_comm 1]
theorem putU_len {v : Nat} : ∀ {k : Nat}, v < 128 ^ (k + 1) → (putU v).length ≤ k + 1
  | 0, h => by rw [putU_small (by omega)]; simp
  | k + 1, h => by
    by_cases hlt : v < 128
    · rw [putU_small hlt]; simp
    · rw [putU_large hlt, List.length_cons]
      have := putU_len (v := v / 128) (k := k) (by rw [Nat.pow_succ] at h; omega)
      omega
theorem uintF_put {v : Nat} (h : v < 128 ^ 8) (rest : List UInt8) : uintF (putU v ++ rest) = some (v, (putU v).length) := by
  unfold uintF
  rw [uintAt_put 8 v 0 0 rest (putU_len (k := 7) h) (by omega) (by omega)]
  simp
/-- A reader in block b with these bytes before it (in a block that meets N), and no error. -/
def Rd (w : World) (N : Nat → Prop) (b : Nat) (xs : List UInt8) : Prop := ∃ A c, w.cell? ⟨b, 0, none⟩ = some (.slice A xs.length c) ∧ w.cell? ⟨b, 1, none⟩ = some (.int .i64 0) ∧ (∀ i, w.frozen? ⟨b, i, none⟩ = false) ∧ BytesAt w A xs ∧ xs.length ≤ c ∧ c ≤ maxLen ∧ (∀ ad, A = some ad → ad.block ≠ b ∧ N ad.block)
def RetRd (N : Nat → Prop) (b : Nat) (v : Value) (xs : List UInt8) (w : World) (e : Ending) (w' : World) : Prop := e = .returned v ∧ Rd w' N b xs ∧ ∃ u, w' = w.setCell ⟨b, 0, none⟩ u
theorem BytesAt.set {w : World} {A : Option Addr} {xs : List UInt8} (h : BytesAt w A xs) {b : Nat} (hb : ∀ ad, A = some ad → ad.block ≠ b) (o : Nat) (u : Value) : BytesAt (w.setCell ⟨b, o, none⟩ u) A xs := fun h0 => by
  obtain ⟨ad, e, h1, h2⟩ := h h0
  refine ⟨ad, e, by simpa using h1, fun j y hj => ?_⟩
  have hne : (ad.add j).block ≠ b := by rw [block_of_add]; exact hb ad e
  rw [← h2 j y hj]
  unfold World.cell?
  rw [Below.heap_setCell _ _ _ _ hne]
theorem Rd.cut {w : World} {N : Nat → Prop} {b n c : Nat} {A : Option Addr} {xs : List UInt8} (h0 : w.cell? ⟨b, 0, none⟩ = some (.slice A xs.length c)) (h1 : w.cell? ⟨b, 1, none⟩ = some (.int .i64 0)) (hf : ∀ i, w.frozen? ⟨b, i, none⟩ = false) (hb : BytesAt w A xs) (hc : xs.length ≤ c) (hm : c ≤ maxLen) (hne : ∀ ad, A = some ad → ad.block ≠ b ∧ N ad.block) (hn : n ≤ xs.length) :
    Rd (w.setCell ⟨b, 0, none⟩ (.slice (if c = n then A else A.map (·.add n)) (xs.length - n) (c - n))) N b (xs.drop n) := by
  have hne' : ∀ ad, (if c = n then A else A.map (·.add n)) = some ad → ad.block ≠ b ∧ N ad.block := by
    intro ad e
    split at e
    · exact hne ad e
    · cases A with
      | none => cases e
      | some x =>
        simp only [Option.map_some, Option.some.injEq] at e
        rw [← e, block_of_add]
        exact hne x rfl
  refine ⟨_, c - n, ?_, ?_, fun i => ?_, (hb.cut hc).set (fun ad e => (hne' ad e).1) 0 _, by rw [List.length_drop]; omega, by omega, hne'⟩
  · rw [World.cell?_setCell_same _ _ _ h0, List.length_drop]
  · rw [← h1]
    go_simp
  · rw [World.frozen?_setCell]
    exact hf i
theorem Rd.len {w : World} {N : Nat → Prop} {b : Nat} {xs : List UInt8} (h : Rd w N b xs) : xs.length ≤ 9223372036854775807 := by
  obtain ⟨A, c, -, -, -, -, hc, hm, -⟩ := h
  unfold maxLen at hm
  omega
end Go.Proofs.YtjeclmmikjpinaaDoor
