/- The reader of numbers at well-formed bytes (num.Reader), in the numbers of the seat of Redact. -/
import Derived.Test.YtjedhndhdkiidaaDoorQ2
namespace Go.Proofs.YtjedhndhdkiidaaDoor
open Go.RowKit
attribute [local go_sem ↓] Go.wp_at_zero Go.wp_at_succ
theorem uintAt_put : ∀ (k v i a : Nat) (rest : List UInt8), (putU v).length ≤ k → i + k ≤ 9 → (0 < i → 0 < v) → uintAt i a (putU v ++ rest) = some (a + v * 128 ^ i, i + (putU v).length)
  | 0, v, _, _, _, h, _, _ => by
    rw [putU] at h
    split at h <;> simp at h
  | k + 1, v, i, a, rest, h, hk, hv => by
    by_cases hlt : v < 128
    · have hn : (UInt8.ofNat v).toNat = v := by simp; omega
      rw [putU_small hlt, List.singleton_append, uintAt, if_neg (by omega), hn, if_pos hlt, if_neg (by omega)]
      rw [Nat.mod_eq_of_lt hlt]
      rfl
    · have hn : (UInt8.ofNat (v % 128 + 128)).toNat = v % 128 + 128 := by simp; omega
      rw [putU_large hlt, List.length_cons] at h
      rw [putU_large hlt, List.cons_append, uintAt, if_neg (by omega), hn, if_neg (by omega)]
      rw [uintAt_put k (v / 128) (i + 1) _ rest (by omega) (by omega) (fun _ => by omega)]
      have h1 : (v % 128 + 128) % 128 = v % 128 := by omega
      have h2 : a + v % 128 * 128 ^ i + v / 128 * 128 ^ (i + 1) = a + v * 128 ^ i := by
        rw [Nat.pow_succ, Nat.mul_comm (128 ^ i) 128, ← Nat.mul_assoc, Nat.add_assoc, ← Nat.add_mul]
        congr 2
        omega
      rw [h1, h2, List.length_cons, Nat.add_assoc, Nat.add_comm 1]
theorem putU_len {v : Nat} : ∀ {k : Nat}, v < 128 ^ (k + 1) → (putU v).length ≤ k + 1
  | 0, h => by rw [putU_small (by omega)]; simp
  | k + 1, h => by
    by_cases hlt : v < 128
    · rw [putU_small hlt]; simp
    · rw [putU_large hlt, List.length_cons]
      have := putU_len (v := v / 128) (k := k) (by rw [Nat.pow_succ] at h; omega)
      omega
theorem uintF_put {v : Nat} (h : v < 128 ^ 8) (rest : List UInt8) : uintF (putU v ++ rest) = some (v, (putU v).length) := by
  unfold uintF
  rw [uintAt_put 8 v 0 0 rest (putU_len (k := 7) h) (by omega) (by omega)]
  simp
/-- A reader in block b with these bytes before it (in a block that meets N), and no error. -/
def Rd (w : World) (N : Nat → Prop) (b : Nat) (xs : List UInt8) : Prop := ∃ A c, w.cell? ⟨b, 0, none⟩ = some (.slice A xs.length c) ∧ w.cell? ⟨b, 1, none⟩ = some (.int .i64 0) ∧ (∀ i, w.frozen? ⟨b, i, none⟩ = false) ∧ BytesAt w A xs ∧ xs.length ≤ c ∧ c ≤ maxLen ∧ (∀ ad, A = some ad → ad.block ≠ b ∧ N ad.block)
def RetRd (N : Nat → Prop) (b : Nat) (v : Value) (xs : List UInt8) (w : World) (e : Ending) (w' : World) : Prop := e = .returned v ∧ Rd w' N b xs ∧ ∃ u, w' = w.setCell ⟨b, 0, none⟩ u
theorem open67_ok (N : Nat → Prop) (b : Nat) (xs : List UInt8) (w : World) (h : Rd w N b xs) : Calls Tryd.prog 67 #[.pointer (some ⟨b, 0, none⟩)] w fun e w' => e = .returned (.bool true) ∧ w = w' := by
  obtain ⟨A, c, h0, h1, -⟩ := h
  go_enter Tryd.func67, Tryd.ntmps67
  go_wp2_with fail
  go_ret
  exact ⟨rfl, rfl⟩
theorem BytesAt.set {w : World} {A : Option Addr} {xs : List UInt8} (h : BytesAt w A xs) {b : Nat} (hb : ∀ ad, A = some ad → ad.block ≠ b) (o : Nat) (u : Value) : BytesAt (w.setCell ⟨b, o, none⟩ u) A xs := fun h0 => by
  obtain ⟨ad, e, h1, h2⟩ := h h0
  refine ⟨ad, e, by simpa using h1, fun j y hj => ?_⟩
  have hne : (ad.add j).block ≠ b := by rw [block_of_add]; exact hb ad e
  rw [← h2 j y hj]
  unfold World.cell?
  rw [Below.heap_setCell _ _ _ _ hne]
theorem Rd.cut {w : World} {N : Nat → Prop} {b n c : Nat} {A : Option Addr} {xs : List UInt8} (h0 : w.cell? ⟨b, 0, none⟩ = some (.slice A xs.length c)) (h1 : w.cell? ⟨b, 1, none⟩ = some (.int .i64 0)) (hf : ∀ i, w.frozen? ⟨b, i, none⟩ = false) (hb : BytesAt w A xs) (hc : xs.length ≤ c) (hm : c ≤ maxLen) (hne : ∀ ad, A = some ad → ad.block ≠ b ∧ N ad.block) (hn : n ≤ xs.length) :
    Rd (w.setCell ⟨b, 0, none⟩ (.slice (if c = n then A else A.map (·.add n)) (xs.length - n) (c - n))) N b (xs.drop n) := by
  have hne' : ∀ ad, (if c = n then A else A.map (·.add n)) = some ad → ad.block ≠ b ∧ N ad.block := by
    intro ad e
    split at e
    · exact hne ad e
    · cases A with
      | none => cases e
      | some x =>
        simp only [Option.map_some, Option.some.injEq] at e
        rw [← e, block_of_add]
        exact hne x rfl
  refine ⟨_, c - n, ?_, ?_, fun i => ?_, (hb.cut hc).set (fun ad e => (hne' ad e).1) 0 _, by rw [List.length_drop]; omega, by omega, hne'⟩
  · rw [World.cell?_setCell_same _ _ _ h0, List.length_drop]
  · rw [← h1]
    go_simp
  · rw [World.frozen?_setCell]
    exact hf i
theorem take69_ok (N : Nat → Prop) (b n : Nat) (xs : List UInt8) (w : World) (h : Rd w N b xs) (hn : n ≤ xs.length) : Calls Tryd.prog 69 #[.pointer (some ⟨b, 0, none⟩), .int .i64 (n : Int), .int .i64 0] w (RetRd N b (.bool true) (xs.drop n) w) := by
  obtain ⟨A, c, h0, h1, hf, hb, hc, hm, hne⟩ := h
  have n0 : (0 : Int) ≤ (n : Int) := by omega
  have n1 : (n : Int) ≤ (xs.length : Int) := by omega
  have n2 : (n : Int) ≤ (c : Int) := by omega
  have HC := Lib.hid (Rd.cut h0 h1 hf hb hc hm hne hn)
  clear hb hne hm
  go_enter Tryd.func69, Tryd.ntmps69
  go_wp2_with fail
  · have hcut := HC.out
    rw [if_pos h, h, Nat.sub_self] at hcut
    go_ret
    exact ⟨rfl, hcut, _, rfl⟩
  · have hcut := HC.out
    rw [if_neg h] at hcut
    go_ret
    exact ⟨rfl, hcut, _, rfl⟩
theorem Rd.len {w : World} {N : Nat → Prop} {b : Nat} {xs : List UInt8} (h : Rd w N b xs) : xs.length ≤ 9223372036854775807 := by
  obtain ⟨A, c, -, -, -, -, hc, hm, -⟩ := h
  unfold maxLen at hm
  omega
set_option maxRecDepth 100000 in
set_option maxHeartbeats 2000000 in
theorem ruint47_of (N : Nat → Prop) (b v n most : Nat) (xs rest : List UInt8) (w : World) (h : Rd w N b xs) (hu : uintF xs = some (v, n)) (hd : xs.drop n = rest) (hn : n ≤ xs.length) (hm : v ≤ most) : Calls Tryd.prog 47 #[.pointer (some ⟨b, 0, none⟩), .int .u64 (most : Int)] w (RetRd N b (.int .u64 (v : Int)) rest w) := by
  have HO := Lib.hid (open67_ok N b _ w h)
  have HT := take69_ok N b n _ w h hn
  rw [hd] at HT
  have HTK := Lib.hid HT
  have hlen := h.len
  obtain ⟨A, c, h0, h1, hf, hb, -⟩ := h
  have HU := uint_any _ A c w hb hlen
  rw [hu] at HU
  have HUI := Lib.hid HU
  have hgt : ¬ ((most : Int) < (v : Int)) := by omega
  clear hb HU HT hu hd hn hm hlen
  go_enter Tryd.func47, Tryd.ntmps47
  go_wp2_with fail
  refine HO.out.mono ?_
  rintro e1 w1 ⟨rfl, rfl⟩
  go_wp2_with fail
  refine HUI.out.mono ?_
  rintro e2 w2 ⟨rfl, rfl⟩
  go_wp2_with fail
  refine HTK.out.mono ?_
  rintro e3 w3 ⟨rfl, hR, hu⟩
  have HF := Lib.hid (And.intro hR hu)
  clear hR hu
  go_wp2_with fail
  go_ret
  exact ⟨rfl, HF.out.1, HF.out.2⟩
/-- (*Reader).Uint at a number's encoding. -/
theorem ruint47_ok (N : Nat → Prop) (b v most : Nat) (rest : List UInt8) (w : World) (h : Rd w N b (putU v ++ rest)) (hv : v < 128 ^ 8) (hm : v ≤ most) : Calls Tryd.prog 47 #[.pointer (some ⟨b, 0, none⟩), .int .u64 (most : Int)] w (RetRd N b (.int .u64 (v : Int)) rest w) :=
  ruint47_of N b v (putU v).length most _ rest w h (uintF_put hv rest) List.drop_left (by rw [List.length_append]; omega) hm
set_option maxRecDepth 100000 in
/-- (*Reader).Byte where there is one. -/
theorem rbyte50_ok (N : Nat → Prop) (b : Nat) (x : UInt8) (rest : List UInt8) (w : World) (h : Rd w N b (x :: rest)) : Calls Tryd.prog 50 #[.pointer (some ⟨b, 0, none⟩)] w (RetRd N b (.int .u8 (x.toNat : Int)) rest w) := by
  have HO := Lib.hid (open67_ok N b _ w h)
  obtain ⟨A, c, h0, h1, hf, hb, hc, hm, hne⟩ := h
  have HC := Lib.hid (Rd.cut (n := 1) h0 h1 hf hb hc hm hne (by simp))
  obtain ⟨ad, rfl, hab, hcell⟩ := hb (by simp)
  have d0 := hcell 0 x rfl
  have d1 : w.cell? ad = some (.int .u8 (x.toNat : Int)) := by
    have e : ad.add 0 = ad := by unfold Addr.add; simp
    rw [e] at d0
    exact d0
  obtain ⟨m, hm1⟩ : ∃ m, (x :: rest).length = m := ⟨_, rfl⟩
  rw [hm1] at h0 hc HC
  rw [List.length_cons] at hm1
  have n0 : (0 : Int) < (m : Int) := by omega
  have n1 : (1 : Int) ≤ (m : Int) := by omega
  have n2 : (1 : Int) ≤ (c : Int) := by omega
  have n3 : ((m : Int) == 0) = false := by simp; omega
  clear hne hm hcell
  go_enter Tryd.func50, Tryd.ntmps50
  go_wp2_with fail
  refine HO.out.mono ?_
  rintro e1 w1 ⟨rfl, rfl⟩
  go_wp2_with fail
  · have hcut := HC.out
    rw [if_pos h, h, Nat.sub_self] at hcut
    go_ret
    exact ⟨rfl, hcut, _, rfl⟩
  · have hcut := HC.out
    rw [if_neg h] at hcut
    go_ret
    exact ⟨rfl, by simpa [Addr.add] using hcut, _, rfl⟩
end Go.Proofs.YtjedhndhdkiidaaDoor
