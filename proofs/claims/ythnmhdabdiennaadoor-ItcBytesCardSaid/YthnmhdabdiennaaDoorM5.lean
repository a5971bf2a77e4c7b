/- Encodings of numbers, identities and event trees, and their readers, in plain terms. No program in sight. -/
import Derived.Test.YthnmhdabdiennaaDoorM3
namespace Go.Proofs.YthnmhdabdiennaaDoor
/-- A number in groups of seven bits. -/
def putU (v : Nat) : List UInt8 := if v < 128 then [UInt8.ofNat v] else UInt8.ofNat (v % 128 + 128) :: putU (v / 128)
termination_by v
decreasing_by omega
theorem putU_small {v : Nat} (h : v < 128) : putU v = [UInt8.ofNat v] := by rw [putU, if_pos h]
theorem putU_large {v : Nat} (h : ¬ v < 128) : putU v = UInt8.ofNat (v % 128 + 128) :: putU (v / 128) := by rw [putU, if_neg h]
/-- The reader of numbers, at place i, with what was read so far. -/
def uintAt (i v : Nat) : List UInt8 → Option (Nat × Nat)
  | [] => none
  | b :: p => if i = 9 ∧ 1 < b.toNat then none else
      if b.toNat < 128 then (if b.toNat = 0 ∧ 0 < i then none else some (v + b.toNat % 128 * 128 ^ i, i + 1)) else uintAt (i + 1) (v + b.toNat % 128 * 128 ^ i) p
def uintF (p : List UInt8) : Option (Nat × Nat) := uintAt 0 0 p
theorem ofNat_toNat (b : UInt8) : UInt8.ofNat b.toNat = b := by simp
/-- What the reader of numbers accepts. -/
theorem uintAt_facts : ∀ (p : List UInt8) (i v r n : Nat), uintAt i v p = some (r, n) → ∃ x k, r = v + x * 128 ^ i ∧ n = i + k ∧ 1 ≤ k ∧ k ≤ p.length ∧ p.take k = putU x ∧ (0 < i → 0 < x)
  | [], i, v, r, n, h => by simp [uintAt] at h
  | b :: p, i, v, r, n, h => by
    have hb := b.toNat_lt
    rw [uintAt] at h
    split at h
    · cases h
    · split at h
      · rename_i hlt
        split at h
        · cases h
        · rename_i hz
          simp only [Option.some.injEq, Prod.mk.injEq] at h
          refine ⟨b.toNat, 1, ?_, h.2.symm, Nat.le_refl _, by simp, ?_, fun hi => ?_⟩
          · rw [← h.1, Nat.mod_eq_of_lt hlt]
          · rw [putU_small hlt, ofNat_toNat]; rfl
          · omega
      · rename_i hge
        obtain ⟨x, k, e1, e2, e3, e4, e5, e6⟩ := uintAt_facts p (i + 1) _ r n h
        have hx := e6 (by omega)
        refine ⟨b.toNat % 128 + 128 * x, k + 1, ?_, by omega, by omega, by simp; omega, ?_, fun _ => by omega⟩
        · rw [e1, Nat.pow_succ, Nat.add_mul, Nat.add_assoc, Nat.mul_assoc 128 x, Nat.mul_comm 128 (x * 128 ^ i), ← Nat.mul_assoc]
        · rw [putU_large (by omega), List.take_succ_cons, e5]
          congr 1
          · rw [Nat.add_mul_mod_self_left, Nat.mod_mod, show b.toNat % 128 + 128 = b.toNat by omega, ofNat_toNat]
          · congr 1; omega
theorem uintF_facts {p : List UInt8} {r n : Nat} (h : uintF p = some (r, n)) : 1 ≤ n ∧ n ≤ p.length ∧ p.take n = putU r := by
  obtain ⟨x, k, e1, e2, e3, e4, e5, _⟩ := uintAt_facts p 0 0 r n h
  simp only [Nat.pow_zero, Nat.mul_one, Nat.zero_add] at e1 e2
  subst e1 e2
  exact ⟨e3, e4, e5⟩
/-- The encoding of an identity. -/
def idBytes : IdT → List UInt8
  | .zero => [0]
  | .node l r => if IdT.isOne (.node l r) then [1] else 2 :: (idBytes l ++ idBytes r)
/-- The reader of identities, d levels deep at most. -/
def rdId : Nat → List UInt8 → Option (IdT × Nat)
  | _, [] => none
  | 0, b :: _ => if b.toNat = 0 then some (.zero, 1) else if b.toNat = 1 then some (.one, 1) else none
  | d + 1, b :: p => if b.toNat = 0 then some (.zero, 1) else if b.toNat = 1 then some (.one, 1) else if 2 < b.toNat then none else
      match rdId d p with
      | none => none
      | some (l, n) => match rdId d (p.drop n) with
        | none => none
        | some (r, m) => if (l.isZero && r.isZero) || (l.isOne && r.isOne) then none else some (.node l r, 1 + n + m)
/-- An identity in normal form. -/
def idnf : IdT → Prop
  | .zero => True
  | .node l r => IdT.isOne (.node l r) = true ∨ (idnf l ∧ idnf r ∧ (l.isOne && r.isOne) = false)
theorem idBytes_one : idBytes .one = [1] := rfl
theorem u8_of (b : UInt8) (n : Nat) (h : b.toNat = n) : b = UInt8.ofNat n := by rw [← h, ofNat_toNat]
theorem rdId_facts : ∀ (d : Nat) (p : List UInt8) (i : IdT) (n : Nat), rdId d p = some (i, n) → 1 ≤ n ∧ n ≤ p.length ∧ idBytes i = p.take n ∧ i.depth ≤ d ∧ idnf i
  | 0, [], i, n, h => by simp [rdId] at h
  | d + 1, [], i, n, h => by simp [rdId] at h
  | 0, b :: p, i, n, h => by
    rw [rdId] at h
    split at h
    · rename_i e
      simp only [Option.some.injEq, Prod.mk.injEq] at h
      obtain ⟨rfl, rfl⟩ := h
      rw [u8_of b 0 e]
      exact ⟨Nat.le_refl _, by simp, rfl, by simp [IdT.depth], trivial⟩
    · split at h
      · rename_i e
        simp only [Option.some.injEq, Prod.mk.injEq] at h
        obtain ⟨rfl, rfl⟩ := h
        rw [u8_of b 1 e]
        exact ⟨Nat.le_refl _, by simp, rfl, by decide, .inl rfl⟩
      · cases h
  | d + 1, b :: p, i, n, h => by
    rw [rdId] at h
    split at h
    · rename_i e
      simp only [Option.some.injEq, Prod.mk.injEq] at h
      obtain ⟨rfl, rfl⟩ := h
      rw [u8_of b 0 e]
      exact ⟨Nat.le_refl _, by simp, rfl, by simp [IdT.depth], trivial⟩
    · rename_i hb0
      split at h
      · rename_i e
        simp only [Option.some.injEq, Prod.mk.injEq] at h
        obtain ⟨rfl, rfl⟩ := h
        rw [u8_of b 1 e]
        exact ⟨Nat.le_refl _, by simp, rfl, by simp [IdT.one, IdT.depth, IdT.isOne], .inl rfl⟩
      · rename_i hb1
        split at h
        · cases h
        · rename_i hb2
          split at h
          · cases h
          · rename_i l k hl
            split at h
            · cases h
            · rename_i r m hr
              split at h
              · cases h
              · rename_i hc
                simp only [Option.some.injEq, Prod.mk.injEq] at h
                obtain ⟨rfl, rfl⟩ := h
                obtain ⟨a1, a2, a3, a4, a5⟩ := rdId_facts d p l k hl
                obtain ⟨b1, b2, b3, b4, b5⟩ := rdId_facts d (p.drop k) r m hr
                rw [List.length_drop] at b2
                simp only [Bool.or_eq_true, not_or, Bool.not_eq_true] at hc
                have h1 : IdT.isOne (.node l r) = false := one_not_both (by rw [hc.1]; decide)
                refine ⟨by omega, by simp; omega, ?_, ?_, .inr ⟨a5, b5, hc.2⟩⟩
                · rw [idBytes, h1, show 1 + k + m = (k + m) + 1 by omega, List.take_succ_cons, List.take_add, ← a3, ← b3, u8_of b 2 (by omega)]
                  rfl
                · rw [depth_node h1]; omega
/-- The encoding of an event tree. -/
def evBytes : EvT → List UInt8
  | .leaf n => 0 :: putU n
  | .node n l r => 1 :: (putU n ++ (evBytes l ++ evBytes r))
/-- The greatest number of an event tree. -/
def mostN : Nat := 4611686018427387904
def evBad (l r : EvT) : Bool := (!(l.n == 0) && !(r.n == 0)) || (l.isLeaf && r.isLeaf && l.n == r.n)
/-- The reader of event trees, d levels deep at most. -/
def rdEv : Nat → List UInt8 → Option (EvT × Nat)
  | _, [] => none
  | 0, b :: p => if 0 < b.toNat then none else match uintF p with
      | none => none
      | some (v, n) => if mostN < v then none else some (.leaf v, n + 1)
  | d + 1, b :: p => if 1 < b.toNat then none else match uintF p with
      | none => none
      | some (v, n) => if mostN < v then none else if b.toNat = 0 then some (.leaf v, n + 1) else
        match rdEv d (p.drop n) with
        | none => none
        | some (l, m) => match rdEv d (p.drop (n + m)) with
          | none => none
          | some (r, k) => if evBad l r then none else some (.node v l r, n + 1 + m + k)
theorem rdEv_facts : ∀ (d : Nat) (p : List UInt8) (t : EvT) (n : Nat), rdEv d p = some (t, n) → 1 ≤ n ∧ n ≤ p.length ∧ evBytes t = p.take n ∧ t.depth ≤ d ∧ nf t ∧ t.fits = true ∧ t.top ≤ (d + 1) * mostN
  | 0, [], t, n, h => by simp [rdEv] at h
  | d + 1, [], t, n, h => by simp [rdEv] at h
  | 0, b :: p, t, n, h => by
    rw [rdEv] at h
    split at h
    · cases h
    · rename_i hb
      split at h
      · cases h
      · rename_i v k hu
        split at h
        · cases h
        · rename_i hv
          obtain ⟨u1, u2, u3⟩ := uintF_facts hu
          simp only [Option.some.injEq, Prod.mk.injEq] at h
          obtain ⟨rfl, rfl⟩ := h
          refine ⟨by omega, by simp; omega, ?_, Nat.le_refl _, trivial, ?_, ?_⟩
          · rw [evBytes, List.take_succ_cons, u3, u8_of b 0 (by omega)]; rfl
          · simp only [EvT.fits, decide_eq_true_eq]; unfold mostN at hv; omega
          · simp only [EvT.top]; omega
  | d + 1, b :: p, t, n, h => by
    rw [rdEv] at h
    split at h
    · cases h
    · rename_i hb
      split at h
      · cases h
      · rename_i v k hu
        split at h
        · cases h
        · rename_i hv
          obtain ⟨u1, u2, u3⟩ := uintF_facts hu
          split at h
          · simp only [Option.some.injEq, Prod.mk.injEq] at h
            obtain ⟨rfl, rfl⟩ := h
            rename_i hb0
            refine ⟨by omega, by simp; omega, ?_, Nat.zero_le _, trivial, ?_, ?_⟩
            · rw [evBytes, List.take_succ_cons, u3, u8_of b 0 (by omega)]; rfl
            · simp only [EvT.fits, decide_eq_true_eq]; unfold mostN at hv; omega
            · simp only [EvT.top]
              have : mostN ≤ (d + 1 + 1) * mostN := Nat.le_mul_of_pos_left _ (by omega)
              omega
          · rename_i hb0
            split at h
            · cases h
            · rename_i l m hl
              split at h
              · cases h
              · rename_i r q hr
                split at h
                · cases h
                · rename_i hbad
                  simp only [Option.some.injEq, Prod.mk.injEq] at h
                  obtain ⟨rfl, rfl⟩ := h
                  obtain ⟨a1, a2, a3, a4, a5, a6, a7⟩ := rdEv_facts d _ l m hl
                  obtain ⟨b1, b2, b3, b4, b5, b6, b7⟩ := rdEv_facts d _ r q hr
                  rw [List.length_drop] at a2 b2
                  simp only [evBad, Bool.or_eq_true, Bool.and_eq_true, Bool.not_eq_true', beq_eq_false_iff_ne, beq_iff_eq, not_or, not_and] at hbad
                  refine ⟨by omega, by simp; omega, ?_, ?_, ⟨a5, b5, ?_, ?_⟩, ?_, ?_⟩
                  · rw [evBytes, show k + 1 + m + q = (k + (m + q)) + 1 by omega, List.take_succ_cons, List.take_add, u3, List.take_add, List.drop_drop, ← a3, ← b3, u8_of b 1 (by omega)]
                    rfl
                  · simp only [EvT.depth]; omega
                  · by_cases hz : l.n = 0
                    · exact .inl hz
                    · exact .inr (by have := hbad.1 hz; omega)
                  · rintro ⟨h1, h2, h3⟩
                    exact hbad.2 ⟨h1, h2⟩ h3
                  · simp only [EvT.fits, Bool.and_eq_true, decide_eq_true_eq]; unfold mostN at hv; exact ⟨by omega, a6, b6⟩
                  · simp only [EvT.top]
                    have e : (d + 1 + 1) * mostN = mostN + (d + 1) * mostN := by rw [Nat.add_mul]; omega
                    omega
/-- A tree in normal form that is joined with 0. -/
theorem merge_zero (k : Nat) (t : EvT) (ht : nf t) (hd : t.depth ≤ k) : mergeF k t (.leaf 0) = t := by
  obtain ⟨h1, _, h2⟩ := merge_facts k t (.leaf 0) ht trivial hd (Nat.zero_le _)
  exact nf_ext _ _ h1 ht fun p => by rw [h2]; simp [val]
end Go.Proofs.YthnmhdabdiennaaDoor
