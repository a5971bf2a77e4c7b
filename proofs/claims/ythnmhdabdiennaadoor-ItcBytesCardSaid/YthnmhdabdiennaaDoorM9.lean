/- What Read gives at an encoding, in plain terms. No program in sight. -/
import Derived.Test.YthnmhdabdiennaaDoorK24
import Derived.Test.YthnmhdabdiennaaDoorM6
namespace Go.Proofs.YthnmhdabdiennaaDoor
theorem toNat_ofNat {n : Nat} (h : n < 256) : (UInt8.ofNat n).toNat = n := by simp; omega
theorem uint_small {n : Nat} (h : n < 128) (r : List UInt8) : uintF (putU n ++ r) = some (n, 1) := by
  rw [putU_small h]
  unfold uintF
  rw [List.singleton_append, uintAt, toNat_ofNat (by omega), if_neg (by omega), if_pos h, if_neg (by omega)]
  simp
  omega
theorem IdOn.idnf_ {o : Nat → Bool} : ∀ {i : IdT} {d low : Nat}, IdOn o i d low → idnf i
  | .zero, _, _, _ => trivial
  | .node l r, d, low, h => by
    cases h1 : IdT.isOne (.node l r) with
    | true => exact Or.inl h1
    | false =>
      obtain ⟨e, rfl, hl, hr, hne⟩ := h.of_node h1
      exact Or.inr ⟨hl.idnf_, hr.idnf_, hne⟩
theorem rdId_back : ∀ (i : IdT) (d : Nat) (r : List UInt8), idnf i → i.depth ≤ d → rdId d (idBytes i ++ r) = some (i, (idBytes i).length)
  | .zero, d, r, _, _ => by cases d <;> simp [idBytes, rdId]
  | .node a b, d, r, h, hd => by
    cases h1 : IdT.isOne (.node a b) with
    | true =>
      rw [isOne_eq h1]
      cases d <;> simp [idBytes_one, rdId]
    | false =>
      have hz : (a.isZero && b.isZero) = false := by rw [← one_of_zero]; exact h1
      rw [depth_node h1] at hd
      obtain ⟨ha, hb, hne⟩ : idnf a ∧ idnf b ∧ (a.isOne && b.isOne) = false := by
        rcases h with h | h
        · rw [h1] at h; cases h
        · exact h
      obtain ⟨e, rfl⟩ : ∃ e, d = e + 1 := ⟨d - 1, by omega⟩
      have hA := rdId_back a e (idBytes b ++ r) ha (by omega)
      have hB := rdId_back b e r hb (by omega)
      have e1 : idBytes (.node a b) = 2 :: (idBytes a ++ idBytes b) := by rw [idBytes, h1]; rfl
      rw [e1, List.cons_append, List.append_assoc, rdId]
      rw [if_neg (by decide), if_neg (by decide), if_neg (by decide), hA]
      simp only [List.drop_left, hB]
      rw [if_neg (by rw [hz, hne]; decide)]
      simp only [List.length_cons, List.length_append, Option.some.injEq, Prod.mk.injEq, true_and]
      omega
theorem rdEv_back : ∀ (t : EvT) (d : Nat) (r : List UInt8), nf t → t.depth ≤ d → t.top < 128 → rdEv d (evBytes t ++ r) = some (t, (evBytes t).length)
  | .leaf n, d, r, _, _, ht => by
    simp only [EvT.top] at ht
    have hu := uint_small ht r
    have hm : ¬ mostN < n := by unfold mostN; omega
    have hl : (putU n).length = 1 := by rw [putU_small ht]; rfl
    cases d with
    | zero => rw [evBytes, List.cons_append, rdEv, if_neg (by decide), hu]; simp only []; rw [if_neg hm, List.length_cons, hl]
    | succ d => rw [evBytes, List.cons_append, rdEv, if_neg (by decide), hu]; simp only []; rw [if_neg hm, if_pos (by decide), List.length_cons, hl]
  | .node n a b, d, r, h, hd, ht => by
    simp only [EvT.top] at ht
    obtain ⟨ha, hb, h0, hne⟩ := h
    rw [EvT.depth] at hd
    obtain ⟨e, rfl⟩ : ∃ e, d = e + 1 := ⟨d - 1, by omega⟩
    have hn : n < 128 := by omega
    have hu := uint_small hn (evBytes a ++ (evBytes b ++ r))
    have hm : ¬ mostN < n := by unfold mostN; omega
    have hl : (putU n).length = 1 := by rw [putU_small hn]; rfl
    have hA := rdEv_back a e (evBytes b ++ r) ha (by omega) (by omega)
    have hB := rdEv_back b e r hb (by omega) (by omega)
    have hbad : evBad a b = false := by
      unfold evBad
      cases hl1 : a.isLeaf <;> cases hl2 : b.isLeaf <;> simp_all <;> omega
    rw [evBytes, List.cons_append, List.append_assoc, List.append_assoc, rdEv, if_neg (by decide), hu]
    simp only []
    rw [if_neg hm, if_neg (by decide)]
    have d1 : (putU n ++ (evBytes a ++ (evBytes b ++ r))).drop 1 = evBytes a ++ (evBytes b ++ r) := by rw [putU_small hn]; rfl
    have d2 : (putU n ++ (evBytes a ++ (evBytes b ++ r))).drop (1 + (evBytes a).length) = evBytes b ++ r := by rw [← List.drop_drop, d1, List.drop_left]
    rw [d1, hA]
    simp only []
    rw [d2, hB]
    simp only []
    rw [if_neg (by rw [hbad]; decide)]
    simp only [List.length_cons, List.length_append, Option.some.injEq, Prod.mk.injEq, true_and, hl]
    omega
theorem readF_back {i : IdT} {t : EvT} (hi : idnf i) (di : i.depth ≤ 16) (ht : nf t) (dt : t.depth ≤ 16) (tt : t.top < 128) (r : List UInt8) : readF (stBytes i t ++ r) = some (i, t, (stBytes i t).length) := by
  unfold readF stBytes
  rw [List.append_assoc, rdId_back i 16 _ hi di]
  simp only [List.drop_left]
  rw [rdEv_back t 16 r ht dt tt]
  simp only [List.length_append]
end Go.Proofs.YthnmhdabdiennaaDoor
