/- Different stamps have different texts. No program in sight. -/
import Derived.Test.YthnmhdabdiennaaDoorM6
import Derived.Test.YthnmhdabdiennaaDoorK16
namespace Go.Proofs.YthnmhdabdiennaaDoor
def isDig (b : UInt8) : Bool := decide (48 ≤ b.toNat ∧ b.toNat ≤ 57)
/-- The number that digits mean. -/
def digV (l : List UInt8) : Nat := l.foldl (fun a d => a * 10 + (d.toNat - 48)) 0
theorem digV_snoc (l : List UInt8) (d : UInt8) : digV (l ++ [d]) = digV l * 10 + (d.toNat - 48) := by simp [digV]
theorem dec_facts (n : Nat) : digV (Lib.decDigits n) = n ∧ (∀ b ∈ Lib.decDigits n, isDig b = true) ∧ Lib.decDigits n ≠ [] := by
  induction n using Nat.strongRecOn with
  | _ n ih =>
    rw [Lib.decDigits]
    split
    · rename_i h
      have e : (UInt8.ofNat (48 + n)).toNat = 48 + n := by simp; omega
      refine ⟨by simp only [digV, List.foldl, e]; omega, fun b hb => ?_, by simp⟩
      simp only [List.mem_singleton] at hb
      subst hb
      unfold isDig; rw [e]; simp; omega
    · rename_i h
      obtain ⟨a, b, c⟩ := ih (n / 10) (by omega)
      have e : (UInt8.ofNat (48 + n % 10)).toNat = 48 + n % 10 := by simp; omega
      refine ⟨by rw [digV_snoc, a, e]; omega, fun x hx => ?_, by simp⟩
      simp only [List.mem_append, List.mem_singleton] at hx
      rcases hx with hx | hx
      · exact b x hx
      · subst hx; unfold isDig; rw [e]; simp; omega
/-- What follows does not begin with a digit. -/
def NoDig : List UInt8 → Prop
  | [] => True
  | b :: _ => isDig b = false
theorem noDig44 (l : List UInt8) : NoDig (44 :: l) := show isDig 44 = false by decide
theorem noDig41 (l : List UInt8) : NoDig (41 :: l) := show isDig 41 = false by decide
theorem takeWhile_dig : ∀ (l r : List UInt8), (∀ b ∈ l, isDig b = true) → NoDig r → (l ++ r).takeWhile isDig = l
  | [], [], _, _ => rfl
  | [], b :: r, _, h => by simp only [List.nil_append, List.takeWhile]; rw [show isDig b = false from h]
  | a :: l, r, h, h' => by
    simp only [List.cons_append, List.takeWhile, h a (by simp)]
    rw [takeWhile_dig l r (fun b hb => h b (by simp [hb])) h']
theorem dec_inj {n m : Nat} {r r' : List UInt8} (hr : NoDig r) (hr' : NoDig r') (h : Lib.decDigits n ++ r = Lib.decDigits m ++ r') : n = m ∧ r = r' := by
  obtain ⟨a, b, _⟩ := dec_facts n
  obtain ⟨a', b', _⟩ := dec_facts m
  have e : Lib.decDigits n = Lib.decDigits m := by rw [← takeWhile_dig _ r b hr, ← takeWhile_dig _ r' b' hr', h]
  refine ⟨by rw [← a, ← a', e], ?_⟩
  rw [e] at h
  exact List.append_cancel_left h
theorem dec_head (n : Nat) (r : List UInt8) : ∃ b l, Lib.decDigits n ++ r = b :: l ∧ b ≠ 40 := by
  obtain ⟨_, b, c⟩ := dec_facts n
  cases hd : Lib.decDigits n with
  | nil => exact absurd hd c
  | cons x l =>
    refine ⟨x, l ++ r, rfl, ?_⟩
    rintro rfl
    have := b 40 (by rw [hd]; simp)
    revert this; decide
theorem evText_inj : ∀ (t t' : EvT) (r r' : List UInt8), NoDig r → NoDig r' → evText t ++ r = evText t' ++ r' → t = t' ∧ r = r'
  | .leaf n, .leaf m, r, r', h, h', he => by
    simp only [evText] at he
    obtain ⟨a, b⟩ := dec_inj h h' he
    exact ⟨by rw [a], b⟩
  | .leaf n, .node m a b, r, r', h, h', he => by
    simp only [evText] at he
    obtain ⟨x, l, e, hx⟩ := dec_head n r
    rw [e] at he
    simp only [List.cons_append, List.cons.injEq] at he
    exact absurd he.1 hx
  | .node m a b, .leaf n, r, r', h, h', he => by
    simp only [evText] at he
    obtain ⟨x, l, e, hx⟩ := dec_head n r'
    rw [e] at he
    simp only [List.cons_append, List.cons.injEq] at he
    exact absurd he.1.symm hx
  | .node n a b, .node m a' b', r, r', h, h', he => by
    simp only [evText, List.cons_append, List.append_assoc, List.cons.injEq, true_and] at he
    obtain ⟨e1, he⟩ := dec_inj (noDig44 _) (noDig44 _) he
    simp only [List.cons.injEq, true_and] at he
    obtain ⟨e2, he⟩ := evText_inj a a' _ _ (noDig44 _) (noDig44 _) he
    simp only [List.cons.injEq, true_and] at he
    obtain ⟨e3, he⟩ := evText_inj b b' _ _ (noDig41 _) (noDig41 _) he
    simp only [List.nil_append, List.cons.injEq, true_and] at he
    exact ⟨by rw [e1, e2, e3], he⟩
theorem idText_node {l r : IdT} (h : IdT.isOne (.node l r) = false) : idText (.node l r) = 40 :: (idText l ++ 44 :: (idText r ++ [41])) := by simp [idText, h]
theorem idText_inj : ∀ (i j : IdT) (r r' : List UInt8), idText i ++ r = idText j ++ r' → i = j ∧ r = r'
  | .zero, .zero, r, r', h => by simp only [idText, List.cons_append, List.nil_append, List.cons.injEq, true_and] at h; exact ⟨rfl, h⟩
  | .zero, .node a b, r, r', h => by
    cases h1 : IdT.isOne (.node a b) with
    | true => rw [isOne_eq h1] at h; simp [idText, IdT.one, IdT.isOne] at h
    | false => rw [idText_node h1] at h; simp [idText] at h
  | .node a b, .zero, r, r', h => by
    cases h1 : IdT.isOne (.node a b) with
    | true => rw [isOne_eq h1] at h; simp [idText, IdT.one, IdT.isOne] at h
    | false => rw [idText_node h1] at h; simp [idText] at h
  | .node a b, .node a' b', r, r', h => by
    cases h1 : IdT.isOne (.node a b) with
    | true => cases h2 : IdT.isOne (.node a' b') with
      | true => rw [isOne_eq h1, isOne_eq h2] at h ⊢; exact ⟨rfl, List.append_cancel_left h⟩
      | false => rw [idText_node h2, isOne_eq h1] at h; simp [idText, IdT.one, IdT.isOne] at h
    | false => cases h2 : IdT.isOne (.node a' b') with
      | true => rw [idText_node h1, isOne_eq h2] at h; simp [idText, IdT.one, IdT.isOne] at h
      | false =>
        rw [idText_node h1, idText_node h2] at h
        simp only [List.cons_append, List.append_assoc, List.cons.injEq, true_and] at h
        obtain ⟨e1, h⟩ := idText_inj a a' _ _ h
        simp only [List.cons.injEq, true_and] at h
        obtain ⟨e2, h⟩ := idText_inj b b' _ _ h
        simp only [List.nil_append, List.cons.injEq, true_and] at h
        exact ⟨by rw [e1, e2], h⟩
theorem stText_inj {i j : IdT} {t u : EvT} (h : stText i t = stText j u) : i = j ∧ t = u := by
  simp only [stText, List.cons.injEq, true_and] at h
  obtain ⟨e1, h⟩ := idText_inj i j _ _ h
  simp only [List.cons.injEq, true_and] at h
  exact ⟨e1, (evText_inj t u _ _ (noDig41 _) (noDig41 _) h).1⟩
theorem idsame_iff : ∀ i j : IdT, i.same j = true ↔ i = j
  | .zero, .zero => by simp [IdT.same]
  | .zero, .node _ _ => by simp [IdT.same]
  | .node _ _, .zero => by simp [IdT.same]
  | .node a b, .node c d => by simp [IdT.same, idsame_iff a c, idsame_iff b d]
end Go.Proofs.YthnmhdabdiennaaDoor
