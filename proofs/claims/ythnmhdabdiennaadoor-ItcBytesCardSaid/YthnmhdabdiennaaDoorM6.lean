/- The reference's stamps: what is owned and what was seen at each of so many points; how identities and event trees mean such points; fill, grow, fork, join in these terms. No program in sight. Join and Leq at points: the sum of two identities, the union of two event trees, and their comparison. No program in sight. -/
import Derived.Test.YthnmhdabdiennaaDoorM3
namespace Go.Proofs.YthnmhdabdiennaaDoor
/-- How many points are owned, from low on, n of them. -/
def cnt (o : Nat → Bool) (low : Nat) : Nat → Nat
  | 0 => 0
  | n + 1 => cnt o low n + if o (low + n) then 1 else 0
theorem cnt_le (o : Nat → Bool) (low : Nat) : ∀ n, cnt o low n ≤ n
  | 0 => Nat.le_refl _
  | n + 1 => by have := cnt_le o low n; simp only [cnt]; split <;> omega
theorem cnt_zero {o : Nat → Bool} {low : Nat} : ∀ {n : Nat}, cnt o low n = 0 ↔ ∀ k, k < n → o (low + k) = false
  | 0 => by simp [cnt]
  | n + 1 => by
    simp only [cnt]
    constructor
    · intro h k hk
      have ih := (cnt_zero (o := o) (low := low) (n := n)).1 (by omega)
      rcases Nat.lt_or_ge k n with h' | h'
      · exact ih k h'
      · have : k = n := by omega
        subst this
        cases ho : o (low + k) with
        | false => rfl
        | true => rw [ho] at h; simp at h
    · intro h
      rw [(cnt_zero (o := o) (low := low) (n := n)).2 (fun k hk => h k (by omega)), h n (by omega)]; rfl
theorem cnt_full {o : Nat → Bool} {low : Nat} : ∀ {n : Nat}, cnt o low n = n ↔ ∀ k, k < n → o (low + k) = true
  | 0 => by simp [cnt]
  | n + 1 => by
    have hl := cnt_le o low n
    simp only [cnt]
    constructor
    · intro h k hk
      cases ho : o (low + n) with
      | false => rw [ho] at h; simp at h; omega
      | true =>
        rw [ho] at h
        have ih := (cnt_full (o := o) (low := low) (n := n)).1 (by simpa using h)
        rcases Nat.lt_or_ge k n with h' | h'
        · exact ih k h'
        · have : k = n := by omega
          subst this; exact ho
    · intro h
      rw [(cnt_full (o := o) (low := low) (n := n)).2 (fun k hk => h k (by omega)), h n (by omega)]; rfl
/-- The least and the greatest number, from low on, n of them. -/
def lst (s : Nat → Nat) (low : Nat) : Nat → Nat
  | 0 => s low
  | n + 1 => min (lst s low n) (s (low + n))
def mst (s : Nat → Nat) (low : Nat) : Nat → Nat
  | 0 => s low
  | n + 1 => max (mst s low n) (s (low + n))
theorem lst_le {s : Nat → Nat} {low : Nat} : ∀ {n k : Nat}, k < n → lst s low n ≤ s (low + k)
  | n + 1, k, h => by
    simp only [lst]
    rcases Nat.lt_or_ge k n with h' | h'
    · have := lst_le (s := s) (low := low) h'; omega
    · have : k = n := by omega
      subst this; omega
theorem le_mst {s : Nat → Nat} {low : Nat} : ∀ {n k : Nat}, k < n → s (low + k) ≤ mst s low n
  | n + 1, k, h => by
    simp only [mst]
    rcases Nat.lt_or_ge k n with h' | h'
    · have := le_mst (s := s) (low := low) h'; omega
    · have : k = n := by omega
      subst this; omega
theorem lst_at (s : Nat → Nat) (low : Nat) : ∀ n, 0 < n → ∃ k, k < n ∧ lst s low n = s (low + k)
  | 1, _ => ⟨0, by omega, by simp [lst]⟩
  | n + 2, _ => by
    obtain ⟨k, hk, h⟩ := lst_at s low (n + 1) (by omega)
    have e : lst s low (n + 2) = min (lst s low (n + 1)) (s (low + (n + 1))) := rfl
    rcases Nat.le_total (lst s low (n + 1)) (s (low + (n + 1))) with h' | h'
    · exact ⟨k, by omega, by rw [e]; omega⟩
    · exact ⟨n + 1, by omega, by rw [e]; omega⟩
theorem mst_at (s : Nat → Nat) (low : Nat) : ∀ n, 0 < n → ∃ k, k < n ∧ mst s low n = s (low + k)
  | 1, _ => ⟨0, by omega, by simp [mst]⟩
  | n + 2, _ => by
    obtain ⟨k, hk, h⟩ := mst_at s low (n + 1) (by omega)
    have e : mst s low (n + 2) = max (mst s low (n + 1)) (s (low + (n + 1))) := rfl
    rcases Nat.le_total (mst s low (n + 1)) (s (low + (n + 1))) with h' | h'
    · exact ⟨n + 1, by omega, by rw [e]; omega⟩
    · exact ⟨k, by omega, by rw [e]; omega⟩
theorem lst_is {s : Nat → Nat} {low n a : Nat} (hn : 0 < n) (h : ∀ k, k < n → a ≤ s (low + k)) (h' : ∃ k, k < n ∧ s (low + k) = a) : lst s low n = a := by
  obtain ⟨k, hk, e⟩ := lst_at s low n hn
  obtain ⟨j, hj, ej⟩ := h'
  have h1 := h k hk
  have h2 := lst_le (s := s) (low := low) hj
  omega
theorem mst_is {s : Nat → Nat} {low n a : Nat} (hn : 0 < n) (h : ∀ k, k < n → s (low + k) ≤ a) (h' : ∃ k, k < n ∧ s (low + k) = a) : mst s low n = a := by
  obtain ⟨k, hk, e⟩ := mst_at s low n hn
  obtain ⟨j, hj, ej⟩ := h'
  have h1 := h k hk
  have h2 := le_mst (s := s) (low := low) hj
  omega
theorem lst_le_mst (s : Nat → Nat) (low n : Nat) : lst s low n ≤ mst s low n := by
  induction n with
  | zero => exact Nat.le_refl _
  | succ n ih => simp only [lst, mst]; omega
theorem pow_half (e : Nat) : 2 ^ (e + 1) = 2 ^ e + 2 ^ e := by rw [Nat.pow_succ]; omega
theorem pow_pos2 (e : Nat) : 0 < 2 ^ e := Nat.two_pow_pos e
/-- An identity in normal form means what is owned at the 2 ^ d points from low on. -/
def IdOn (o : Nat → Bool) : IdT → Nat → Nat → Prop
  | .zero, d, low => ∀ k, k < 2 ^ d → o (low + k) = false
  | .node l r, d, low => if IdT.isOne (.node l r) then ∀ k, k < 2 ^ d → o (low + k) = true
      else ∃ e, d = e + 1 ∧ IdOn o l e low ∧ IdOn o r e (low + 2 ^ e) ∧ (l.isOne && r.isOne) = false
/-- An event tree in normal form means what was seen at the 2 ^ d points from low on. -/
def EvOn (s : Nat → Nat) : EvT → Nat → Nat → Nat → Prop
  | .leaf n, d, low, base => ∀ k, k < 2 ^ d → s (low + k) = base + n
  | .node n l r, d, low, base => ∃ e, d = e + 1 ∧ EvOn s l e low (base + n) ∧ EvOn s r e (low + 2 ^ e) (base + n) ∧ (l.n = 0 ∨ r.n = 0) ∧ ¬(l.isLeaf = true ∧ r.isLeaf = true ∧ l.n = r.n)
theorem IdOn.zero_ {o : Nat → Bool} {d low : Nat} (h : ∀ k, k < 2 ^ d → o (low + k) = false) : IdOn o .zero d low := h
theorem IdOn.one_ {o : Nat → Bool} {d low : Nat} (h : ∀ k, k < 2 ^ d → o (low + k) = true) : IdOn o .one d low := by unfold IdT.one IdOn; rw [if_pos (by rfl)]; exact h
theorem IdOn.of_one {o : Nat → Bool} {i : IdT} {d low : Nat} (hi : i.isOne = true) (h : IdOn o i d low) : ∀ k, k < 2 ^ d → o (low + k) = true := by
  cases i with
  | zero => simp [IdT.isOne] at hi
  | node l r => unfold IdOn at h; rw [if_pos hi] at h; exact h
theorem isOne_eq {i : IdT} (h : i.isOne = true) : i = .one := by
  match i, h with
  | .node .zero .zero, _ => rfl
theorem IdOn.node_ {o : Nat → Bool} {l r : IdT} {e low : Nat} (hn : IdT.isOne (.node l r) = false) (hl : IdOn o l e low) (hr : IdOn o r e (low + 2 ^ e)) (h : (l.isOne && r.isOne) = false) : IdOn o (.node l r) (e + 1) low := by
  unfold IdOn; rw [if_neg (by rw [hn]; decide)]; exact ⟨e, rfl, hl, hr, h⟩
theorem IdOn.of_node {o : Nat → Bool} {l r : IdT} {d low : Nat} (hn : IdT.isOne (.node l r) = false) (h : IdOn o (.node l r) d low) : ∃ e, d = e + 1 ∧ IdOn o l e low ∧ IdOn o r e (low + 2 ^ e) ∧ (l.isOne && r.isOne) = false := by
  unfold IdOn at h; rw [if_neg (by rw [hn]; decide)] at h; exact h
theorem IdOn.congr {o o' : Nat → Bool} : ∀ {i : IdT} {d low : Nat}, IdOn o i d low → (∀ k, k < 2 ^ d → o' (low + k) = o (low + k)) → IdOn o' i d low
  | .zero, d, low, h, hc => fun k hk => by rw [hc k hk]; exact h k hk
  | .node l r, d, low, h, hc => by
    cases hn : IdT.isOne (.node l r) with
    | true =>
      rw [isOne_eq hn] at h ⊢
      exact IdOn.one_ fun k hk => by rw [hc k hk]; exact h.of_one rfl k hk
    | false =>
      obtain ⟨e, rfl, hl, hr, h1⟩ := h.of_node hn
      have hp := pow_half e
      refine IdOn.node_ hn (hl.congr fun k hk => hc k (by omega)) (hr.congr fun k hk => ?_) h1
      have := hc (2 ^ e + k) (by omega)
      rw [← Nat.add_assoc] at this; exact this
theorem EvOn.congr {s s' : Nat → Nat} : ∀ {t : EvT} {d low base : Nat}, EvOn s t d low base → (∀ k, k < 2 ^ d → s' (low + k) = s (low + k)) → EvOn s' t d low base
  | .leaf n, d, low, base, h, hc => fun k hk => by rw [hc k hk]; exact h k hk
  | .node n l r, d, low, base, h, hc => by
    obtain ⟨e, rfl, hl, hr, h0, h1⟩ := h
    have hp := pow_half e
    refine ⟨e, rfl, hl.congr fun k hk => hc k (by omega), hr.congr fun k hk => ?_, h0, h1⟩
    have := hc (2 ^ e + k) (by omega)
    rw [← Nat.add_assoc] at this; exact this
theorem EvOn.nf {s : Nat → Nat} : ∀ {t : EvT} {d low base : Nat}, EvOn s t d low base → nf t
  | .leaf _, _, _, _, _ => trivial
  | .node _ _ _, _, _, _, ⟨_, _, hl, hr, h0, h1⟩ => ⟨hl.nf, hr.nf, h0, h1⟩
theorem EvOn.depth {s : Nat → Nat} : ∀ {t : EvT} {d low base : Nat}, EvOn s t d low base → t.depth ≤ d
  | .leaf _, _, _, _, _ => Nat.zero_le _
  | .node _ _ _, _, _, _, ⟨e, he, hl, hr, h0, h1⟩ => by have := hl.depth; have := hr.depth; simp only [EvT.depth]; omega
theorem IdOn.depth {o : Nat → Bool} : ∀ {i : IdT} {d low : Nat}, IdOn o i d low → i.depth ≤ d
  | .zero, _, _, _ => Nat.zero_le _
  | .node l r, d, low, h => by
    cases hn : IdT.isOne (.node l r) with
    | true => rw [isOne_eq hn]; exact Nat.zero_le _
    | false =>
      obtain ⟨e, rfl, hl, hr, h1⟩ := h.of_node hn
      have := hl.depth
      have := hr.depth
      rw [depth_node hn]; omega
/-- Which points are owned tells the identity's form. -/
theorem IdOn.cnt_ {o : Nat → Bool} : ∀ {i : IdT} {d low : Nat}, IdOn o i d low → (cnt o low (2 ^ d) = 0 ↔ i.isZero = true) ∧ (cnt o low (2 ^ d) = 2 ^ d ↔ i.isOne = true)
  | .zero, d, low, h => by
    have h0 := cnt_zero.2 h
    have := pow_pos2 d
    rw [h0]
    refine ⟨by simp [IdT.isZero], ?_⟩
    simp only [IdT.isOne]
    constructor
    · intro h; omega
    · intro h; cases h
  | .node l r, d, low, h => by
    have hp := pow_pos2 d
    cases hn : IdT.isOne (.node l r) with
    | true =>
      have h1 := cnt_full.2 (h.of_one hn)
      rw [h1]
      exact ⟨⟨fun h => by omega, fun h => by simp [IdT.isZero] at h⟩, by simp⟩
    | false =>
      obtain ⟨e, rfl, hl, hr, h1⟩ := h.of_node hn
      obtain ⟨zl, ol⟩ := hl.cnt_
      obtain ⟨zr, or_⟩ := hr.cnt_
      have hp := pow_half e
      refine ⟨⟨fun h0 => ?_, fun h => by simp [IdT.isZero] at h⟩, ⟨fun h0 => ?_, fun h => by cases h⟩⟩
      · have h0 := cnt_zero.1 h0
        have a := zl.1 (cnt_zero.2 fun k hk => h0 k (by omega))
        have b := zr.1 (cnt_zero.2 fun k hk => by have := h0 (2 ^ e + k) (by omega); rw [← Nat.add_assoc] at this; exact this)
        exfalso
        cases l with
        | node _ _ => simp [IdT.isZero] at a
        | zero => cases r with
          | node _ _ => simp [IdT.isZero] at b
          | zero => simp [IdT.isOne] at hn
      · have h0 := cnt_full.1 h0
        have a := ol.1 (cnt_full.2 fun k hk => h0 k (by omega))
        have b := or_.1 (cnt_full.2 fun k hk => by have := h0 (2 ^ e + k) (by omega); rw [← Nat.add_assoc] at this; exact this)
        rw [a, b] at h1; cases h1
theorem EvOn.facts {s : Nat → Nat} : ∀ {t : EvT} {d low base : Nat}, EvOn s t d low base → (∀ k, k < 2 ^ d → base + t.n ≤ s (low + k) ∧ s (low + k) ≤ base + t.top) ∧ (∃ k, k < 2 ^ d ∧ s (low + k) = base + t.n) ∧ ∃ k, k < 2 ^ d ∧ s (low + k) = base + t.top
  | .leaf n, d, low, base, h => ⟨fun k hk => by rw [h k hk]; exact ⟨Nat.le_refl _, Nat.le_refl _⟩, ⟨0, pow_pos2 d, h 0 (pow_pos2 d)⟩, ⟨0, pow_pos2 d, h 0 (pow_pos2 d)⟩⟩
  | .node n l r, d, low, base, h => by
    obtain ⟨e, rfl, hl, hr, h0, h1⟩ := h
    have hp := pow_half e
    obtain ⟨fl, ⟨kl, hkl, el⟩, ⟨kl', hkl', el'⟩⟩ := hl.facts
    obtain ⟨fr, ⟨kr, hkr, er⟩, ⟨kr', hkr', er'⟩⟩ := hr.facts
    rw [Nat.add_assoc low] at er er'
    refine ⟨fun k hk => ?_, ?_, ?_⟩
    · simp only [EvT.n, EvT.top]
      rcases Nat.lt_or_ge k (2 ^ e) with h' | h'
      · have := fl k h'; omega
      · have := fr (k - 2 ^ e) (by omega)
        rw [Nat.add_assoc low, show 2 ^ e + (k - 2 ^ e) = k by omega] at this
        omega
    · simp only [EvT.n]
      rcases h0 with h0 | h0
      · exact ⟨kl, by omega, by omega⟩
      · exact ⟨2 ^ e + kr, by omega, by omega⟩
    · simp only [EvT.top]
      rcases Nat.le_total l.top r.top with h' | h'
      · exact ⟨2 ^ e + kr', by omega, by omega⟩
      · exact ⟨kl', by omega, by omega⟩
theorem EvOn.lst_ {s : Nat → Nat} {t : EvT} {d low base : Nat} (h : EvOn s t d low base) : lst s low (2 ^ d) = base + t.n := lst_is (pow_pos2 d) (fun k hk => (h.facts.1 k hk).1) h.facts.2.1
theorem EvOn.mst_ {s : Nat → Nat} {t : EvT} {d low base : Nat} (h : EvOn s t d low base) : mst s low (2 ^ d) = base + t.top := mst_is (pow_pos2 d) (fun k hk => (h.facts.1 k hk).2) h.facts.2.2
theorem nf_top : ∀ {t : EvT}, nf t → (t.n = t.top ↔ t.isLeaf = true)
  | .leaf n, _ => by simp [EvT.n, EvT.top, EvT.isLeaf]
  | .node n l r, ⟨hl, hr, h0, h1⟩ => by
    have a := nf_top hl
    have b := nf_top hr
    have c := l.n_le_top
    have d := r.n_le_top
    simp only [EvT.n, EvT.top, EvT.isLeaf]
    constructor
    · intro h
      exact absurd ⟨a.1 (by omega), b.1 (by omega), by omega⟩ h1
    · intro h; cases h
theorem EvOn.leaf_iff {s : Nat → Nat} {t : EvT} {d low base : Nat} (h : EvOn s t d low base) : lst s low (2 ^ d) = mst s low (2 ^ d) ↔ t.isLeaf = true := by
  rw [h.lst_, h.mst_, ← nf_top h.nf]; omega
theorem EvOn.withN {s : Nat → Nat} {t : EvT} {d low base : Nat} (h : EvOn s t d low base) {base' m : Nat} (hm : base' + m = base + t.n) : EvOn s (t.withN m) d low base' := by
  cases t with
  | leaf n => intro k hk; rw [h k hk]; simp only [EvT.n] at hm; exact hm.symm
  | node n l r =>
    obtain ⟨e, rfl, hl, hr, h0, h1⟩ := h
    simp only [EvT.n] at hm
    refine ⟨e, rfl, ?_, ?_, h0, h1⟩ <;> rw [hm] <;> assumption
theorem EvOn.pair {s : Nat → Nat} {a b : EvT} {e low base n : Nat} (ha : EvOn s a e low (base + n)) (hb : EvOn s b e (low + 2 ^ e) (base + n)) : EvOn s (pairF n a b) (e + 1) low base := by
  have hp := pow_half e
  unfold pairF
  split
  · rename_i h
    simp only [Bool.and_eq_true, beq_iff_eq] at h
    obtain ⟨⟨h1, h2⟩, h3⟩ := h
    cases a with
    | node _ _ _ => simp [EvT.isLeaf] at h1
    | leaf x => cases b with
      | node _ _ _ => simp [EvT.isLeaf] at h2
      | leaf y =>
        simp only [EvT.n] at h3 ⊢
        subst h3
        intro k hk
        rcases Nat.lt_or_ge k (2 ^ e) with h' | h'
        · rw [ha k h']; omega
        · have := hb (k - 2 ^ e) (by omega)
          rw [Nat.add_assoc low, show 2 ^ e + (k - 2 ^ e) = k by omega] at this
          rw [this]; omega
  · rename_i h
    refine ⟨e, rfl, ha.withN (by omega), hb.withN (by omega), ?_, ?_⟩
    · simp only [withN_n]; omega
    · simp only [withN_n, withN_isLeaf]
      rintro ⟨h1, h2, h3⟩
      apply h
      rw [h1, h2]
      simp
      omega
theorem EvOn.kids {s : Nat → Nat} {t : EvT} {e low base : Nat} (h : EvOn s t (e + 1) low base) : EvOn s t.leftK e low (base + t.n) ∧ EvOn s t.rightK e (low + 2 ^ e) (base + t.n) := by
  have hp := pow_half e
  cases t with
  | leaf n =>
    refine ⟨fun k hk => ?_, fun k hk => ?_⟩
    · have := h k (by omega); simp only [EvT.n]; omega
    · have := h (2 ^ e + k) (by omega); simp only [EvT.n]; rw [Nat.add_assoc low]; omega
  | node n l r =>
    obtain ⟨e', he, hl, hr, _, _⟩ := h
    obtain rfl : e = e' := by omega
    exact ⟨hl, hr⟩
theorem EvOn.unique {s s' : Nat → Nat} {t t' : EvT} {d low base : Nat} (h : EvOn s t d low base) (h' : EvOn s' t' d low base) (hs : ∀ k, k < 2 ^ d → s (low + k) = s' (low + k)) : t = t' := by
  replace h' : EvOn s t' d low base := h'.congr hs
  clear hs s'
  induction d generalizing t t' low base with
  | zero =>
    cases t with
    | node _ _ _ => obtain ⟨e, he, _⟩ := h; omega
    | leaf n => cases t' with
      | node _ _ _ => obtain ⟨e, he, _⟩ := h'; omega
      | leaf n' => have h1 := h 0 (by omega); have h2 := h' 0 (by omega); have : n = n' := by omega
                   rw [this]
  | succ e ih =>
    have hn : t.n = t'.n := by have h1 := h.lst_; have h2 := h'.lst_; omega
    have hl : t.isLeaf = t'.isLeaf := by have h1 := h.leaf_iff; have h2 := h'.leaf_iff; rw [h1] at h2; exact Bool.eq_iff_iff.2 h2
    have k1 := h.kids
    have k2 := h'.kids
    rw [hn] at k1
    have e1 := ih k1.1 k2.1
    have e2 := ih k1.2 k2.2
    cases t <;> cases t' <;> simp_all [EvT.isLeaf, EvT.n, EvT.leftK, EvT.rightK]
theorem EvOn.same_ {s s' : Nat → Nat} {t t' : EvT} {d low base : Nat} (h : EvOn s t d low base) (h' : EvOn s' t' d low base) : t = t' → ∀ k, k < 2 ^ d → s (low + k) = s' (low + k) := by
  rintro rfl
  induction d generalizing t low base with
  | zero =>
    cases t with
    | node _ _ _ => obtain ⟨e, he, _⟩ := h; omega
    | leaf n => intro k hk; rw [h k hk, h' k hk]
  | succ e ih =>
    have hp := pow_half e
    have k1 := h.kids
    have k2 := h'.kids
    intro k hk
    rcases Nat.lt_or_ge k (2 ^ e) with g | g
    · exact ih k1.1 k2.1 k g
    · have := ih k1.2 k2.2 (k - 2 ^ e) (by omega)
      rw [Nat.add_assoc low, show 2 ^ e + (k - 2 ^ e) = k by omega] at this
      exact this
/-- The same number at n points. -/
def setR (s : Nat → Nat) (low n v : Nat) : Nat → Nat := fun k => if low ≤ k ∧ k < low + n then v else s k
theorem setR_in {s : Nat → Nat} {low n v k : Nat} (h : k < n) : setR s low n v (low + k) = v := by unfold setR; rw [if_pos (by omega)]
theorem setR_out {s : Nat → Nat} {low n v k : Nat} (h : ¬(low ≤ k ∧ k < low + n)) : setR s low n v k = s k := by unfold setR; rw [if_neg h]
def Out (low n : Nat) (s s' : Nat → Nat) : Prop := ∀ k, ¬(low ≤ k ∧ k < low + n) → s' k = s k
theorem Out.refl (low n : Nat) (s : Nat → Nat) : Out low n s s := fun _ _ => rfl
theorem Out.set (s : Nat → Nat) (low n v : Nat) : Out low n s (setR s low n v) := fun _ h => setR_out h
theorem Out.mono {low n low' n' : Nat} {s s' : Nat → Nat} (h : Out low n s s') (h1 : low' ≤ low) (h2 : low + n ≤ low' + n') : Out low' n' s s' := fun k hk => h k (by omega)
theorem Out.trans {low n : Nat} {s s' s'' : Nat → Nat} (h : Out low n s s') (h' : Out low n s' s'') : Out low n s s'' := fun k hk => by rw [h' k hk, h k hk]
theorem EvOn.out {s s' : Nat → Nat} {t : EvT} {d low base low' n' : Nat} (h : EvOn s t d low base) (ho : Out low' n' s s') (hd : low + 2 ^ d ≤ low' ∨ low' + n' ≤ low) : EvOn s' t d low base := h.congr fun k hk => ho _ (by omega)
theorem EvOn.set_ {s : Nat → Nat} {d low base v : Nat} : EvOn (setR s low (2 ^ d) (base + v)) (.leaf v) d low base := fun _ hk => setR_in hk
/-- The reference's fill, grow, fork. -/
def fillR (o : Nat → Bool) : Nat → Nat → (Nat → Nat) → Nat → Nat
  | 0, _, s => s
  | e + 1, low, s =>
    if cnt o low (2 ^ (e + 1)) = 0 ∨ lst s low (2 ^ (e + 1)) = mst s low (2 ^ (e + 1)) then s
    else if cnt o low (2 ^ (e + 1)) = 2 ^ (e + 1) then setR s low (2 ^ (e + 1)) (mst s low (2 ^ (e + 1)))
    else if cnt o low (2 ^ e) = 2 ^ e then
      setR (fillR o e (low + 2 ^ e) s) low (2 ^ e) (max (mst (fillR o e (low + 2 ^ e) s) low (2 ^ e)) (lst (fillR o e (low + 2 ^ e) s) (low + 2 ^ e) (2 ^ e)))
    else if cnt o (low + 2 ^ e) (2 ^ e) = 2 ^ e then
      setR (fillR o e low s) (low + 2 ^ e) (2 ^ e) (max (mst (fillR o e low s) (low + 2 ^ e) (2 ^ e)) (lst (fillR o e low s) low (2 ^ e)))
    else fillR o e (low + 2 ^ e) (fillR o e low s)
theorem fillR_on {o : Nat → Bool} : ∀ {d low base : Nat} {s : Nat → Nat} {i : IdT} {t : EvT}, IdOn o i d low → EvOn s t d low base → EvOn (fillR o d low s) (fillF i t) d low base ∧ Out low (2 ^ d) s (fillR o d low s)
  | 0, low, base, s, i, t, hi, ht => by
    refine ⟨?_, Out.refl _ _ _⟩
    cases t with
    | node _ _ _ => obtain ⟨e, he, _⟩ := ht; omega
    | leaf n => rw [fill_leaf_same]; exact ht
  | e + 1, low, base, s, i, t, hi, ht => by
    have hp := pow_half e
    have hq := pow_pos2 e
    obtain ⟨cz, co⟩ := hi.cnt_
    have hle := ht.leaf_iff
    unfold fillR
    simp only [cz, co, hle]
    split
    · rename_i h
      refine ⟨?_, Out.refl _ _ _⟩
      rcases h with h | h
      · cases i with
        | zero => exact ht
        | node _ _ => simp [IdT.isZero] at h
      · cases t with
        | leaf n => rw [fill_leaf_same]; exact ht
        | node _ _ _ => simp [EvT.isLeaf] at h
    · rename_i h
      split
      · rename_i h1
        refine ⟨?_, Out.set _ _ _ _⟩
        rw [isOne_eq h1, ht.mst_]
        exact EvOn.set_
      · rename_i h1
        cases i with
        | zero => simp [IdT.isZero] at h
        | node l r => cases t with
          | leaf n => simp [EvT.isLeaf] at h
          | node n a b =>
            have h1 : IdT.isOne (.node l r) = false := by simpa using h1
            obtain ⟨e', he, hl, hr, hne⟩ := hi.of_node h1
            obtain rfl : e = e' := by omega
            obtain ⟨ka, kb⟩ := ht.kids
            simp only [EvT.leftK, EvT.rightK, EvT.n] at ka kb
            obtain ⟨zl, ol⟩ := hl.cnt_
            obtain ⟨zr, or_⟩ := hr.cnt_
            simp only [ol, or_]
            have hu : fillF (.node l r) (.node n a b) = if l.isOne then pairF n (.leaf (max a.top (fillF r b).n)) (fillF r b) else if r.isOne then pairF n (fillF l a) (.leaf (max b.top (fillF l a).n)) else pairF n (fillF l a) (fillF r b) := by
              simp only [fillF, h1]; rfl
            rw [hu]
            split
            · rename_i hl1
              obtain ⟨f1, f2⟩ := fillR_on hr kb
              have ka' := ka.out f2 (.inl (Nat.le_refl _))
              rw [ka'.mst_, f1.lst_, show max (base + n + a.top) (base + n + (fillF r b).n) = base + n + max a.top (fillF r b).n by omega]
              refine ⟨EvOn.pair EvOn.set_ (f1.out (Out.set _ _ _ _) (.inr (Nat.le_refl _))), (f2.mono (by omega) (by omega)).trans ((Out.set _ _ _ _).mono (by omega) (by omega))⟩
            · split
              · rename_i hr1
                obtain ⟨f1, f2⟩ := fillR_on hl ka
                have kb' := kb.out f2 (.inr (Nat.le_refl _))
                rw [kb'.mst_, f1.lst_, show max (base + n + b.top) (base + n + (fillF l a).n) = base + n + max b.top (fillF l a).n by omega]
                refine ⟨EvOn.pair (f1.out (Out.set _ _ _ _) (.inl (Nat.le_refl _))) EvOn.set_, (f2.mono (by omega) (by omega)).trans ((Out.set _ _ _ _).mono (by omega) (by omega))⟩
              · obtain ⟨f1, f2⟩ := fillR_on hl ka
                obtain ⟨g1, g2⟩ := fillR_on hr (kb.out f2 (.inr (Nat.le_refl _)))
                exact ⟨EvOn.pair (f1.out g2 (.inl (Nat.le_refl _))) g1, (f2.mono (by omega) (by omega)).trans (g2.mono (by omega) (by omega))⟩
def growR (o : Nat → Bool) : Nat → Nat → (Nat → Nat) → (Nat → Nat) × Nat
  | 0, low, s => (setR s low 1 (lst s low 1 + 1), 0)
  | e + 1, low, s =>
    if cnt o low (2 ^ (e + 1)) = 2 ^ (e + 1) then (setR s low (2 ^ (e + 1)) (lst s low (2 ^ (e + 1)) + 1), 0)
    else
      if cnt o low (2 ^ e) = 0 then ((growR o e (low + 2 ^ e) s).1, (growR o e (low + 2 ^ e) s).2 + (if lst s low (2 ^ (e + 1)) = mst s low (2 ^ (e + 1)) then 1001 else 1))
      else if cnt o (low + 2 ^ e) (2 ^ e) = 0 then ((growR o e low s).1, (growR o e low s).2 + (if lst s low (2 ^ (e + 1)) = mst s low (2 ^ (e + 1)) then 1001 else 1))
      else if (growR o e low s).2 < (growR o e (low + 2 ^ e) s).2 then ((growR o e low s).1, (growR o e low s).2 + (if lst s low (2 ^ (e + 1)) = mst s low (2 ^ (e + 1)) then 1001 else 1))
      else ((growR o e (low + 2 ^ e) s).1, (growR o e (low + 2 ^ e) s).2 + (if lst s low (2 ^ (e + 1)) = mst s low (2 ^ (e + 1)) then 1001 else 1))
theorem extra_eq {s : Nat → Nat} {t : EvT} {d low base : Nat} (h : EvOn s t d low base) : (if lst s low (2 ^ d) = mst s low (2 ^ d) then 1001 else 1) = 1 + t.extra := by
  simp only [h.leaf_iff]
  cases t <;> simp [EvT.isLeaf, EvT.extra]
theorem growR_on {o : Nat → Bool} : ∀ {d low base : Nat} {s : Nat → Nat} {i : IdT} {t : EvT}, IdOn o i d low → i.isZero = false → EvOn s t d low base → EvOn (growR o d low s).1 (growF i t).1 d low base ∧ Out low (2 ^ d) s (growR o d low s).1 ∧ (growR o d low s).2 = (growF i t).2
  | 0, low, base, s, i, t, hi, hz, ht => by
    have h1 : i.isOne = true := by
      cases i with
      | zero => simp [IdT.isZero] at hz
      | node l r =>
        cases hn : IdT.isOne (.node l r) with
        | true => rfl
        | false => obtain ⟨e, he, _⟩ := hi.of_node hn; omega
    rw [isOne_eq h1]
    have e1 := ht.lst_
    simp only [Nat.pow_zero] at e1
    unfold growR
    rw [e1, Nat.add_assoc base]
    exact ⟨EvOn.set_ (d := 0), Out.set _ _ _ _, rfl⟩
  | e + 1, low, base, s, i, t, hi, hz, ht => by
    have hp := pow_half e
    have hq := pow_pos2 e
    obtain ⟨cz, co⟩ := hi.cnt_
    unfold growR
    simp only [co, extra_eq ht]
    split
    · rename_i h1
      rw [isOne_eq h1, ht.lst_, Nat.add_assoc base]
      exact ⟨EvOn.set_, Out.set _ _ _ _, rfl⟩
    · rename_i h1
      cases i with
      | zero => simp [IdT.isZero] at hz
      | node l r =>
        have h1 : IdT.isOne (.node l r) = false := by simpa using h1
        obtain ⟨e', he, hl, hr, hne⟩ := hi.of_node h1
        obtain rfl : e = e' := by omega
        obtain ⟨ka, kb⟩ := ht.kids
        obtain ⟨zl, ol⟩ := hl.cnt_
        obtain ⟨zr, or_⟩ := hr.cnt_
        rw [growF_eq _ _ _ h1]
        simp only [zl, zr]
        unfold growPick
        have useL : l.isZero = false → EvOn (growR o e low s).1 (pairF t.n (growF l t.leftK).1 t.rightK) (e + 1) low base ∧ Out low (2 ^ (e + 1)) s (growR o e low s).1 ∧ (growR o e low s).2 = (growF l t.leftK).2 := fun hz => by
          obtain ⟨g1, g2, g3⟩ := growR_on hl hz ka
          exact ⟨EvOn.pair g1 (kb.out g2 (.inr (Nat.le_refl _))), g2.mono (by omega) (by omega), g3⟩
        have useR : r.isZero = false → EvOn (growR o e (low + 2 ^ e) s).1 (pairF t.n t.leftK (growF r t.rightK).1) (e + 1) low base ∧ Out low (2 ^ (e + 1)) s (growR o e (low + 2 ^ e) s).1 ∧ (growR o e (low + 2 ^ e) s).2 = (growF r t.rightK).2 := fun hz => by
          obtain ⟨g1, g2, g3⟩ := growR_on hr hz kb
          exact ⟨EvOn.pair (ka.out g2 (.inl (Nat.le_refl _))) g1, g2.mono (by omega) (by omega), g3⟩
        cases lz : l.isZero with
        | true =>
          have rz : r.isZero = false := by
            cases l with
            | node _ _ => simp [IdT.isZero] at lz
            | zero => cases r with
              | node _ _ => rfl
              | zero => simp [IdT.isOne] at h1
          obtain ⟨g1, g2, g3⟩ := useR rz
          rw [rz]
          simp only [Bool.not_true, Bool.false_and, Bool.or_self, Bool.false_eq_true, if_false, if_true]
          exact ⟨g1, g2, by omega⟩
        | false =>
          cases rz : r.isZero with
          | true =>
            obtain ⟨g1, g2, g3⟩ := useL lz
            simp only [Bool.true_or, Bool.false_eq_true, if_false, if_true]
            exact ⟨g1, g2, by omega⟩
          | false =>
            obtain ⟨g1, g2, g3⟩ := useL lz
            obtain ⟨k1, k2, k3⟩ := useR rz
            simp only [Bool.not_false, Bool.true_and, Bool.false_or, Bool.false_eq_true, if_false, decide_eq_true_eq]
            rw [g3, k3]
            split
            · exact ⟨g1, g2, by omega⟩
            · exact ⟨k1, k2, by omega⟩
/-- The smallest interval that is divided: where it begins, and its depth. -/
def forkR (o : Nat → Bool) : Nat → Nat → Nat × Nat
  | 0, low => (low, 0)
  | e + 1, low => if cnt o low (2 ^ (e + 1)) = 2 ^ (e + 1) then (low, e + 1)
      else if 0 < cnt o low (2 ^ e) ∧ 0 < cnt o (low + 2 ^ e) (2 ^ e) then (low, e + 1)
      else if cnt o low (2 ^ e) = 0 then forkR o e (low + 2 ^ e) else forkR o e low
/-- n points from low on are not owned any more. -/
def clearR (o : Nat → Bool) (low n : Nat) : Nat → Bool := fun k => if low ≤ k ∧ k < low + n then false else o k
theorem clearR_out {o : Nat → Bool} {low n k : Nat} (h : ¬(low ≤ k ∧ k < low + n)) : clearR o low n k = o k := by unfold clearR; rw [if_neg h]
theorem clearR_in {o : Nat → Bool} {low n k : Nat} (h : low ≤ k ∧ k < low + n) : clearR o low n k = false := by unfold clearR; rw [if_pos h]
theorem IdOn.clear_far {o : Nat → Bool} {i : IdT} {d low low' n' : Nat} (h : IdOn o i d low) (hd : low + 2 ^ d ≤ low' ∨ low' + n' ≤ low) : IdOn (clearR o low' n') i d low := h.congr fun k hk => clearR_out (by omega)
theorem split_left (r : IdT) (h : r.isZero = false) : IdT.split (.node .zero r) = (.node .zero r.split.1, .node .zero r.split.2) := by
  cases r with
  | zero => simp [IdT.isZero] at h
  | node a b => simp [IdT.split]
theorem split_right (l : IdT) (h : l.isZero = false) : IdT.split (.node l .zero) = (.node l.split.1 .zero, .node l.split.2 .zero) := by
  cases l with
  | zero => simp [IdT.isZero] at h
  | node a b => simp [IdT.split]
theorem split_both (l r : IdT) (h : l.isZero = false) (h' : r.isZero = false) : IdT.split (.node l r) = (.node l .zero, .node .zero r) := by
  cases l with
  | zero => simp [IdT.isZero] at h
  | node a b => cases r with
    | zero => simp [IdT.isZero] at h'
    | node c d => simp [IdT.split]
theorem one_of_zero (l r : IdT) : IdT.isOne (.node l r) = (l.isZero && r.isZero) := by cases l <;> cases r <;> rfl
theorem isOne_zero : IdT.isOne .zero = false := rfl
theorem split_nonzero : ∀ i : IdT, i.isZero = false → i.split.1.isZero = false ∧ i.split.2.isZero = false := by
  intro i
  induction i with
  | zero => intro h; simp [IdT.isZero] at h
  | node l r ihl ihr =>
    intro _
    cases l with
    | zero => cases r with
      | zero => exact ⟨rfl, rfl⟩
      | node _ _ => simp [IdT.split, IdT.isZero]
    | node _ _ => cases r <;> simp [IdT.split, IdT.isZero]
theorem forkR_on {o : Nat → Bool} : ∀ {d low : Nat} {i : IdT}, IdOn o i d low → i.isZero = false →
    low ≤ (forkR o d low).1 ∧ (forkR o d low).1 + 2 ^ (forkR o d low).2 ≤ low + 2 ^ d ∧ 
    ∀ e, (forkR o d low).2 = e + 1 → IdOn (clearR o ((forkR o d low).1 + 2 ^ e) (2 ^ e)) i.split.1 d low ∧ IdOn (clearR o (forkR o d low).1 (2 ^ e)) i.split.2 d low
  | 0, low, i, hi, hz => ⟨Nat.le_refl _, Nat.le_refl _, fun e he => by simp [forkR] at he⟩
  | e + 1, low, i, hi, hz => by
    have hp := pow_half e
    have hq := pow_pos2 e
    obtain ⟨cz, co⟩ := hi.cnt_
    unfold forkR
    simp only [co]
    split
    · rename_i h1
      refine ⟨Nat.le_refl _, Nat.le_refl _, fun e' he => ?_⟩
      obtain rfl : e = e' := by simpa using he
      have ho := hi.of_one h1
      rw [isOne_eq h1]
      simp only [IdT.one, IdT.split]
      refine ⟨IdOn.node_ rfl (IdOn.one_ fun k hk => ?_) (IdOn.zero_ fun k hk => ?_) rfl, IdOn.node_ rfl (IdOn.zero_ fun k hk => ?_) (IdOn.one_ fun k hk => ?_) rfl⟩
      · rw [clearR_out (by omega)]; exact ho k (by omega)
      · rw [clearR_in (by omega)]
      · rw [clearR_in (by omega)]
      · rw [clearR_out (by omega), Nat.add_assoc]; exact ho (2 ^ e + k) (by omega)
    · rename_i h1
      cases i with
      | zero => simp [IdT.isZero] at hz
      | node l r =>
        have h1 : IdT.isOne (.node l r) = false := by simpa using h1
        obtain ⟨e', he, hl, hr, hne⟩ := hi.of_node h1
        obtain rfl : e = e' := by omega
        obtain ⟨zl, ol⟩ := hl.cnt_
        obtain ⟨zr, or_⟩ := hr.cnt_
        cases lz : l.isZero with
        | true =>
          have rz : r.isZero = false := by rw [one_of_zero, lz] at h1; simpa using h1
          have c0 := zl.2 lz
          rw [if_neg (by omega), if_pos c0]
          obtain ⟨f1, f2, f3⟩ := forkR_on hr rz
          refine ⟨by omega, by omega, fun e' he' => ?_⟩
          obtain ⟨g1, g2⟩ := f3 e' he'
          have l0 : l = .zero := by cases l with
            | zero => rfl
            | node _ _ => simp [IdT.isZero] at lz
          subst l0
          rw [split_left r rz]
          obtain ⟨n1, n2⟩ := split_nonzero r rz
          have hp' := pow_half e'
          have hq' := pow_pos2 e'
          rw [he'] at f2
          refine ⟨IdOn.node_ (by rw [one_of_zero, n1]; rfl) (hl.clear_far (by omega)) g1 rfl, IdOn.node_ (by rw [one_of_zero, n2]; rfl) (hl.clear_far (by omega)) g2 rfl⟩
        | false =>
          have cl : 0 < cnt o low (2 ^ e) := by
            rcases Nat.eq_zero_or_pos (cnt o low (2 ^ e)) with h | h
            · rw [zl.1 h] at lz; cases lz
            · exact h
          cases rz : r.isZero with
          | true =>
            have c0 := zr.2 rz
            rw [if_neg (by omega), if_neg (by omega)]
            obtain ⟨f1, f2, f3⟩ := forkR_on hl lz
            refine ⟨by omega, by omega, fun e' he' => ?_⟩
            obtain ⟨g1, g2⟩ := f3 e' he'
            have r0 : r = .zero := by cases r with
              | zero => rfl
              | node _ _ => simp [IdT.isZero] at rz
            subst r0
            rw [split_right l lz]
            obtain ⟨n1, n2⟩ := split_nonzero l lz
            have hp' := pow_half e'
            have hq' := pow_pos2 e'
            rw [he'] at f2
            refine ⟨IdOn.node_ (by rw [one_of_zero, n1]; rfl) g1 (hr.clear_far (by omega)) (by simp [isOne_zero]), IdOn.node_ (by rw [one_of_zero, n2]; rfl) g2 (hr.clear_far (by omega)) (by simp [isOne_zero])⟩
          | false =>
            have cr : 0 < cnt o (low + 2 ^ e) (2 ^ e) := by
              rcases Nat.eq_zero_or_pos (cnt o (low + 2 ^ e) (2 ^ e)) with h | h
              · rw [zr.1 h] at rz; cases rz
              · exact h
            rw [if_pos ⟨cl, cr⟩]
            refine ⟨Nat.le_refl _, Nat.le_refl _, fun e' he' => ?_⟩
            obtain rfl : e = e' := by simpa using he'
            rw [split_both l r lz rz]
            refine ⟨IdOn.node_ (by rw [one_of_zero, lz]; rfl) (hl.clear_far (by omega)) (IdOn.zero_ fun k hk => clearR_in (by omega)) (by simp [isOne_zero]), IdOn.node_ (by rw [one_of_zero, rz]; rfl) (IdOn.zero_ fun k hk => clearR_in (by omega)) (hr.clear_far (by omega)) (by simp [isOne_zero])⟩
end Go.Proofs.YthnmhdabdiennaaDoor
namespace Go.Proofs.YthnmhdabdiennaaDoor
theorem IdOn.join {o : Nat → Bool} {a b : IdT} {e low : Nat} (ha : IdOn o a e low) (hb : IdOn o b e (low + 2 ^ e)) : IdOn o (a.joinF b) (e + 1) low := by
  have hp := pow_half e
  unfold IdT.joinF
  split
  · rename_i h
    simp only [Bool.and_eq_true] at h
    obtain ⟨za, zb⟩ := h
    cases a with
    | node _ _ => simp [IdT.isZero] at za
    | zero => cases b with
      | node _ _ => simp [IdT.isZero] at zb
      | zero =>
        intro k hk
        rcases Nat.lt_or_ge k (2 ^ e) with h' | h'
        · exact ha k h'
        · have := hb (k - 2 ^ e) (by omega)
          rw [Nat.add_assoc low, show 2 ^ e + (k - 2 ^ e) = k by omega] at this
          exact this
  · rename_i hz
    split
    · rename_i h
      simp only [Bool.and_eq_true] at h
      refine IdOn.one_ fun k hk => ?_
      rcases Nat.lt_or_ge k (2 ^ e) with h' | h'
      · exact ha.of_one h.1 k h'
      · have := hb.of_one h.2 (k - 2 ^ e) (by omega)
        rw [Nat.add_assoc low, show 2 ^ e + (k - 2 ^ e) = k by omega] at this
        exact this
    · rename_i h
      exact IdOn.node_ (by rw [one_of_zero]; simpa using hz) ha hb (by simpa using h)
theorem IdOn.some_ {o : Nat → Bool} {i : IdT} {d low : Nat} (h : IdOn o i d low) (hz : i.isZero = false) : ∃ k, k < 2 ^ d ∧ o (low + k) = true := by
  rcases Classical.em (∃ k, k < 2 ^ d ∧ o (low + k) = true) with h' | h'
  · exact h'
  · have : cnt o low (2 ^ d) = 0 := cnt_zero.2 fun k hk => by
      cases ho : o (low + k) with
      | false => rfl
      | true => exact absurd ⟨k, hk, ho⟩ h'
    rw [h.cnt_.1.1 this] at hz; cases hz
/-- Both own a point; or the sum owns what one of both owns. -/
def SumOn (o o' : Nat → Bool) (d low : Nat) : Option IdT → Prop
  | none => ∃ k, k < 2 ^ d ∧ o (low + k) = true ∧ o' (low + k) = true
  | some x => (∀ k, k < 2 ^ d → o (low + k) = true → o' (low + k) = true → False) ∧ IdOn (fun k => o k || o' k) x d low
theorem sum_on {o o' : Nat → Bool} : ∀ {i j : IdT} {d low : Nat}, IdOn o i d low → IdOn o' j d low → SumOn o o' d low (i.sum j)
  | .zero, j, d, low, hi, hj => by
    rw [sum_zero_left]
    refine ⟨fun k hk h => ?_, hj.congr fun k hk => ?_⟩
    · rw [hi k hk] at h; cases h
    · show (o (low + k) || o' (low + k)) = _
      rw [hi k hk]; rfl
  | .node l r, .zero, d, low, hi, hj => by
    rw [sum_zero_right]
    refine ⟨fun k hk _ h => ?_, hi.congr fun k hk => ?_⟩
    · rw [hj k hk] at h; cases h
    · show (o (low + k) || o' (low + k)) = _
      rw [hj k hk]; simp
  | .node l r, .node l' r', d, low, hi, hj => by
    rw [sum_node]
    split
    · rename_i h
      rcases Bool.or_eq_true _ _ ▸ h with h | h
      · obtain ⟨k, hk, hk'⟩ := hj.some_ rfl
        exact ⟨k, hk, hi.of_one h k hk, hk'⟩
      · obtain ⟨k, hk, hk'⟩ := hi.some_ rfl
        exact ⟨k, hk, hk', hj.of_one h k hk⟩
    · rename_i h
      simp only [Bool.or_eq_true, not_or, Bool.not_eq_true] at h
      obtain ⟨e, rfl, hl, hr, _⟩ := hi.of_node h.1
      obtain ⟨e', he, hl', hr', _⟩ := hj.of_node h.2
      obtain rfl : e = e' := by omega
      have hp := pow_half e
      have sl := sum_on hl hl'
      have sr := sum_on hr hr'
      cases hs : l.sum l' with
      | none =>
        rw [hs] at sl
        obtain ⟨k, hk, a, b⟩ := sl
        exact ⟨k, by omega, a, b⟩
      | some x =>
        rw [hs] at sl
        cases hs' : r.sum r' with
        | none =>
          rw [hs'] at sr
          obtain ⟨k, hk, a, b⟩ := sr
          rw [Nat.add_assoc] at a b
          exact ⟨2 ^ e + k, by omega, a, b⟩
        | some y =>
          rw [hs'] at sr
          refine ⟨fun k hk a b => ?_, sl.2.join sr.2⟩
          rcases Nat.lt_or_ge k (2 ^ e) with h' | h'
          · exact sl.1 k h' a b
          · refine sr.1 (k - 2 ^ e) (by omega) ?_ ?_ <;> rw [Nat.add_assoc low, show 2 ^ e + (k - 2 ^ e) = k by omega] <;> assumption
theorem merge_on {s s' : Nat → Nat} : ∀ {n d low base : Nat} {a b : EvT}, d ≤ n → EvOn s a d low base → EvOn s' b d low base → EvOn (fun k => max (s k) (s' k)) (mergeF n a b) d low base
  | 0, d, low, base, a, b, hd, ha, hb => by
    obtain rfl : d = 0 := by omega
    cases a with
    | node _ _ _ => obtain ⟨e, he, _⟩ := ha; omega
    | leaf x => cases b with
      | node _ _ _ => obtain ⟨e, he, _⟩ := hb; omega
      | leaf y => intro k hk; simp only [EvT.n, ha k hk, hb k hk]; omega
  | n + 1, d, low, base, a, b, hd, ha, hb => by
    unfold mergeF
    split
    · rename_i h
      simp only [Bool.and_eq_true] at h
      cases a with
      | node _ _ _ => simp [EvT.isLeaf] at h
      | leaf x => cases b with
        | node _ _ _ => simp [EvT.isLeaf] at h
        | leaf y => intro k hk; simp only [EvT.n, ha k hk, hb k hk]; omega
    · rename_i h
      cases d with
      | zero =>
        exfalso
        cases a with
        | node _ _ _ => obtain ⟨e, he, _⟩ := ha; omega
        | leaf x => cases b with
          | node _ _ _ => obtain ⟨e, he, _⟩ := hb; omega
          | leaf y => exact h rfl
      | succ e =>
        obtain ⟨al, ar⟩ := ha.kids
        obtain ⟨bl, br⟩ := hb.kids
        split
        · rename_i hlt
          have m1 := merge_on (n := n) (s := s') (s' := s) (by omega) bl (al.withN (base' := base + b.n) (m := a.leftK.n + (a.n - b.n)) (by omega))
          have m2 := merge_on (n := n) (s := s') (s' := s) (by omega) br (ar.withN (base' := base + b.n) (m := a.rightK.n + (a.n - b.n)) (by omega))
          exact (EvOn.pair m1 m2).congr fun k _ => Nat.max_comm _ _
        · rename_i hlt
          have m1 := merge_on (n := n) (s := s) (s' := s') (by omega) al (bl.withN (base' := base + a.n) (m := b.leftK.n + (b.n - a.n)) (by omega))
          have m2 := merge_on (n := n) (s := s) (s' := s') (by omega) ar (br.withN (base' := base + a.n) (m := b.rightK.n + (b.n - a.n)) (by omega))
          exact EvOn.pair m1 m2
theorem leq_on {s s' : Nat → Nat} : ∀ {a b : EvT} {d low x y : Nat}, EvOn s a d low x → EvOn s' b d low y → (leqF a b x y = true ↔ ∀ k, k < 2 ^ d → s (low + k) ≤ s' (low + k))
  | .leaf n, b, d, low, x, y, ha, hb => by
    simp only [leqF, decide_eq_true_eq]
    obtain ⟨f1, ⟨k0, hk0, e0⟩, _⟩ := hb.facts
    constructor
    · intro h k hk; rw [ha k hk]; have := (f1 k hk).1; omega
    · intro h; have := h k0 hk0; rw [ha k0 hk0] at this; omega
  | .node n l r, .leaf m, d, low, x, y, ha, hb => by
    obtain ⟨e, rfl, hl, hr, _, _⟩ := ha
    have hp := pow_half e
    have hb1 : EvOn s' (.leaf m) e low y := fun k hk => hb k (by omega)
    have hb2 : EvOn s' (.leaf m) e (low + 2 ^ e) y := fun k hk => by rw [Nat.add_assoc]; exact hb _ (by omega)
    simp only [leqF, Bool.and_eq_true, leq_on hl hb1, leq_on hr hb2]
    constructor
    · rintro ⟨h1, h2⟩ k hk
      rcases Nat.lt_or_ge k (2 ^ e) with h' | h'
      · exact h1 k h'
      · have := h2 (k - 2 ^ e) (by omega)
        rw [Nat.add_assoc low, show 2 ^ e + (k - 2 ^ e) = k by omega] at this
        exact this
    · intro h
      exact ⟨fun k hk => h k (by omega), fun k hk => by rw [Nat.add_assoc]; exact h _ (by omega)⟩
  | .node n l r, .node m l' r', d, low, x, y, ha, hb => by
    obtain ⟨e, rfl, hl, hr, _, _⟩ := ha
    obtain ⟨e', he, hl', hr', _, _⟩ := hb
    obtain rfl : e = e' := by omega
    have hp := pow_half e
    simp only [leqF, Bool.and_eq_true, leq_on hl hl', leq_on hr hr']
    constructor
    · rintro ⟨h1, h2⟩ k hk
      rcases Nat.lt_or_ge k (2 ^ e) with h' | h'
      · exact h1 k h'
      · have := h2 (k - 2 ^ e) (by omega)
        rw [Nat.add_assoc low, show 2 ^ e + (k - 2 ^ e) = k by omega] at this
        exact this
    · intro h
      exact ⟨fun k hk => h k (by omega), fun k hk => by rw [Nat.add_assoc]; exact h _ (by omega)⟩
end Go.Proofs.YthnmhdabdiennaaDoor
