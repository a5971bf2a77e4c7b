/- The causality law in plain terms: stamps that are used once, and the events that they know. No program in sight. -/
import Derived.Test.YthnmhdabdiennaaDoorM3
namespace Go.Proofs.YthnmhdabdiennaaDoor
/-- A stamp that exists: what it owns, what it has seen, and which events it knows. -/
abbrev Live := IdT × EvT × Nat
def Disj (L : List Live) : Prop := ∀ (i j : Nat) (a b : Live), L[i]? = some a → L[j]? = some b → i ≠ j → ∀ p, own a.1 p = true → own b.1 p = true → False
/-- What holds of the stamps that exist, L, and of all that was ever seen, S, after n calls: u k is what was seen after event k, q k a point at which event k was new. -/
structure CauU (L : List Live) (S : EvT → Nat → Prop) (n : Nat) (u : Nat → Pt → Nat) (q : Nat → Pt) : Prop where
  ok : ∀ (j : Nat) (a : Live), L[j]? = some a → a.1.isZero = false ∧ a.1.depth ≤ 16 ∧ S a.2.1 a.2.2
  dis : Disj L
  snf : ∀ t s, S t s → nf t ∧ t.top ≤ n ∧ t.depth ≤ 16
  most : ∀ t s, S t s → ∀ (j : Nat) (a : Live), L[j]? = some a → ∀ p, own a.1 p = true → val t p ≤ val a.2.1 p
  up : ∀ t s, S t s → ∀ k, s.testBit k = true → ∀ p, u k p ≤ val t p
  sup : ∀ t s, S t s → ∀ p, val t p = 0 ∨ ∃ k, s.testBit k = true ∧ val t p = u k p
  wit : ∀ t s, S t s → ∀ k, s.testBit k = true → ∀ t' s', S t' s' → u k (q k) ≤ val t' (q k) → s'.testBit k = true
  lt : ∀ t s, S t s → s < 2 ^ n
def Cau (L : List Live) (S : EvT → Nat → Prop) (n : Nat) : Prop := ∃ u q, CauU L S n u q
def S0 (t : EvT) (s : Nat) : Prop := t = .leaf 0 ∧ s = 0
/-- One more thing that was seen. -/
def Add (S : EvT → Nat → Prop) (t0 : EvT) (s0 : Nat) (t : EvT) (s : Nat) : Prop := S t s ∨ (t = t0 ∧ s = s0)
theorem getElem_one {α : Type} {x a : α} {j : Nat} (h : [x][j]? = some a) : a = x := by
  cases j with
  | zero => simpa using h.symm
  | succ j => simp at h
theorem Cau.start : Cau [(.one, .leaf 0, 0)] S0 0 := by
  refine ⟨fun _ _ => 0, fun _ _ => false, ?_, ?_, ?_, ?_, ?_, ?_, ?_, ?_⟩
  · intro j a h
    obtain rfl := getElem_one h
    exact ⟨rfl, by decide, rfl, rfl⟩
  · intro i j a b h k hne
    cases i with
    | succ i => simp at h
    | zero => cases j with
      | succ j => simp at k
      | zero => exact (hne rfl).elim
  · rintro t s ⟨rfl, rfl⟩; exact ⟨trivial, Nat.le_refl _, Nat.zero_le _⟩
  · rintro t s ⟨rfl, rfl⟩ j a h p _
    obtain rfl := getElem_one h
    exact Nat.le_refl _
  · rintro t s ⟨rfl, rfl⟩ k h; simp at h
  · rintro t s ⟨rfl, rfl⟩ p; exact .inl rfl
  · rintro t s ⟨rfl, rfl⟩ k h; simp at h
  · rintro t s ⟨rfl, rfl⟩; decide
theorem Cau.next {L : List Live} {S : EvT → Nat → Prop} {n : Nat} (h : Cau L S n) : Cau L S (n + 1) := by
  obtain ⟨u, q, h⟩ := h
  exact ⟨u, q, h.ok, h.dis, fun t s k => by have := h.snf t s k; exact ⟨this.1, by omega, this.2.2⟩, h.most, h.up, h.sup, h.wit, fun t s k => by have := h.lt t s k; rw [Nat.pow_succ]; omega⟩
theorem Cau.leq {L : List Live} {S : EvT → Nat → Prop} {n : Nat} (h : Cau L S n) {t t' : EvT} {s s' : Nat} (hs : S t s) (hs' : S t' s') : leqF t t' 0 0 = true ↔ ∀ k, s.testBit k = true → s'.testBit k = true := by
  obtain ⟨u, q, h⟩ := h
  rw [leqF_iff _ _ _ _ (h.snf _ _ hs').1]
  constructor
  · intro hl k hk
    refine h.wit t s hs k hk t' s' hs' ?_
    have h1 := h.up t s hs k hk (q k)
    have h2 := hl (q k)
    omega
  · intro hk p
    rcases h.sup t s hs p with h0 | ⟨k, hk1, hk2⟩
    · omega
    · have := h.up t' s' hs' k (hk k hk1) p
      omega
theorem Cau.seen {L : List Live} {S : EvT → Nat → Prop} {n : Nat} (h : Cau L S n) {t : EvT} {s : Nat} (hs : S t s) : nf t ∧ t.top ≤ n ∧ t.depth ≤ 16 ∧ s < 2 ^ n := by
  obtain ⟨u, q, h⟩ := h
  have := h.snf t s hs
  exact ⟨this.1, this.2.1, this.2.2, h.lt t s hs⟩
theorem Cau.live {L : List Live} {S : EvT → Nat → Prop} {n : Nat} (h : Cau L S n) {j : Nat} {a : Live} (ha : L[j]? = some a) : a.1.isZero = false ∧ a.1.depth ≤ 16 ∧ S a.2.1 a.2.2 := by
  obtain ⟨u, q, h⟩ := h
  exact h.ok j a ha
theorem Cau.sum {L : List Live} {S : EvT → Nat → Prop} {n : Nat} (h : Cau L S n) {i j : Nat} {a b : Live} (ha : L[i]? = some a) (hb : L[j]? = some b) (hne : i ≠ j) : ∃ x, a.1.sum b.1 = some x := by
  obtain ⟨u, q, h⟩ := h
  exact sum_disjoint _ _ (h.dis i j a b ha hb hne)
theorem set_get {α : Type} {L : List α} {a j : Nat} {x y : α} (h : (L.set a x)[j]? = some y) : (j = a ∧ y = x) ∨ (j ≠ a ∧ L[j]? = some y) := by
  rw [List.getElem?_set] at h
  split at h
  · rename_i e
    split at h
    · exact .inl ⟨e.symm, (Option.some.inj h).symm⟩
    · cases h
  · rename_i e
    exact .inr ⟨fun e' => e e'.symm, h⟩
theorem bit_or_two_pow (s n k : Nat) (hk : k ≠ n) : (s ||| 2 ^ n).testBit k = s.testBit k := by
  rw [Nat.testBit_or, Nat.testBit_two_pow]; simp [hk.symm]
theorem bit_or_two_pow_self (s n : Nat) : (s ||| 2 ^ n).testBit n = true := by rw [Nat.testBit_or, Nat.testBit_two_pow]; simp
theorem bit_lt {s n k : Nat} (h : s < 2 ^ n) (hk : s.testBit k = true) : k < n := by
  rcases Nat.lt_or_ge k n with h' | h'
  · exact h'
  · rw [Nat.testBit_lt_two_pow (Nat.lt_of_lt_of_le h (Nat.pow_le_pow_right (by omega) h'))] at hk; cases hk
theorem Cau.event {L : List Live} {S : EvT → Nat → Prop} {n : Nat} (h : Cau L S n) {a : Nat} {i : IdT} {t0 : EvT} {s0 : Nat} (ha : L[a]? = some (i, t0, s0)) :
    Cau (L.set a (i, eventT i t0, s0 ||| 2 ^ n)) (Add S (eventT i t0) (s0 ||| 2 ^ n)) (n + 1) := by
  obtain ⟨u, q, h⟩ := h
  obtain ⟨iz, idp, hS⟩ := h.ok a _ ha
  replace hS : S t0 s0 := hS
  replace idp : i.depth ≤ 16 := idp
  replace iz : i.isZero = false := iz
  obtain ⟨n0, top0, dep0⟩ := h.snf _ _ hS
  have lt0 := h.lt _ _ hS
  obtain ⟨e1, e2, pw, e3, e4⟩ := event_facts i t0 iz n0
  have bn : ∀ t s, S t s → ∀ k, s.testBit k = true → k ≠ n := fun t s hs k hk => Nat.ne_of_lt (bit_lt (h.lt t s hs) hk)
  have up0 := fun k (hk : s0.testBit k = true) => h.up _ _ hS k hk
  refine ⟨fun k p => if k = n then val (eventT i t0) p else u k p, fun k => if k = n then pw else q k, ?_, ?_, ?_, ?_, ?_, ?_, ?_, ?_⟩
  · intro j x hx
    rcases set_get hx with ⟨rfl, rfl⟩ | ⟨_, hx⟩
    · exact ⟨iz, idp, .inr ⟨rfl, rfl⟩⟩
    · obtain ⟨a1, a2, a3⟩ := h.ok j x hx
      exact ⟨a1, a2, .inl a3⟩
  · intro j k x y hx hy hne
    rcases set_get hx with ⟨rfl, rfl⟩ | ⟨_, hx'⟩ <;> rcases set_get hy with ⟨rfl, rfl⟩ | ⟨_, hy'⟩
    · exact (hne rfl).elim
    · exact fun p px py => h.dis _ _ _ _ ha hy' hne p px py
    · exact fun p px py => h.dis _ _ _ _ hx' ha hne p px py
    · exact h.dis _ _ _ _ hx' hy' hne
  · rintro t s (hs | ⟨rfl, rfl⟩)
    · have := h.snf t s hs; exact ⟨this.1, by omega, this.2.2⟩
    · have := event_top i t0
      have := event_depth i t0
      exact ⟨e1, by omega, by omega⟩
  · rintro t s hs j x hx p hp
    rcases set_get hx with ⟨rfl, rfl⟩ | ⟨hj, hx⟩
    · rcases hs with hs | ⟨rfl, rfl⟩
      · have h1 := h.most t s hs _ _ ha p hp
        have h2 := (e2 p).1
        simp only [] at *
        omega
      · exact Nat.le_refl _
    · rcases hs with hs | ⟨rfl, rfl⟩
      · exact h.most t s hs j x hx p hp
      · have ho : own i p = false := by
          cases ho : own i p with
          | false => rfl
          | true => exact (h.dis _ _ _ _ hx ha hj p hp ho).elim
        rw [(e2 p).2 ho]
        exact h.most _ _ hS j x hx p hp
  · rintro t s (hs | ⟨rfl, rfl⟩) k hk p
    · simp only [bn t s hs k hk, if_false]; exact h.up t s hs k hk p
    · by_cases e : k = n
      · simp [e]
      · simp only [e, if_false]
        rw [bit_or_two_pow _ _ _ e] at hk
        exact Nat.le_trans (up0 k hk p) (e2 p).1
  · rintro t s (hs | ⟨rfl, rfl⟩) p
    · rcases h.sup t s hs p with h0 | ⟨k, hk, he⟩
      · exact .inl h0
      · exact .inr ⟨k, hk, by simp only [bn t s hs k hk, if_false]; exact he⟩
    · exact .inr ⟨n, bit_or_two_pow_self _ _, by simp⟩
  · intro t s hs k hk t' s' hs' hle
    by_cases e : k = n
    · simp only [e, if_true] at hle ⊢
      rcases hs' with hs' | ⟨rfl, rfl⟩
      · have := h.most t' s' hs' _ _ ha pw e3
        simp only [] at this
        omega
      · exact bit_or_two_pow_self _ _
    · simp only [e, if_false] at hle
      have old : ∃ t1 s1, S t1 s1 ∧ s1.testBit k = true := by
        rcases hs with hs | ⟨rfl, rfl⟩
        · exact ⟨t, s, hs, hk⟩
        · exact ⟨t0, s0, hS, by rw [bit_or_two_pow _ _ _ e] at hk; exact hk⟩
      obtain ⟨t1, s1, hs1, hk1⟩ := old
      rcases hs' with hs' | ⟨rfl, rfl⟩
      · exact h.wit t1 s1 hs1 k hk1 t' s' hs' hle
      · rw [bit_or_two_pow _ _ _ e]
        refine h.wit t1 s1 hs1 k hk1 t0 s0 hS ?_
        cases ho : own i (q k) with
        | false => rw [(e2 (q k)).2 ho] at hle; exact hle
        | true =>
          have h1 := h.up t1 s1 hs1 k hk1 (q k)
          have h2 := h.most t1 s1 hs1 _ _ ha (q k) ho
          simp only [] at h2
          omega
  · rintro t s (hs | ⟨rfl, rfl⟩)
    · have := h.lt t s hs; rw [Nat.pow_succ]; omega
    · exact Nat.or_lt_two_pow (by rw [Nat.pow_succ]; omega) (Nat.pow_lt_pow_right (by omega) (by omega))
theorem app_get {α : Type} {L : List α} {j : Nat} {x y : α} (h : (L ++ [x])[j]? = some y) : (j = L.length ∧ y = x) ∨ (j ≠ L.length ∧ L[j]? = some y) := by
  rcases Nat.lt_trichotomy j L.length with hj | hj | hj
  · rw [List.getElem?_append_left hj] at h; exact .inr ⟨by omega, h⟩
  · subst hj; simp at h; exact .inl ⟨rfl, h.symm⟩
  · rw [List.getElem?_append_right (by omega)] at h
    have : j - L.length = (j - L.length - 1) + 1 := by omega
    rw [this] at h; simp at h
/-- Other stamps that exist, which own no more and have seen what those have seen. -/
theorem CauU.move {L L' : List Live} {S : EvT → Nat → Prop} {n : Nat} {u : Nat → Pt → Nat} {q : Nat → Pt} (h : CauU L S n u q) (hd : Disj L')
    (hL : ∀ (j : Nat) (a : Live), L'[j]? = some a → a.1.isZero = false ∧ a.1.depth ≤ 16 ∧ ∃ (k : Nat) (b : Live), L[k]? = some b ∧ a.2 = b.2 ∧ ∀ p, own a.1 p = true → own b.1 p = true) : CauU L' S n u q := by
  refine ⟨fun j a ha => ?_, hd, h.snf, fun t s hs j a ha p hp => ?_, h.up, h.sup, h.wit, h.lt⟩
  · obtain ⟨z, d, k, b, hb, e, _⟩ := hL j a ha
    rw [e]
    exact ⟨z, d, (h.ok k b hb).2.2⟩
  · obtain ⟨z, d, k, b, hb, e, ho⟩ := hL j a ha
    rw [e]
    exact h.most t s hs k b hb p (ho p hp)
theorem Cau.fork {L : List Live} {S : EvT → Nat → Prop} {n : Nat} (h : Cau L S n) {a : Nat} {i : IdT} {t0 : EvT} {s0 : Nat} (ha : L[a]? = some (i, t0, s0)) (d1 : i.split.1.depth ≤ 16) (d2 : i.split.2.depth ≤ 16) :
    Cau (L.set a (i.split.1, t0, s0) ++ [(i.split.2, t0, s0)]) S (n + 1) := by
  refine Cau.next ?_
  obtain ⟨u, q, h⟩ := h
  obtain ⟨iz, idp, hS⟩ := h.ok a _ ha
  obtain ⟨z1, z2, o, d⟩ := split_facts i iz
  refine ⟨u, q, h.move ?_ ?_⟩
  · intro j k x y hx hy hne p px py
    rcases app_get hx with ⟨rfl, rfl⟩ | ⟨_, hx⟩ <;> rcases app_get hy with ⟨rfl, rfl⟩ | ⟨_, hy⟩
    · exact hne rfl
    · rcases set_get hy with ⟨rfl, rfl⟩ | ⟨hj, hy⟩
      · exact d p py px
      · exact h.dis _ _ _ _ hy ha hj p py (by rw [o, px, Bool.or_true])
    · rcases set_get hx with ⟨rfl, rfl⟩ | ⟨hj, hx⟩
      · exact d p px py
      · exact h.dis _ _ _ _ hx ha hj p px (by rw [o, py, Bool.or_true])
    · rcases set_get hx with ⟨rfl, rfl⟩ | ⟨hj, hx'⟩ <;> rcases set_get hy with ⟨rfl, rfl⟩ | ⟨hk, hy'⟩
      · exact hne rfl
      · exact h.dis _ _ _ _ hy' ha hk p py (by rw [o, px, Bool.true_or])
      · exact h.dis _ _ _ _ hx' ha hj p px (by rw [o, py, Bool.true_or])
      · exact h.dis _ _ _ _ hx' hy' hne p px py
  · intro j x hx
    rcases app_get hx with ⟨rfl, rfl⟩ | ⟨_, hx⟩
    · exact ⟨z2, d2, a, _, ha, rfl, fun p hp => by rw [o, hp, Bool.or_true]⟩
    · rcases set_get hx with ⟨rfl, rfl⟩ | ⟨hj, hx⟩
      · exact ⟨z1, d1, _, _, ha, rfl, fun p hp => by rw [o, hp, Bool.true_or]⟩
      · obtain ⟨q1, q2, _⟩ := h.ok _ _ hx
        exact ⟨q1, q2, _, _, hx, rfl, fun p hp => hp⟩
/-- The stamps after a join of a and b: b is replaced by the last one, which is removed. -/
def joined (L : List Live) (a b : Nat) (x : Live) : List Live := ((L.set a x).set b ((L.set a x).getD (L.length - 1) x)).take (L.length - 1)
theorem Cau.join {L : List Live} {S : EvT → Nat → Prop} {n : Nat} (h : Cau L S n) {a b : Nat} {i j x : IdT} {t t' : EvT} {s s' : Nat} (ha : L[a]? = some (i, t, s)) (hb : L[b]? = some (j, t', s')) (hne : a ≠ b) (hx : i.sum j = some x) :
    Cau (joined L a b (x, mergeF 16 t t', s ||| s')) (Add S (mergeF 16 t t') (s ||| s')) (n + 1) := by
  refine Cau.next ?_
  obtain ⟨u, q, h⟩ := h
  obtain ⟨iz, idp, hS⟩ := h.ok a _ ha
  obtain ⟨jz, jdp, hS'⟩ := h.ok b _ hb
  replace hS : S t s := hS
  replace hS' : S t' s' := hS'
  replace idp : i.depth ≤ 16 := idp
  replace jdp : j.depth ≤ 16 := jdp
  replace iz : i.isZero = false := iz
  replace jz : j.isZero = false := jz
  obtain ⟨n0, top0, dep0⟩ := h.snf _ _ hS
  obtain ⟨n1, top1, dep1⟩ := h.snf _ _ hS'
  obtain ⟨o, od, oz⟩ := sum_facts i j x hx
  obtain ⟨mn, md, mv⟩ := merge_facts 16 t t' n0 n1 dep0 dep1
  have mt := merge_top 16 t t'
  have hal : a < L.length := (List.getElem?_eq_some_iff.1 ha).1
  have hbl : b < L.length := (List.getElem?_eq_some_iff.1 hb).1
  -- what an element of the new list is
  have mem : ∀ (k : Nat) (y : Live), (joined L a b (x, mergeF 16 t t', s ||| s'))[k]? = some y → ∃ k', k' ≠ b ∧ ((k' = a ∧ y = (x, mergeF 16 t t', s ||| s')) ∨ (k' ≠ a ∧ L[k']? = some y)) ∧ (k' = if k = b then L.length - 1 else k) ∧ k < L.length - 1 := by
    intro k y hk
    unfold joined at hk
    rw [List.getElem?_take] at hk
    split at hk
    · rename_i hkl
      rcases set_get hk with ⟨rfl, rfl⟩ | ⟨hkb, hk⟩
      · refine ⟨L.length - 1, by omega, ?_, by simp, hkl⟩
        have hlast : (L.set a (x, mergeF 16 t t', s ||| s'))[L.length - 1]? = some ((L.set a (x, mergeF 16 t t', s ||| s')).getD (L.length - 1) (x, mergeF 16 t t', s ||| s')) := by
          rw [List.getD_eq_getElem?_getD, List.getElem?_eq_getElem (by rw [List.length_set]; omega)]; rfl
        exact set_get hlast
      · exact ⟨k, hkb, set_get hk, by simp [hkb], hkl⟩
    · cases hk
  have ho : ∀ p, own x p = true → own i p = true ∨ own j p = true := fun p hp => by rw [o] at hp; simpa using hp
  refine ⟨u, q, ?_, ?_, ?_, ?_, ?_, ?_, ?_, ?_⟩
  · intro k y hy
    obtain ⟨k', _, h1, _, _⟩ := mem k y hy
    rcases h1 with ⟨_, rfl⟩ | ⟨_, h1⟩
    · exact ⟨by rw [oz, iz]; rfl, by simp only [] at *; omega, .inr ⟨rfl, rfl⟩⟩
    · obtain ⟨a1, a2, a3⟩ := h.ok _ _ h1
      exact ⟨a1, a2, .inl a3⟩
  · intro k m y z hy hz hkm p py pz
    obtain ⟨k', hk1, hk2, hk3, hk4⟩ := mem k y hy
    obtain ⟨m', hm1, hm2, hm3, hm4⟩ := mem m z hz
    have hne' : k' ≠ m' := by
      rw [hk3, hm3]
      split <;> split <;> omega
    rcases hk2 with ⟨rfl, rfl⟩ | ⟨hk2, hy'⟩ <;> rcases hm2 with ⟨rfl, rfl⟩ | ⟨hm2, hz'⟩
    · exact hne' rfl
    · rcases ho p py with q1 | q1
      · exact h.dis _ _ _ _ ha hz' hne' p q1 pz
      · exact h.dis _ _ _ _ hb hz' (Ne.symm hm1) p q1 pz
    · rcases ho p pz with q1 | q1
      · exact h.dis _ _ _ _ hy' ha hne' p py q1
      · exact h.dis _ _ _ _ hy' hb hk1 p py q1
    · exact h.dis _ _ _ _ hy' hz' hne' p py pz
  · rintro t1 s1 (hs | ⟨rfl, rfl⟩)
    · exact h.snf t1 s1 hs
    · exact ⟨mn, by omega, md⟩
  · intro t1 s1 hs k y hy p hp
    obtain ⟨k', _, h1, _, _⟩ := mem k y hy
    rcases h1 with ⟨_, rfl⟩ | ⟨_, h1⟩
    · simp only [mv]
      rcases hs with hs | ⟨rfl, rfl⟩
      · rcases ho p hp with q1 | q1
        · have := h.most t1 s1 hs _ _ ha p q1; simp only [] at this; omega
        · have := h.most t1 s1 hs _ _ hb p q1; simp only [] at this; omega
      · rw [mv]; exact Nat.le_refl _
    · rcases hs with hs | ⟨rfl, rfl⟩
      · exact h.most t1 s1 hs _ _ h1 p hp
      · rw [mv]
        have q1 := h.most _ _ hS _ _ h1 p hp
        have q2 := h.most _ _ hS' _ _ h1 p hp
        omega
  · rintro t1 s1 (hs | ⟨rfl, rfl⟩) k hk p
    · exact h.up t1 s1 hs k hk p
    · rw [mv]
      rw [Nat.testBit_or, Bool.or_eq_true] at hk
      rcases hk with hk | hk
      · have := h.up _ _ hS k hk p; omega
      · have := h.up _ _ hS' k hk p; omega
  · rintro t1 s1 (hs | ⟨rfl, rfl⟩) p
    · exact h.sup t1 s1 hs p
    · rw [mv]
      by_cases hle : val t p ≤ val t' p
      · rw [Nat.max_eq_right hle]
        rcases h.sup _ _ hS' p with h0 | ⟨k, hk, he⟩
        · exact .inl h0
        · exact .inr ⟨k, by rw [Nat.testBit_or, hk, Bool.or_true], he⟩
      · rw [Nat.max_eq_left (by omega)]
        rcases h.sup _ _ hS p with h0 | ⟨k, hk, he⟩
        · exact .inl h0
        · exact .inr ⟨k, by rw [Nat.testBit_or, hk, Bool.true_or], he⟩
  · intro t1 s1 hs k hk t2 s2 hs2 hle
    have old : ∃ t3 s3, S t3 s3 ∧ s3.testBit k = true := by
      rcases hs with hs | ⟨rfl, rfl⟩
      · exact ⟨t1, s1, hs, hk⟩
      · rw [Nat.testBit_or, Bool.or_eq_true] at hk
        rcases hk with hk | hk
        · exact ⟨_, _, hS, hk⟩
        · exact ⟨_, _, hS', hk⟩
    obtain ⟨t3, s3, hs3, hk3⟩ := old
    rcases hs2 with hs2 | ⟨rfl, rfl⟩
    · exact h.wit t3 s3 hs3 k hk3 t2 s2 hs2 hle
    · rw [mv] at hle
      rw [Nat.testBit_or, Bool.or_eq_true]
      by_cases hcmp : u k (q k) ≤ val t (q k)
      · exact .inl (h.wit t3 s3 hs3 k hk3 _ _ hS hcmp)
      · exact .inr (h.wit t3 s3 hs3 k hk3 _ _ hS' (by omega))
  · rintro t1 s1 (hs | ⟨rfl, rfl⟩)
    · exact h.lt t1 s1 hs
    · exact Nat.or_lt_two_pow (h.lt _ _ hS) (h.lt _ _ hS')
end Go.Proofs.YthnmhdabdiennaaDoor
