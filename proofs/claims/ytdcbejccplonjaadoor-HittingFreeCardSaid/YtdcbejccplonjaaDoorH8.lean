/- The greedy hitting set, plainly: it is minimal. -/
import Derived.Test.YtdcbejccplonjaaDoorH7
namespace Go.Proofs.YtdcbejccplonjaaDoor
def hitF (sets : List Nat) (H : Nat) : Bool := sets.all fun s => !decide (s &&& H = 0)
theorem and_ne {s H : Nat} : s &&& H ≠ 0 ↔ ∃ x, H.testBit x = true ∧ s.testBit x = true := by
  rw [ne_zero_bit]
  constructor
  · rintro ⟨x, h⟩
    rw [Nat.testBit_and, Bool.and_eq_true] at h
    exact ⟨x, h.2, h.1⟩
  · rintro ⟨x, h, k⟩
    exact ⟨x, by rw [Nat.testBit_and, h, k]; rfl⟩
theorem hitF_iff {sets : List Nat} {H : Nat} : hitF sets H = true ↔ Hit H sets := by
  unfold hitF Hit
  rw [List.all_eq_true]
  constructor
  · intro h s hs
    have := h s hs
    exact and_ne.1 (by simpa using this)
  · intro h s hs
    have := and_ne.2 (h s hs)
    simpa using this
/-- How many sets that are not hit have the element. -/
def cntF (sets : List Nat) (H x : Nat) : Nat := (sets.filter fun s => decide (s &&& H = 0) && s.testBit x).length
def bestS (sets : List Nat) (H : Nat) (st : Nat × Nat) (x : Nat) : Nat × Nat := if st.2 < cntF sets H x then (x, cntF sets H x) else st
def bestF (sets : List Nat) (H : Nat) (l : List Nat) : Nat × Nat := l.foldl (bestS sets H) (0, 0)
theorem best_snoc (sets : List Nat) (H : Nat) (l : List Nat) (x : Nat) : bestF sets H (l ++ [x]) = bestS sets H (bestF sets H l) x := by simp [bestF]
theorem best_facts (sets : List Nat) (H : Nat) (l : List Nat) : ((bestF sets H l).2 = 0 → (bestF sets H l).1 = 0 ∧ ∀ x ∈ l, cntF sets H x = 0) ∧ (0 < (bestF sets H l).2 → (bestF sets H l).1 ∈ l ∧ (bestF sets H l).2 = cntF sets H (bestF sets H l).1) := by
  induction l using snoc_ind with
  | h0 => exact ⟨fun _ => ⟨rfl, by simp⟩, fun h => absurd h (by simp [bestF])⟩
  | h1 l x ih =>
    rw [best_snoc]
    unfold bestS
    split
    · rename_i h
      refine ⟨fun e => ?_, fun _ => ⟨by simp, rfl⟩⟩
      have : cntF sets H x = 0 := e
      omega
    · rename_i h
      refine ⟨fun e => ⟨(ih.1 e).1, fun y hy => ?_⟩, fun e => ⟨List.mem_append.2 (.inl (ih.2 e).1), (ih.2 e).2⟩⟩
      rcases List.mem_append.1 hy with h1 | h1
      · exact (ih.1 e).2 y h1
      · rw [List.mem_singleton.1 h1]
        omega
theorem cnt_pos {sets : List Nat} {H x : Nat} : 0 < cntF sets H x ↔ ∃ s ∈ sets, s &&& H = 0 ∧ s.testBit x = true := by
  unfold cntF
  constructor
  · intro h
    obtain ⟨s, hs⟩ := List.exists_mem_of_length_pos h
    obtain ⟨h1, h2⟩ := List.mem_filter.1 hs
    rw [Bool.and_eq_true, decide_eq_true_iff] at h2
    exact ⟨s, h1, h2.1, h2.2⟩
  · rintro ⟨s, h1, h2, h3⟩
    exact List.length_pos_of_mem (a := s) (List.mem_filter.2 ⟨h1, by rw [decide_eq_true h2, h3]; rfl⟩)
/-- The best element, where some set is not hit. -/
theorem best_ok {sets : List Nat} {H : Nat} (h0 : 0 ∉ sets) (hu : U64 sets) (hn : hitF sets H = false) : 0 < (bestF sets H (List.range 64)).2 := by
  refine Classical.byContradiction fun hc => ?_
  obtain ⟨s, hs, h1⟩ := List.all_eq_false.1 hn
  have h2 : s &&& H = 0 := by simpa using h1
  obtain ⟨x, hx⟩ := ne_zero_bit.1 (fun e => h0 (e ▸ hs) : s ≠ 0)
  have := ((best_facts sets H (List.range 64)).1 (by omega)).2 x (List.mem_range.2 (bit_lt (hu s hs) hx))
  have := cnt_pos.2 ⟨s, hs, h2, hx⟩
  omega
theorem best_new {sets : List Nat} {H : Nat} (hp : 0 < (bestF sets H (List.range 64)).2) : (bestF sets H (List.range 64)).1 < 64 ∧ H.testBit (bestF sets H (List.range 64)).1 = false := by
  obtain ⟨h1, h2⟩ := (best_facts sets H (List.range 64)).2 hp
  refine ⟨List.mem_range.1 h1, ?_⟩
  obtain ⟨s, _, h3, h4⟩ := cnt_pos.1 (h2 ▸ hp)
  cases hb : H.testBit (bestF sets H (List.range 64)).1 with
  | false => rfl
  | true => exact absurd h3 (and_ne.2 ⟨_, hb, h4⟩)
theorem card_add {H b : Nat} (hb : b < 64) (hn : H.testBit b = false) : card (H ||| 2 ^ b) = card H + 1 := by
  rw [card_or, elems_pow hb]
  rintro x ⟨h1, h2⟩
  rw [Nat.testBit_two_pow] at h2
  rw [of_decide_eq_true h2, h1] at hn
  cases hn
def growG (sets : List Nat) : Nat → Nat → Nat
  | 0, H => H
  | n + 1, H => if hitF sets H then H else growG sets n (H ||| 2 ^ (bestF sets H (List.range 64)).1)
theorem card_full {H : Nat} (h : 64 ≤ card H) {x : Nat} (hx : x < 64) : H.testBit x = true := by
  have h1 : ((List.range 64).filter fun i => H.testBit i).length = (List.range 64).length := by
    have := card_le64 H
    unfold card elems at this h
    rw [List.length_range]; omega
  exact List.length_filter_eq_length_iff.1 h1 x (List.mem_range.2 hx)
theorem full_hits {sets : List Nat} {H : Nat} (h0 : 0 ∉ sets) (hu : U64 sets) (h : 64 ≤ card H) : Hit H sets := fun s hs => by
  obtain ⟨x, hx⟩ := ne_zero_bit.1 (fun e => h0 (e ▸ hs) : s ≠ 0)
  exact ⟨x, card_full h (bit_lt (hu s hs) hx), hx⟩
theorem grow_ok {sets : List Nat} (h0 : 0 ∉ sets) (hu : U64 sets) : ∀ (n H : Nat), H < 2 ^ 64 → 64 ≤ card H + n → Hit (growG sets n H) sets ∧ growG sets n H < 2 ^ 64 := by
  intro n
  induction n with
  | zero =>
    intro H hH hc
    have : 64 ≤ card H := by omega
    exact ⟨full_hits h0 hu this, hH⟩
  | succ n ih =>
    intro H hH hc
    rw [growG]
    cases hh : hitF sets H with
    | true => exact ⟨hitF_iff.1 hh, hH⟩
    | false =>
      obtain ⟨h1, h2⟩ := best_new (best_ok h0 hu hh)
      have := card_add h1 h2
      exact ih _ (or_pow_lt hH h1) (by omega)
def trimG (sets : List Nat) : Nat → Nat → Nat
  | 0, H => H
  | x + 1, H => trimG sets x (if hitF sets (dif H (2 ^ x)) then dif H (2 ^ x) else H)
theorem Crit.sub {G H y : Nat} {sets : List Nat} (h : Crit H sets y) (hs : Sub G H) : Crit G sets y := by
  obtain ⟨s, h1, h2, h3⟩ := h
  exact ⟨s, h1, h2, fun z hz hsz => h3 z (hs z hz) hsz⟩
theorem dif_pow_bit {H x y : Nat} : (dif H (2 ^ x)).testBit y = true ↔ H.testBit y = true ∧ y ≠ x := by
  rw [dif_bit, Nat.testBit_two_pow, Bool.and_eq_true]
  simp
  intro _
  omega
theorem crit_of_not {sets : List Nat} {H x : Nat} (h : Hit H sets) (hn : ¬ Hit (dif H (2 ^ x)) sets) : Crit H sets x := by
  unfold Hit at hn
  obtain ⟨s, hs0⟩ := Classical.not_forall.1 hn
  obtain ⟨hs, hk⟩ := Classical.not_imp.1 hs0
  obtain ⟨y, hy, hsy⟩ := h s hs
  have only : ∀ y, H.testBit y = true → s.testBit y = true → y = x := fun y hy hsy =>
    Classical.byContradiction fun hne => hk ⟨y, dif_pow_bit.2 ⟨hy, hne⟩, hsy⟩
  exact ⟨s, hs, by rw [← only y hy hsy]; exact hsy, only⟩
theorem trim_ok {sets : List Nat} : ∀ (k H : Nat), H < 2 ^ 64 → Hit H sets → (∀ y, k ≤ y → H.testBit y = true → Crit H sets y) → Min (trimG sets k H) sets ∧ trimG sets k H < 2 ^ 64 := by
  intro k
  induction k with
  | zero => exact fun H hH h hc => ⟨⟨h, fun y hy => hc y (by omega) hy⟩, hH⟩
  | succ x ih =>
    intro H hH h hc
    rw [trimG]
    cases hh : hitF sets (dif H (2 ^ x)) with
    | true =>
      rw [if_pos rfl]
      refine ih _ (lt_of_bits fun i hi => bit_lt hH (dif_pow_bit.1 hi).1) (hitF_iff.1 hh) fun y hy hb => ?_
      obtain ⟨h1, h2⟩ := dif_pow_bit.1 hb
      exact (hc y (by omega) h1).sub fun z hz => (dif_pow_bit.1 hz).1
    | false =>
      rw [if_neg (by simp)]
      refine ih _ hH h fun y hy hb => ?_
      rcases Nat.lt_or_ge x y with h1 | h1
      · exact hc y (by omega) hb
      · have : y = x := by omega
        subst this
        exact crit_of_not h fun h2 => by rw [hitF_iff.2 h2] at hh; cases hh
/-- What Greedy returns. -/
def greedyF (sets : List Nat) : Nat := trimG sets 64 (growG sets 64 0)
theorem greedy_min {sets : List Nat} (h0 : 0 ∉ sets) (hu : U64 sets) : Min (greedyF sets) sets ∧ greedyF sets < 2 ^ 64 := by
  obtain ⟨h1, h2⟩ := grow_ok h0 hu 64 0 (by decide) (by omega)
  refine trim_ok 64 _ h2 h1 fun y hy hb => ?_
  have := bit_lt h2 hb
  omega
end Go.Proofs.YtdcbejccplonjaaDoor
