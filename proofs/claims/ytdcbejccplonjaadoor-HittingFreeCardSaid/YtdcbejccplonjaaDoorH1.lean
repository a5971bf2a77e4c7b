/- Sets of numbers below 64 as masks, and the search of minimal hitting sets, in plain terms. No program in sight. -/
namespace Go.Proofs.YtdcbejccplonjaaDoor
/-- a without b. -/
def dif (a b : Nat) : Nat := a ^^^ (a &&& b)
theorem dif_bit (a b i : Nat) : (dif a b).testBit i = (a.testBit i && !b.testBit i) := by
  unfold dif; rw [Nat.testBit_xor, Nat.testBit_and]; cases a.testBit i <;> cases b.testBit i <;> rfl
theorem bit_lt {m x : Nat} (hm : m < 2 ^ 64) (h : m.testBit x = true) : x < 64 := by
  rcases Nat.lt_or_ge x 64 with h1 | h1
  · exact h1
  · have : m < 2 ^ x := Nat.lt_of_lt_of_le hm (Nat.pow_le_pow_right (by decide) h1)
    rw [Nat.testBit_lt_two_pow this] at h; cases h
theorem ext_bit {a b : Nat} (h : ∀ i, a.testBit i = true ↔ b.testBit i = true) : a = b := Nat.eq_of_testBit_eq fun i => by
  have := h i
  cases ha : a.testBit i <;> cases hb : b.testBit i <;> simp_all
theorem zero_bit {a : Nat} : a = 0 ↔ ∀ i, a.testBit i = false := ⟨fun h i => by rw [h]; exact Nat.zero_testBit i, fun h => Nat.eq_of_testBit_eq fun i => by rw [h i, Nat.zero_testBit]⟩
theorem ne_zero_bit {a : Nat} : a ≠ 0 ↔ ∃ i, a.testBit i = true := by
  constructor
  · intro h
    rcases Classical.em (∃ i, a.testBit i = true) with h1 | h1
    · exact h1
    · exact absurd (zero_bit.2 fun i => by cases ha : a.testBit i with | false => rfl | true => exact absurd ⟨i, ha⟩ h1) h
  · rintro ⟨i, hi⟩ h; rw [h, Nat.zero_testBit] at hi; cases hi
theorem lt_of_bits {m n : Nat} (h : ∀ i, m.testBit i = true → i < n) : m < 2 ^ n := by
  apply Nat.lt_pow_two_of_testBit
  intro i hi
  cases hm : m.testBit i with
  | false => rfl
  | true => have := h i hm; omega
/-- The mask of a list of numbers. -/
def maskOf (l : List Nat) : Nat := l.foldl (fun m x => m ||| 2 ^ x) 0
theorem foldl_bit (l : List Nat) : ∀ (m i : Nat), (l.foldl (fun m x => m ||| 2 ^ x) m).testBit i = (m.testBit i || decide (i ∈ l)) := by
  induction l with
  | nil => intro m i; simp
  | cons a l ih =>
    intro m i
    rw [List.foldl_cons, ih, Nat.testBit_or, Nat.testBit_two_pow]
    cases m.testBit i <;> simp [eq_comm]
theorem maskOf_bit (l : List Nat) (i : Nat) : (maskOf l).testBit i = decide (i ∈ l) := by unfold maskOf; rw [foldl_bit]; simp
theorem maskOf_snoc (l : List Nat) (x : Nat) : maskOf (l ++ [x]) = maskOf l ||| 2 ^ x := by simp [maskOf]
theorem maskOf_lt {l : List Nat} {n : Nat} (h : ∀ x ∈ l, x < n) : maskOf l < 2 ^ n := lt_of_bits fun i hi => h i (by simpa [maskOf_bit] using hi)
/-- The elements of a mask, in order. -/
def elems (m : Nat) : List Nat := (List.range 64).filter fun i => m.testBit i
theorem mem_elems {m x : Nat} : x ∈ elems m ↔ x < 64 ∧ m.testBit x = true := by simp [elems]
theorem elems_nodup (m : Nat) : (elems m).Nodup := List.Nodup.sublist List.filter_sublist List.nodup_range
theorem mem_elems' {m x : Nat} (hm : m < 2 ^ 64) : x ∈ elems m ↔ m.testBit x = true := by rw [mem_elems]; exact ⟨fun h => h.2, fun h => ⟨bit_lt hm h, h⟩⟩
theorem maskOf_elems {m : Nat} (hm : m < 2 ^ 64) : maskOf (elems m) = m := ext_bit fun i => by rw [maskOf_bit, decide_eq_true_iff, mem_elems' hm]
/-- How many elements. -/
def card (m : Nat) : Nat := (elems m).length
def Sub (a b : Nat) : Prop := ∀ x, a.testBit x = true → b.testBit x = true
theorem Sub.refl (a : Nat) : Sub a a := fun _ h => h
theorem Sub.trans {a b c : Nat} (h : Sub a b) (k : Sub b c) : Sub a c := fun x hx => k x (h x hx)
theorem Sub.antisymm {a b : Nat} (h : Sub a b) (k : Sub b a) : a = b := ext_bit fun i => ⟨h i, k i⟩
theorem length_filter_add (l : List Nat) (p q r : Nat → Bool) (h : ∀ x ∈ l, r x = (p x || q x)) (hd : ∀ x ∈ l, ¬(p x = true ∧ q x = true)) : (l.filter r).length = (l.filter p).length + (l.filter q).length := by
  induction l with
  | nil => simp
  | cons a l ih =>
    have ih' := ih (fun x hx => h x (List.mem_cons_of_mem _ hx)) (fun x hx => hd x (List.mem_cons_of_mem _ hx))
    have h1 := h a (List.mem_cons_self)
    have h2 := hd a (List.mem_cons_self)
    simp only [List.filter_cons, h1]
    cases hp : p a <;> cases hq : q a <;> simp_all <;> omega
theorem card_or {a b : Nat} (hd : ∀ x, ¬(a.testBit x = true ∧ b.testBit x = true)) : card (a ||| b) = card a + card b :=
  length_filter_add _ _ _ _ (fun x _ => Nat.testBit_or a b x) (fun x _ => hd x)
theorem card_le {a b : Nat} (h : Sub a b) : card a ≤ card b := by
  have e : b = a ||| dif b a := ext_bit fun i => by
    have := h i
    rw [Nat.testBit_or, dif_bit]
    cases ha : a.testBit i <;> cases hb : b.testBit i <;> simp_all
  rw [e, card_or fun x => by rw [dif_bit]; cases a.testBit x <;> simp]
  omega
theorem card_pos {a x : Nat} (hx : x < 64) (h : a.testBit x = true) : 0 < card a := List.length_pos_of_mem (mem_elems.2 ⟨hx, h⟩)
theorem card_le64 (a : Nat) : card a ≤ 64 := by
  have := List.length_filter_le (fun i => a.testBit i) (List.range 64)
  rw [List.length_range] at this
  exact this
theorem elems_pow {x : Nat} (hx : x < 64) : card (2 ^ x) = 1 := by
  unfold card elems
  have : (List.range 64).filter (fun i => (2 ^ x).testBit i) = [x] := by
    have e : (fun i => (2 ^ x).testBit i) = fun i => i == x := by funext i; rw [Nat.testBit_two_pow]; simp [eq_comm, BEq.beq]
    rw [e]
    have : ∀ n, x < n → (List.range n).filter (fun i => i == x) = [x] := by
      intro n
      induction n with
      | zero => intro h; omega
      | succ n ih =>
        intro h
        rw [List.range_succ, List.filter_append]
        rcases Nat.lt_or_ge x n with h1 | h1
        · rw [ih h1]; simp; omega
        · have hx : x = n := by omega
          subst hx
          have : (List.range x).filter (fun i => i == x) = [] := by
            rw [List.filter_eq_nil_iff]; intro a ha; simp at ha ⊢; omega
          rw [this]; simp
    exact this 64 hx
  rw [this]; rfl
theorem snoc_ind {α : Type} {P : List α → Prop} (h0 : P []) (h1 : ∀ l x, P l → P (l ++ [x])) (l : List α) : P l := by
  rw [← l.reverse_reverse]
  induction l.reverse with
  | nil => exact h0
  | cons x l ih => rw [List.reverse_cons]; exact h1 _ _ ih
theorem card_maskOf : ∀ {l : List Nat}, l.Nodup → (∀ x ∈ l, x < 64) → card (maskOf l) = l.length := by
  intro l
  refine snoc_ind (P := fun l : List Nat => l.Nodup → (∀ x ∈ l, x < 64) → card (maskOf l) = l.length) ?_ ?_ l
  · intro _ _; decide
  · intro l x ih hn hb
    rw [List.nodup_append] at hn
    rw [maskOf_snoc, card_or, ih hn.1 (fun y hy => hb y (by simp [hy])), elems_pow (hb x (by simp))]
    · simp
    · intro y hy
      rw [maskOf_bit, Nat.testBit_two_pow] at hy
      simp at hy
      have := hn.2.2 y hy.1 x (by simp)
      omega

/-! ### Hitting sets -/
/-- H has an element of each set. -/
def Hit (H : Nat) (sets : List Nat) : Prop := ∀ s ∈ sets, ∃ x, H.testBit x = true ∧ s.testBit x = true
/-- x is the only element of H in some set. -/
def Crit (H : Nat) (sets : List Nat) (x : Nat) : Prop := ∃ s ∈ sets, s.testBit x = true ∧ ∀ y, H.testBit y = true → s.testBit y = true → y = x
/-- A minimal hitting set. -/
structure Min (H : Nat) (sets : List Nat) : Prop where
  hit : Hit H sets
  crit : ∀ x, H.testBit x = true → Crit H sets x
theorem Hit.mono {H G : Nat} {sets : List Nat} (h : Hit H sets) (k : Sub H G) : Hit G sets := fun s hs => by
  obtain ⟨x, h1, h2⟩ := h s hs
  exact ⟨x, k x h1, h2⟩
theorem Min.sub {H G : Nat} {sets : List Nat} (h : Min H sets) (hg : Hit G sets) (k : Sub G H) : G = H := by
  refine Sub.antisymm k fun x hx => ?_
  obtain ⟨s, hs, _, h2⟩ := h.crit x hx
  obtain ⟨y, h3, h4⟩ := hg s hs
  have := h2 y (k y h3) h4
  rw [← this]; exact h3
/-- The places of the sets that have x. -/
def hav (sets : List Nat) (x : Nat) : Nat := maskOf ((List.range sets.length).filter fun i => (sets.getD i 0).testBit x)
theorem hav_bit {sets : List Nat} {x i : Nat} : (hav sets x).testBit i = true ↔ i < sets.length ∧ (sets.getD i 0).testBit x = true := by simp [hav, maskOf_bit]
/-- The places of the sets that are not hit by a list of elements. -/
def opnF (sets els : List Nat) : Nat := maskOf ((List.range sets.length).filter fun i => els.all fun y => !(sets.getD i 0).testBit y)
theorem opn_bit {sets els : List Nat} {i : Nat} : (opnF sets els).testBit i = true ↔ i < sets.length ∧ ∀ y ∈ els, (sets.getD i 0).testBit y = false := by simp [opnF, maskOf_bit]
/-- The places of the sets for which e is critical. -/
def critF (sets els : List Nat) (e : Nat) : Nat := maskOf ((List.range sets.length).filter fun i => (sets.getD i 0).testBit e && els.all fun y => !(sets.getD i 0).testBit y || y == e)
theorem crit_bit {sets els : List Nat} {e i : Nat} : (critF sets els e).testBit i = true ↔ i < sets.length ∧ (sets.getD i 0).testBit e = true ∧ ∀ y ∈ els, (sets.getD i 0).testBit y = true → y = e := by
  simp only [critF, maskOf_bit, decide_eq_true_eq, List.mem_filter, List.mem_range, Bool.and_eq_true, List.all_eq_true, Bool.or_eq_true, Bool.not_eq_true', beq_iff_eq]
  constructor
  · rintro ⟨h1, h2, h3⟩
    refine ⟨h1, h2, fun y hy hb => ?_⟩
    rcases h3 y hy with h | h
    · rw [h] at hb; cases hb
    · exact h
  · rintro ⟨h1, h2, h3⟩
    refine ⟨h1, h2, fun y hy => ?_⟩
    cases hb : (sets.getD i 0).testBit y with
    | false => exact .inl rfl
    | true => exact .inr (h3 y hy hb)
theorem opn_step {sets els : List Nat} {x : Nat} : dif (opnF sets els) (hav sets x) = opnF sets (els ++ [x]) := ext_bit fun i => by
  rw [dif_bit, Bool.and_eq_true, opn_bit, opn_bit, Bool.not_eq_true']
  have := @hav_bit sets x i
  constructor
  · rintro ⟨⟨h1, h2⟩, h3⟩
    refine ⟨h1, fun y hy => ?_⟩
    rcases List.mem_append.1 hy with hy | hy
    · exact h2 y hy
    · have : y = x := by simpa using hy
      subst this
      cases hb : (sets.getD i 0).testBit y with
      | false => rfl
      | true => rw [this.2 ⟨h1, hb⟩] at h3; cases h3
  · rintro ⟨h1, h2⟩
    refine ⟨⟨h1, fun y hy => h2 y (by simp [hy])⟩, ?_⟩
    cases hb : (hav sets x).testBit i with
    | false => rfl
    | true => have h3 := (this.1 hb).2; rw [h2 x (by simp)] at h3; cases h3
theorem crit_step {sets els : List Nat} {x e : Nat} (hne : x ≠ e) : dif (critF sets els e) (hav sets x) = critF sets (els ++ [x]) e := ext_bit fun i => by
  rw [dif_bit, Bool.and_eq_true, crit_bit, crit_bit, Bool.not_eq_true']
  have := @hav_bit sets x i
  constructor
  · rintro ⟨⟨h1, h2, h4⟩, h3⟩
    refine ⟨h1, h2, fun y hy hb => ?_⟩
    rcases List.mem_append.1 hy with hy | hy
    · exact h4 y hy hb
    · have : y = x := by simpa using hy
      subst this
      rw [this.2 ⟨h1, hb⟩] at h3; cases h3
  · rintro ⟨h1, h2, h4⟩
    refine ⟨⟨h1, h2, fun y hy => h4 y (by simp [hy])⟩, ?_⟩
    cases hb : (hav sets x).testBit i with
    | false => rfl
    | true => exact absurd (h4 x (by simp) (this.1 hb).2) hne
theorem crit_new {sets els : List Nat} {x : Nat} (hx : x ∉ els) : opnF sets els &&& hav sets x = critF sets (els ++ [x]) x := ext_bit fun i => by
  rw [Nat.testBit_and, Bool.and_eq_true, opn_bit, crit_bit, hav_bit]
  constructor
  · rintro ⟨⟨h1, h2⟩, _, h3⟩
    refine ⟨h1, h3, fun y hy hb => ?_⟩
    rcases List.mem_append.1 hy with hy | hy
    · rw [h2 y hy] at hb; cases hb
    · simpa using hy
  · rintro ⟨h1, h2, h3⟩
    refine ⟨⟨h1, fun y hy => ?_⟩, h1, h2⟩
    cases hb : (sets.getD i 0).testBit y with
    | false => rfl
    | true => have := h3 y (by simp [hy]) hb; subst this; exact absurd hy hx
theorem opn_lt {sets els : List Nat} (h : sets.length ≤ 64) : opnF sets els < 2 ^ 64 := lt_of_bits fun i hi => by have := (opn_bit.1 hi).1; omega
theorem crit_lt {sets els : List Nat} {e : Nat} (h : sets.length ≤ 64) : critF sets els e < 2 ^ 64 := lt_of_bits fun i hi => by have := (crit_bit.1 hi).1; omega
theorem hav_lt {sets : List Nat} {x : Nat} (h : sets.length ≤ 64) : hav sets x < 2 ^ 64 := lt_of_bits fun i hi => by have := (hav_bit.1 hi).1; omega
/-- One step of look: place, few, used, least. -/
def lookS (sets : List Nat) (A : Nat) (st : Nat × Nat × Nat × Nat) (i : Nat) : Nat × Nat × Nat × Nat :=
  let a := sets.getD i 0 &&& A
  let p := if card a < st.2.1 then (i, card a) else (st.1, st.2.1)
  if a &&& st.2.2.1 = 0 then (p.1, p.2, st.2.2.1 ||| a, st.2.2.2 + 1) else (p.1, p.2, st.2.2.1, st.2.2.2)
def look (sets : List Nat) (A : Nat) (l : List Nat) : Nat × Nat × Nat × Nat := l.foldl (lookS sets A) (0, 65, 0, 0)
theorem look_facts {sets : List Nat} {A : Nat} (hA : A < 2 ^ 64) (l : List Nat) :
    (l ≠ [] → (look sets A l).1 ∈ l) ∧ (look sets A l).2.1 ≤ 65 ∧ (l ≠ [] → 1 ≤ (look sets A l).2.2.2) ∧ (look sets A l).2.2.2 ≤ l.length ∧ Sub (look sets A l).2.2.1 A ∧
    (∀ H, (∀ i ∈ l, ∃ x, H.testBit x = true ∧ (sets.getD i 0 &&& A).testBit x = true) → (look sets A l).2.2.2 ≤ card (H &&& (look sets A l).2.2.1)) ∧ (l = [] → look sets A l = (0, 65, 0, 0)) ∧ ((look sets A l).2.1 = 65 → l = []) := by
  refine snoc_ind (P := fun l => (l ≠ [] → (look sets A l).1 ∈ l) ∧ (look sets A l).2.1 ≤ 65 ∧ (l ≠ [] → 1 ≤ (look sets A l).2.2.2) ∧ (look sets A l).2.2.2 ≤ l.length ∧ Sub (look sets A l).2.2.1 A ∧
    (∀ H, (∀ i ∈ l, ∃ x, H.testBit x = true ∧ (sets.getD i 0 &&& A).testBit x = true) → (look sets A l).2.2.2 ≤ card (H &&& (look sets A l).2.2.1)) ∧ (l = [] → look sets A l = (0, 65, 0, 0)) ∧ ((look sets A l).2.1 = 65 → l = [])) ?_ ?_ l
  · refine ⟨fun h => absurd rfl h, Nat.le_refl _, fun h => absurd rfl h, by simp [look], fun x hx => by simp [look] at hx, fun H _ => by simp [look], fun _ => rfl, fun _ => rfl⟩
  · intro l i ⟨h1, h2, h3, h4, h5, h6, h7, h8⟩
    have e : look sets A (l ++ [i]) = lookS sets A (look sets A l) i := by simp [look]
    rw [e]
    generalize look sets A l = st at *
    obtain ⟨p, f, u, k⟩ := st
    simp only [] at h1 h2 h3 h4 h5 h6 h7 h8
    have hc := card_le64 (sets.getD i 0 &&& A)
    unfold lookS
    simp only []
    have hpl : (if card (sets.getD i 0 &&& A) < f then (i, card (sets.getD i 0 &&& A)) else (p, f)).1 ∈ l ++ [i] := by
      split
      · simp
      · rename_i hn
        by_cases hl : l = []
        · have := h7 hl; simp at this; omega
        · simp [h1 hl]
    have hfl : (if card (sets.getD i 0 &&& A) < f then (i, card (sets.getD i 0 &&& A)) else (p, f)).2 ≤ 64 := by
      split
      · simpa using hc
      · rename_i hn; simp only []; omega
    by_cases hz : sets.getD i 0 &&& A &&& u = 0
    · rw [if_pos hz]
      simp only []
      refine ⟨fun _ => hpl, by omega, fun _ => by omega, by simp; omega, ?_, ?_, fun h => by simp at h, fun h => by omega⟩
      · intro x hx
        rw [Nat.testBit_or, Bool.or_eq_true] at hx
        rcases hx with hx | hx
        · exact h5 x hx
        · rw [Nat.testBit_and, Bool.and_eq_true] at hx; exact hx.2
      · intro H hH
        have b1 := h6 H fun j hj => hH j (by simp [hj])
        obtain ⟨x, x1, x2⟩ := hH i (by simp)
        have e2 : H &&& (u ||| (sets.getD i 0 &&& A)) = (H &&& u) ||| (H &&& (sets.getD i 0 &&& A)) := Nat.and_or_distrib_left ..
        rw [e2, card_or]
        · have : 0 < card (H &&& (sets.getD i 0 &&& A)) := card_pos (x := x) (bit_lt hA (by rw [Nat.testBit_and, Bool.and_eq_true] at x2; exact x2.2)) (by rw [Nat.testBit_and, x1, x2]; rfl)
          omega
        · rintro y ⟨y1, y2⟩
          have := zero_bit.1 hz y
          simp only [Nat.testBit_and, Bool.and_eq_true] at y1 y2 this
          rw [y2.2.1, y2.2.2, y1.2] at this
          cases this
    · rw [if_neg hz]
      simp only []
      refine ⟨fun _ => hpl, by omega, fun _ => ?_, by simp; omega, h5, fun H hH => h6 H fun j hj => hH j (by simp [hj]), fun h => by simp at h, fun h => by omega⟩
      by_cases hl : l = []
      · exfalso
        apply hz
        subst hl
        have := h7 rfl
        simp at this
        rw [this.2.2.1]; simp
      · exact h3 hl

/-- The search: fuel, the chosen elements, the allowed ones, what is found. -/
def loopF (f : Nat → Nat → List Nat → List Nat) (limit : Nat) : List Nat → Nat → List Nat → List Nat
  | [], _, found => found
  | x :: xs, A, found => if limit < (f x A found).length then f x A found else loopF f limit xs (A ||| 2 ^ x) (f x A found)
def runF (sets : List Nat) (most limit : Nat) : Nat → List Nat → Nat → List Nat → List Nat
  | 0, _, _, found => found
  | n + 1, els, A, found =>
    if opnF sets els = 0 then found ++ [maskOf els] else
    if most < els.length + (look sets A (elems (opnF sets els))).2.2.2 then found else
    loopF (fun x A' fd => if els.any (fun e => decide (critF sets (els ++ [x]) e = 0)) then fd else runF sets most limit n (els ++ [x]) A' fd) limit
      (elems (sets.getD (look sets A (elems (opnF sets els))).1 0 &&& A)) (dif A (sets.getD (look sets A (elems (opnF sets els))).1 0 &&& A)) found
/-- What a search adds: P tells which sets it may add. -/
structure Adds (P : Nat → Prop) (limit : Nat) (found found' : List Nat) : Prop where
  new : ∃ l, found' = found ++ l ∧ l.Nodup ∧ (∀ H ∈ l, P H) ∧ (found'.length ≤ limit → ∀ H, P H → H ∈ l)
theorem Adds.none {P : Nat → Prop} {limit : Nat} {found : List Nat} (h : ∀ H, ¬ P H) : Adds P limit found found := ⟨[], by simp, List.nodup_nil, by simp, fun _ H hH => absurd hH (h H)⟩
theorem Adds.one {P : Nat → Prop} {limit : Nat} {found : List Nat} (G : Nat) (h : ∀ H, P H ↔ H = G) : Adds P limit found (found ++ [G]) := ⟨[G], rfl, by simp, by simp [h], fun _ H hH => by simp [(h H).1 hH]⟩
/-- What a search with the chosen elements els and the allowed ones A looks for. -/
structure Ok (sets : List Nat) (most : Nat) (els : List Nat) (A H : Nat) : Prop where
  min : Min H sets
  has : Sub (maskOf els) H
  only : ∀ y, H.testBit y = true → y ∈ els ∨ A.testBit y = true
  size : card H ≤ most
structure OkL (sets : List Nat) (most : Nat) (els xs : List Nat) (A H : Nat) : Prop where
  min : Min H sets
  has : Sub (maskOf els) H
  only : ∀ y, H.testBit y = true → y ∈ els ∨ A.testBit y = true ∨ y ∈ xs
  some : ∃ x ∈ xs, H.testBit x = true
  size : card H ≤ most
theorem Adds.congr {P Q : Nat → Prop} {limit : Nat} {found found' : List Nat} (h : Adds P limit found found') (e : ∀ H, P H ↔ Q H) : Adds Q limit found found' := by
  obtain ⟨l, h1, h2, h3, h4⟩ := h.new
  exact ⟨l, h1, h2, fun H hH => (e H).1 (h3 H hH), fun hl H hH => h4 hl H ((e H).2 hH)⟩
theorem mask_snoc_bit {l : List Nat} {x y : Nat} : (maskOf (l ++ [x])).testBit y = true ↔ y ∈ l ∨ y = x := by rw [maskOf_bit]; simp
theorem or_pow_bit {A x y : Nat} : (A ||| 2 ^ x).testBit y = true ↔ A.testBit y = true ∨ y = x := by
  rw [Nat.testBit_or, Nat.testBit_two_pow, Bool.or_eq_true, decide_eq_true_eq]; exact or_congr Iff.rfl ⟨Eq.symm, Eq.symm⟩
theorem or_pow_lt {A x : Nat} (hA : A < 2 ^ 64) (hx : x < 64) : A ||| 2 ^ x < 2 ^ 64 := lt_of_bits fun i hi => by
  rcases or_pow_bit.1 hi with h | h
  · exact bit_lt hA h
  · omega
theorem loop_adds {sets els : List Nat} {most limit : Nat} {f : Nat → Nat → List Nat → List Nat} {W : Nat → Prop}
    (hf : ∀ x A fd, x < 64 → x ∉ els → (∀ y ∈ els ++ [x], A.testBit y = false) → A < 2 ^ 64 → W x → Adds (Ok sets most (els ++ [x]) A) limit fd (f x A fd)) :
    ∀ (xs : List Nat) (A : Nat) (found : List Nat), xs.Nodup → (∀ x ∈ xs, x < 64 ∧ x ∉ els ∧ A.testBit x = false ∧ W x) → (∀ y ∈ els, A.testBit y = false) → A < 2 ^ 64 →
      Adds (OkL sets most els xs A) limit found (loopF f limit xs A found) := by
  intro xs
  induction xs with
  | nil => intro A found _ _ _ _; exact Adds.none fun H h => by obtain ⟨x, hx, _⟩ := h.some; cases hx
  | cons x xs ih =>
    intro A found hn hx hA hA64
    obtain ⟨x1, x2, x3, x4⟩ := hx x (by simp)
    rw [List.nodup_cons] at hn
    obtain ⟨l1, e1, n1, p1, c1⟩ := (hf x A found x1 x2 (fun y hy => by
      rcases List.mem_append.1 hy with hy | hy
      · exact hA y hy
      · have : y = x := by simpa using hy
        rw [this]; exact x3) hA64 x4).new
    have q1 : ∀ H ∈ l1, OkL sets most els (x :: xs) A H ∧ ∀ y ∈ xs, H.testBit y = false := by
      intro H hH
      obtain ⟨a, b, c, d⟩ := p1 H hH
      refine ⟨⟨a, fun y hy => b y (by rw [mask_snoc_bit]; rw [maskOf_bit] at hy; left; simpa using hy), fun y hy => ?_, ⟨x, by simp, b x (by rw [mask_snoc_bit]; right; rfl)⟩, d⟩, fun y hy => ?_⟩
      · rcases c y hy with h | h
        · rcases List.mem_append.1 h with h | h
          · exact .inl h
          · right; right; simp at h; simp [h]
        · exact .inr (.inl h)
      · cases hb : H.testBit y with
        | false => rfl
        | true =>
          obtain ⟨_, y2, y3, _⟩ := hx y (by simp [hy])
          rcases c y hb with h | h
          · rcases List.mem_append.1 h with h | h
            · exact absurd h y2
            · have : y = x := by simpa using h
              subst this; exact absurd hy hn.1
          · rw [y3] at h; cases h
    rw [loopF]
    by_cases hl : limit < (f x A found).length
    · rw [if_pos hl]
      exact ⟨l1, e1, n1, fun H hH => (q1 H hH).1, fun h => by omega⟩
    · rw [if_neg hl]
      obtain ⟨l2, e2, n2, p2, c2⟩ := (ih (A ||| 2 ^ x) (f x A found) hn.2 (fun y hy => by
        obtain ⟨y1, y2, y3, y4⟩ := hx y (by simp [hy])
        refine ⟨y1, y2, ?_, y4⟩
        cases hb : (A ||| 2 ^ x).testBit y with
        | false => rfl
        | true =>
          rcases or_pow_bit.1 hb with h | h
          · rw [y3] at h; cases h
          · subst h; exact absurd hy hn.1) (fun y hy => by
        cases hb : (A ||| 2 ^ x).testBit y with
        | false => rfl
        | true =>
          rcases or_pow_bit.1 hb with h | h
          · rw [hA y hy] at h; cases h
          · subst h; exact absurd hy x2) (or_pow_lt hA64 x1)).new
      refine ⟨l1 ++ l2, by rw [e2, e1, List.append_assoc], ?_, ?_, ?_⟩
      · rw [List.nodup_append]
        refine ⟨n1, n2, fun H h1 G h2 he => ?_⟩
        subst he
        obtain ⟨y, hy, hb⟩ := (p2 H h2).some
        rw [(q1 H h1).2 y hy] at hb; cases hb
      · intro H hH
        rcases List.mem_append.1 hH with h | h
        · exact (q1 H h).1
        · obtain ⟨a, b, c, ⟨y, hy, hb⟩, d⟩ := p2 H h
          refine ⟨a, b, fun z hz => ?_, ⟨y, by simp [hy], hb⟩, d⟩
          rcases c z hz with h | h | h
          · exact .inl h
          · rcases or_pow_bit.1 h with h | h
            · exact .inr (.inl h)
            · right; right; simp [h]
          · right; right; simp [h]
      · intro hlen H hH
        rw [List.mem_append]
        by_cases hs : ∃ y ∈ xs, H.testBit y = true
        · right
          refine c2 hlen H ⟨hH.min, hH.has, fun z hz => ?_, hs, hH.size⟩
          rcases hH.only z hz with h | h | h
          · exact .inl h
          · exact .inr (.inl (or_pow_bit.2 (.inl h)))
          · rcases List.mem_cons.1 h with h | h
            · exact .inr (.inl (or_pow_bit.2 (.inr h)))
            · exact .inr (.inr h)
        · left
          have hxb : H.testBit x = true := by
            obtain ⟨y, hy, hb⟩ := hH.some
            rcases List.mem_cons.1 hy with h | h
            · rw [← h]; exact hb
            · exact absurd ⟨y, h, hb⟩ hs
          refine c1 (by omega) H ⟨hH.min, fun y hy => ?_, fun y hy => ?_, hH.size⟩
          · rcases mask_snoc_bit.1 hy with h | h
            · exact hH.has y (by rw [maskOf_bit]; simpa using h)
            · rw [h]; exact hxb
          · rcases hH.only y hy with h | h | h
            · left; simp [h]
            · exact .inr h
            · rcases List.mem_cons.1 h with h | h
              · left; simp [h]
              · exact absurd ⟨y, h, hy⟩ hs
theorem getD_mem {sets : List Nat} {i : Nat} (h : i < sets.length) : sets.getD i 0 ∈ sets := by
  rw [List.getD_eq_getElem?_getD, List.getElem?_eq_getElem h]; exact List.getElem_mem h
theorem mem_getD {sets : List Nat} {s : Nat} (h : s ∈ sets) : ∃ i, i < sets.length ∧ sets.getD i 0 = s := by
  obtain ⟨i, hi, e⟩ := List.mem_iff_getElem.1 h
  exact ⟨i, hi, by rw [List.getD_eq_getElem?_getD, List.getElem?_eq_getElem hi, ← e]; rfl⟩
theorem run_adds {sets : List Nat} {most limit : Nat} (hlen : sets.length ≤ 64) :
    ∀ (n : Nat) (els : List Nat) (A : Nat) (found : List Nat), els.Nodup → (∀ e ∈ els, e < 64) → (∀ e ∈ els, A.testBit e = false) → A < 2 ^ 64 → (∀ e ∈ els, critF sets els e ≠ 0) → card (opnF sets els) < n → els.length ≤ most →
      Adds (Ok sets most els A) limit found (runF sets most limit n els A found) := by
  intro n
  induction n with
  | zero => intro _ _ _ _ _ _ _ _ h; omega
  | succ n ih =>
    intro els A found en eb eA hA ec hc hm
    have hob := opn_lt (els := els) hlen
    have cS := card_maskOf en eb
    rw [runF]
    by_cases h0 : opnF sets els = 0
    · rw [if_pos h0]
      have hS : Hit (maskOf els) sets := fun s hs' => by
        obtain ⟨i, hi, e⟩ := mem_getD hs'
        rcases Classical.em (∃ x, (maskOf els).testBit x = true ∧ s.testBit x = true) with h | h
        · exact h
        · exfalso
          have := zero_bit.1 h0 i
          rw [opn_bit.2 ⟨hi, fun y hy => by
            cases hb : (sets.getD i 0).testBit y with
            | false => rfl
            | true => exact absurd ⟨y, by rw [maskOf_bit]; simpa using hy, by rw [← e]; exact hb⟩ h⟩] at this
          cases this
      have hM : Min (maskOf els) sets := ⟨hS, fun x hx => by
        have hx' : x ∈ els := by rw [maskOf_bit] at hx; simpa using hx
        obtain ⟨i, hi⟩ := ne_zero_bit.1 (ec x hx')
        obtain ⟨i1, i2, i3⟩ := crit_bit.1 hi
        exact ⟨_, getD_mem i1, i2, fun y hy => i3 y (by rw [maskOf_bit] at hy; simpa using hy)⟩⟩
      refine Adds.one _ fun H => ⟨fun h => (h.min.sub hS h.has).symm, fun h => ?_⟩
      subst h
      exact ⟨hM, Sub.refl _, fun y hy => .inl (by rw [maskOf_bit] at hy; simpa using hy), by omega⟩
    · rw [if_neg h0]
      have hne : elems (opnF sets els) ≠ [] := fun h => by
        obtain ⟨i, hi⟩ := ne_zero_bit.1 h0
        have := (mem_elems' hob).2 hi
        rw [h] at this; cases this
      obtain ⟨l1, -, l3, -, l5, l6, -, -⟩ := look_facts (sets := sets) hA (elems (opnF sets els))
      have l1 := l1 hne
      have l3 := l3 hne
      -- what is looked for hits each open set by an allowed element
      have key : ∀ H, Ok sets most els A H → ∀ i, (opnF sets els).testBit i = true → ∃ x, H.testBit x = true ∧ (sets.getD i 0 &&& A).testBit x = true := by
        intro H hH i hi
        obtain ⟨i1, i2⟩ := opn_bit.1 hi
        obtain ⟨x, x1, x2⟩ := hH.min.hit _ (getD_mem i1)
        refine ⟨x, x1, ?_⟩
        rcases hH.only x x1 with h | h
        · rw [i2 x h] at x2; cases x2
        · rw [Nat.testBit_and, x2, h]; rfl
      by_cases hp : most < els.length + (look sets A (elems (opnF sets els))).2.2.2
      · rw [if_pos hp]
        refine Adds.none fun H hH => ?_
        have b := l6 H fun i hi => key H hH i ((mem_elems' hob).1 hi)
        have : card (maskOf els ||| (H &&& (look sets A (elems (opnF sets els))).2.2.1)) ≤ card H := card_le fun x hx => by
          rw [Nat.testBit_or, Bool.or_eq_true] at hx
          rcases hx with hx | hx
          · exact hH.has x hx
          · rw [Nat.testBit_and, Bool.and_eq_true] at hx; exact hx.1
        rw [card_or, cS] at this
        · have := hH.size; omega
        · rintro y ⟨y1, y2⟩
          rw [Nat.testBit_and, Bool.and_eq_true] at y2
          have h1 := l5 y y2.2
          rw [eA y (by rw [maskOf_bit] at y1; simpa using y1)] at h1; cases h1
      · rw [if_neg hp]
        generalize (look sets A (elems (opnF sets els))).2.2.2 = k at *
        generalize (look sets A (elems (opnF sets els))).1 = p at *
        have hpo := (mem_elems' hob).1 l1
        obtain ⟨p1, p2⟩ := opn_bit.1 hpo
        have hCA : ∀ x, (sets.getD p 0 &&& A).testBit x = true ↔ (sets.getD p 0).testBit x = true ∧ A.testBit x = true := fun x => by rw [Nat.testBit_and, Bool.and_eq_true]
        have hC64 : sets.getD p 0 &&& A < 2 ^ 64 := lt_of_bits fun i hi => bit_lt hA ((hCA i).1 hi).2
        have hD : ∀ x, (dif A (sets.getD p 0 &&& A)).testBit x = true ↔ A.testBit x = true ∧ (sets.getD p 0).testBit x = false := fun x => by
          rw [dif_bit, Nat.testBit_and]; cases A.testBit x <;> cases (sets.getD p 0).testBit x <;> simp
        have hdis : ∀ x, A.testBit x = true → x ∉ els := fun x hx h => by rw [eA x h] at hx; cases hx
        refine (loop_adds (W := fun x => (sets.getD p 0).testBit x = true) (els := els) (sets := sets) (most := most) ?_ _ _ found (elems_nodup _) ?_ ?_ ?_).congr ?_
        · intro x A' fd x1 x2 x3 x4 hW
          by_cases hany : els.any (fun e => decide (critF sets (els ++ [x]) e = 0)) = true
          · simp only [hany, if_true]
            obtain ⟨e, he, hz⟩ := List.any_eq_true.1 hany
            have hz := of_decide_eq_true hz
            refine Adds.none fun H hH => ?_
            obtain ⟨s, hs', s1, s2⟩ := hH.min.crit e (hH.has e (by rw [mask_snoc_bit]; exact .inl he))
            obtain ⟨i, hi, rfl⟩ := mem_getD hs'
            have := zero_bit.1 hz i
            rw [crit_bit.2 ⟨hi, s1, fun y hy => s2 y (hH.has y (by rw [mask_snoc_bit]; simpa using hy))⟩] at this
            cases this
          · have hany' : els.any (fun e => decide (critF sets (els ++ [x]) e = 0)) = false := by simpa using hany
            simp only [hany']
            refine ih (els ++ [x]) A' fd ?_ ?_ x3 x4 ?_ ?_ ?_
            · rw [List.nodup_append]
              refine ⟨en, by simp, fun a ha b hb h => ?_⟩
              have hbx : b = x := by simpa using hb
              rw [← hbx, ← h] at x2
              exact x2 ha
            · intro e he
              rcases List.mem_append.1 he with h | h
              · exact eb e h
              · have : e = x := by simpa using h
                omega
            · intro e he
              rcases List.mem_append.1 he with h | h
              · intro hz
                have := List.any_eq_false.1 hany' e h
                simp [hz] at this
              · have : e = x := by simpa using h
                subst this
                rw [← crit_new x2]
                exact ne_zero_bit.2 ⟨p, by rw [Nat.testBit_and, hpo, hav_bit.2 ⟨p1, hW⟩]; rfl⟩
            · have : card (opnF sets (els ++ [x]) ||| 2 ^ p) ≤ card (opnF sets els) := card_le fun i hi => by
                rcases or_pow_bit.1 hi with h | h
                · obtain ⟨i1, i2⟩ := opn_bit.1 h
                  exact opn_bit.2 ⟨i1, fun y hy => i2 y (by simp [hy])⟩
                · rw [h]; exact hpo
              rw [card_or, elems_pow (by omega)] at this
              · omega
              · rintro i ⟨i1, i2⟩
                have : p = i := by rw [Nat.testBit_two_pow] at i2; simpa using i2
                subst this
                have := (opn_bit.1 i1).2 x (by simp)
                rw [hW] at this; cases this
            · simp; omega
        · intro x hx
          obtain ⟨x1, x2⟩ := mem_elems.1 hx
          obtain ⟨x3, x4⟩ := (hCA x).1 x2
          refine ⟨x1, hdis x x4, ?_, x3⟩
          cases hb : (dif A (sets.getD p 0 &&& A)).testBit x with
          | false => rfl
          | true => have := ((hD x).1 hb).2; rw [x3] at this; cases this
        · intro y hy
          cases hb : (dif A (sets.getD p 0 &&& A)).testBit y with
          | false => rfl
          | true => have := ((hD y).1 hb).1; rw [eA y hy] at this; cases this
        · exact lt_of_bits fun i hi => bit_lt hA ((hD i).1 hi).1
        · intro H
          constructor
          · rintro ⟨a, b, c, -, d⟩
            refine ⟨a, b, fun y hy => ?_, d⟩
            rcases c y hy with h | h | h
            · exact .inl h
            · exact .inr ((hD y).1 h).1
            · exact .inr ((hCA y).1 (mem_elems.1 h).2).2
          · intro hH
            obtain ⟨x, x1, x2⟩ := key H hH p hpo
            refine ⟨hH.min, hH.has, fun y hy => ?_, ⟨x, (mem_elems' hC64).2 x2, x1⟩, hH.size⟩
            rcases hH.only y hy with h | h
            · exact .inl h
            · right
              cases hb : (sets.getD p 0).testBit y with
              | false => exact .inl ((hD y).2 ⟨h, hb⟩)
              | true => exact .inr ((mem_elems' hC64).2 ((hCA y).2 ⟨hb, h⟩))
/-! ### The whole of Minimal -/
theorem lt_card {a b : Nat} (hb : b < 2 ^ 64) (h : Sub a b) (hne : a ≠ b) : card a < card b := by
  obtain ⟨x, hx⟩ : ∃ x, b.testBit x = true ∧ a.testBit x = false := by
    rcases Classical.em (∃ x, b.testBit x = true ∧ a.testBit x = false) with h1 | h1
    · exact h1
    · refine absurd (Sub.antisymm h fun x hx => ?_) hne
      cases ha : a.testBit x with
      | true => rfl
      | false => exact absurd ⟨x, hx, ha⟩ h1
  have hx64 := bit_lt hb hx.1
  have : card (a ||| 2 ^ x) ≤ card b := card_le fun y hy => by
    rcases or_pow_bit.1 hy with h1 | h1
    · exact h y h1
    · rw [h1]; exact hx.1
  rw [card_or (fun y hy => by
    rw [Nat.testBit_two_pow] at hy
    have : x = y := by simpa using hy.2
    rw [← this, hx.2] at hy; cases hy.1), elems_pow hx64] at this
  omega
def U64 (sets : List Nat) : Prop := ∀ s ∈ sets, s < 2 ^ 64
/-- Is the set at place i needless? -/
def needless (sets : List Nat) (i : Nat) : Bool := (List.range sets.length).any fun k => decide (dif (sets.getD k 0) (sets.getD i 0) = 0) && (decide (sets.getD k 0 ≠ sets.getD i 0) || decide (k < i))
def leastF (sets : List Nat) : List Nat := ((List.range sets.length).filter fun i => !needless sets i).map fun i => sets.getD i 0
theorem dif_zero {a b : Nat} : dif a b = 0 ↔ Sub a b := by
  constructor
  · intro h x hx
    have := zero_bit.1 h x
    rw [dif_bit, hx] at this
    cases hb : b.testBit x with
    | true => rfl
    | false => rw [hb] at this; cases this
  · intro h
    refine zero_bit.2 fun x => ?_
    rw [dif_bit]
    cases ha : a.testBit x with
    | false => rfl
    | true => rw [h x ha]; rfl
theorem needless_iff {sets : List Nat} {i : Nat} : needless sets i = true ↔ ∃ k, k < sets.length ∧ Sub (sets.getD k 0) (sets.getD i 0) ∧ (sets.getD k 0 ≠ sets.getD i 0 ∨ k < i) := by
  simp only [needless, List.any_eq_true, List.mem_range, Bool.and_eq_true, Bool.or_eq_true, decide_eq_true_eq, dif_zero]
theorem first_at {sets : List Nat} {s : Nat} : ∀ {i : Nat}, i < sets.length → sets.getD i 0 = s → ∃ j, j ≤ i ∧ j < sets.length ∧ sets.getD j 0 = s ∧ ∀ k, k < j → sets.getD k 0 ≠ s := by
  intro i
  induction i using Nat.strongRecOn with
  | _ i ih =>
    intro hi he
    rcases Classical.em (∃ k, k < i ∧ sets.getD k 0 = s) with ⟨k, hk, hke⟩ | h
    · obtain ⟨j, h1, h2⟩ := ih k hk (by omega) hke
      exact ⟨j, by omega, h2⟩
    · exact ⟨i, Nat.le_refl _, hi, he, fun k hk hke => h ⟨k, hk, hke⟩⟩
theorem mem_least {sets : List Nat} {s : Nat} : s ∈ leastF sets ↔ s ∈ sets ∧ ∀ t ∈ sets, Sub t s → t = s := by
  simp only [leastF, List.mem_map, List.mem_filter, List.mem_range, Bool.not_eq_true']
  constructor
  · rintro ⟨i, ⟨hi, hn⟩, rfl⟩
    refine ⟨getD_mem hi, fun t ht hs => ?_⟩
    obtain ⟨k, hk, rfl⟩ := mem_getD ht
    rcases Classical.em (sets.getD k 0 = sets.getD i 0) with h | h
    · exact h
    · rw [needless_iff.2 ⟨k, hk, hs, .inl h⟩] at hn; cases hn
  · rintro ⟨hs, hm⟩
    obtain ⟨i, hi, he⟩ := mem_getD hs
    obtain ⟨j, _, hj, hje, hjf⟩ := first_at hi he
    refine ⟨j, ⟨hj, ?_⟩, hje⟩
    cases hn : needless sets j with
    | false => rfl
    | true =>
      obtain ⟨k, hk, h1, h2⟩ := needless_iff.1 hn
      rw [hje] at h1 h2
      have e := hm _ (getD_mem hk) h1
      rcases h2 with h2 | h2
      · exact absurd e h2
      · exact absurd e (hjf k h2)
theorem nodup_map_on {α β : Type} {f : α → β} : ∀ {l : List α}, l.Nodup → (∀ a ∈ l, ∀ b ∈ l, f a = f b → a = b) → (l.map f).Nodup
  | [], _, _ => List.nodup_nil
  | x :: l, h, hf => by
    rw [List.nodup_cons] at h
    rw [List.map_cons, List.nodup_cons]
    refine ⟨fun hx => ?_, nodup_map_on h.2 fun a ha b hb => hf a (by simp [ha]) b (by simp [hb])⟩
    obtain ⟨y, hy, e⟩ := List.mem_map.1 hx
    have := hf y (by simp [hy]) x (by simp) e
    subst this
    exact h.1 hy
theorem least_nodup (sets : List Nat) : (leastF sets).Nodup := by
  refine nodup_map_on (List.Nodup.sublist List.filter_sublist List.nodup_range) fun a ha b hb he => ?_
  simp only [List.mem_filter, List.mem_range, Bool.not_eq_true'] at ha hb
  rcases Nat.lt_trichotomy a b with h | h | h
  · rw [needless_iff.2 ⟨a, ha.1, by rw [he]; exact Sub.refl _, .inr h⟩] at hb; cases hb.2
  · exact h
  · rw [needless_iff.2 ⟨b, hb.1, by rw [he]; exact Sub.refl _, .inr h⟩] at ha; cases ha.2
theorem least_length (sets : List Nat) : (leastF sets).length ≤ sets.length := by
  unfold leastF
  rw [List.length_map]
  have := List.length_filter_le (fun i => !needless sets i) (List.range sets.length)
  rwa [List.length_range] at this
theorem least_u64 {sets : List Nat} (h : U64 sets) : U64 (leastF sets) := fun s hs => h s (mem_least.1 hs).1
/-- Each set contains a least one. -/
theorem least_below {sets : List Nat} (h : U64 sets) : ∀ (n s : Nat), card s = n → s ∈ sets → ∃ t ∈ leastF sets, Sub t s := by
  intro n
  induction n using Nat.strongRecOn with
  | _ n ih =>
    intro s hn hs
    rcases Classical.em (∀ t ∈ sets, Sub t s → t = s) with h1 | h1
    · exact ⟨s, mem_least.2 ⟨hs, h1⟩, Sub.refl _⟩
    · obtain ⟨t, ht, h2, h3⟩ : ∃ t, t ∈ sets ∧ Sub t s ∧ t ≠ s := by
        rcases Classical.em (∃ t, t ∈ sets ∧ Sub t s ∧ t ≠ s) with h2 | h2
        · exact h2
        · exact absurd (fun t ht hs' => by
            rcases Classical.em (t = s) with e | e
            · exact e
            · exact absurd ⟨t, ht, hs', e⟩ h2) h1
      have := lt_card (h s hs) h2 h3
      obtain ⟨u, hu, h4⟩ := ih (card t) (by omega) t rfl ht
      exact ⟨u, hu, h4.trans h2⟩
theorem hit_least {sets : List Nat} (h : U64 sets) {H : Nat} : Hit H (leastF sets) ↔ Hit H sets := by
  constructor
  · intro hh s hs
    obtain ⟨t, ht, hts⟩ := least_below h _ s rfl hs
    obtain ⟨x, h1, h2⟩ := hh t ht
    exact ⟨x, h1, hts x h2⟩
  · exact fun hh s hs => hh s (mem_least.1 hs).1
theorem min_least {sets : List Nat} (h : U64 sets) {H : Nat} : Min H (leastF sets) ↔ Min H sets := by
  constructor
  · intro hm
    refine ⟨(hit_least h).1 hm.hit, fun x hx => ?_⟩
    obtain ⟨s, hs, h1, h2⟩ := hm.crit x hx
    exact ⟨s, (mem_least.1 hs).1, h1, h2⟩
  · intro hm
    refine ⟨(hit_least h).2 hm.hit, fun x hx => ?_⟩
    obtain ⟨s, hs, h1, h2⟩ := hm.crit x hx
    obtain ⟨t, ht, hts⟩ := least_below h _ s rfl hs
    obtain ⟨y, y1, y2⟩ := hm.hit t (mem_least.1 ht).1
    have e := h2 y y1 (hts y y2)
    subst e
    exact ⟨t, ht, y2, fun z hz hzt => h2 z hz (hts z hzt)⟩
/-- The union of sets. -/
def orAll (sets : List Nat) : Nat := sets.foldl (· ||| ·) 0
theorem orAll_bit (sets : List Nat) (x : Nat) : (orAll sets).testBit x = true ↔ ∃ s ∈ sets, s.testBit x = true := by
  have : ∀ (l : List Nat) (m : Nat), (l.foldl (· ||| ·) m).testBit x = true ↔ m.testBit x = true ∨ ∃ s ∈ l, s.testBit x = true := by
    intro l
    induction l with
    | nil => intro m; simp
    | cons a l ih => intro m; rw [List.foldl_cons, ih, Nat.testBit_or, Bool.or_eq_true]; simp only [List.mem_cons, exists_eq_or_imp]; rw [or_assoc]
  unfold orAll
  rw [this]
  simp
theorem orAll_lt {sets : List Nat} (h : U64 sets) : orAll sets < 2 ^ 64 := lt_of_bits fun i hi => by
  obtain ⟨s, hs, hb⟩ := (orAll_bit _ _).1 hi
  exact bit_lt (h s hs) hb
theorem Min.in_all {H : Nat} {sets : List Nat} (h : Min H sets) : Sub H (orAll sets) := fun x hx => by
  obtain ⟨s, hs, h1, _⟩ := h.crit x hx
  exact (orAll_bit _ _).2 ⟨s, hs, h1⟩
def searchF (sets : List Nat) (most limit : Nat) : List Nat := runF sets most limit 66 [] (orAll sets) []
theorem search_adds {sets : List Nat} (most limit : Nat) (hl : sets.length ≤ 64) (h : U64 sets) : Adds (fun H => Min H sets ∧ card H ≤ most) limit [] (searchF sets most limit) := by
  refine (run_adds hl 66 [] (orAll sets) [] List.nodup_nil (by simp) (by simp) (orAll_lt h) (by simp) ?_ (Nat.zero_le _)).congr fun H => ⟨fun h => ⟨h.min, h.size⟩, fun h => ⟨h.1, fun x hx => by rw [maskOf_bit] at hx; simp at hx, fun y hy => .inr (h.1.in_all y hy), h.2⟩⟩
  have := card_le64 (opnF sets [])
  omega
/-- Any hitting set contains a minimal one. -/
theorem min_below {sets : List Nat} : ∀ (n H : Nat), H < 2 ^ 64 → card H = n → Hit H sets → ∃ G, Sub G H ∧ Min G sets := by
  intro n
  induction n using Nat.strongRecOn with
  | _ n ih =>
    intro H hH hn hh
    rcases Classical.em (∀ x, H.testBit x = true → Crit H sets x) with h1 | h1
    · exact ⟨H, Sub.refl _, hh, h1⟩
    · obtain ⟨x, hx, h2⟩ : ∃ x, H.testBit x = true ∧ ¬ Crit H sets x := by
        rcases Classical.em (∃ x, H.testBit x = true ∧ ¬ Crit H sets x) with h2 | h2
        · exact h2
        · exact absurd (fun x hx => by
            rcases Classical.em (Crit H sets x) with e | e
            · exact e
            · exact absurd ⟨x, hx, e⟩ h2) h1
      have hsub : Sub (dif H (2 ^ x)) H := fun y hy => by rw [dif_bit, Bool.and_eq_true] at hy; exact hy.1
      have hxn : (dif H (2 ^ x)).testBit x = false := by rw [dif_bit, Nat.testBit_two_pow]; simp
      have hlt := lt_card hH hsub fun e => by rw [e, hx] at hxn; cases hxn
      obtain ⟨G, g1, g2⟩ := ih _ (by omega) (dif H (2 ^ x)) (lt_of_bits fun i hi => bit_lt hH (hsub i hi)) rfl fun s hs => by
        rcases Classical.em (∃ y, (dif H (2 ^ x)).testBit y = true ∧ s.testBit y = true) with e | e
        · exact e
        · obtain ⟨y, y1, y2⟩ := hh s hs
          have hz : ∀ z, H.testBit z = true → s.testBit z = true → z = x := fun z z1 z2 => by
            rcases Classical.em (z = x) with e1 | e1
            · exact e1
            · exact absurd ⟨z, by rw [dif_bit, z1, Nat.testBit_two_pow]; simp; omega, z2⟩ e
          have := hz y y1 y2
          subst this
          exact absurd ⟨s, hs, y2, hz⟩ h2
      exact ⟨G, g1.trans hsub, g2⟩
theorem Min.lt {H : Nat} {sets : List Nat} (h : Min H sets) (hs : U64 sets) : H < 2 ^ 64 := lt_of_bits fun i hi => by
  obtain ⟨s, h1, h2, _⟩ := h.crit i hi
  exact bit_lt (hs s h1) h2
/-- A minimal hitting set has no more elements than there are sets. -/
theorem Min.card_le_sets {H : Nat} {sets : List Nat} (h : Min H sets) : card H ≤ sets.length := by
  have h1 : ∀ x : Nat, ∃ i, H.testBit x = true → i < sets.length ∧ (sets.getD i 0).testBit x = true ∧ ∀ y, H.testBit y = true → (sets.getD i 0).testBit y = true → y = x := fun x => by
    rcases Classical.em (H.testBit x = true) with hx | hx
    · obtain ⟨s, hs, h2, h3⟩ := h.crit x hx
      obtain ⟨i, hi, rfl⟩ := mem_getD hs
      exact ⟨i, fun _ => ⟨hi, h2, h3⟩⟩
    · exact ⟨0, fun h => absurd h hx⟩
  obtain ⟨f, hf⟩ := Classical.axiomOfChoice h1
  have hn : ((elems H).map f).Nodup := nodup_map_on (elems_nodup H) fun a ha b hb e => by
    have ha' := (mem_elems.1 ha).2
    have hb' := (mem_elems.1 hb).2
    have h2 := (hf a ha').2.1
    rw [e] at h2
    exact (hf b hb').2.2 a ha' h2
  have hs : ((elems H).map f).length ≤ (List.range sets.length).length := List.Nodup.length_le_of_subset hn fun i hi => by
    obtain ⟨x, hx, rfl⟩ := List.mem_map.1 hi
    rw [List.mem_range]
    exact (hf x (mem_elems.1 hx).2).1
  rwa [List.length_map, List.length_range] at hs
/-- The least size, or most + 1. -/
def smallFrom (sets : List Nat) (most : Nat) : Nat → Nat → Nat
  | 0, _ => most + 1
  | k + 1, n => if searchF sets n 0 = [] then smallFrom sets most k (n + 1) else n
def smallF (sets : List Nat) (most : Nat) : Nat := smallFrom sets most (min most sets.length) 1
theorem search_nil {sets : List Nat} (n : Nat) (hl : sets.length ≤ 64) (h : U64 sets) : searchF sets n 0 = [] ↔ ∀ H, Min H sets → n < card H := by
  obtain ⟨l, e, _, h1, h2⟩ := (search_adds n 0 hl h).new
  rw [List.nil_append] at e
  rw [e] at h2 ⊢
  constructor
  · intro hl' H hH
    subst hl'
    rcases Nat.lt_or_ge n (card H) with h3 | h3
    · exact h3
    · have := h2 (Nat.le_refl _) H ⟨hH, h3⟩
      cases this
  · intro h3
    cases l with
    | nil => rfl
    | cons a l => have := h1 a (by simp); have := h3 a this.1; omega
theorem smallFrom_facts {sets : List Nat} {most : Nat} (hl : sets.length ≤ 64) (h : U64 sets) : ∀ (k n : Nat), n + k = min most sets.length + 1 → (∀ H, Min H sets → n ≤ card H) →
    (∀ H, Min H sets → smallFrom sets most k n ≤ card H ∨ most < card H) ∧ (n ≤ smallFrom sets most k n) ∧ (smallFrom sets most k n ≤ most + 1) := by
  intro k
  induction k with
  | zero =>
    intro n hn hm
    rw [smallFrom]
    refine ⟨fun H hH => ?_, by omega, by omega⟩
    have h1 := hm H hH
    have h2 := hH.card_le_sets
    omega
  | succ k ih =>
    intro n hn hm
    rw [smallFrom]
    split
    · rename_i he
      obtain ⟨h1, h2, h3⟩ := ih (n + 1) (by omega) fun H hH => (search_nil n hl h).1 he H hH
      exact ⟨h1, by omega, h3⟩
    · exact ⟨fun H hH => .inl (hm H hH), by omega, by omega⟩
theorem Min.pos {H : Nat} {sets : List Nat} (h : Min H sets) (hs : U64 sets) (hne : sets ≠ []) : 1 ≤ card H := by
  cases sets with
  | nil => exact absurd rfl hne
  | cons s l =>
    obtain ⟨x, h1, h2⟩ := h.hit s (by simp)
    exact card_pos (bit_lt (hs s (by simp)) h2) h1
theorem small_le {sets : List Nat} {most : Nat} (hl : sets.length ≤ 64) (h : U64 sets) (hne : sets ≠ []) {H : Nat} (hH : Min H sets) : smallF sets most ≤ card H := by
  obtain ⟨h1, _, h3⟩ := smallFrom_facts (most := most) hl h (min most sets.length) 1 (by omega) fun H hH => hH.pos h hne
  have := h1 H hH
  unfold smallF
  omega
theorem small_bounds {sets : List Nat} {most : Nat} (hl : sets.length ≤ 64) (h : U64 sets) (hne : sets ≠ []) : 1 ≤ smallF sets most ∧ smallF sets most ≤ most + 1 := by
  obtain ⟨_, h2, h3⟩ := smallFrom_facts (most := most) hl h (min most sets.length) 1 (by omega) fun H hH => hH.pos h hne
  exact ⟨h2, h3⟩
/-! ### Parts -/
/-- No element in common. -/
def Dis (a b : Nat) : Prop := ∀ x, ¬(a.testBit x = true ∧ b.testBit x = true)
theorem and_zero {a b : Nat} : a &&& b = 0 ↔ Dis a b := by
  rw [zero_bit]
  constructor
  · rintro h x ⟨h1, h2⟩; have := h x; rw [Nat.testBit_and, h1, h2] at this; cases this
  · intro h x
    rw [Nat.testBit_and]
    cases ha : a.testBit x with
    | false => rfl
    | true =>
      cases hb : b.testBit x with
      | false => rfl
      | true => exact absurd ⟨ha, hb⟩ (h x)
/-- One more set: the parts that it meets become one with it. -/
def partS (st : List (List Nat × Nat)) (s : Nat) : List (List Nat × Nat) :=
  (st.filter fun p => decide (p.2 &&& s = 0)) ++ [(s :: (st.filter fun p => !decide (p.2 &&& s = 0)).flatMap (·.1), (st.filter fun p => !decide (p.2 &&& s = 0)).foldl (fun u p => u ||| p.2) s)]
def partsF (sets : List Nat) : List (List Nat × Nat) := sets.foldl partS []
structure Parts (sets : List Nat) (st : List (List Nat × Nat)) : Prop where
  perm : (st.flatMap (·.1)).Perm sets
  union : ∀ p ∈ st, p.2 = orAll p.1
  ne : ∀ p ∈ st, p.1 ≠ []
  dis : st.Pairwise fun p q => Dis p.2 q.2
theorem orAll_append (a b : List Nat) : orAll (a ++ b) = orAll a ||| orAll b := ext_bit fun x => by
  rw [orAll_bit, Nat.testBit_or, Bool.or_eq_true, orAll_bit, orAll_bit]
  constructor
  · rintro ⟨s, hs, hb⟩
    rcases List.mem_append.1 hs with h | h
    · exact .inl ⟨s, h, hb⟩
    · exact .inr ⟨s, h, hb⟩
  · rintro (⟨s, hs, hb⟩ | ⟨s, hs, hb⟩)
    · exact ⟨s, by simp [hs], hb⟩
    · exact ⟨s, by simp [hs], hb⟩
theorem foldl_or_bit (l : List (List Nat × Nat)) (x : Nat) : ∀ u : Nat, (l.foldl (fun (u : Nat) (p : List Nat × Nat) => u ||| p.2) u).testBit x = true ↔ u.testBit x = true ∨ ∃ p ∈ l, p.2.testBit x = true := by
  induction l with
  | nil => intro u; simp
  | cons a l ih => intro u; rw [List.foldl_cons, ih, Nat.testBit_or, Bool.or_eq_true]; simp only [List.mem_cons, exists_eq_or_imp]; rw [or_assoc]
theorem perm_filter {α β : Type} (f : α → List β) (p : α → Bool) : ∀ l : List α, ((l.filter p).flatMap f ++ (l.filter fun x => !p x).flatMap f).Perm (l.flatMap f)
  | [] => by simp
  | a :: l => by
    have ih := perm_filter f p l
    cases hp : p a with
    | true =>
      simp only [List.filter_cons, hp, if_true, List.flatMap_cons, Bool.not_true, Bool.false_eq_true, if_false, List.append_assoc]
      exact List.Perm.append_left _ ih
    | false =>
      simp only [List.filter_cons, hp, if_true, List.flatMap_cons, Bool.not_false, Bool.false_eq_true, if_false]
      refine List.Perm.trans ?_ (List.Perm.append_left (f a) ih)
      rw [← List.append_assoc, ← List.append_assoc]
      exact List.Perm.append_right _ List.perm_append_comm
theorem Parts.step {sets : List Nat} {st : List (List Nat × Nat)} (h : Parts sets st) (s : Nat) : Parts (sets ++ [s]) (partS st s) := by
  refine ⟨?_, ?_, ?_, ?_⟩
  · unfold partS
    rw [List.flatMap_append]
    simp only [List.flatMap_cons, List.flatMap_nil, List.append_nil]
    refine List.Perm.trans List.perm_middle ?_
    refine List.Perm.trans (List.Perm.cons _ ((perm_filter (·.1) (fun p => decide (p.2 &&& s = 0)) st).trans h.perm)) ?_
    exact (List.perm_append_singleton s sets).symm
  · intro p hp
    rcases List.mem_append.1 hp with hp | hp
    · exact h.union p (List.mem_filter.1 hp).1
    · have e := List.mem_singleton.1 hp
      rw [e]
      simp only []
      refine ext_bit fun x => ?_
      rw [foldl_or_bit, orAll_bit]
      constructor
      · rintro (h1 | ⟨q, hq, h1⟩)
        · exact ⟨s, by simp, h1⟩
        · rw [h.union q (List.mem_filter.1 hq).1] at h1
          obtain ⟨t, ht, h2⟩ := (orAll_bit _ _).1 h1
          exact ⟨t, by simp only [List.mem_cons, List.mem_flatMap]; exact .inr ⟨q, hq, ht⟩, h2⟩
      · rintro ⟨t, ht, h2⟩
        simp only [List.mem_cons, List.mem_flatMap] at ht
        rcases ht with ht | ⟨q, hq, ht⟩
        · rw [ht] at h2; exact .inl h2
        · exact .inr ⟨q, hq, by rw [h.union q (List.mem_filter.1 hq).1]; exact (orAll_bit _ _).2 ⟨t, ht, h2⟩⟩
  · intro p hp
    rcases List.mem_append.1 hp with hp | hp
    · exact h.ne p (List.mem_filter.1 hp).1
    · have e := List.mem_singleton.1 hp
      rw [e]; simp
  · unfold partS
    rw [List.pairwise_append]
    refine ⟨h.dis.sublist List.filter_sublist, by simp, fun p hp q hq => ?_⟩
    have e := List.mem_singleton.1 hq
    obtain ⟨hp1, hp2⟩ := List.mem_filter.1 hp
    have hp2 := and_zero.1 (of_decide_eq_true hp2)
    rw [e]
    rintro x ⟨x1, x2⟩
    simp only [] at x2
    rw [foldl_or_bit] at x2
    rcases x2 with x2 | ⟨r, hr, x2⟩
    · exact hp2 x ⟨x1, x2⟩
    · obtain ⟨hr1, hr2⟩ := List.mem_filter.1 hr
      have hne : ¬ Dis r.2 s := by
        intro hd
        rw [decide_eq_true (and_zero.2 hd)] at hr2
        cases hr2
      have hd : Dis p.2 r.2 := by
        have hpr : p ≠ r := fun e => hne (e ▸ hp2)
        rcases List.pairwise_iff_forall_sublist.1 h.dis with _
        obtain ⟨i, hi, ei⟩ := List.mem_iff_getElem.1 hp1
        obtain ⟨j, hj, ej⟩ := List.mem_iff_getElem.1 hr1
        rcases Nat.lt_trichotomy i j with hij | hij | hij
        · have := List.pairwise_iff_getElem.1 h.dis i j hi hj hij
          rw [ei, ej] at this; exact this
        · subst hij; exact absurd (ei.symm.trans ej) hpr
        · have := List.pairwise_iff_getElem.1 h.dis j i hj hi hij
          rw [ei, ej] at this
          exact fun y hy => this y ⟨hy.2, hy.1⟩
      exact hd x ⟨x1, x2⟩
theorem parts_facts (sets : List Nat) : Parts sets (partsF sets) := by
  refine snoc_ind (P := fun l => Parts l (partsF l)) ?_ ?_ sets
  · exact ⟨List.Perm.refl _, by simp [partsF], by simp [partsF], by simp [partsF]⟩
  · intro l s ih
    have e : partsF (l ++ [s]) = partS (partsF l) s := by simp [partsF]
    rw [e]
    exact ih.step s
theorem min_perm {a b : List Nat} (h : a.Perm b) {H : Nat} (hm : Min H a) : Min H b :=
  ⟨fun s hs => hm.hit s (h.mem_iff.2 hs), fun x hx => by
    obtain ⟨s, hs, h1⟩ := hm.crit x hx
    exact ⟨s, h.mem_iff.1 hs, h1⟩⟩
/-- Hitting sets of two families without a common element. -/
theorem min_append {a b : List Nat} (hd : Dis (orAll a) (orAll b)) {H : Nat} : Min H (a ++ b) ↔ ∃ A B, H = A ||| B ∧ Min A a ∧ Min B b := by
  have inl : ∀ s ∈ a, ∀ x, s.testBit x = true → (orAll a).testBit x = true := fun s hs x hx => (orAll_bit _ _).2 ⟨s, hs, hx⟩
  have inr : ∀ s ∈ b, ∀ x, s.testBit x = true → (orAll b).testBit x = true := fun s hs x hx => (orAll_bit _ _).2 ⟨s, hs, hx⟩
  constructor
  · intro hm
    refine ⟨H &&& orAll a, H &&& orAll b, ?_, ⟨fun s hs => ?_, fun x hx => ?_⟩, ⟨fun s hs => ?_, fun x hx => ?_⟩⟩
    · refine ext_bit fun x => ?_
      rw [← Nat.and_or_distrib_left, ← orAll_append, Nat.testBit_and, Bool.and_eq_true]
      exact ⟨fun h => ⟨h, hm.in_all x h⟩, fun h => h.1⟩
    · obtain ⟨x, h1, h2⟩ := hm.hit s (by simp [hs])
      exact ⟨x, by rw [Nat.testBit_and, h1, inl s hs x h2]; rfl, h2⟩
    · rw [Nat.testBit_and, Bool.and_eq_true] at hx
      obtain ⟨s, hs, h1, h2⟩ := hm.crit x hx.1
      rcases List.mem_append.1 hs with h | h
      · exact ⟨s, h, h1, fun y hy => h2 y (by rw [Nat.testBit_and, Bool.and_eq_true] at hy; exact hy.1)⟩
      · exact absurd ⟨hx.2, inr s h x h1⟩ (hd x)
    · obtain ⟨x, h1, h2⟩ := hm.hit s (by simp [hs])
      exact ⟨x, by rw [Nat.testBit_and, h1, inr s hs x h2]; rfl, h2⟩
    · rw [Nat.testBit_and, Bool.and_eq_true] at hx
      obtain ⟨s, hs, h1, h2⟩ := hm.crit x hx.1
      rcases List.mem_append.1 hs with h | h
      · exact absurd ⟨inl s h x h1, hx.2⟩ (hd x)
      · exact ⟨s, h, h1, fun y hy => h2 y (by rw [Nat.testBit_and, Bool.and_eq_true] at hy; exact hy.1)⟩
  · rintro ⟨A, B, rfl, hA, hB⟩
    refine ⟨fun s hs => ?_, fun x hx => ?_⟩
    · rcases List.mem_append.1 hs with h | h
      · obtain ⟨x, h1, h2⟩ := hA.hit s h
        exact ⟨x, by rw [Nat.testBit_or, h1]; rfl, h2⟩
      · obtain ⟨x, h1, h2⟩ := hB.hit s h
        exact ⟨x, by rw [Nat.testBit_or, h1]; simp, h2⟩
    · rw [Nat.testBit_or, Bool.or_eq_true] at hx
      rcases hx with hx | hx
      · obtain ⟨s, hs, h1, h2⟩ := hA.crit x hx
        refine ⟨s, by simp [hs], h1, fun y hy hs' => ?_⟩
        rw [Nat.testBit_or, Bool.or_eq_true] at hy
        rcases hy with hy | hy
        · exact h2 y hy hs'
        · exact absurd ⟨inl s hs y hs', hB.in_all y hy⟩ (hd y)
      · obtain ⟨s, hs, h1, h2⟩ := hB.crit x hx
        refine ⟨s, by simp [hs], h1, fun y hy hs' => ?_⟩
        rw [Nat.testBit_or, Bool.or_eq_true] at hy
        rcases hy with hy | hy
        · exact absurd ⟨hA.in_all y hy, inr s hs y hs'⟩ (hd y)
        · exact h2 y hy hs'
/-- The parts of a union are determined. -/
theorem or_inj {U V A B C D : Nat} (hd : Dis U V) (hA : Sub A U) (hB : Sub B V) (hC : Sub C U) (hD : Sub D V) (h : A ||| B = C ||| D) : A = C ∧ B = D := by
  have key : ∀ x, (A.testBit x = true ∨ B.testBit x = true) ↔ (C.testBit x = true ∨ D.testBit x = true) := fun x => by
    rw [← Bool.or_eq_true, ← Bool.or_eq_true, ← Nat.testBit_or, ← Nat.testBit_or, h]
  refine ⟨ext_bit fun x => ⟨fun hx => ?_, fun hx => ?_⟩, ext_bit fun x => ⟨fun hx => ?_, fun hx => ?_⟩⟩
  · rcases (key x).1 (.inl hx) with h1 | h1
    · exact h1
    · exact absurd ⟨hA x hx, hD x h1⟩ (hd x)
  · rcases (key x).2 (.inl hx) with h1 | h1
    · exact h1
    · exact absurd ⟨hC x hx, hB x h1⟩ (hd x)
  · rcases (key x).1 (.inr hx) with h1 | h1
    · exact absurd ⟨hC x h1, hB x hx⟩ (hd x)
    · exact h1
  · rcases (key x).2 (.inr hx) with h1 | h1
    · exact absurd ⟨hA x h1, hD x hx⟩ (hd x)
    · exact h1
/-- The unions that fit. -/
def crossF (most rest : Nat) (found sf : List Nat) : List Nat := found.flatMap fun a => (sf.filter fun b => decide (card (a ||| b) + rest ≤ most)).map fun b => a ||| b
theorem mem_cross {most rest : Nat} {found sf : List Nat} {H : Nat} : H ∈ crossF most rest found sf ↔ ∃ a ∈ found, ∃ b ∈ sf, card (a ||| b) + rest ≤ most ∧ H = a ||| b := by
  simp only [crossF, List.mem_flatMap, List.mem_map, List.mem_filter, decide_eq_true_eq]
  constructor
  · rintro ⟨a, ha, b, ⟨hb, h1⟩, rfl⟩; exact ⟨a, ha, b, hb, h1, rfl⟩
  · rintro ⟨a, ha, b, hb, h1, rfl⟩; exact ⟨a, ha, b, ⟨hb, h1⟩, rfl⟩
theorem cross_nodup {most rest U V : Nat} {found sf : List Nat} (hd : Dis U V) (h1 : found.Nodup) (h2 : sf.Nodup) (u1 : ∀ a ∈ found, Sub a U) (u2 : ∀ b ∈ sf, Sub b V) : (crossF most rest found sf).Nodup := by
  unfold crossF
  induction found with
  | nil => simp
  | cons a l ih =>
    rw [List.nodup_cons] at h1
    rw [List.flatMap_cons, List.nodup_append]
    refine ⟨nodup_map_on (h2.sublist List.filter_sublist) fun b hb c hc e => ?_, ih h1.2 fun x hx => u1 x (by simp [hx]), fun x hx y hy e => ?_⟩
    · exact (or_inj hd (u1 a (by simp)) (u2 b (List.mem_filter.1 hb).1) (u1 a (by simp)) (u2 c (List.mem_filter.1 hc).1) e).2
    · obtain ⟨b, hb, rfl⟩ := List.mem_map.1 hx
      obtain ⟨a', ha', hy'⟩ := List.mem_flatMap.1 hy
      obtain ⟨c, hc, rfl⟩ := List.mem_map.1 hy'
      have := (or_inj hd (u1 a (by simp)) (u2 b (List.mem_filter.1 hb).1) (u1 a' (by simp [ha'])) (u2 c (List.mem_filter.1 hc).1) e).1
      subst this
      exact h1.1 ha'
/-- The sum of the least sizes. -/
def needF (most : Nat) (ps : List (List Nat)) : Nat := (ps.map fun p => smallF p most).sum
/-- The sets of some parts: none if there are too many. -/
def combF (most need : Nat) : List (List Nat) → Nat → List Nat → Option (List Nat)
  | [], _, found => some found
  | p :: ps, rest, found =>
    if 4096 < (crossF most (rest - smallF p most) found (searchF p (most - need + smallF p most) 4096)).length then none
    else combF most need ps (rest - smallF p most) (crossF most (rest - smallF p most) found (searchF p (most - need + smallF p most) 4096))
/-- What Minimal finds: none if there are too many. -/
def minF (family : List Nat) (most : Nat) : Option (List Nat) :=
  if (leastF family).getD 0 1 = 0 then some [] else
  if most < needF most ((partsF (leastF family)).map (·.1)) then some [] else
  combF most (needF most ((partsF (leastF family)).map (·.1))) ((partsF (leastF family)).map (·.1)) (needF most ((partsF (leastF family)).map (·.1))) [0]
structure Good (most rest : Nat) (sets found : List Nat) (full : Prop) : Prop where
  nodup : found.Nodup
  sound : ∀ H ∈ found, Min H sets ∧ card H + rest ≤ most
  full : full → ∀ H, Min H sets → card H + rest ≤ most → H ∈ found
/-- A part, as it lies among others. -/
structure PartOk (p : List Nat) : Prop where
  len : p.length ≤ 64
  u64 : U64 p
  ne : p ≠ []
theorem need_cons (most : Nat) (p : List Nat) (ps : List (List Nat)) : needF most (p :: ps) = smallF p most + needF most ps := by simp [needF]
theorem orAll_flat_bit (ps : List (List Nat)) (x : Nat) : (orAll ps.flatten).testBit x = true ↔ ∃ p ∈ ps, (orAll p).testBit x = true := by
  rw [orAll_bit]
  constructor
  · rintro ⟨s, hs, hb⟩
    obtain ⟨p, hp, h⟩ := List.mem_flatten.1 hs
    exact ⟨p, hp, (orAll_bit _ _).2 ⟨s, h, hb⟩⟩
  · rintro ⟨p, hp, hb⟩
    obtain ⟨s, h, hb⟩ := (orAll_bit _ _).1 hb
    exact ⟨s, List.mem_flatten.2 ⟨p, hp, h⟩, hb⟩
/-- A minimal hitting set has at least as many elements as its parts need. -/
theorem need_le {most : Nat} : ∀ (ps : List (List Nat)), (∀ p ∈ ps, PartOk p) → ps.Pairwise (fun p q => Dis (orAll p) (orAll q)) → ∀ H, Min H ps.flatten → needF most ps ≤ card H := by
  intro ps
  induction ps with
  | nil => intro _ _ H _; simp [needF]
  | cons p ps ih =>
    intro hok hd H hH
    rw [List.pairwise_cons] at hd
    have hdd : Dis (orAll p) (orAll ps.flatten) := fun x hx => by
      obtain ⟨q, hq, h1⟩ := (orAll_flat_bit _ _).1 hx.2
      exact hd.1 q hq x ⟨hx.1, h1⟩
    rw [List.flatten_cons] at hH
    obtain ⟨A, B, rfl, hA, hB⟩ := (min_append hdd).1 hH
    have h1 := ih (fun q hq => hok q (by simp [hq])) hd.2 B hB
    have h2 := small_le (most := most) (hok p (by simp)).len (hok p (by simp)).u64 (hok p (by simp)).ne hA
    rw [need_cons, card_or fun x hx => hdd x ⟨hA.in_all x hx.1, hB.in_all x hx.2⟩]
    omega
theorem comb_good {most need : Nat} {full : Prop} : ∀ (ps done : List (List Nat)) (found : List Nat), (∀ p ∈ done ++ ps, PartOk p) → (done ++ ps).Pairwise (fun p q => Dis (orAll p) (orAll q)) → needF most done + needF most ps = need → need ≤ most →
    (full → ∀ p ∈ ps, (searchF p (most - need + smallF p most) 4096).length ≤ 4096) → Good most (needF most ps) done.flatten found full →
    ∀ r, combF most need ps (needF most ps) found = some r → Good most 0 (done ++ ps).flatten r full := by
  intro ps
  induction ps with
  | nil =>
    intro done found _ _ _ _ _ hg r hr
    simp only [combF, Option.some.injEq] at hr
    subst hr
    rw [List.append_nil]
    exact hg
  | cons p ps ih =>
    intro done found hok hd hn hm hfull hg r hr
    rw [need_cons] at hn hg hr
    rw [combF] at hr
    have hrest : smallF p most + needF most ps - smallF p most = needF most ps := by omega
    rw [hrest] at hr
    split at hr
    · cases hr
    · rename_i hlen
      have hp := hok p (by simp)
      have hdis : Dis (orAll done.flatten) (orAll p) := fun x hx => by
        obtain ⟨q, hq, h1⟩ := (orAll_flat_bit _ _).1 hx.1
        exact (List.pairwise_append.1 hd).2.2 q hq p (by simp) x ⟨h1, hx.2⟩
      obtain ⟨l, el, ln, ls, lf⟩ := (search_adds (most - need + smallF p most) 4096 hp.len hp.u64).new
      rw [List.nil_append] at el
      have happ : (done ++ p :: ps) = (done ++ [p]) ++ ps := by simp
      rw [happ] at hok hd ⊢
      refine ih (done ++ [p]) _ hok hd (by simp [needF] at hn ⊢; omega) hm (fun h q hq => hfull h q (by simp [hq])) ?_ r hr
      have hfl : (done ++ [p]).flatten = done.flatten ++ p := by simp
      rw [hfl]
      refine ⟨cross_nodup hdis hg.nodup (el ▸ ln) (fun a ha => (hg.sound a ha).1.in_all) (fun b hb => (ls b (el ▸ hb)).1.in_all), fun H hH => ?_, fun hf H hH hc => ?_⟩
      · obtain ⟨a, ha, b, hb, h1, rfl⟩ := mem_cross.1 hH
        exact ⟨(min_append hdis).2 ⟨a, b, rfl, (hg.sound a ha).1, (ls b (el ▸ hb)).1⟩, h1⟩
      · obtain ⟨a, b, rfl, ha, hb⟩ := (min_append hdis).1 hH
        have hcard : card (a ||| b) = card a + card b := card_or fun x hx => hdis x ⟨ha.in_all x hx.1, hb.in_all x hx.2⟩
        have h1 := small_le (most := most) hp.len hp.u64 hp.ne hb
        have h2 := need_le (most := most) done (fun q hq => hok q (by simp [hq])) (List.pairwise_append.1 (List.pairwise_append.1 hd).1).1 a ha
        refine mem_cross.2 ⟨a, hg.full hf a ha (by omega), b, ?_, by omega, rfl⟩
        rw [el]
        exact lf (hfull hf p (by simp)) b ⟨hb, by omega⟩
end Go.Proofs.YtdcbejccplonjaaDoor
