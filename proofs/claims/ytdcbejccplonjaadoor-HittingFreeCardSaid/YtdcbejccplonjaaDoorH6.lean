/- Lists of numbers and their bits; the reference in plain terms. -/
import Derived.Test.YtdcbejccplonjaaDoorB4
import Derived.Test.YtdcbejccplonjaaDoorH5
namespace Go.Proofs.YtdcbejccplonjaaDoor
/-- Strictly ascending lists with the same members are the same. -/
theorem strict_ext {α : Type} {R : α → α → Prop} (ir : ∀ a, ¬ R a a) (tr : ∀ a b c, R a b → R b c → R a c) : ∀ {l m : List α}, l.Pairwise R → m.Pairwise R → (∀ s, s ∈ l ↔ s ∈ m) → l = m
  | [], [], _, _, _ => rfl
  | [], b :: m, _, _, h => by have := (h b).2 (by simp); cases this
  | a :: l, [], _, _, h => by have := (h a).1 (by simp); cases this
  | a :: l, b :: m, hl, hm, h => by
    rw [List.pairwise_cons] at hl hm
    have e : a = b := by
      rcases List.mem_cons.1 ((h a).1 (by simp)) with h2 | h2
      · exact h2
      · rcases List.mem_cons.1 ((h b).2 (by simp)) with h3 | h3
        · exact h3.symm
        · exact absurd (tr _ _ _ (hl.1 b h3) (hm.1 a h2)) (ir _)
    subst e
    refine congrArg _ (strict_ext ir tr hl.2 hm.2 fun s => ?_)
    have := h s
    constructor
    · intro hs
      rcases List.mem_cons.1 (this.1 (List.mem_cons_of_mem _ hs)) with h2 | h2
      · subst h2; exact absurd (hl.1 s hs) (ir _)
      · exact h2
    · intro hs
      rcases List.mem_cons.1 (this.2 (List.mem_cons_of_mem _ hs)) with h2 | h2
      · subst h2; exact absurd (hm.1 s hs) (ir _)
      · exact h2
theorem asc_nat {l m : List Nat} (h : l.Pairwise (· < ·)) (k : m.Pairwise (· < ·)) (e : ∀ x, x ∈ l ↔ x ∈ m) : l = m := strict_ext (fun a => Nat.lt_irrefl a) (fun _ _ _ h k => Nat.lt_trans h k) h k e
theorem asc_int {l m : List Int} (h : l.Pairwise (· < ·)) (k : m.Pairwise (· < ·)) (e : ∀ x, x ∈ l ↔ x ∈ m) : l = m := strict_ext (fun a => Int.lt_irrefl a) (fun _ _ _ h k => Int.lt_trans h k) h k e
theorem elems_asc (m : Nat) : (elems m).Pairwise (· < ·) := List.Pairwise.sublist List.filter_sublist List.pairwise_lt_range
theorem mem_nI {l : List Nat} {z : Int} : z ∈ nI l ↔ ∃ x ∈ l, (x : Int) = z := by simp [nI]
theorem nI_asc {l : List Nat} (h : l.Pairwise (· < ·)) : (nI l).Pairwise (· < ·) := by
  unfold nI
  rw [List.pairwise_map]
  exact h.imp fun h => by omega
theorem nI_len (l : List Nat) : (nI l).length = l.length := by simp [nI]
/-- What okL says. -/
theorem okL_iff {l : List Int} : okL l = true ↔ (∀ x ∈ l, 0 ≤ x ∧ x ≤ 63) ∧ l.Pairwise (· < ·) := by
  unfold okL
  rw [List.all_eq_true]
  have gd : ∀ i (h : i < l.length), l.getD i 0 = l[i] := fun i h => by rw [List.getD_eq_getElem?_getD, List.getElem?_eq_getElem h]; rfl
  have key : (∀ x ∈ List.range l.length, okAt l x = true) ↔ (∀ i (h : i < l.length), (0 ≤ l[i] ∧ l[i] ≤ 63)) ∧ ∀ i (h : i + 1 < l.length), l[i] < l[i + 1] := by
    constructor
    · intro h
      refine ⟨fun i hi => ?_, fun i hi => ?_⟩
      · have := h i (by simpa using hi)
        unfold okAt at this
        rw [gd i hi] at this
        simp only [Bool.and_eq_true, decide_eq_true_eq] at this
        exact ⟨this.1, this.2.1⟩
      · have := h (i + 1) (by simpa using hi)
        unfold okAt at this
        rw [gd (i + 1) hi, show i + 1 - 1 = i by omega, gd i (by omega)] at this
        simp only [Bool.and_eq_true, Bool.or_eq_true, decide_eq_true_eq] at this
        rcases this.2.2 with h1 | h1
        · omega
        · exact h1
    · rintro ⟨h1, h2⟩ i hi
      have hi : i < l.length := by simpa using hi
      unfold okAt
      rw [gd i hi]
      simp only [Bool.and_eq_true, Bool.or_eq_true, decide_eq_true_eq]
      refine ⟨(h1 i hi).1, (h1 i hi).2, ?_⟩
      rcases Nat.eq_zero_or_pos i with h0 | h0
      · exact .inl h0
      · right
        rw [gd (i - 1) (by omega)]
        have := h2 (i - 1) (by omega)
        have e : i - 1 + 1 = i := by omega
        simpa [e] using this
  rw [key]
  constructor
  · rintro ⟨h1, h2⟩
    refine ⟨fun x hx => ?_, ?_⟩
    · obtain ⟨i, hi, rfl⟩ := List.mem_iff_getElem.1 hx
      exact h1 i hi
    · rw [List.pairwise_iff_getElem]
      intro i j hi hj hij
      have : ∀ d, ∀ j, j = i + 1 + d → (hj : j < l.length) → l[i] < l[j] := by
        intro d
        induction d with
        | zero => intro j e hj; subst e; exact h2 i hj
        | succ d ih =>
          intro j e hj
          have h3 := ih (j - 1) (by omega) (by omega)
          have h4 := h2 (j - 1) (by omega)
          have e : j - 1 + 1 = j := by omega
          simp only [e] at h4
          omega
      exact this (j - i - 1) j (by omega) hj
  · rintro ⟨h1, h2⟩
    exact ⟨fun i hi => h1 _ (List.getElem_mem hi), fun i hi => List.pairwise_iff_getElem.1 h2 i (i + 1) (by omega) hi (by omega)⟩
theorem ok_elems (m : Nat) : okL (nI (elems m)) = true := okL_iff.2 ⟨fun x hx => by
  obtain ⟨y, hy, rfl⟩ := mem_nI.1 hx
  have := (mem_elems.1 hy).1
  omega, nI_asc (elems_asc m)⟩
theorem maskI_bit {l : List Int} (h : ∀ x ∈ l, 0 ≤ x) (i : Nat) : (maskI l).testBit i = decide ((i : Int) ∈ l) := by
  unfold maskI
  rw [maskOf_bit, Bool.eq_iff_iff]
  simp only [decide_eq_true_eq, List.mem_map]
  constructor
  · rintro ⟨x, hx, rfl⟩
    rw [Int.toNat_of_nonneg (h x hx)]; exact hx
  · intro hi
    exact ⟨_, hi, by simp⟩
theorem ok_pos {l : List Int} (h : okL l = true) : ∀ x ∈ l, 0 ≤ x := fun x hx => ((okL_iff.1 h).1 x hx).1
theorem ok_lt {l : List Int} (h : okL l = true) : maskI l < 2 ^ 64 := lt_of_bits fun i hi => by
  rw [maskI_bit (ok_pos h)] at hi
  have := ((okL_iff.1 h).1 _ (of_decide_eq_true hi)).2
  omega
theorem list_of_mask {l : List Int} (h : okL l = true) : nI (elems (maskI l)) = l := asc_int (nI_asc (elems_asc _)) (okL_iff.1 h).2 fun x => by
  rw [mem_nI]
  constructor
  · rintro ⟨y, hy, rfl⟩
    have := (mem_elems.1 hy).2
    rw [maskI_bit (ok_pos h)] at this
    exact of_decide_eq_true this
  · intro hx
    have := (okL_iff.1 h).1 x hx
    refine ⟨x.toNat, mem_elems.2 ⟨by omega, ?_⟩, by omega⟩
    rw [maskI_bit (ok_pos h), Int.toNat_of_nonneg (by omega)]
    exact decide_eq_true hx
theorem mask_of_list {m : Nat} (h : m < 2 ^ 64) : maskI (nI (elems m)) = m := ext_bit fun i => by
  rw [maskI_bit (ok_pos (ok_elems m)), decide_eq_true_iff, mem_nI]
  constructor
  · rintro ⟨y, hy, e⟩
    have : y = i := by omega
    subst this
    exact (mem_elems.1 hy).2
  · intro hi
    exact ⟨i, (mem_elems' h).2 hi, rfl⟩
theorem mem_list {m i : Nat} (h : m < 2 ^ 64) : (i : Int) ∈ nI (elems m) ↔ m.testBit i = true := by
  have := maskI_bit (ok_pos (ok_elems m)) i
  rw [mask_of_list h] at this
  rw [this, decide_eq_true_iff]
/-- The reference's words. -/
def hitsR (set : List Int) (fam : List (List Int)) : Bool := fam.all fun s => s.any fun x => decide (x ∈ set)
def withinR (a b : List Int) : Bool := a.all fun x => decide (x ∈ b)
def dropR (s : List Int) (i : Nat) : List Int := s.take i ++ s.drop (i + 1)
def leastR (set : List Int) (fam : List (List Int)) : Bool := hitsR set fam && (List.range set.length).all fun i => !hitsR (dropR set i) fam
def validR (fam : List (List Int)) : Bool := fam.all okL && decide (fam.length ≤ 64)
def needR (fam : List (List Int)) (s : List Int) : Bool := fam.all fun t => !(withinR t s && decide (t.length < s.length))
def redR (fam : List (List Int)) : List (List Int) := insAll (fam.filter (needR fam))
def Fam (fam : List (List Int)) : Prop := ∀ s ∈ fam, okL s = true
theorem read_valid {fam : List (List Int)} (h : validR fam = true) : readF fam = some (fam.map maskI) ∧ Fam fam ∧ fam.length ≤ 64 := by
  unfold validR at h
  rw [Bool.and_eq_true, decide_eq_true_iff] at h
  unfold readF
  rw [if_neg (by omega), if_pos h.1]
  exact ⟨rfl, List.all_eq_true.1 h.1, h.2⟩
theorem read_invalid {fam : List (List Int)} (h : validR fam = false) : readF fam = none := by
  unfold readF
  split
  · rfl
  · rename_i h1
    rw [if_neg]
    intro h2
    unfold validR at h
    rw [h2, decide_eq_true (by omega)] at h
    cases h
theorem fam_u64 {fam : List (List Int)} (h : Fam fam) : U64 (fam.map maskI) := fun s hs => by
  obtain ⟨l, hl, rfl⟩ := List.mem_map.1 hs
  exact ok_lt (h l hl)
theorem hits_any {set : List Int} {fam : List (List Int)} (h : Fam fam) (hs : ∀ x ∈ set, 0 ≤ x) : hitsR set fam = true ↔ Hit (maskI set) (fam.map maskI) := by
  unfold hitsR Hit
  rw [List.all_eq_true]
  constructor
  · intro k s hs'
    obtain ⟨l, hl, rfl⟩ := List.mem_map.1 hs'
    obtain ⟨x, hx, hd⟩ := List.any_eq_true.1 (k l hl)
    have h0 := ok_pos (h l hl) x hx
    refine ⟨x.toNat, ?_, ?_⟩
    · rw [maskI_bit hs, Int.toNat_of_nonneg h0]; exact hd
    · rw [maskI_bit (ok_pos (h l hl)), Int.toNat_of_nonneg h0]; exact decide_eq_true hx
  · intro k l hl
    obtain ⟨x, h1, h2⟩ := k (maskI l) (List.mem_map.2 ⟨l, hl, rfl⟩)
    rw [maskI_bit hs] at h1
    rw [maskI_bit (ok_pos (h l hl))] at h2
    exact List.any_eq_true.2 ⟨x, of_decide_eq_true h2, h1⟩
theorem hits_mask {H : Nat} {fam : List (List Int)} (hH : H < 2 ^ 64) (h : Fam fam) : hitsR (nI (elems H)) fam = true ↔ Hit H (fam.map maskI) := by
  rw [hits_any h (ok_pos (ok_elems H)), mask_of_list hH]
theorem drop_mem {l : List Int} (h : l.Nodup) {i : Nat} (hi : i < l.length) {x : Int} : x ∈ dropR l i ↔ x ∈ l ∧ x ≠ l[i] := by
  have e : l = l.take i ++ l[i] :: l.drop (i + 1) := by
    rw [← List.drop_eq_getElem_cons hi, List.take_append_drop]
  have hn := h
  rw [e, List.nodup_append, List.nodup_cons] at hn
  unfold dropR
  rw [List.mem_append]
  constructor
  · intro hx
    refine ⟨?_, ?_⟩
    · rcases hx with hx | hx
      · exact List.mem_of_mem_take hx
      · exact List.mem_of_mem_drop hx
    · rintro rfl
      rcases hx with hx | hx
      · exact hn.2.2 l[i] hx l[i] List.mem_cons_self rfl
      · exact hn.2.1.1 hx
  · rintro ⟨h1, h2⟩
    rw [e] at h1
    rcases List.mem_append.1 h1 with h3 | h3
    · exact .inl h3
    · rcases List.mem_cons.1 h3 with h4 | h4
      · exact absurd h4 h2
      · exact .inr h4
theorem drop_asc {l : List Int} (h : l.Pairwise (· < ·)) (i : Nat) : (dropR l i).Pairwise (· < ·) := by
  have := List.eraseIdx_sublist l i
  rw [List.eraseIdx_eq_take_drop_succ] at this
  exact h.sublist this
theorem asc_nodup {l : List Int} (h : l.Pairwise (· < ·)) : l.Nodup := h.imp fun h => by omega
/-- Without an element, as bits. -/
theorem drop_mask {H x : Nat} (hH : H < 2 ^ 64) {i : Nat} (hi : i < (elems H).length) (hx : (elems H)[i] = x) : dropR (nI (elems H)) i = nI (elems (dif H (2 ^ x))) := by
  have hi' : i < (nI (elems H)).length := by rw [nI_len]; exact hi
  have hl : dif H (2 ^ x) < 2 ^ 64 := lt_of_bits fun j hj => bit_lt hH (by rw [dif_bit, Bool.and_eq_true] at hj; exact hj.1)
  have e : (nI (elems H))[i] = (x : Int) := by simp [nI, hx]
  refine asc_int (drop_asc (nI_asc (elems_asc H)) i) (nI_asc (elems_asc _)) fun z => ?_
  rw [drop_mem (asc_nodup (nI_asc (elems_asc H))) hi', e]
  constructor
  · rintro ⟨h1, h2⟩
    obtain ⟨y, hy, rfl⟩ := mem_nI.1 h1
    refine (mem_list hl).2 ?_
    rw [dif_bit, (mem_elems.1 hy).2, Nat.testBit_two_pow]
    simp; omega
  · intro h1
    obtain ⟨y, hy, rfl⟩ := mem_nI.1 h1
    have := (mem_elems.1 hy).2
    rw [dif_bit, Nat.testBit_two_pow] at this
    simp at this
    exact ⟨(mem_list hH).2 this.1, by omega⟩
theorem least_mask {H : Nat} {fam : List (List Int)} (hH : H < 2 ^ 64) (h : Fam fam) : leastR (nI (elems H)) fam = true ↔ Min H (fam.map maskI) := by
  unfold leastR
  rw [Bool.and_eq_true, List.all_eq_true, hits_mask hH h]
  constructor
  · rintro ⟨h1, h2⟩
    refine ⟨h1, fun x hx => ?_⟩
    obtain ⟨i, hi, e⟩ := List.mem_iff_getElem.1 ((mem_elems' hH).2 hx)
    have := h2 i (by rw [List.mem_range, nI_len]; exact hi)
    rw [drop_mask hH hi e, Bool.not_eq_true', ← Bool.not_eq_true, hits_mask (lt_of_bits fun j hj => bit_lt hH (by rw [dif_bit, Bool.and_eq_true] at hj; exact hj.1)) h] at this
    unfold Hit at this
    obtain ⟨s, hs0⟩ := Classical.not_forall.1 this
    obtain ⟨hs, hn⟩ := Classical.not_imp.1 hs0
    clear hs0
    obtain ⟨y, hy, hsy⟩ := h1 s hs
    have only : ∀ y, H.testBit y = true → s.testBit y = true → y = x := fun y hy hsy => by
      refine Classical.byContradiction fun hne => hn ⟨y, ?_, hsy⟩
      rw [dif_bit, hy, Nat.testBit_two_pow]
      simp; omega
    have := only y hy hsy
    subst this
    exact ⟨s, hs, hsy, only⟩
  · rintro ⟨h1, h2⟩
    refine ⟨h1, fun i hi => ?_⟩
    rw [List.mem_range, nI_len] at hi
    rw [drop_mask hH hi rfl, Bool.not_eq_true', ← Bool.not_eq_true, hits_mask (lt_of_bits fun j hj => bit_lt hH (by rw [dif_bit, Bool.and_eq_true] at hj; exact hj.1)) h]
    intro k
    obtain ⟨s, hs, hsx, ho⟩ := h2 _ (mem_elems.1 (List.getElem_mem hi)).2
    obtain ⟨y, hy, hsy⟩ := k s hs
    rw [dif_bit, Nat.testBit_two_pow] at hy
    simp at hy
    exact hy.2 (ho y hy.1 hsy).symm
theorem within_mask {a b : List Int} (ha : okL a = true) (hb : okL b = true) : withinR a b = true ↔ Sub (maskI a) (maskI b) := by
  unfold withinR Sub
  rw [List.all_eq_true]
  constructor
  · intro h x hx
    rw [maskI_bit (ok_pos ha)] at hx
    rw [maskI_bit (ok_pos hb)]
    exact h _ (of_decide_eq_true hx)
  · intro h x hx
    have h0 := ok_pos ha x hx
    have := h x.toNat (by rw [maskI_bit (ok_pos ha), Int.toNat_of_nonneg h0]; exact decide_eq_true hx)
    rw [maskI_bit (ok_pos hb), Int.toNat_of_nonneg h0] at this
    exact this
theorem card_list {a : List Int} (ha : okL a = true) : card (maskI a) = a.length := by
  unfold card
  rw [← nI_len, list_of_mask ha]
theorem need_mask {fam : List (List Int)} (h : Fam fam) {s : List Int} (hs : s ∈ fam) : needR fam s = true ↔ ∀ t ∈ fam.map maskI, Sub t (maskI s) → t = maskI s := by
  unfold needR
  rw [List.all_eq_true]
  constructor
  · intro k t ht hsub
    obtain ⟨l, hl, rfl⟩ := List.mem_map.1 ht
    have := k l hl
    rw [(within_mask (h l hl) (h s hs)).2 hsub] at this
    simp at this
    refine Classical.byContradiction fun hne => ?_
    have := lt_card (ok_lt (h s hs)) hsub hne
    rw [card_list (h l hl), card_list (h s hs)] at this
    omega
  · intro k t ht
    cases hw : withinR t s with
    | false => rfl
    | true =>
      have e := k (maskI t) (List.mem_map.2 ⟨t, ht, rfl⟩) ((within_mask (h t ht) (h s hs)).1 hw)
      have := card_list (h t ht)
      rw [e, card_list (h s hs)] at this
      simp; omega
/-- Reduce, as the reference says. -/
theorem red_mask {fam : List (List Int)} (h : Fam fam) : redR fam = lsF (leastF (fam.map maskI)) := sorted_ext (insAll_facts _).1 (lsF_sorted _) fun x => by
  unfold redR
  rw [(insAll_facts _).2, mem_lsF, List.mem_filter]
  constructor
  · rintro ⟨h1, h2⟩
    exact ⟨maskI x, mem_least.2 ⟨List.mem_map.2 ⟨x, h1, rfl⟩, (need_mask h h1).1 h2⟩, list_of_mask (h x h1)⟩
  · rintro ⟨m, hm, rfl⟩
    obtain ⟨h1, h2⟩ := mem_least.1 hm
    obtain ⟨l, hl, rfl⟩ := List.mem_map.1 h1
    rw [list_of_mask (h l hl)]
    exact ⟨hl, (need_mask h hl).2 h2⟩
end Go.Proofs.YtdcbejccplonjaaDoor
