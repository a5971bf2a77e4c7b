/- Duality; families with the same least sets; the reference's Minimal. -/
import Derived.Test.YtdcbejccplonjaaDoorH6
import Derived.Test.YtdcbejccplonjaaDoorH8
namespace Go.Proofs.YtdcbejccplonjaaDoor
theorem hit_comp {sets : List Nat} {G : Nat} (h : ∀ s ∈ sets, ¬ Sub s G) : Hit (dif (orAll sets) G) sets := fun s hs => by
  obtain ⟨x, hx⟩ := Classical.not_forall.1 (h s hs)
  obtain ⟨h1, h2⟩ := Classical.not_imp.1 hx
  refine ⟨x, ?_, h1⟩
  rw [dif_bit, (orAll_bit _ _).2 ⟨s, hs, h1⟩]
  simpa using h2
theorem comp_lt {sets : List Nat} (hu : U64 sets) (G : Nat) : dif (orAll sets) G < 2 ^ 64 := lt_of_bits fun i hi => bit_lt (orAll_lt hu) (by rw [dif_bit, Bool.and_eq_true] at hi; exact hi.1)
/-- The minimal hitting sets of the minimal hitting sets are the least sets. -/
theorem dual {sets R : List Nat} (hu : U64 sets) (hR : ∀ H, H ∈ R ↔ Min H sets) {G : Nat} : Min G R ↔ G ∈ leastF sets := by
  constructor
  · intro hG
    have h1 : ∃ s ∈ sets, Sub s G := by
      refine Classical.byContradiction fun hn => ?_
      have hh := hit_comp (G := G) fun s hs hk => hn ⟨s, hs, hk⟩
      obtain ⟨H, hs, hm⟩ := min_below _ _ (comp_lt hu G) rfl hh
      obtain ⟨x, hx, hy⟩ := hG.hit H ((hR H).2 hm)
      have := hs x hy
      rw [dif_bit, hx] at this
      simp at this
    obtain ⟨s, hs, hsub⟩ := h1
    obtain ⟨t, ht, hts⟩ := least_below hu _ s rfl hs
    have hit : Hit t R := fun H hH => by
      obtain ⟨x, h2, h3⟩ := ((hR H).1 hH).hit t (mem_least.1 ht).1
      exact ⟨x, h3, h2⟩
    rw [← hG.sub hit (hts.trans hsub)]
    exact ht
  · intro hG
    obtain ⟨hs, hm⟩ := mem_least.1 hG
    refine ⟨fun H hH => ?_, fun x hx => ?_⟩
    · obtain ⟨y, h2, h3⟩ := ((hR H).1 hH).hit G hs
      exact ⟨y, h3, h2⟩
    · have h1 : ∀ s ∈ sets, ¬ Sub s (dif G (2 ^ x)) := fun s hs hk => by
        have hsub : Sub s G := fun y hy => (dif_pow_bit.1 (hk y hy)).1
        have := hm s hs hsub
        rw [← this] at hx
        exact (dif_pow_bit.1 (hk x hx)).2 rfl
      obtain ⟨H, hsub, hmin⟩ := min_below _ _ (comp_lt hu _) rfl (hit_comp h1)
      have key : ∀ y, G.testBit y = true → H.testBit y = true → y = x := fun y hy hh => by
        have := hsub y hh
        rw [dif_bit, Bool.and_eq_true] at this
        refine Classical.byContradiction fun hne => ?_
        rw [dif_pow_bit.2 ⟨hy, hne⟩] at this
        simp at this
      refine ⟨H, (hR H).2 hmin, ?_, fun y hy hh => key y hy hh⟩
      obtain ⟨y, h2, h3⟩ := hmin.hit G hs
      rw [← key y h3 h2]
      exact h2
/-- Two families, each of whose sets contains one of the other's. -/
structure Alike (A B : List Nat) : Prop where
  ab : ∀ s ∈ A, ∃ t ∈ B, Sub t s
  ba : ∀ s ∈ B, ∃ t ∈ A, Sub t s
theorem Alike.sym {A B : List Nat} (h : Alike A B) : Alike B A := ⟨h.ba, h.ab⟩
theorem Alike.least1 {A B : List Nat} (h : Alike A B) {x : Nat} (hx : x ∈ leastF A) : x ∈ leastF B := by
  obtain ⟨h1, h2⟩ := mem_least.1 hx
  obtain ⟨t, ht, hs⟩ := h.ab x h1
  obtain ⟨u, hu, hut⟩ := h.ba t ht
  have e := h2 u hu (hut.trans hs)
  have et : t = x := Sub.antisymm hs (by rw [← e]; exact hut)
  refine mem_least.2 ⟨by rw [← et]; exact ht, fun v hv hvx => ?_⟩
  obtain ⟨z, hz, hzv⟩ := h.ba v hv
  have e2 := h2 z hz (hzv.trans hvx)
  exact Sub.antisymm hvx (by rw [← e2]; exact hzv)
theorem Alike.least {A B : List Nat} (h : Alike A B) (x : Nat) : x ∈ leastF A ↔ x ∈ leastF B := ⟨h.least1, h.sym.least1⟩
theorem min_congr {A B : List Nat} (h : ∀ s, s ∈ A ↔ s ∈ B) {H : Nat} (hm : Min H A) : Min H B :=
  ⟨fun s hs => hm.hit s ((h s).2 hs), fun x hx => by
    obtain ⟨s, hs, k⟩ := hm.crit x hx
    exact ⟨s, (h s).1 hs, k⟩⟩
theorem Alike.min1 {A B : List Nat} (hA : U64 A) (hB : U64 B) (h : Alike A B) {H : Nat} (hm : Min H A) : Min H B :=
  (min_least hB).1 (min_congr h.least ((min_least hA).2 hm))
theorem Alike.min {A B : List Nat} (hA : U64 A) (hB : U64 B) (h : Alike A B) (H : Nat) : Min H A ↔ Min H B := ⟨h.min1 hA hB, h.sym.min1 hB hA⟩
theorem lsF_congr {A B : List Nat} (h : ∀ s, s ∈ A ↔ s ∈ B) : lsF A = lsF B := sorted_ext (lsF_sorted _) (lsF_sorted _) fun x => by
  rw [mem_lsF, mem_lsF]
  constructor
  · rintro ⟨m, hm, e⟩; exact ⟨m, (h m).1 hm, e⟩
  · rintro ⟨m, hm, e⟩; exact ⟨m, (h m).2 hm, e⟩
/-- The bits of the sets of a sorted list. -/
theorem lsF_masks {ms : List Nat} (h : U64 ms) (x : Nat) : x ∈ (lsF ms).map maskI ↔ x ∈ ms := by
  rw [List.mem_map]
  constructor
  · rintro ⟨l, hl, rfl⟩
    obtain ⟨m, hm, rfl⟩ := mem_lsF.1 hl
    rw [mask_of_list (h m hm)]
    exact hm
  · intro hx
    exact ⟨nI (elems x), mem_lsF.2 ⟨x, hx, rfl⟩, mask_of_list (h x hx)⟩
theorem lsF_fam (ms : List Nat) : Fam (lsF ms) := fun s hs => by
  obtain ⟨m, _, rfl⟩ := mem_lsF.1 hs
  exact ok_elems m
/-- The reference's Minimal. -/
def minR (fam : List (List Int)) (n : Nat) (most : Int) : List (List Int) := insAll (((List.range (2 ^ n)).map fun b => nI (elems b)).filter fun s => decide ((s.length : Int) ≤ most) && leastR s fam)
theorem mem_minR {fam : List (List Int)} (h : Fam fam) (h8 : ∀ s ∈ fam.map maskI, s < 256) {most : Nat} {x : List Int} : x ∈ minR fam 8 (most : Int) ↔ ∃ H, Min H (fam.map maskI) ∧ card H ≤ most ∧ nI (elems H) = x := by
  unfold minR
  rw [(insAll_facts _).2, List.mem_filter, List.mem_map]
  constructor
  · rintro ⟨⟨b, hb, rfl⟩, h2⟩
    rw [Bool.and_eq_true, decide_eq_true_iff, nI_len] at h2
    have hb : b < 2 ^ 8 := List.mem_range.1 hb
    exact ⟨b, (least_mask (Nat.lt_of_lt_of_le hb (by decide)) h).1 h2.2, by unfold card; omega, rfl⟩
  · rintro ⟨H, h1, h2, rfl⟩
    have hH : H < 256 := List.mem_range.1 ((few8 h8).mem _ (fun s hs => hs) H h1)
    refine ⟨⟨H, List.mem_range.2 hH, rfl⟩, ?_⟩
    rw [Bool.and_eq_true, decide_eq_true_iff, nI_len]
    exact ⟨by unfold card at h2; omega, (least_mask (Nat.lt_of_lt_of_le hH (by decide)) h).2 h1⟩
theorem min_ref {fam : List (List Int)} (h : Fam fam) (h8 : ∀ s ∈ fam.map maskI, s < 256) {most : Nat} {r : List Nat} (hr : ∀ H, H ∈ r ↔ Min H (fam.map maskI) ∧ card H ≤ most) : lsF r = minR fam 8 (most : Int) :=
  sorted_ext (lsF_sorted _) (insAll_facts _).1 fun x => by
    rw [mem_minR h h8, mem_lsF]
    constructor
    · rintro ⟨m, hm, e⟩
      exact ⟨m, ((hr m).1 hm).1, ((hr m).1 hm).2, e⟩
    · rintro ⟨m, h1, h2, e⟩
      exact ⟨m, (hr m).2 ⟨h1, h2⟩, e⟩
theorem card8 {H : Nat} (h : H < 256) : card H ≤ 8 := by
  have : ∀ x ∈ elems H, x ∈ List.range 8 := fun x hx => by
    rw [List.mem_range]
    refine Classical.byContradiction fun hn => ?_
    have := (mem_elems.1 hx).2
    rw [Nat.testBit_lt_two_pow (Nat.lt_of_lt_of_le h (Nat.pow_le_pow_right (n := 2) (by omega) (show 8 ≤ x by omega)))] at this
    cases this
  have := nodup_len (elems_nodup H) this
  rw [List.length_range] at this
  exact this
end Go.Proofs.YtdcbejccplonjaaDoor
