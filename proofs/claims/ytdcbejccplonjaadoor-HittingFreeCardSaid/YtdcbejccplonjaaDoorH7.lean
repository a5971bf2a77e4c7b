/- What Minimal finds: only minimal hitting sets, and all of them if there are few. -/
import Derived.Test.YtdcbejccplonjaaDoorH1
namespace Go.Proofs.YtdcbejccplonjaaDoor
theorem nodup_len {α : Type} [DecidableEq α] : ∀ {l U : List α}, l.Nodup → (∀ x ∈ l, x ∈ U) → l.length ≤ U.length
  | [], _, _, _ => Nat.zero_le _
  | x :: l, U, h, hs => by
    rw [List.nodup_cons] at h
    have hx := hs x (by simp)
    have h1 := nodup_len (U := U.erase x) h.2 fun y hy => by
      refine (List.mem_erase_of_ne ?_).2 (hs y (by simp [hy]))
      rintro rfl
      exact h.1 hy
    rw [List.length_erase_of_mem hx] at h1
    have := List.length_pos_of_mem hx
    rw [List.length_cons]
    omega
theorem least_nil {L : List Nat} (h : ∀ s ∈ L, ∀ t ∈ L, Sub t s → t = s) (hn : L.Nodup) : L.getD 0 1 = 0 ↔ 0 ∈ L := by
  cases L with
  | nil => simp
  | cons s l =>
    constructor
    · intro e
      have : s = 0 := e
      simp [this]
    · intro h0
      have := h s (by simp) 0 h0 (fun x hx => by rw [Nat.zero_testBit] at hx; cases hx)
      show s = 0
      exact this.symm
theorem head_zero (sets : List Nat) : (leastF sets).getD 0 1 = 0 ↔ 0 ∈ sets := by
  rw [least_nil (fun s hs t ht h => (mem_least.1 hs).2 t (mem_least.1 ht).1 h) (least_nodup sets)]
  constructor
  · exact fun h => (mem_least.1 h).1
  · exact fun h => mem_least.2 ⟨h, fun t _ hs => Sub.antisymm hs fun x hx => by rw [Nat.zero_testBit] at hx; cases hx⟩
theorem no_hit {sets : List Nat} (h : 0 ∈ sets) (H : Nat) : ¬ Hit H sets := fun k => by
  obtain ⟨x, _, hx⟩ := k 0 h
  rw [Nat.zero_testBit] at hx
  cases hx
/-- The parts of the least sets. -/
def psF (sets : List Nat) : List (List Nat) := (partsF (leastF sets)).map (·.1)
theorem ps_flat (sets : List Nat) : (psF sets).flatten.Perm (leastF sets) := by
  have := (parts_facts (leastF sets)).perm
  rw [List.flatMap_def] at this
  exact this
theorem ps_mem {sets p : List Nat} (hp : p ∈ psF sets) : ∀ s ∈ p, s ∈ leastF sets := fun _ hs => (ps_flat sets).mem_iff.1 (List.mem_flatten.2 ⟨p, hp, hs⟩)
theorem len_flatten {p : List Nat} : ∀ {ps : List (List Nat)}, p ∈ ps → p.length ≤ ps.flatten.length
  | [], h => by cases h
  | q :: ps, h => by
    rw [List.flatten_cons, List.length_append]
    rcases List.mem_cons.1 h with rfl | h
    · omega
    · have := len_flatten h
      omega
theorem ps_ok {sets : List Nat} (hl : sets.length ≤ 64) (hu : U64 sets) : ∀ p ∈ psF sets, PartOk p := fun p hp => by
  refine ⟨?_, fun _ hs => least_u64 hu _ (ps_mem hp _ hs), ?_⟩
  · have h1 := len_flatten hp
    have h2 := (ps_flat sets).length_eq
    have h3 := least_length sets
    omega
  · obtain ⟨q, hq, rfl⟩ := List.mem_map.1 hp
    exact (parts_facts (leastF sets)).ne q hq
theorem ps_dis (sets : List Nat) : (psF sets).Pairwise fun p q => Dis (orAll p) (orAll q) := by
  unfold psF
  rw [List.pairwise_map]
  have h := parts_facts (leastF sets)
  refine List.Pairwise.imp_of_mem ?_ h.dis
  intro p q hp hq hd
  rw [← h.union p hp, ← h.union q hq]
  exact hd
theorem ps_min {sets : List Nat} (hu : U64 sets) {H : Nat} : Min H (psF sets).flatten ↔ Min H sets :=
  ⟨fun h => (min_least hu).1 (min_perm (ps_flat sets) h), fun h => min_perm (ps_flat sets).symm ((min_least hu).2 h)⟩
theorem minF_eq (sets : List Nat) (most : Nat) : minF sets most = if (leastF sets).getD 0 1 = 0 then some [] else if most < needF most (psF sets) then some [] else combF most (needF most (psF sets)) (psF sets) (needF most (psF sets)) [0] := rfl
theorem good_start (most : Nat) (full : Prop) {n : Nat} (h : n ≤ most) : Good most n ([] : List (List Nat)).flatten [0] full :=
  ⟨by simp, fun H hH => by
    rw [List.mem_singleton] at hH
    subst hH
    refine ⟨⟨fun s hs => by simp at hs, fun x hx => by rw [Nat.zero_testBit] at hx; cases hx⟩, ?_⟩
    have : card 0 = 0 := by decide
    omega, fun _ H hH _ => by
    rw [List.mem_singleton]
    refine zero_bit.2 fun i => ?_
    cases hb : H.testBit i with
    | false => rfl
    | true =>
      obtain ⟨s, hs, _⟩ := hH.crit i hb
      simp at hs⟩
/-- Only minimal hitting sets, each once. -/
theorem min_sound {sets r : List Nat} {most : Nat} (hl : sets.length ≤ 64) (hu : U64 sets) (h : minF sets most = some r) : r.Nodup ∧ ∀ H ∈ r, Min H sets ∧ card H ≤ most := by
  rw [minF_eq] at h
  split at h
  · cases h; exact ⟨List.nodup_nil, by simp⟩
  · split at h
    · cases h; exact ⟨List.nodup_nil, by simp⟩
    · rename_i h1 h2
      have hg := comb_good (full := False) (psF sets) [] [0] (by simpa using ps_ok hl hu) (by simpa using ps_dis sets) (by simp [needF]) (by omega) (by simp) (good_start most False (by omega)) r h
      refine ⟨hg.nodup, fun H hH => ?_⟩
      obtain ⟨h3, h4⟩ := hg.sound H hH
      exact ⟨(ps_min hu).1 (by simpa using h3), by omega⟩
/-- The universe of few sets. -/
structure Few (sets U : List Nat) : Prop where
  le : U.length ≤ 4096
  mem : ∀ q : List Nat, (∀ s ∈ q, s ∈ sets) → ∀ H, Min H q → H ∈ U
theorem few_search {sets U p : List Nat} (h : Few sets U) (hp : PartOk p) (hs : ∀ s ∈ p, s ∈ sets) (most limit : Nat) : (searchF p most limit).length ≤ 4096 := by
  obtain ⟨l, el, ln, ls, _⟩ := (search_adds most limit hp.len hp.u64).new
  rw [List.nil_append] at el
  rw [el]
  exact Nat.le_trans (nodup_len ln fun H hH => h.mem p hs H (ls H hH).1) h.le
theorem comb_some {sets U : List Nat} {most need : Nat} (hf : Few sets U) : ∀ (ps done : List (List Nat)) (found : List Nat), (∀ p ∈ done ++ ps, PartOk p) → (∀ p ∈ done ++ ps, ∀ s ∈ p, s ∈ sets) → (done ++ ps).Pairwise (fun p q => Dis (orAll p) (orAll q)) →
    Good most (needF most ps) done.flatten found False → ∃ r, combF most need ps (needF most ps) found = some r := by
  intro ps
  induction ps with
  | nil => intro done found _ _ _ _; exact ⟨found, rfl⟩
  | cons p ps ih =>
    intro done found hok hin hd hg
    rw [need_cons] at hg ⊢
    rw [combF]
    have hrest : smallF p most + needF most ps - smallF p most = needF most ps := by omega
    rw [hrest]
    have hp := hok p (by simp)
    have hdis : Dis (orAll done.flatten) (orAll p) := fun x hx => by
      obtain ⟨q, hq, h1⟩ := (orAll_flat_bit _ _).1 hx.1
      exact (List.pairwise_append.1 hd).2.2 q hq p (by simp) x ⟨h1, hx.2⟩
    obtain ⟨l, el, ln, ls, lf⟩ := (search_adds (most - need + smallF p most) 4096 hp.len hp.u64).new
    rw [List.nil_append] at el
    have happ : (done ++ p :: ps) = (done ++ [p]) ++ ps := by simp
    rw [happ] at hok hd hin
    have hfl : (done ++ [p]).flatten = done.flatten ++ p := by simp
    have hnd := cross_nodup (most := most) (rest := needF most ps) hdis hg.nodup (el ▸ ln) (fun a ha => (hg.sound a ha).1.in_all) (fun b hb => (ls b (el ▸ hb)).1.in_all)
    have hmin : ∀ H ∈ crossF most (needF most ps) found (searchF p (most - need + smallF p most) 4096), Min H (done ++ [p]).flatten ∧ card H + needF most ps ≤ most := fun H hH => by
      obtain ⟨a, ha, b, hb, h1, rfl⟩ := mem_cross.1 hH
      rw [hfl]
      exact ⟨(min_append hdis).2 ⟨a, b, rfl, (hg.sound a ha).1, (ls b (el ▸ hb)).1⟩, h1⟩
    have hlen := nodup_len hnd fun H hH => hf.mem _ (fun s hs => by
      obtain ⟨q, hq, h1⟩ := List.mem_flatten.1 hs
      exact hin q (List.mem_append.2 (.inl hq)) s h1) H (hmin H hH).1
    rw [if_neg (by have := hf.le; omega)]
    exact ih (done ++ [p]) _ hok hin hd ⟨hnd, hmin, fun h => h.elim⟩
/-- All of them, if there are few. -/
theorem min_all {sets U : List Nat} (most : Nat) (hl : sets.length ≤ 64) (hu : U64 sets) (hf : Few sets U) : ∃ r, minF sets most = some r ∧ r.Nodup ∧ ∀ H, H ∈ r ↔ Min H sets ∧ card H ≤ most := by
  rw [minF_eq]
  split
  · rename_i h
    refine ⟨[], rfl, List.nodup_nil, fun H => ⟨by simp, fun ⟨h1, _⟩ => absurd h1.hit (no_hit ((head_zero sets).1 h) H)⟩⟩
  · split
    · rename_i h1 h2
      refine ⟨[], rfl, List.nodup_nil, fun H => ⟨by simp, fun ⟨h3, h4⟩ => ?_⟩⟩
      have := need_le (most := most) _ (ps_ok hl hu) (ps_dis sets) H ((ps_min hu).2 h3)
      omega
    · rename_i h1 h2
      have hin : ∀ p ∈ psF sets, ∀ s ∈ p, s ∈ sets := fun p hp s hs => (mem_least.1 (ps_mem hp s hs)).1
      obtain ⟨r, hr⟩ := comb_some (most := most) (need := needF most (psF sets)) hf (psF sets) [] [0] (by simpa using ps_ok hl hu) (by simpa using hin) (by simpa using ps_dis sets) (good_start most False (by omega))
      have hg := comb_good (full := True) (psF sets) [] [0] (by simpa using ps_ok hl hu) (by simpa using ps_dis sets) (by simp [needF]) (by omega) (fun _ p hp => few_search hf (ps_ok hl hu p hp) (hin p hp) _ _) (good_start most True (by omega)) r hr
      refine ⟨r, hr, hg.nodup, fun H => ⟨fun hH => ?_, fun ⟨h3, h4⟩ => hg.full trivial H (by simpa using (ps_min hu).2 h3) (by omega)⟩⟩
      obtain ⟨h3, h4⟩ := hg.sound H hH
      exact ⟨(ps_min hu).1 (by simpa using h3), by omega⟩
/-- Subsets of eight numbers are few. -/
theorem few8 {sets : List Nat} (h : ∀ s ∈ sets, s < 256) : Few sets (List.range 256) := ⟨by simp, fun q hq H hH => by
  rw [List.mem_range]
  refine lt_of_bits (n := 8) fun i hi => ?_
  obtain ⟨s, hs, hb, _⟩ := hH.crit i hi
  refine Classical.byContradiction fun hn => ?_
  rw [Nat.testBit_lt_two_pow (Nat.lt_of_lt_of_le (h s (hq s hs)) (Nat.pow_le_pow_right (n := 2) (by omega) (show 8 ≤ i by omega)))] at hb
  cases hb⟩
/-- So are the hitting sets of one set. -/
theorem few1 {s : Nat} (h : s < 2 ^ 64) : Few [s] (0 :: (List.range 64).map fun x => 2 ^ x) := ⟨by simp, fun q hq H hH => by
  have e : ∀ t ∈ q, t = s := fun t ht => by simpa using hq t ht
  by_cases h0 : H = 0
  · simp [h0]
  · obtain ⟨x, hx⟩ := ne_zero_bit.1 h0
    obtain ⟨t, ht, hb, ho⟩ := hH.crit x hx
    have := e t ht
    subst this
    refine List.mem_cons_of_mem _ (List.mem_map.2 ⟨x, List.mem_range.2 (bit_lt h hb), ext_bit fun i => ?_⟩)
    rw [Nat.testBit_two_pow]
    constructor
    · intro hi
      rw [← of_decide_eq_true hi]; exact hx
    · intro hi
      obtain ⟨t', ht', hb', _⟩ := hH.crit i hi
      rw [e t' ht'] at hb'
      exact decide_eq_true (ho i hi hb').symm⟩
theorem few0 : Few [] [0] := ⟨by simp, fun q hq H hH => by
  rw [List.mem_singleton]
  refine zero_bit.2 fun i => ?_
  cases hb : H.testBit i with
  | false => rfl
  | true =>
    obtain ⟨s, hs, _⟩ := hH.crit i hb
    exact absurd (hq s hs) (by simp)⟩
end Go.Proofs.YtdcbejccplonjaaDoor
