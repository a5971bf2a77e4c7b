/- The plain laws at families of bit sets. -/
import Derived.Test.YtdcbejccplonjaaDoorB22
namespace Go.Proofs.YtdcbejccplonjaaDoor
theorem take8 {xs : List Nat} (h : U8 xs) : ∀ s ∈ xs.take 10, s < 256 := fun s hs => h s (List.mem_of_mem_take hs)
theorem u64_8 {ms : List Nat} (h : ∀ s ∈ ms, s < 256) : U64 ms := fun s hs => Nat.lt_of_lt_of_le (h s hs) (by decide)
/-- What Minimal returns at a family of subsets of eight numbers. -/
theorem min8 {fam : List (List Int)} {ms : List Nat} (hr : readF fam = some ms) (h8 : ∀ s ∈ ms, s < 256) (m : Nat) : ∃ r, minRes fam (m : Int) = (lsF r, 0) ∧ r.Nodup ∧ ∀ H, H ∈ r ↔ Min H ms ∧ card H ≤ m := by
  obtain ⟨-, -, hl, hu⟩ := readF_facts hr
  obtain ⟨r, h1, h2, h3⟩ := min_all m hl hu (few8 h8)
  exact ⟨r, by rw [minRes_pos m hr, h1]; rfl, h2, h3⟩
theorem min_lt8 {ms : List Nat} (h8 : ∀ s ∈ ms, s < 256) {H : Nat} (h : Min H ms) : H < 256 := List.mem_range.1 ((few8 h8).mem _ (fun _ hs => hs) H h)
theorem min_card8 {ms : List Nat} (h8 : ∀ s ∈ ms, s < 256) {H : Nat} : (Min H ms ∧ card H ≤ 8) ↔ Min H ms := ⟨fun h => h.1, fun h => ⟨h, card8 (min_lt8 h8 h)⟩⟩
theorem fam_read {fam : List (List Int)} (h : Fam fam) (hl : fam.length ≤ 64) : readF fam = some (fam.map maskI) := by
  unfold readF
  rw [if_neg (by omega), if_pos (List.all_eq_true.2 h)]
theorem ins_len (s : List Int) : ∀ l : List (List Int), (insF s l).length ≤ l.length + 1
  | [] => by simp [insF]
  | t :: r => by
    rw [insF]
    split
    · simp
    · split
      · have := ins_len s r
        simp only [List.length_cons]
        omega
      · simp only [List.length_cons]
        omega
theorem insAll_len (ss : List (List Int)) : (insAll ss).length ≤ ss.length := by
  induction ss using snoc_ind with
  | h0 => simp [insAll]
  | h1 l x ih =>
    rw [insAll_snoc, List.length_append, List.length_singleton]
    have := ins_len x (insAll l)
    omega
theorem lsF_len (ms : List Nat) : (lsF ms).length ≤ ms.length := by
  have := insAll_len (ms.map fun m => nI (elems m))
  rwa [List.length_map] at this
theorem r_len {r : List Nat} (hn : r.Nodup) (h : ∀ H ∈ r, H < 256) : r.length ≤ 256 := by
  have := nodup_len (U := List.range 256) hn fun H hH => List.mem_range.2 (h H hH)
  rwa [List.length_range] at this
/-- Duality, as the law asks it. -/
theorem dual8 {xs : List Nat} (hu : U8 xs) : ∃ R, redRes (famF xs) = (lsF (leastF (xs.take 10)), 0) ∧ minRes (famF xs) 8 = (lsF R, 0) ∧ R.Nodup ∧ (∀ H ∈ R, H < 256) ∧ ((lsF R).length ≤ 64 → minRes (lsF R) 8 = (lsF (leastF (xs.take 10)), 0)) := by
  have h8 := take8 hu
  obtain ⟨r, h1, h2, h3⟩ := min8 (famF_read xs hu) h8 8
  have h3' : ∀ H, H ∈ r ↔ Min H (xs.take 10) := fun H => (h3 H).trans (min_card8 h8)
  have r8 : ∀ H ∈ r, H < 256 := fun H hH => min_lt8 h8 ((h3' H).1 hH)
  refine ⟨r, redRes_ok (famF_read xs hu), h1, h2, r8, fun hl => ?_⟩
  have hm := lsF_masks (u64_8 r8)
  have m8 : ∀ s ∈ (lsF r).map maskI, s < 256 := fun s hs => r8 s ((hm s).1 hs)
  obtain ⟨r2, k1, _, k3⟩ := min8 (fam_read (lsF_fam r) hl) m8 8
  have e : minRes (lsF r) 8 = (lsF r2, 0) := k1
  rw [e, lsF_congr (A := r2) (B := leastF (xs.take 10))]
  intro G
  rw [k3, min_card8 m8, ← dual (u64_8 h8) h3']
  exact ⟨fun h => min_congr hm h, fun h => min_congr (fun s => (hm s).symm) h⟩
end Go.Proofs.YtdcbejccplonjaaDoor
