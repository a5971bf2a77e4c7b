/- The plain law of HittingFree: order, repetitions and supersets do not matter. -/
import Derived.Test.YtdcbejccplonjaaDoorH10
namespace Go.Proofs.YtdcbejccplonjaaDoor
def moreF (xs : List Nat) (k b : Nat) : List (List Int) := (famF xs).reverse ++ [(famF xs).getD k [], nI (elems (xs.getD k 0 ||| b))]
theorem famF_get {xs : List Nat} {k : Nat} (hk : k < (famF xs).length) : k < xs.length ∧ k < 10 ∧ (famF xs).getD k [] = nI (elems (xs.getD k 0)) := by
  unfold famF at hk ⊢
  rw [List.length_map, List.length_take] at hk
  refine ⟨by omega, by omega, ?_⟩
  rw [List.getD_eq_getElem?_getD, List.getElem?_map, List.getElem?_take, if_pos (by omega), List.getD_eq_getElem?_getD, List.getElem?_eq_getElem (by omega)]
  rfl
theorem or8 {a b : Nat} (ha : a < 256) (hb : b < 256) : a ||| b < 256 := Nat.or_lt_two_pow (n := 8) ha hb
theorem free8 {xs : List Nat} (hu : U8 xs) {k b : Nat} (hk : k < (famF xs).length) (hb : b < 256) : ∃ R, minRes (famF xs) 8 = (lsF R, 0) ∧ minRes (moreF xs k b) 8 = (lsF R, 0) ∧ redRes (famF xs) = (lsF (leastF (xs.take 10)), 0) ∧ redRes (moreF xs k b) = (lsF (leastF (xs.take 10)), 0) ∧ R.Nodup ∧ ∀ H ∈ R, H < 256 := by
  have h8 := take8 hu
  have h64 := u64_8 h8
  obtain ⟨k1, k2, k3⟩ := famF_get hk
  have hx := U8.get hu k
  have ho := or8 hx hb
  have hfam : Fam (moreF xs k b) := fun s hs => by
    unfold moreF at hs
    rcases List.mem_append.1 hs with h1 | h1
    · exact famF_fam xs s (List.mem_reverse.1 h1)
    · simp only [List.mem_cons, List.not_mem_nil, or_false] at h1
      rcases h1 with rfl | rfl
      · rw [k3]; exact ok_elems _
      · exact ok_elems _
  have hfl := famF_len xs
  have hlen : (moreF xs k b).length ≤ 64 := by unfold moreF; simp; omega
  have hmask : (moreF xs k b).map maskI = (xs.take 10).reverse ++ [xs.getD k 0, xs.getD k 0 ||| b] := by
    unfold moreF
    rw [List.map_append, List.map_reverse, famF_masks hu, k3]
    simp only [List.map_cons, List.map_nil]
    rw [mask_of_list (Nat.lt_of_lt_of_le hx (by decide)), mask_of_list (Nat.lt_of_lt_of_le ho (by decide))]
  have hin : xs.getD k 0 ∈ xs.take 10 := by
    refine List.mem_iff_getElem?.2 ⟨k, ?_⟩
    rw [List.getElem?_take, if_pos k2, List.getD_eq_getElem?_getD, List.getElem?_eq_getElem k1]
    rfl
  have hal : Alike (xs.take 10) ((moreF xs k b).map maskI) := by
    rw [hmask]
    refine ⟨fun s hs => ⟨s, by simp [hs], Sub.refl _⟩, fun s hs => ?_⟩
    rcases List.mem_append.1 hs with h1 | h1
    · exact ⟨s, List.mem_reverse.1 h1, Sub.refl _⟩
    · simp only [List.mem_cons, List.not_mem_nil, or_false] at h1
      rcases h1 with rfl | rfl
      · exact ⟨_, hin, Sub.refl _⟩
      · exact ⟨_, hin, fun i hi => by rw [Nat.testBit_or, hi]; rfl⟩
  have m8 : ∀ s ∈ (moreF xs k b).map maskI, s < 256 := by
    rw [hmask]
    intro s hs
    rcases List.mem_append.1 hs with h1 | h1
    · exact h8 s (List.mem_reverse.1 h1)
    · simp only [List.mem_cons, List.not_mem_nil, or_false] at h1
      rcases h1 with rfl | rfl
      · exact hx
      · exact ho
  have hr2 := fam_read hfam hlen
  obtain ⟨r, h1, h2, h3⟩ := min8 (famF_read xs hu) h8 8
  obtain ⟨r2, g1, g2, g3⟩ := min8 hr2 m8 8
  have e : lsF r2 = lsF r := lsF_congr fun H => by rw [g3, h3, hal.min h64 (u64_8 m8)]
  refine ⟨r, h1, by rw [← e]; exact g1, redRes_ok (famF_read xs hu), ?_, h2, fun H hH => min_lt8 h8 ((h3 H).1 hH).1⟩
  rw [redRes_ok hr2, lsF_congr fun x => (hal.least x).symm]
end Go.Proofs.YtdcbejccplonjaaDoor
