/- The digests of the cases that CasebookFull adds differ. -/
import Derived.Test.YtjeclmmikjpinaaDoorE3
import Derived.Test.YtjeclmmikjpinaaDoorC1
namespace Go.Proofs.YtjeclmmikjpinaaDoor
def ones : List (List (List UInt8)) := (List.range 256).map fun k => [[116], [UInt8.ofNat k]]
set_option maxRecDepth 1000000 in
theorem ones_diff : diffN (ones ++ [[[116], [1, 2]]]) [] = true := by decide +kernel
set_option maxRecDepth 1000000 in
theorem longs_diff : diffN (ones ++ [[[116], List.replicate 3998 0], [[116], List.replicate 3999 0], [[116], List.replicate 4000 0]]) [] = true := by decide +kernel
theorem cat2_len (u : UInt8) (xs : List UInt8) : (catF [[u], xs]).length = 17 + xs.length := by
  unfold catF catF catF
  simp [e8F_len]
  omega
/-- The digest of the k-th case. -/
def keyK (k : Nat) : List UInt8 := partsF [[116], [UInt8.ofNat k]]
theorem keyK_len (k : Nat) : (keyK k).length = 32 := partsF_len _
theorem kp_ne {xs ys : List UInt8} (hx : xs.length ≤ 4000) (hy : ys.length ≤ 4000) (h : kpN [[116], xs] ≠ kpN [[116], ys]) : partsF [[116], xs] ≠ partsF [[116], ys] := fun e =>
  h (kpN_eq (by rw [cat2_len]; omega) (by rw [cat2_len]; omega) e)
theorem mem_ones {k : Nat} (h : k < 256) : [[116], [UInt8.ofNat k]] ∈ ones := List.mem_map.2 ⟨k, List.mem_range.2 h, rfl⟩
theorem pw_range {f : Nat → Nat} {n : Nat} (h : ((List.range n).map f).Pairwise (· ≠ ·)) {i j : Nat} (hij : i < j) (hj : j < n) : f i ≠ f j := by
  rw [List.pairwise_map] at h
  have h2 := List.pairwise_iff_getElem.1 h i j (by simp; omega) (by simpa using hj) hij
  simpa using h2
theorem map_ones (n : Nat) : ((List.range n).map fun k => ([[116], [UInt8.ofNat k]] : List (List UInt8))).map kpN = (List.range n).map (fun k => kpN [[116], [UInt8.ofNat k]]) := by
  simp only [List.map_map, Function.comp_def]
theorem ones_map : ones.map kpN = (List.range 256).map (fun k => kpN [[116], [UInt8.ofNat k]]) := map_ones 256
theorem keyK_ne {i j : Nat} (hij : i < j) (hj : j < 256) : keyK i ≠ keyK j := by
  have h := (diffN_ok _ _ ones_diff).1
  rw [List.map_append, List.pairwise_append] at h
  have h1 := h.1
  rw [ones_map] at h1
  have h2 := pw_range h1 hij hj
  unfold keyK
  exact kp_ne (by simp) (by simp) h2
theorem key12_ne {i : Nat} (hi : i < 256) : partsF [[116], [1, 2]] ≠ keyK i := by
  have h := (diffN_ok _ _ ones_diff).1
  rw [List.map_append, List.pairwise_append] at h
  exact fun e => kp_ne (xs := [UInt8.ofNat i]) (ys := [1, 2]) (by simp) (by simp) (h.2.2 _ (List.mem_map.2 ⟨_, mem_ones hi, rfl⟩) _ (by simp)) e.symm
theorem keyz_ne {i m : Nat} (hi : i < 256) (hm : m < 3) : partsF [[116], List.replicate (3998 + m) 0] ≠ keyK i := by
  have h := (diffN_ok _ _ longs_diff).1
  rw [List.map_append, List.pairwise_append] at h
  have hz : [[116], List.replicate (3998 + m) (0 : UInt8)] ∈ [[[116], List.replicate 3998 (0 : UInt8)], [[116], List.replicate 3999 0], [[116], List.replicate 4000 0]] := by
    have : m = 0 ∨ m = 1 ∨ m = 2 := by omega
    rcases this with rfl | rfl | rfl
    · rw [Nat.add_zero]
      exact List.Mem.head _
    · rw [show 3998 + 1 = 3999 from rfl]
      exact List.Mem.tail _ (List.Mem.head _)
    · rw [show 3998 + 2 = 4000 from rfl]
      exact List.Mem.tail _ (List.Mem.tail _ (List.Mem.head _))
  exact fun e => kp_ne (xs := [UInt8.ofNat i]) (ys := List.replicate (3998 + m) 0) (by simp) (by rw [List.length_replicate]; omega) (h.2.2 _ (List.mem_map.2 ⟨_, mem_ones hi, rfl⟩) _ (List.mem_map.2 ⟨_, hz, rfl⟩)) e.symm
/-- The digests of the first k cases. -/
def ksK (k : Nat) : List (List UInt8) := (List.range k).map keyK
theorem ksK_len (k : Nat) : (ksK k).length = k := by unfold ksK; simp
theorem mem_ksK {k : Nat} {x : List UInt8} : x ∈ ksK k ↔ ∃ i, i < k ∧ keyK i = x := by
  unfold ksK
  simp
theorem ksK_next {k : Nat} (hk : k < 256) : keyK k ∉ ksK k := fun h => by
  obtain ⟨i, hi, e⟩ := mem_ksK.1 h
  exact keyK_ne hi hk e
theorem ksK_put {k : Nat} (hk : k < 256) : putM (ksK k) (keyK k) = ksK (k + 1) := by
  unfold putM
  rw [if_neg (ksK_next hk)]
  unfold ksK
  rw [List.range_succ, List.map_append]
  rfl
theorem ksK_12 : partsF [[116], [1, 2]] ∉ ksK 256 := fun h => by
  obtain ⟨i, hi, e⟩ := mem_ksK.1 h
  exact key12_ne hi e.symm
theorem ksK_z {m : Nat} (hm : m < 3) : partsF [[116], List.replicate (3998 + m) 0] ∉ ksK 256 := fun h => by
  obtain ⟨i, hi, e⟩ := mem_ksK.1 h
  exact keyz_ne hi hm e.symm
theorem ksK_nodup : (ksK 256).Nodup := by
  rw [List.nodup_iff_pairwise_ne]
  unfold ksK
  rw [List.pairwise_map, List.pairwise_iff_getElem]
  intro i j hi hj hij
  simp only [List.getElem_range]
  exact keyK_ne hij (by simpa using hj)
end Go.Proofs.YtjeclmmikjpinaaDoor
