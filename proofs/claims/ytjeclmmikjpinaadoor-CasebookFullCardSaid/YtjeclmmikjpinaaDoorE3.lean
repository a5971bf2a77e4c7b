/- Digests of parts that differ, reckoned. -/
import Derived.Test.YtjeclmmikjpinaaDoorE2
namespace Go.Proofs.YtjeclmmikjpinaaDoor
/-- What is digested for some parts. -/
def catF : List (List UInt8) → List UInt8
  | [] => []
  | p :: l => e8F p.length ++ (p ++ catF l)
theorem partsF_cat (l : List (List UInt8)) : partsF l = shaF (catF l) := by
  have h : ∀ (l : List (List UInt8)) (x : HS), l.foldl (fun x p => wrF (wrF x (e8F p.length)) p) x = wrF x (catF l) := by
    intro l
    induction l with
    | nil => exact fun x => rfl
    | cons p l ih => exact fun x => by rw [List.foldl_cons, ih, catF, wrF_app, wrF_app]
  unfold partsF partsS shaF
  rw [h]
/-- The key of some parts. -/
def kpN (l : List (List UInt8)) : Nat := keyN ((catF l ++ (padF (catF l).length ++ e8F ((catF l).length * 8))).map UInt8.toNat)
theorem kpN_eq {l m : List (List UInt8)} (hl : (catF l).length < 1000000) (hm : (catF m).length < 1000000) (h : partsF l = partsF m) : kpN l = kpN m := by
  rw [partsF_cat, partsF_cat] at h
  exact key_eq hl hm h
/-- All keys differ. -/
def diffN : List (List (List UInt8)) → List Nat → Bool
  | [], _ => true
  | m :: ms, acc => seqN (kpN m) fun x => (acc.all fun y => !Nat.beq x y) && diffN ms (x :: acc)
theorem diffN_ok : ∀ (ms : List (List (List UInt8))) (acc : List Nat), diffN ms acc = true → (ms.map kpN).Pairwise (· ≠ ·) ∧ ∀ m ∈ ms, kpN m ∉ acc
  | [], acc, _ => ⟨List.Pairwise.nil, fun m h => by cases h⟩
  | m :: ms, acc, h => by
    rw [diffN, seqN_eq, Bool.and_eq_true, List.all_eq_true] at h
    obtain ⟨h1, h2⟩ := h
    obtain ⟨k1, k2⟩ := diffN_ok ms _ h2
    refine ⟨?_, fun x hx => ?_⟩
    · rw [List.map_cons, List.pairwise_cons]
      refine ⟨fun y hy e => ?_, k1⟩
      obtain ⟨x, hx, rfl⟩ := List.mem_map.1 hy
      exact k2 x hx (by rw [← e]; simp)
    · rcases List.mem_cons.1 hx with rfl | hx
      · intro hm
        have := h1 _ hm
        simp at this
      · exact fun hm => k2 x hx (by simp [hm])
theorem two_ne : partsF [[116], [120]] ≠ partsF [[117], [121]] := fun h => by
  have h1 := kpN_eq (by decide) (by decide) h
  have h2 : Nat.beq (kpN [[116], [120]]) (kpN [[117], [121]]) = false := by decide +kernel
  rw [h1] at h2
  simp at h2
end Go.Proofs.YtjeclmmikjpinaaDoor
