/- The open fields of a document; a bit of a digest flipped: plain. -/
import Derived.Test.YtjedhndhdkiidaaDoorV26
import Derived.Test.YtjedhndhdkiidaaDoorV29
import Derived.Test.YtjedhndhdkiidaaDoorV31
namespace Go.Proofs.YtjedhndhdkiidaaDoor
open Go.RowKit
theorem opF_map (nn : List (List UInt8)) : ∀ ys : List Fd, opF ((ys.map itOf).map (keepF nn)) = ys.filter (fun f => decide (f.nm ∈ nn))
  | [] => rfl
  | f :: ys => by
    have ih := opF_map nn ys
    unfold opF at ih ⊢
    by_cases h : f.nm ∈ nn
    · have e : keepF nn (itOf f) = itOf f := by unfold keepF; exact if_pos h
      rw [List.map_cons, List.map_cons, e, List.filter_cons_of_pos (by rfl), List.filter_cons_of_pos (by simpa using h), List.map_cons, ih]
      rfl
    · have e : keepF nn (itOf f) = cloF (itOf f) := by unfold keepF; exact if_neg h
      rw [List.map_cons, List.map_cons, e, List.filter_cons_of_neg (by show ¬ false = true; decide), List.filter_cons_of_neg (by simpa using h), ih]
theorem opF_doc {fs : List Fd} (hn : (fs.map (·.nm)).Nodup) (nn : List (List UInt8)) : opF ((docF fs).map (keepF nn)) = (srtF fs).filter (fun f => decide (f.nm ∈ nn)) := by
  rw [← srtF_doc hn]
  exact opF_map nn _
theorem filt_get {α : Type} (p : α → Bool) (ys : List α) (d : α) {k : Nat} (hk : k < ys.length) (hp : p (ys.getD k d) = true) : (ys.filter p).getD ((ys.take k).filter p).length d = ys.getD k d ∧ ((ys.take k).filter p).length < (ys.filter p).length := by
  have e : ys.filter p = (ys.take k).filter p ++ (ys.getD k d :: (ys.drop (k + 1)).filter p) := by
    have e1 : ys = ys.take k ++ (ys.getD k d :: ys.drop (k + 1)) := by
      rw [List.getD_eq_getElem?_getD, List.getElem?_eq_getElem hk]
      show ys = ys.take k ++ ys[k] :: ys.drop (k + 1)
      rw [← List.drop_eq_getElem_cons hk, List.take_append_drop]
    conv => lhs; rw [e1]
    rw [List.filter_append, List.filter_cons_of_pos hp]
  rw [e]
  constructor
  · rw [List.getD_eq_getElem?_getD, List.getElem?_append_right (Nat.le_refl _), Nat.sub_self]
    rfl
  · rw [List.length_append, List.length_cons]
    omega
theorem xor_bit : ∀ m : Fin 8, ∀ x : Fin 256, bits .xor .u8 ((x.val : Nat) : Int) ((2 ^ m.val : Nat) : Int) = ((x.val ^^^ 2 ^ m.val : Nat) : Int) ∧ x.val ^^^ 2 ^ m.val ≠ x.val ∧ x.val ^^^ 2 ^ m.val < 256 := by decide +kernel
/-- A digest with a bit flipped. -/
def flipF (D : List UInt8) (t : Nat) : List UInt8 := D.set (t / 8) (UInt8.ofNat ((D.getD (t / 8) 0).toNat ^^^ 2 ^ (t % 8)))
theorem flipF_len {D : List UInt8} {t : Nat} : (flipF D t).length = D.length := by unfold flipF; simp
theorem flip_byte (D : List UInt8) (t : Nat) : (UInt8.ofNat ((D.getD (t / 8) 0).toNat ^^^ 2 ^ (t % 8))).toNat = (D.getD (t / 8) 0).toNat ^^^ 2 ^ (t % 8) := by
  have h := (xor_bit ⟨t % 8, Nat.mod_lt _ (by decide)⟩ ⟨(D.getD (t / 8) 0).toNat, (D.getD (t / 8) 0).toNat_lt⟩).2.2
  rw [UInt8.toNat_ofNat']
  exact Nat.mod_eq_of_lt h
theorem flipF_ne {D : List UInt8} {t : Nat} (hD : D.length = 32) (ht : t < 256) : D ≠ flipF D t := fun e => by
  have hq : t / 8 < D.length := by omega
  have h := (xor_bit ⟨t % 8, Nat.mod_lt _ (by decide)⟩ ⟨(D.getD (t / 8) 0).toNat, (D.getD (t / 8) 0).toNat_lt⟩).2.1
  have h2 : (flipF D t).getD (t / 8) 0 = UInt8.ofNat ((D.getD (t / 8) 0).toNat ^^^ 2 ^ (t % 8)) := by
    unfold flipF
    rw [List.getD_eq_getElem?_getD, List.getElem?_set_self hq]
    rfl
  have h3 := flip_byte D t
  rw [← h2, ← e] at h3
  exact h h3.symm
theorem flip_fun {D : List UInt8} {t : Nat} (hD : D.length = 32) (ht : t < 256) : ∀ i, i < 32 → upd (idF D) (t / 8) (vU8 (((D.getD (t / 8) 0).toNat ^^^ 2 ^ (t % 8) : Nat) : Int)) i = idF (flipF D t) i := fun i hi => by
  have hq : t / 8 < D.length := by omega
  unfold upd idF
  by_cases h : i = t / 8
  · subst h
    rw [if_pos rfl]
    have h2 : (flipF D t).getD (t / 8) 0 = UInt8.ofNat ((D.getD (t / 8) 0).toNat ^^^ 2 ^ (t % 8)) := by
      unfold flipF
      rw [List.getD_eq_getElem?_getD, List.getElem?_set_self hq]
      rfl
    rw [h2, flip_byte]
  · rw [if_neg h]
    unfold flipF
    rw [List.getD_eq_getElem?_getD, List.getD_eq_getElem?_getD, List.getElem?_set_ne (Ne.symm h)]
theorem pow8 : ∀ m : Fin 8, (2 : Int) ^ m.val % 256 = ((2 ^ m.val : Nat) : Int) := by decide
theorem flip_val (D : List UInt8) (t : Nat) : bits .xor .u8 (((D[t / 8]?.getD 0).toNat : Nat) : Int) (2 ^ (t % 8) % 256) = (((D.getD (t / 8) 0).toNat ^^^ 2 ^ (t % 8) : Nat) : Int) := by
  rw [← List.getD_eq_getElem?_getD, pow8 ⟨t % 8, Nat.mod_lt _ (by decide)⟩]
  exact (xor_bit ⟨t % 8, Nat.mod_lt _ (by decide)⟩ ⟨(D.getD (t / 8) 0).toNat, (D.getD (t / 8) 0).toNat_lt⟩).1
end Go.Proofs.YtjedhndhdkiidaaDoor
