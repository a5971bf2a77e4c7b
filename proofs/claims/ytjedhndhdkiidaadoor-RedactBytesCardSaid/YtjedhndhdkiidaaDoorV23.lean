/- Equality of digests. -/
import Derived.Test.YtjedhndhdkiidaaDoorV22
import Derived.ChangeKeysEq
namespace Go.Proofs.YtjedhndhdkiidaaDoor
open Go.RowKit
@[irreducible] def eqD (a b : Value) : Sem Value := binOp .eql 48 a b
@[irreducible] def neD (a b : Value) : Sem Value := binOp .neq 48 a b
theorem eq48 (a b : Value) : binOp .eql 48 a b = eqD a b := by unfold eqD; rfl
theorem ne48 (a b : Value) : binOp .neq 48 a b = neD a b := by unfold neD; rfl
@[irreducible] def eqV (a b : List UInt8) : Bool := (List.range 32).all fun i => decide (a.getD i 0 = b.getD i 0)
theorem eqV_self (a : List UInt8) : eqV a a = true := by unfold eqV; simp
theorem eqV_iff {a b : List UInt8} (ha : a.length = 32) (hb : b.length = 32) : eqV a b = true ↔ a = b := by
  constructor
  · intro h
    unfold eqV at h
    apply List.ext_getElem (by omega)
    intro i h1 h2
    have := List.all_eq_true.1 h i (List.mem_range.2 (by omega))
    have e := of_decide_eq_true this
    rw [List.getD_eq_getElem?_getD, List.getD_eq_getElem?_getD, List.getElem?_eq_getElem h1, List.getElem?_eq_getElem h2] at e
    exact e
  · rintro rfl; exact eqV_self a
theorem run_partD {w : World} {d : List UInt8} {i : Nat} (h : i < 32) : (part 5 (idA d) (i * 1)).run Tryd.prog w = .ok (idF d i) w := by
  rw [Nat.mul_one]
  unfold part isAgg
  simp [Sem.run_bind, run_underlying Tryd.underlying5, arV_at h, Result.andThen]
theorem run_itemsD {w : World} {a b : List UInt8} {d : Nat} : ∀ is : List Nat, (∀ i ∈ is, i < 32) → (Op.eqItems (d + 1) 5 1 (idA a) (idA b) is).run Tryd.prog w = .ok (is.all fun i => decide (a.getD i 0 = b.getD i 0)) w
  | [], _ => by simp [Op.eqItems]
  | i :: is, h => by
    have ih := run_itemsD (w := w) (a := a) (b := b) (d := d) is (fun j hj => h j (by simp [hj]))
    have p3 : (Op.equalIn (d + 1) 5 (idF a i) (idF b i)).run Tryd.prog w = .ok (decide (a.getD i 0 = b.getD i 0)) w := by
      unfold idF
      simp only [Op.equalIn, Sem.run_bind, run_underlying Tryd.underlying5, Result.andThen]
      rw [show decide (a.getD i 0 = b.getD i 0) = decide ((((a.getD i 0).toNat : Nat) : Int) = (((b.getD i 0).toNat : Nat) : Int)) from by
        rw [Bool.eq_iff_iff, decide_eq_true_eq, decide_eq_true_eq]
        exact ⟨fun e => by rw [e], fun e => UInt8.toNat_inj.1 (by omega)⟩]
      simp
      try rfl
    simp only [Op.eqItems, Sem.run_bind, run_partD (h i (by simp)), Result.andThen_ok, p3]
    by_cases hfg : a.getD i 0 = b.getD i 0
    · rw [List.all_cons, decide_eq_true hfg]; simpa using ih
    · rw [List.all_cons, decide_eq_false hfg]; simp
set_option maxRecDepth 100000 in
theorem run_equalD {w : World} {a b : List UInt8} : (Op.equal 48 (idV a) (idV b)).run Tryd.prog w = .ok (eqV a b) w := by
  cases hi : Tryd.prog.info? 5 with
  | none =>
    have h0 : (Tryd.prog.info? 5).isSome = true := by kernel_rfl
    rw [hi] at h0
    cases h0
  | some i =>
    show (Op.equalIn (9999 + 1) 48 _ _).run Tryd.prog w = _
    rw [run_equalIn_array w 9999 _ _ Tryd.underlying48 hi, show Tryd.prog.cellsOf 5 = 1 by kernel_rfl]
    rw [run_itemsD (d := 9998) _ (fun i hi => List.mem_range.1 hi)]
    unfold eqV
    rfl
theorem run_eqD (w : World) (a b : List UInt8) : (eqD (idV a) (idV b)).run Tryd.prog w = .ok (.bool (eqV a b)) w := by
  unfold eqD
  simp only [binOp, Sem.run_bind]
  rw [run_equalD]
  rfl
theorem run_neD (w : World) (a b : List UInt8) : (neD (idV a) (idV b)).run Tryd.prog w = .ok (.bool (!eqV a b)) w := by
  unfold neD
  simp only [binOp, Sem.run_bind]
  rw [run_equalD]
  rfl
end Go.Proofs.YtjedhndhdkiidaaDoor
