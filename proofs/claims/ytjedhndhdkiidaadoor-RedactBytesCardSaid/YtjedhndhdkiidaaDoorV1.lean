/- Strings: names, comparison. -/
import Derived.Test.YtjedhndhdkiidaaDoorR2
import Derived.Test.YtjedhndhdkiidaaDoorR5
namespace Go.Proofs.YtjedhndhdkiidaaDoor
open Go.RowKit
attribute [local go_sem ↓] Go.wp_at_zero Go.wp_at_succ
theorem baSize (l : List UInt8) : (⟨l.toArray⟩ : ByteArray).size = l.length := by simp [ByteArray.size]
theorem baList (l : List UInt8) : (⟨l.toArray⟩ : ByteArray).toList = l := by rw [ByteArray.toList_eq]
theorem baGet (l : List UInt8) (k : Nat) (h : k < (⟨l.toArray⟩ : ByteArray).size) : (⟨l.toArray⟩ : ByteArray)[k] = l[k]'(by rw [baSize] at h; exact h) := rfl
attribute [local go_sem] baSize baList baGet
def okC (b : UInt8) : Bool := decide (33 ≤ b.toNat) && decide (b.toNat ≤ 126)
/-- A field's name. -/
def okN (s : List UInt8) : Bool := decide (1 ≤ s.length) && decide (s.length ≤ 32) && s.all okC
set_option maxRecDepth 100000 in
theorem valid49_ok (s : List UInt8) (w : World) : Calls Tryd.prog 49 #[sV s] w (RetP (.bool (okN s)) w) := by
  by_cases h1 : s.length < 1
  · have q1 : (s.length : Int) < 1 := by omega
    go_enter Tryd.func49, Tryd.ntmps49
    go_wp2_with fail
    go_ret
    exact ⟨by unfold okN; simp; omega, rfl⟩
  · by_cases h2 : 32 < s.length
    · have q1 : ¬ (s.length : Int) < 1 := by omega
      have q2 : (32 : Int) < (s.length : Int) := by omega
      go_enter Tryd.func49, Tryd.ntmps49
      go_wp2_with fail
      go_ret
      exact ⟨by unfold okN; simp; omega, rfl⟩
    · have q1 : ¬ (s.length : Int) < 1 := by omega
      have q2 : ¬ (32 : Int) < (s.length : Int) := by omega
      go_enter Tryd.func49, Tryd.ntmps49
      go_wp2_with fail
      clear q1 q2
      go_loopw [14] (fun i wr => ∃ k : Nat, k ≤ s.length ∧ i = iV (k : Int) ∧ wr = w ∧ (s.take k).all okC = true) (fun i _ => s.length - (intOf i).toNat)
      case atStart => exact ⟨0, by omega, rfl, rfl, rfl⟩
      case round =>
        obtain ⟨k, hk, rfl, rfl, ha⟩ := hrel
        by_cases hlt : k < s.length
        · have q1 : (k : Int) < (s.length : Int) := by omega
          have q0 : (0 : Int) ≤ (k : Int) := by omega
          obtain ⟨b, hb⟩ : ∃ b, s[k] = b := ⟨_, rfl⟩
          have hs : s.take (k + 1) = s.take k ++ [b] := by rw [List.take_succ_eq_append_getElem hlt, hb]
          have hall : okC b = false → s.all okC = false := fun h => by
            rw [List.all_eq_false]
            exact ⟨b, by rw [← hb]; exact List.getElem_mem hlt, by simp [h]⟩
          by_cases h3 : b.toNat < 33
          · have q3 : ((b.toNat : Nat) : Int) < 33 := by omega
            go_wp2_with fail
            go_ret
            exact ⟨by unfold okN; rw [hall (by unfold okC; simp; omega)]; simp, rfl⟩
          · by_cases h4 : 126 < b.toNat
            · have q3 : ¬ ((b.toNat : Nat) : Int) < 33 := by omega
              have q4 : (126 : Int) < ((b.toNat : Nat) : Int) := by omega
              go_wp2_with fail
              go_ret
              exact ⟨by unfold okN; rw [hall (by unfold okC; simp; omega)]; simp, rfl⟩
            · have q3 : ¬ ((b.toNat : Nat) : Int) < 33 := by omega
              have q4 : ¬ (126 : Int) < ((b.toNat : Nat) : Int) := by omega
              go_wp2_with fail
              refine ⟨⟨k + 1, by omega, by go_num, trivial, ?_⟩, by simp [intOf]; omega⟩
              rw [hs, List.all_append, ha]
              simp [okC]
              omega
        · obtain rfl : k = s.length := by omega
          rw [List.take_length] at ha
          go_wp2_with fail
          go_ret
          exact ⟨by unfold okN; rw [ha]; simp; omega, rfl⟩
/-! ### The order of strings -/
theorem isNaN75_ok (s : List UInt8) (w : World) : Calls Tryd.prog 75 #[sV s] w (RetP (.bool false) w) := by
  go_enter Tryd.func75, Tryd.ntmps75
  go_wp2_with fail
  go_ret
  exact ⟨by simp, rfl⟩
/-- cmp.Compare at strings. -/
def cmpS (x y : List UInt8) : Int := if x < y then -1 else if y < x then 1 else 0
theorem bytesLess_eq : ∀ (x y : List UInt8), Op.bytesLess x y = decide (x < y)
  | [], [] => by simp [Op.bytesLess]
  | _ :: _, [] => by simp [Op.bytesLess]
  | [], _ :: _ => by simp [Op.bytesLess]
  | a :: x, b :: y => by
    rw [Op.bytesLess, bytesLess_eq x y]
    simp only [List.cons_lt_cons_iff]
    by_cases h1 : a < b <;> by_cases h2 : a = b <;> by_cases h3 : x < y <;> simp [h1, h2, h3]
theorem sle_or (x y : List UInt8) : (decide (x < y) || x == y) = !decide (y < x) := by
  rw [Bool.eq_iff_iff]
  simp
  exact List.le_iff_lt_or_eq.symm
theorem slt_trans {x y z : List UInt8} (h : x < y) (k : y < z) : x < z := List.lt_trans h k
theorem slt_irrefl (x : List UInt8) : ¬ x < x := List.lt_irrefl x
theorem slt_asymm {x y : List UInt8} (h : x < y) : ¬ y < x := fun k => slt_irrefl x (slt_trans h k)
theorem slt_tri (x y : List UInt8) : x < y ∨ x = y ∨ y < x := by
  by_cases h1 : x < y
  · exact .inl h1
  · by_cases h2 : y < x
    · exact .inr (.inr h2)
    · exact .inr (.inl (List.le_antisymm h2 h1))
theorem cmpS_self (x : List UInt8) : cmpS x x = 0 := by
  unfold cmpS
  rw [if_neg (slt_irrefl x), if_neg (slt_irrefl x)]
theorem cmpS_neg {x y : List UInt8} : cmpS x y < 0 ↔ x < y := by
  unfold cmpS
  split
  · simp [*]
  · split <;> simp [*]
theorem cmpS_zero {x y : List UInt8} : cmpS x y = 0 ↔ x = y := by
  rcases slt_tri x y with h | rfl | h
  · unfold cmpS
    rw [if_pos h]
    exact ⟨fun h => by omega, fun e => absurd (e ▸ h) (slt_irrefl _)⟩
  · simp [cmpS_self]
  · unfold cmpS
    rw [if_neg (slt_asymm h), if_pos h]
    exact ⟨fun h => by omega, fun e => absurd (e ▸ h) (slt_irrefl _)⟩
set_option maxRecDepth 100000 in
theorem cmp58_ok (x y : List UInt8) (w : World) : Calls Tryd.prog 58 #[sV x, sV y] w (RetP (iV (cmpS x y)) w) := by
  have e1 := bytesLess_eq x y
  rcases slt_tri x y with h | rfl | h
  · have e3 : cmpS x y = -1 := by unfold cmpS; rw [if_pos h]
    go_enter Tryd.func58, Tryd.ntmps58
    go_wp2_with fail
    refine (isNaN75_ok _ _).mono ?_
    rintro _ _ ⟨rfl, rfl⟩
    go_wp2_with fail
    refine (isNaN75_ok _ _).mono ?_
    rintro _ _ ⟨rfl, rfl⟩
    go_wp2_with fail
    go_ret
    exact ⟨by rw [e3]; rfl, rfl⟩
  · have h := slt_irrefl x
    have e3 := cmpS_self x
    go_enter Tryd.func58, Tryd.ntmps58
    go_wp2_with fail
    refine (isNaN75_ok _ _).mono ?_
    rintro _ _ ⟨rfl, rfl⟩
    go_wp2_with fail
    refine (isNaN75_ok _ _).mono ?_
    rintro _ _ ⟨rfl, rfl⟩
    go_wp2_with fail
    go_ret
    exact ⟨by rw [e3]; rfl, rfl⟩
  · have h2 := slt_asymm h
    have e3 : cmpS x y = 1 := by unfold cmpS; rw [if_neg h2, if_pos h]
    have h4 : (x == y) = false := by
      rw [beq_eq_false_iff_ne]
      rintro rfl
      exact slt_irrefl _ h
    clear h
    go_enter Tryd.func58, Tryd.ntmps58
    go_wp2_with fail
    refine (isNaN75_ok _ _).mono ?_
    rintro _ _ ⟨rfl, rfl⟩
    go_wp2_with fail
    refine (isNaN75_ok _ _).mono ?_
    rintro _ _ ⟨rfl, rfl⟩
    go_wp2_with fail
    go_ret
    exact ⟨by rw [e3]; rfl, rfl⟩
/-! ### Items are compared by their names -/
theorem itF_0 {nm cm sl : List UInt8} {op : Bool} {v : Value} : itF nm op cm v sl 0 = sV nm := rfl
theorem itF_1 {nm cm sl : List UInt8} {op : Bool} {v : Value} : itF nm op cm v sl 1 = .bool op := rfl
theorem itF_34 {nm cm sl : List UInt8} {op : Bool} {v : Value} : itF nm op cm v sl 34 = v := rfl
theorem itF_cm {nm cm sl : List UInt8} {op : Bool} {v : Value} {i : Nat} (h : i < 32) : itF nm op cm v sl (2 + i) = idF cm i := by
  unfold itF
  rw [if_neg (by omega), if_neg (by omega), if_pos (by omega), Nat.add_sub_cancel_left]
theorem itF_sl {nm cm sl : List UInt8} {op : Bool} {v : Value} {i : Nat} : itF nm op cm v sl (35 + i) = idF sl i := by
  unfold itF
  rw [if_neg (by omega), if_neg (by omega), if_neg (by omega), if_neg (by omega), Nat.add_sub_cancel_left]
set_option maxRecDepth 100000 in
theorem cmp57_ok (a b : List UInt8) (pa pb : Bool) (ca cb : List UInt8) (va vb : Value) (sa sb : List UInt8) (w : World) : Calls Tryd.prog 57 #[itV a pa ca va sa, itV b pb cb vb sb] w (RetG (cmpS a b) w) := by
  have CC := Lib.hid (fun W => cmp58_ok a b W)
  have g1 : (itA a pa ca va sa)[0]? = some (sV a) := arV_at (by decide)
  have g2 : (itA b pb cb vb sb)[0]? = some (sV b) := arV_at (by decide)
  show Calls Tryd.prog 57 #[.agg (itA a pa ca va sa), .agg (itA b pb cb vb sb)] w _
  obtain ⟨A, hA⟩ : ∃ A, itA a pa ca va sa = A := ⟨_, rfl⟩
  obtain ⟨B, hB⟩ : ∃ B, itA b pb cb vb sb = B := ⟨_, rfl⟩
  rw [hA] at g1 ⊢
  rw [hB] at g2 ⊢
  clear hA hB
  go_enter Tryd.func57, Tryd.ntmps57
  go_wp2_with fail
  refine (CC.out _).mono ?_
  rintro _ _ ⟨rfl, rfl⟩
  go_wp2_with fail
  go_ret
  exact ⟨rfl, (((Gr.refl _).alloc _).alloc _)⟩
set_option maxRecDepth 100000 in
theorem cmp62_ok (a b : List UInt8) (pa : Bool) (ca : List UInt8) (va : Value) (sa : List UInt8) (w : World) : Calls Tryd.prog 62 #[itV a pa ca va sa, sV b] w (RetG (cmpS a b) w) := by
  have CC := Lib.hid (fun W => cmp58_ok a b W)
  have g1 : (itA a pa ca va sa)[0]? = some (sV a) := arV_at (by decide)
  show Calls Tryd.prog 62 #[.agg (itA a pa ca va sa), sV b] w _
  obtain ⟨A, hA⟩ : ∃ A, itA a pa ca va sa = A := ⟨_, rfl⟩
  rw [hA] at g1 ⊢
  clear hA
  go_enter Tryd.func62, Tryd.ntmps62
  go_wp2_with fail
  refine (CC.out _).mono ?_
  rintro _ _ ⟨rfl, rfl⟩
  go_wp2_with fail
  go_ret
  exact ⟨rfl, ((Gr.refl _).alloc _)⟩
end Go.Proofs.YtjedhndhdkiidaaDoor
