/- The order of digests: bytes.Compare, Less, compare. -/
import Derived.Test.YtjeclmmikjpinaaDoorC1
import Derived.Lib.BytesEntry
namespace Go.Proofs.YtjeclmmikjpinaaDoor
open Go.RowKit
attribute [local go_sem ↓] Go.wp_at_zero Go.wp_at_succ
attribute [local go_sem ↓] ld48 st48 al48 bu48
attribute [local go_sem] run_al48 run_bu48 run_st48n run_sl48
def cmpS (x y : List UInt8) : Int := if x < y then -1 else if y < x then 1 else 0
theorem slt_trans {x y z : List UInt8} (h : x < y) (k : y < z) : x < z := List.lt_trans h k
theorem slt_irrefl (x : List UInt8) : ¬ x < x := List.lt_irrefl x
theorem slt_asymm {x y : List UInt8} (h : x < y) : ¬ y < x := fun k => slt_irrefl x (slt_trans h k)
theorem slt_tri (x y : List UInt8) : x < y ∨ x = y ∨ y < x := by
  by_cases h1 : x < y
  · exact .inl h1
  · by_cases h2 : y < x
    · exact .inr (.inr h2)
    · exact .inr (.inl (List.le_antisymm h2 h1))
theorem cmpS_neg {x y : List UInt8} : cmpS x y < 0 ↔ x < y := by
  unfold cmpS
  split
  · simp [*]
  · split <;> simp [*]
theorem cmpB_eq : ∀ (x y : List UInt8), Lib.compareBytes x y = cmpS x y
  | [], [] => by simp [Lib.compareBytes, cmpS]
  | _ :: _, [] => by simp [Lib.compareBytes, cmpS]
  | [], _ :: _ => by simp [Lib.compareBytes, cmpS]
  | a :: x, b :: y => by
    rw [Lib.compareBytes, cmpB_eq x y]
    unfold cmpS
    simp only [List.cons_lt_cons_iff]
    by_cases h1 : a < b
    · simp [h1]
    · by_cases h2 : b < a
      · have h3 : a ≠ b := by rintro rfl; exact h1 h2
        simp [h1, h2, h3]
      · have h3 : a = b := UInt8.le_antisymm (UInt8.not_lt.1 h2) (UInt8.not_lt.1 h1)
        subst h3
        simp [h1]
theorem run_bytesOf {w : World} {v : Value} {xs : List UInt8} (h : SlB w v xs) : (Extern.Bytes.bytesOf v).run Tryd.prog w = .ok ⟨xs.toArray⟩ w := by
  obtain ⟨A, c, rfl, h1, h2, h3⟩ := h
  by_cases h0 : 0 < xs.length
  · obtain ⟨ad, rfl, hb, hc⟩ := h3 h0
    have e : (Extern.Bytes.bytesOf (.slice (some ad) xs.length c)) = Extern.Bytes.loadBytes ad xs.length .empty := rfl
    have hl := Lib.run_loadBytesX (P := Tryd.prog) w (xs.map fun b => ((b.toNat : Nat) : Int)) ad .empty (fun j x hj => by
      rw [List.getElem?_map] at hj
      cases hx : xs[j]? with
      | none => rw [hx] at hj; cases hj
      | some b => rw [hx] at hj; cases hj; exact hc j b hx)
    rw [List.length_map] at hl
    rw [e, hl]
    have e2 : Lib.bytesOf (xs.map fun b => ((b.toNat : Nat) : Int)) = xs := by
      unfold Lib.bytesOf
      rw [List.map_map]
      refine (List.map_congr_left fun b _ => ?_).trans (List.map_id xs)
      simp
    rw [e2]
    congr 1
    simp
  · have : xs = [] := List.eq_nil_of_length_eq_zero (by omega)
    subst this
    cases A with
    | none => rfl
    | some ad => rfl
theorem run_cmp94 {w : World} {a b : Value} {xs ys : List UInt8} (h : SlB w a xs) (k : SlB w b ys) : (callFunc 80 #[a, b]).run Tryd.prog w = .ok (.value (.int .i64 (cmpS xs ys))) w := by
  rw [run_callFunc_extern Tryd.func80 (by kernel_rfl) (by kernel_rfl) (by kernel_rfl) (e := Extern.BytealgCompare.compare) (by kernel_rfl)]
  have e : (Extern.BytealgCompare.compare #[a, b]).run Tryd.prog w = .ok (.int .i64 (cmpS xs ys)) w := by
    change Sem.run Tryd.prog (do pure (goInt (Extern.BytealgCompare.cmp (← Extern.Bytes.bytesOf a) (← Extern.Bytes.bytesOf b)))) w = _
    simp only [Sem.run_bind, Sem.run_pure, Result.andThen, run_bytesOf h, run_bytesOf k]
    rw [Lib.cmp_eq, cmpB_eq]
    rfl
  rw [e]
  rfl
set_option maxRecDepth 100000 in
theorem cmp73_ok {w : World} {a b : Value} {xs ys : List UInt8} (h : SlB w a xs) (k : SlB w b ys) : Calls Tryd.prog 64 #[a, b] w (RetP (iV (cmpS xs ys)) w) := by
  have hc := run_cmp94 h k
  clear h k
  go_enter Tryd.func64, Tryd.ntmps64
  go_wp2_with fail
  go_ret
  exact ⟨rfl, rfl⟩
def RetGB (b : Bool) (w : World) (e : Ending) (w' : World) : Prop := e = .returned (.bool b) ∧ Gr w w'
set_option maxRecDepth 100000 in
theorem less50_ok (x y : List UInt8) (hx : x.length = 32) (hy : y.length = 32) (w : World) : Calls Tryd.prog 45 #[idV x, idV y] w (RetGB (decide (x < y)) w) := by
  have HX : Hid (∀ W : World, W.heap[w.heap.size]? = ((w.alloc (.cells (idA x) 27)).alloc (.cells (idA y) 27)).heap[w.heap.size]? → SlB W (.slice (some ⟨w.heap.size, 0, none⟩) 32 32) x) := Lib.hid (fun W h => by
    have hb : Bk W w.heap.size 32 (idF x) := ((Bk.new (w := w) (n := 32) (T := 27) (f := idF x) (by decide)).ext ((Ext.refl _).alloc _)).kept h
    exact ⟨_, 32, by rw [hx], by omega, by unfold maxLen; omega, hb.bytes hx⟩)
  have HY : Hid (∀ W : World, W.heap[w.heap.size + 1]? = ((w.alloc (.cells (idA x) 27)).alloc (.cells (idA y) 27)).heap[w.heap.size + 1]? → SlB W (.slice (some ⟨w.heap.size + 1, 0, none⟩) 32 32) y) := Lib.hid (fun W h => by
    have e : (w.alloc (.cells (idA x) 27)).heap.size = w.heap.size + 1 := by simp
    have hb : Bk W (w.heap.size + 1) 32 (idF y) := by
      rw [← e] at h ⊢
      exact (Bk.new (w := w.alloc (.cells (idA x) 27)) (n := 32) (T := 27) (f := idF y) (by decide)).kept h
    exact ⟨_, 32, by rw [hy], by omega, by unfold maxLen; omega, hb.bytes hy⟩)
  have HD : Hid (cmpS x y < 0 ↔ x < y) := Lib.hid cmpS_neg
  have HG : Hid (Gr w ((w.alloc (.cells (idA x) 27)).alloc (.cells (idA y) 27))) := Lib.hid (((Gr.refl _).alloc _).alloc _)
  go_enter Tryd.func45, Tryd.ntmps45
  go_wp2_with fail
  generalize hw2 : (w.alloc (.cells (idA x) 27)).alloc (.cells (idA y) 27) = w2
  rw [hw2] at HX HY HG
  clear hw2
  have CM : Hid (∀ k, Calls Tryd.prog 64 #[.slice (some ⟨w.heap.size, 0, none⟩) 32 32, .slice (some ⟨w.heap.size + 1, 0, none⟩) 32 32] (w2.drewN k) (RetP (iV (cmpS x y)) (w2.drewN k))) := Lib.hid (fun k => cmp73_ok (HX.out (w2.drewN k) rfl) (HY.out (w2.drewN k) rfl))
  by_cases hlt : x < y
  · have q : cmpS x y < 0 := HD.out.2 hlt
    go_quiet (first | (go_at_call 64; exact (CM.out _).mono fun _ _ h => ⟨h.1, _, h.2.symm⟩))
    go_wp2_with fail
    go_ret
    exact ⟨by simp [hlt], HG.out.drewN _⟩
  · have q : ¬ cmpS x y < 0 := fun h => hlt (HD.out.1 h)
    go_quiet (first | (go_at_call 64; exact (CM.out _).mono fun _ _ h => ⟨h.1, _, h.2.symm⟩))
    go_wp2_with fail
    go_ret
    exact ⟨by simp, HG.out.drewN _⟩
set_option maxRecDepth 100000 in
theorem cmp25_ok (x y : List UInt8) (hx : x.length = 32) (hy : y.length = 32) (w : World) : Calls Tryd.prog 28 #[idV x, idV y] w (RetG (cmpS x y) w) := by
  have C1 := Lib.hid (fun W => less50_ok x y hx hy W)
  have C2 := Lib.hid (fun W => less50_ok y x hy hx W)
  have lx := fun W => (Bk.new (w := W) (n := 32) (T := 27) (f := idF x) (by decide))
  have ly := fun W => (Bk.new (w := W) (n := 32) (T := 27) (f := idF y) (by decide))
  have GX : Hid (Gr w ((w.alloc (.cells (idA x) 27)).alloc (.cells (idA y) 27))) := Lib.hid (((Gr.refl _).alloc _).alloc _)
  have BX : Hid (Bk ((w.alloc (.cells (idA x) 27)).alloc (.cells (idA y) 27)) w.heap.size 32 (idF x)) := Lib.hid ((lx w).ext ((Ext.refl _).alloc _))
  have BY : Hid (Bk ((w.alloc (.cells (idA x) 27)).alloc (.cells (idA y) 27)) (w.heap.size + 1) 32 (idF y)) := Lib.hid (by
    have e : (w.alloc (.cells (idA x) 27)).heap.size = w.heap.size + 1 := by simp
    rw [← e]
    exact ly _)
  clear lx ly hx hy
  go_enter Tryd.func28, Tryd.ntmps28
  go_upto_region 1 with fail
  generalize hw2 : (w.alloc (.cells (idA x) 27)).alloc (.cells (idA y) 27) = w2
  rw [hw2] at BX BY GX
  clear hw2
  have l1 := BX.out.run_ld48
  have l2 := BY.out.run_ld48
  go_wp2_with fail
  refine (C1.out _).mono ?_
  rintro _ w3 ⟨rfl, hg3⟩
  have HG3 := Lib.hid hg3
  clear hg3
  by_cases h1 : x < y
  · have e1 : decide (x < y) = true := by simp [h1]
    rw [e1]
    go_wp2_with fail
    go_ret
    exact ⟨by unfold cmpS; rw [if_pos h1]; rfl, GX.out.trans HG3.out⟩
  · have e1 : decide (x < y) = false := by simp [h1]
    rw [e1]
    have l1 := (BX.out.ext HG3.out.ext).run_ld48
    have l2 := (BY.out.ext HG3.out.ext).run_ld48
    go_wp2_with fail
    refine (C2.out _).mono ?_
    rintro _ w4 ⟨rfl, hg4⟩
    have HG4 := Lib.hid hg4
    clear hg4
    by_cases h2 : y < x
    · have e2 : decide (y < x) = true := by simp [h2]
      rw [e2]
      go_wp2_with fail
      go_ret
      exact ⟨by unfold cmpS; rw [if_neg h1, if_pos h2]; rfl, GX.out.trans (HG3.out.trans HG4.out)⟩
    · have e2 : decide (y < x) = false := by simp [h2]
      rw [e2]
      go_wp2_with fail
      go_ret
      exact ⟨by unfold cmpS; rw [if_neg h1, if_neg h2]; rfl, GX.out.trans (HG3.out.trans HG4.out)⟩
end Go.Proofs.YtjeclmmikjpinaaDoor
