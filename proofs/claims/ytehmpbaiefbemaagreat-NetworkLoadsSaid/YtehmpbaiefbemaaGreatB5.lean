/- A network as bytes, plainly; arrays of numbers indexed; in the numbers of the .Z seat. -/
import Derived.Test.YtehmpbaiefbemaaGreatB4
import Derived.Test.YtehmpbaiefbemaaGreatH6
namespace Go.Proofs.YtehmpbaiefbemaaGreat
open Go.RowKit
/-- The ordinals of a component as bytes. -/
def rowB (x : St) (c : Nat) : List UInt8 := ((List.range 8).flatMap fun k => putU (x.s (c * 8 + k))) ++ putU (x.t c) ++ putU (x.d c)
def keyB (k : Ky) : List UInt8 := UInt8.ofNat k.1 :: (putU k.2.1.toNat ++ putU k.2.2.1.toNat ++ putU k.2.2.2.toNat)
/-- A network as bytes. -/
def netB (x : St) : List UInt8 := (List.range 8).flatMap (rowB x) ++ (putU x.ks.length ++ x.ks.flatMap keyB)
theorem putU_short {v : Nat} (h : v < 128 ^ 3) : (putU v).length ≤ 3 := putU_len (k := 2) h
@[irreducible] def idS (t : TypeId) (x i : Value) : Sem Value := Instr.index t x i
theorem in28 (x i : Value) : Instr.index 28 x i = idS 28 x i := by unfold idS; rfl
theorem run_in28 {w : World} {f : Nat → Nat} {k : Nat} (hk : k < 8) : (idS 28 (.agg (arA f 8)) (.int .i64 (k : Int))).run Tryz.prog w = .ok (iV (f k : Int)) w := by
  unfold idS Instr.index
  simp [asIntOf, Sem.run_bind, run_underlying Tryz.underlying28, Result.andThen]
  rw [if_pos hk]
  have h := run_part3 (w := w) (f := f) (n := 8) (i := k) hk
  rw [Nat.mul_one] at h
  exact h
theorem ByRow.row {w : World} {B : Nat} {v : Value} {xs : List UInt8} (h : ByRow w B v xs) : Row 1 w B 5 v (bv xs) := ⟨bv_wide xs, by rw [bv_len, bv_flat]; exact h⟩
/-- PutUint onto bytes of the call's own. -/
theorem put32_row (n : Nat) (xs : List UInt8) (B : Nat) (v : Value) (w : World) (h : Row 1 w B 5 v (bv xs)) (h0 : 0 < xs.length) (hn : n ≤ 1000000) (hx : xs.length ≤ 1000000) : Calls Tryz.prog 32 #[v, .int .u64 (n : Int)] w (RetBy (xs ++ putU n) w) := by
  obtain ⟨A, c, rfl, hb, -⟩ := h.bytes
  exact (putuint_any n A c xs w hb h0 (by omega) (by omega)).mono fun e w' ⟨v', he, hr, hE⟩ => ⟨v', he, hr.row, hE⟩
end Go.Proofs.YtehmpbaiefbemaaGreat
