/- SHA-256's rotation. -/
import Derived.Test.YtjeclmmikjpinaaDoorR1
namespace Go.Proofs.YtjeclmmikjpinaaDoor
open Go.RowKit
def shaList : List Int := [1116352408, 1899447441, 3049323471, 3921009573, 961987163, 1508970993, 2453635748, 2870763221, 3624381080, 310598401, 607225278, 1426881987, 1925078388, 2162078206, 2614888103, 3248222580, 3835390401, 4022224774, 264347078, 604807628, 770255983, 1249150122, 1555081692, 1996064986, 2554220882, 2821834349, 2952996808, 3210313671, 3336571891, 3584528711, 113926993, 338241895, 666307205, 773529912, 1294757372, 1396182291, 1695183700, 1986661051, 2177026350, 2456956037, 2730485921, 2820302411, 3259730800, 3345764771, 3516065817, 3600352804, 4094571909, 275423344, 430227734, 506948616, 659060556, 883997877, 958139571, 1322822218, 1537002063, 1747873779, 1955562222, 2024104815, 2227730452, 2361852424, 2428436474, 2756734187, 3204031479, 3329325298]
@[irreducible] def shaK : Nat → Int := fun j => shaList.getD j 0
/-- The table of the program's constants. -/
def Tab (w : World) : Prop := ∀ j, j < 64 → w.cell? ⟨0, j, none⟩ = some (vU32 (shaK j))
theorem Tab.ext {w w' : World} (h : Tab w) (k : Ext w w') : Tab w' := fun j hj => k.cell (h j hj)
theorem sh_and : ∀ n : Fin 32, 0 < n.val → bits .and .u64 (IntKind.u64.wrap (-(n.val : Int))) 31 = ((32 - n.val : Nat) : Int) := by decide
@[irreducible] def rotF (n : Nat) (x : Int) : Int := bits .or .u32 (x * 2 ^ (32 - n) % 4294967296) (x / 2 ^ n)
def RetP (v : Value) (w : World) (e : Ending) (w' : World) : Prop := e = .returned v ∧ w = w'
set_option maxRecDepth 100000 in
theorem rot94_ok (x : Int) (n : Nat) (h0 : 0 < n) (h : n < 32) (w : World) : Calls Tryd.prog 81 #[.int .u32 x, .int .i64 (-(n : Int))] w (RetP (vU32 (rotF n x)) w) := by
  have e1 := sh_and ⟨n, h⟩ h0
  simp only [] at e1
  have hm : (32 : Nat) - n ≤ 32 ∧ 0 < 32 - n := by omega
  obtain ⟨m, hm'⟩ : ∃ m, 32 - n = m := ⟨_, rfl⟩
  rw [hm'] at e1
  have hnm : n = 32 - m := by omega
  have q1 : (0 : Int) ≤ (m : Int) := by omega
  have q2 : (m : Int) ≤ 32 := by omega
  have q3 : IntKind.u64.wrap (32 - (m : Int)) = (n : Int) := by rw [IntWalk.u64_in _ (by omega)]; omega
  have q4 : (0 : Int) ≤ (n : Int) := by omega
  have q5 : (n : Int) ≤ 32 := by omega
  have e2 : rotF n x = bits .or .u32 (x * 2 ^ m % 4294967296) (x / 2 ^ n) := by unfold rotF; rw [hm']
  clear hm hm' hnm h h0
  go_enter Tryd.func81, Tryd.ntmps81
  go_wp2_with fail
  go_ret
  exact ⟨by rw [e2]; rfl, rfl⟩
set_option maxRecDepth 100000 in
theorem rotr88_ok (x : Int) (n : Nat) (h0 : 0 < n) (h : n < 32) (w : World) : Calls Tryd.prog 66 #[.int .u32 x, .int .i64 (n : Int)] w (RetP (vU32 (rotF n x)) w) := by
  have q1 : IntKind.i64.wrap (-(n : Int)) = -(n : Int) := IntWalk.i64_in _ (by omega)
  have HC := Lib.hid (rot94_ok x n h0 h w)
  clear h0 h
  go_enter Tryd.func66, Tryd.ntmps66
  go_wp2_with fail
  refine HC.out.mono ?_
  rintro e1 w1 ⟨rfl, rfl⟩
  go_wp2_with fail
  go_ret
  exact ⟨rfl, rfl⟩
end Go.Proofs.YtjeclmmikjpinaaDoor
