/- The methods of a nil casebook. -/
import Derived.Test.YtjeclmmikjpinaaGreatDoorC15
namespace Go.Proofs.YtjeclmmikjpinaaGreatDoor
open Go.RowKit
attribute [local go_sem ↓] Go.wp_at_zero Go.wp_at_succ
attribute [local go_sem ↓] ld48 st48 al48 bu48
attribute [local go_sem] run_al48 run_bu48 run_st48n run_sl48
def RetV (v : Value) (w : World) (e : Ending) (w' : World) : Prop := e = .returned v ∧ Ext w w'
set_option maxRecDepth 100000 in
theorem add_nil (s : ByteArray) (A : Option Addr) (l c : Nat) (w : World) : Calls Tryz.prog 4 #[.pointer none, .agg #[.string s, .slice A l c]] w (RetV (.tuple #[idV [], .int .i64 1]) w) := by
  go_enter Tryz.func4, Tryz.ntmps4
  go_upto_region 1 with fail
  generalize hwA : w.alloc (.cells #[.string s, .slice A l c] 32) = wA
  have HEA : Hid (Ext w wA) := Lib.hid (by rw [← hwA]; exact (Ext.refl _).alloc _)
  have sA : wA.heap.size = w.heap.size + 1 := by rw [← hwA]; simp
  clear hwA
  generalize hwB : wA.alloc (.cells (idA []) 27) = wB
  have HB : Hid (Bk wB (w.heap.size + 1) 32 (idF [])) := Lib.hid (by rw [← hwB, ← sA]; exact Bk.new (by decide))
  have HEB : Hid (Ext w wB) := Lib.hid (by rw [← hwB]; exact HEA.out.alloc _)
  clear hwB
  have l2 := run_st48 HB.out []
  go_wp2_with fail
  refine bodyPost_ret (res48t Tryz.results4 HB.out.putAll rfl rfl) rfl ⟨rfl, Ext.setCells (by omega) _ _ HEB.out⟩
set_option maxRecDepth 100000 in
theorem root_nil (w : World) : Calls Tryz.prog 16 #[.pointer none] w (RetV (idV []) w) := by
  go_enter Tryz.func16, Tryz.ntmps16
  go_upto_region 1 with fail
  generalize hwB : w.alloc (.cells (idA []) 27) = wB
  have HB : Hid (Bk wB w.heap.size 32 (idF [])) := Lib.hid (by rw [← hwB]; exact Bk.new (by decide))
  have HEB : Hid (Ext w wB) := Lib.hid (by rw [← hwB]; exact (Ext.refl _).alloc _)
  clear hwB
  have l2 := run_st48 HB.out []
  go_wp2_with fail
  exact bodyPost_ret (resBk Tryz.results16 (g := w.heap.size) rfl HB.out.putAll Tryz.underlying27 rfl Tryz.size27) rfl ⟨rfl, Ext.setCells (Nat.le_refl _) _ _ HEB.out⟩
set_option maxRecDepth 100000 in
theorem get_nil (k : List UInt8) (w : World) : Calls Tryz.prog 5 #[.pointer none, idV k] w (RetV (.tuple #[.agg #[.string ⟨#[]⟩, .slice none 0 0], .int .i64 1]) w) := by
  have HX : Hid (Ext w ((w.alloc (.cells (idA k) 27)).alloc (.cells #[.string ⟨#[]⟩, .slice none 0 0] 32))) := Lib.hid (((Ext.refl _).alloc _).alloc _)
  show Calls Tryz.prog 5 #[.pointer none, .agg (idA k)] w _
  go_enter Tryz.func5, Tryz.ntmps5
  go_wp2_with fail
  exact bodyPost_ret (v := .tuple #[.agg #[.string ⟨#[]⟩, .slice none 0 0], .int .i64 1]) (by simp [results, Tryz.results5, go_sem]) rfl ⟨rfl, HX.out⟩
theorem close_nil (k : List UInt8) (w : World) : Calls Tryz.prog 8 #[.pointer none, idV k] w (RetV (.int .i64 1) w) := by
  have HX : Hid (Ext w (w.alloc (.cells (idA k) 27))) := Lib.hid ((Ext.refl _).alloc _)
  show Calls Tryz.prog 8 #[.pointer none, .agg (idA k)] w _
  go_enter Tryz.func8, Tryz.ntmps8
  go_wp2_with fail
  go_ret
  exact ⟨rfl, HX.out⟩
set_option maxRecDepth 100000 in
theorem closed_nil (k : List UInt8) (w : World) : Calls Tryz.prog 9 #[.pointer none, idV k] w (RetV (.bool false) w) := by
  have HX : Hid (Ext w (w.alloc (.cells (idA k) 27))) := Lib.hid ((Ext.refl _).alloc _)
  show Calls Tryz.prog 9 #[.pointer none, .agg (idA k)] w _
  go_enter Tryz.func9, Tryz.ntmps9
  go_wp2_with fail
  generalize hw1 : w.alloc (.cells (idA k) 27) = w1
  rw [hw1] at HX
  clear hw1
  go_quiet (fail)
  go_wp2_with fail
  go_ret
  exact ⟨rfl, HX.out.drewN _⟩
theorem list_nil (w : World) : Calls Tryz.prog 10 #[.pointer none] w (RetP nilV w) := by
  go_enter Tryz.func10, Tryz.ntmps10
  go_wp2_with fail
  go_ret
  exact ⟨rfl, rfl⟩
theorem bytes_nil (w : World) : Calls Tryz.prog 12 #[.pointer none] w (RetP nilV w) := by
  go_enter Tryz.func12, Tryz.ntmps12
  go_wp2_with fail
  go_ret
  exact ⟨rfl, rfl⟩
theorem fork_nil (w : World) : Calls Tryz.prog 13 #[.pointer none] w (RetP (.pointer none) w) := by
  go_enter Tryz.func13, Tryz.ntmps13
  go_wp2_with fail
  go_ret
  exact ⟨rfl, rfl⟩
theorem index_nil (f : Value) (w : World) : Calls Tryz.prog 51 #[nilV, f] w (RetP (iV (-1)) w) := by
  go_enter Tryz.func51, Tryz.ntmps51
  go_wp2_with fail
  go_loopw [8] (fun i wr => i = iV 0 ∧ wr = w) (fun _ _ => 0)
  case atStart => exact ⟨rfl, rfl⟩
  case round =>
    obtain ⟨rfl, rfl⟩ := hrel
    go_wp2_with fail
    go_ret
    exact ⟨rfl, rfl⟩
theorem delete_nil (f : Value) (w : World) : Calls Tryz.prog 26 #[nilV, f] w (RetP nilV w) := by
  have C1 := Lib.hid (index_nil f w)
  go_enter Tryz.func26, Tryz.ntmps26
  go_wp2_with fail
  refine C1.out.mono ?_
  rintro _ _ ⟨rfl, rfl⟩
  go_wp2_with fail
  go_ret
  exact ⟨rfl, rfl⟩
theorem find_nil (s : ByteArray) (w : World) : Calls Tryz.prog 11 #[.pointer none, .string s] w (RetV nilV w) := by
  have HX : Hid (Ext w ((w.alloc (.cells #[.pointer none] 25)).alloc (.cells #[.string s] 9))) := Lib.hid (((Ext.refl _).alloc _).alloc _)
  have C1 := Lib.hid (fun W => list_nil W)
  have C2 := Lib.hid (fun f W => delete_nil f W)
  go_enter Tryz.func11, Tryz.ntmps11
  go_wp2_with fail
  refine (C1.out _).mono ?_
  rintro _ _ ⟨rfl, rfl⟩
  go_wp2_with fail
  refine (C2.out _ _).mono ?_
  rintro _ _ ⟨rfl, rfl⟩
  go_wp2_with fail
  go_ret
  exact ⟨rfl, HX.out⟩
theorem merge_nil (p : Option Addr) (w : World) : Calls Tryz.prog 14 #[.pointer none, .pointer p] w (RetV (.int .i64 1) w) := by
  go_enter Tryz.func14, Tryz.ntmps14
  go_wp2_with fail
  go_ret
  exact ⟨rfl, Ext.refl _⟩
end Go.Proofs.YtjeclmmikjpinaaGreatDoor
