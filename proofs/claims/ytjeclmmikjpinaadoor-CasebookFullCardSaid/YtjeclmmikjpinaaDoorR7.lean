/- The digests of leaves and pairs. -/
import Derived.Test.YtjeclmmikjpinaaDoorR6
namespace Go.Proofs.YtjeclmmikjpinaaDoor
open Go.RowKit
attribute [local go_sem ↓] Go.wp_at_zero Go.wp_at_succ
attribute [local go_sem ↓] ld48 st48 al48 bu48
attribute [local go_sem] run_al48 run_bu48 run_st48n
theorem Tab.lt {w : World} (h : Tab w) : 0 < w.heap.size := World.block_lt_of_cell? w _ (h 0 (by decide))
theorem Bk.bytes {w : World} {g : Nat} {d : List UInt8} (h : Bk w g 32 (idF d)) (hd : d.length = 32) : BytesAt w (some ⟨g, 0, none⟩) d := bytes_of_cells hd fun i hi => by rw [Nat.zero_add]; exact h.cell hi
theorem run_sl48 (w : World) (g : Nat) : (Instr.sliceAt 27 (.pointer (some ⟨g, 0, none⟩)) none none none).run Tryd.prog w = .ok (.slice (some ⟨g, 0, none⟩) 32 32) w := by
  have e1 : Tryd.prog.arrayLen 27 = 32 := by kernel_rfl
  have e2 : Tryd.prog.elem 27 = 5 := by kernel_rfl
  have hs : (sizeOf 5).run Tryd.prog w = .ok 1 w := by kernel_rfl
  rw [run_sliceAt_array_all w 27 ⟨g, 0, none⟩ (by rw [e1, e2]; exact Tryd.underlying27), e1, e2, hs]
  simp [Result.andThen, slicedAt, Addr.add]
attribute [local go_sem] run_sl48
end Go.Proofs.YtjeclmmikjpinaaDoor
