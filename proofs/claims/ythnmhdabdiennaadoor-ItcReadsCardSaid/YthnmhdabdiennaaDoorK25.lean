/- The walk over FormatUint at base 10, for every number. -/
import Derived.Test.YthnmhdabdiennaaDoorK15
import Derived.Lib.ItoaMem
namespace Go.Proofs.YthnmhdabdiennaaDoor
open Go.RowKit Go.Sort Go.Lib
attribute [local go_sem ↓] Go.wp_at_zero Go.wp_at_succ
abbrev byteV : UInt8 → Value := fun b => Value.int .u8 (b.toNat : Int)
theorem holds_zero0 (w : World) (T : TypeId) (nd : Nat) (hs : nd ≤ 24) : Holds (fun (b : UInt8) => Value.int .u8 (b.toNat : Int)) (w.alloc (.cells zeros24 T)) w.heap.size 0 (Array.replicate nd (0 : UInt8)) := fun j hj => by
  have hj' : j < nd := by simpa using hj
  refine ⟨?_, World.frozen?_alloc_new _ _ _ _⟩
  rw [World.cell?_alloc_new, zeros24_at _ (by omega), getElem!_pos _ j hj]
  simp
theorem ext_put (w : World) (o : Obj) (dk : Array UInt8) (k : Nat) : Ext w ((putRow (fun (b : UInt8) => Value.int .u8 (b.toNat : Int)) (w.alloc o) w.heap.size 0 dk).drewN k) := by
  refine ⟨rfl, rfl, rfl, by simp, fun i hi => ?_⟩
  show (putRow (fun (b : UInt8) => Value.int .u8 (b.toNat : Int)) (w.alloc o) w.heap.size 0 dk).heap[i]? = _
  unfold putRow mapBlock
  rw [Array.getElem?_modify, if_neg (by omega)]
  exact Below.heap_alloc w o i hi
set_option maxRecDepth 100000 in
set_option maxHeartbeats 4000000 in
theorem fmt80 (u : Nat) (h1 : 100 ≤ u) (hu64 : u < 18446744073709551616) (w : World) (htab : Lib.TabIs Tryd.prog w "internal/strconv.uint64pow10" .u64 Lib.pow10Tab) : Calls Tryd.prog 80 #[.int .u64 (u : Int), .int .i64 10] w (RetT (Lib.decDigits u) w) := by
  have hnd20 : Lib.nDigits u ≤ 20 := by have := Lib.numDigits_eq u (by omega) hu64; split at this <;> omega
  have hal : Tryd.prog.arrayLen 128 = 24 := by kernel_rfl
  have hsl : ∀ W, (Instr.sliceAt 128 (.pointer (some ⟨w.heap.size, 0, none⟩)) none (some (.int .i64 (Lib.nDigits u : Int))) none).run Tryd.prog W = .ok (.slice (some ⟨w.heap.size, 0, none⟩) (Lib.nDigits u) 24) W := fun W => by
    rw [run_sliceAt_array_h W 128 ⟨w.heap.size, 0, none⟩ (by simp [Program.arrayLen, Program.elem, Tryd.underlying128]) .i64 (Lib.nDigits u : Int) (by omega) (by rw [hal]; omega)]
    rw [hal]
    go_simp
  have hH0 := holds_zero0 w 128 (Lib.nDigits u) (by omega)
  have hfmt := Tryd.internal_strconv_formatBase10 w.heap.size 0 24 u (Array.replicate (Lib.nDigits u) 0) (w.alloc (.cells Lib.zeros24 128)) hH0 (by rw [Array.size_replicate]; exact Lib.lt_pow_nDigits u) hu64 (by rw [Array.size_replicate]; omega)
  rw [Array.size_replicate] at hfmt
  have HH0 := Lib.hid hH0
  have ND := Lib.hid (Tryd.internal_strconv_numDigits u (by omega) hu64 _ (Lib.tabIs_alloc htab (.cells Lib.zeros24 128)))
  have HFM := Lib.hid hfmt
  clear hH0 hal hfmt htab
  go_enter Tryd.func80, Tryd.ntmps80
  go_wp2_with fail
  refine ND.out.mono ?_
  rintro e w1 ⟨rfl, rfl⟩
  go_wp2_with fail
  refine HFM.out.mono ?_
  rintro e w1 ⟨rfl, k, v', dk, rfl, hF⟩
  have hcv : (convert 56 9 (.slice (some ⟨w.heap.size, 0, none⟩) (Lib.nDigits u) 24)).run Tryd.prog ((putRow (fun (b : UInt8) => Value.int .u8 (b.toNat : Int)) (w.alloc (.cells Lib.zeros24 128)) w.heap.size 0 dk).drewN k) = .ok (.string ⟨(Lib.decDigits u).toArray⟩) ((putRow (fun (b : UInt8) => Value.int .u8 (b.toNat : Int)) (w.alloc (.cells Lib.zeros24 128)) w.heap.size 0 dk).drewN k) := by
    have h := run_convert_bytes_back (P := Tryd.prog) ((putRow (fun (b : UInt8) => Value.int .u8 (b.toNat : Int)) (w.alloc (.cells Lib.zeros24 128)) w.heap.size 0 dk).drewN k) 56 9 5 ⟨w.heap.size, 0, none⟩ 24 (Lib.decDigits u) Tryd.underlying56 Tryd.underlying5 Tryd.underlying9 (fun j hj => by
      rw [Lib.row_is_numeral hF j hj, Lib.add_plain, World.cell?_drewN]
      exact cell?_putRow (fun (b : UInt8) => Value.int .u8 (b.toNat : Int)) _ w.heap.size 0 _ dk HH0.out (by rw [hF.size, Array.size_replicate]) j (by rw [hF.size]; rw [Lib.decDigits_length] at hj; exact hj))
    rw [Lib.decDigits_length] at h
    exact h
  have EX : Hid (Ext w ((putRow (fun (b : UInt8) => Value.int .u8 (b.toNat : Int)) (w.alloc (.cells Lib.zeros24 128)) w.heap.size 0 dk).drewN k)) := Lib.hid (ext_put w _ dk k)
  clear hF
  generalize (putRow (fun (b : UInt8) => Value.int .u8 (b.toNat : Int)) (w.alloc (.cells Lib.zeros24 128)) w.heap.size 0 dk).drewN k = w2 at *
  go_wp2_with fail
  go_ret
  exact ⟨rfl, EX.out⟩
/-- FormatUint, wherever the table of powers is as it was laid. -/
theorem fmt_any (u : Nat) (hu64 : u < 18446744073709551616) (w : World) (htab : Lib.TabIs Tryd.prog w "internal/strconv.uint64pow10" .u64 Lib.pow10Tab) : Calls Tryd.prog 72 #[.int .u64 (u : Int), .int .i64 10] w (RetT (Lib.decDigits u) w) := by
  by_cases h : u < 100
  · exact fmt_small u w h
  · have H := Lib.hid (fmt80 u (by omega) hu64 w htab)
    clear htab
    go_enter Tryd.func72, Tryd.ntmps72
    go_wp2_with fail
    refine H.out.mono ?_
    rintro e w1 ⟨rfl, hb⟩
    go_wp2_with fail
    go_ret
    exact ⟨rfl, hb⟩
end Go.Proofs.YthnmhdabdiennaaDoor
