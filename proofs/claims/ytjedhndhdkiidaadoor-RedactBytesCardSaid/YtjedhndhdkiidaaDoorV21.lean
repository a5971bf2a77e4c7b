/- The law's names. -/
import Derived.Test.YtjedhndhdkiidaaDoorV20
namespace Go.Proofs.YtjedhndhdkiidaaDoor
open Go.RowKit
attribute [local go_sem ↓] Go.wp_at_zero Go.wp_at_succ
attribute [local go_sem] baSize baList
/-- Whether the bit of a place is set. -/
def bitF (b i : Nat) : Bool := decide (b / 2 ^ (i % 16) % 2 = 1)
/-- The names of the first k fields whose bits are set. -/
def nmK (fs : List Fd) (b k : Nat) : List (List UInt8) := ((List.range k).filter (bitF b)).map fun i => (fs.getD i Fd0).nm
theorem nmK_succ (fs : List Fd) (b k : Nat) : nmK fs b (k + 1) = nmK fs b k ++ (if bitF b k = true then [(fs.getD k Fd0).nm] else []) := by
  unfold nmK
  rw [List.range_succ, List.filter_append, List.map_append]
  congr 1
  by_cases h : bitF b k = true
  · rw [if_pos h, List.filter_cons_of_pos h]; rfl
  · rw [if_neg h, List.filter_cons_of_neg h]; rfl
theorem nmK_len (fs : List Fd) (b k : Nat) : (nmK fs b k).length ≤ k := by
  unfold nmK
  rw [List.length_map]
  exact Nat.le_trans (List.length_filter_le _ _) (by simp)
theorem bit_eq (b k : Nat) (hb : b < 65536) : bits .and .u16 ((b : Int) / 2 ^ (k % 16)) 1 = ((b / 2 ^ (k % 16) % 2 : Nat) : Int) := by
  have h := (bits_nat .u16 16 (by decide) (fun n h0 h1 => by simp [IntKind.wrap, IntKind.bits, IntKind.signed]; omega) (b / 2 ^ (k % 16)) 1 (Nat.lt_of_le_of_lt (Nat.div_le_self _ _) hb) (by decide)).1
  rw [Nat.and_one_is_mod] at h
  rw [← h]
  congr 1
set_option maxRecDepth 100000 in
set_option maxHeartbeats 1000000 in
theorem names11_ok (fs : List Fd) (v : Value) (b : Nat) (w : World) (h : FsAt w v fs) (hb : b < 65536) (hl : fs.length ≤ 1000) : Calls Tryd.prog 11 #[v, .int .u16 (b : Int)] w (RetSs (nmK fs b fs.length) w) := by
  obtain ⟨A, c, rfl, h1, h2, h3⟩ := h.read
  have HR := Lib.hid h3
  clear h h3 h2 h1
  go_enter Tryd.func11, Tryd.ntmps11
  go_wp2_with fail
  go_loopw [5, 10] (fun t i wr => ∃ (k : Nat) (v : Value), k ≤ fs.length ∧ i = iV (k : Int) ∧ t = v ∧ Row 1 wr w.heap.size 9 v ((nmK fs b k).map fun s => [sV s]) ∧ Ext w wr) (fun _ i _ => fs.length - (intOf i).toNat)
  case atStart => exact ⟨0, nilV, by omega, rfl, rfl, Row.nil _ _ _ _, Ext.refl _⟩
  case round =>
    obtain ⟨k, v, hk, rfl, rfl, hr, hX⟩ := hrel
    have HRW := Lib.hid hr
    have HX := Lib.hid hX
    clear hr hX
    by_cases hlt : k < fs.length
    · have q1 : (k : Int) < (fs.length : Int) := by omega
      have q0 : (0 : Int) ≤ (k : Int) := by omega
      have q2 : (0 : Int) ≤ (k : Int) % 16 := by omega
      have q3 : (k : Int) % 16 < 64 := by omega
      obtain ⟨bb, o, A1, c1, A2, c2, rfl, hbb, c0, c1', c2', -, -, -, -, -, -⟩ := HR.out wr HX.out k hlt
      obtain ⟨f, hf⟩ : ∃ f, fs.getD k Fd0 = f := ⟨_, rfl⟩
      rw [hf] at c0 c1' c2'
      have HF := Lib.hid hf
      clear hf
      have be := bit_eq b k hb
      by_cases hbit : bitF b k = true
      · have HBT := Lib.hid hbit
        have b1 : ((b / 2 ^ (k % 16) % 2 : Nat) : Int) = 1 := by unfold bitF at hbit; have := of_decide_eq_true hbit; omega
        rw [b1] at be
        clear b1 hbit
        go_upto_region 6 with fail
        clear be
        generalize hw4 : World.alloc _ _ = w4
        have p0 : w4.cell? ⟨wr.heap.size, 0, none⟩ = some (sV f.nm) := by rw [← hw4]; exact new_at _ _ _ 0 _ rfl
        have HE4 : Hid (Ext wr w4) := Lib.hid (by rw [← hw4]; exact (Ext.refl _).alloc _)
        clear hw4
        go_wp2_with (at_builtin; go_loud (refine wapp el28 rfl (.tmp 21) (.tmp 24) rfl (w5 := w) (vs := (nmK fs b k).map fun s => [sV s]) (us := [[sV f.nm]]) rfl ((HX.out.trans HE4.out).alloc _) (HRW.out.ext (HE4.out.alloc _)) rfl rfl (Wide.one rfl) (vs1 _ _ _) (by intro u hu; simp at hu; subst hu; rfl) (by rw [List.length_map]; have := nmK_len fs b k; simp; omega) (by rw [List.length_map]; have := nmK_len fs b k; simp; omega) ?_; intro v9 w9 hr9 hE9 hg9 hb9; have HR9 := Lib.hid hr9; have HE9 := Lib.hid hE9; clear hr9 hE9 hg9 hb9))
        refine ⟨⟨k + 1, _, by omega, by go_num, rfl, ?_, HE9.out⟩, by simp [intOf]; omega⟩
        rw [nmK_succ, if_pos HBT.out, HF.out, List.map_append]
        exact HR9.out
      · have HBT := Lib.hid hbit
        have b1 : ((b / 2 ^ (k % 16) % 2 : Nat) : Int) = 0 := by unfold bitF at hbit; have h7 : ¬ b / 2 ^ (k % 16) % 2 = 1 := fun e => hbit (decide_eq_true e); omega
        rw [b1] at be
        clear b1 hbit
        go_wp2_with fail
        refine ⟨⟨k + 1, _, by omega, by go_num, rfl, ?_, HX.out.alloc _⟩, by simp [intOf]; omega⟩
        rw [nmK_succ, if_neg HBT.out, List.append_nil]
        exact HRW.out.ext ((Ext.refl _).alloc _)
    · obtain rfl : k = fs.length := by omega
      go_wp2_with fail
      go_ret
      exact ⟨_, rfl, HRW.out.sl, HX.out⟩
end Go.Proofs.YtjedhndhdkiidaaDoor
