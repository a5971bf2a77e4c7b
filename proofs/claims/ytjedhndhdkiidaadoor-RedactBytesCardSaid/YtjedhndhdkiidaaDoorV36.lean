/- Many bytes off a reader. -/
import Derived.Test.YtjedhndhdkiidaaDoorV35
namespace Go.Proofs.YtjedhndhdkiidaaDoor
open Go.RowKit
attribute [local go_sem ↓] Go.wp_at_zero Go.wp_at_succ
/-- Bytes are handed back in a new block. -/
def RetMy (N : Nat → Prop) (b n : Nat) (bs : List UInt8) (s : Sg) (w : World) (e : Ending) (w' : World) : Prop := ∃ g, e = .returned (.slice (some ⟨g, 0, none⟩) n n) ∧ w.heap.size ≤ g ∧ Bk w' g n (idF bs) ∧ St w' N b s ∧ Exg b w w'
theorem idF_snoc {l : List UInt8} {k n : Nat} (hk : l.length = k) (x : UInt8) : ∀ i, i < n → upd (idF l) k (vU8 ((x.toNat : Nat) : Int)) i = idF (l ++ [x]) i := fun i _ => by
  subst hk
  unfold upd idF
  by_cases h : i = l.length
  · rw [if_pos h, h, List.getD_eq_getElem?_getD, List.getElem?_append_right (Nat.le_refl _), Nat.sub_self]
    rfl
  · rw [if_neg h]
    rcases Nat.lt_or_ge i l.length with h' | h'
    · rw [List.getD_eq_getElem?_getD, List.getD_eq_getElem?_getD, List.getElem?_append_left h']
    · rw [List.getD_eq_getElem?_getD, List.getD_eq_getElem?_getD, List.getElem?_eq_none h', List.getElem?_eq_none (by simp; omega)]
set_option maxRecDepth 100000 in
set_option maxHeartbeats 1000000 in
theorem bytes51_st (N : Nat → Prop) (b n : Nat) (s : Sg) (w : World) (h : St w N b s) (hb : b < w.heap.size) (hN : ∀ g, N g → g < w.heap.size) (hn0 : 0 < n) (hn : n ≤ 1000) : Calls Tryd.prog 51 #[.pointer (some ⟨b, 0, none⟩), .int .i64 (n : Int)] w (RetMy N b n (manyR n s).1 (manyR n s).2 w) := by
  have HS := Lib.hid h
  have HN := Lib.hid hN
  have HBW := Lib.hid hb
  have q0 : (0 : Int) ≤ (n : Int) := by omega
  have q1 : (n : Int) ≤ 1000 := by omega
  clear h hb hN
  have m8 := run_mk38 w n n (Nat.le_refl _) (by omega)
  go_enter Tryd.func51, Tryd.ntmps51
  go_upto_region 2 with fail
  clear m8
  generalize hw1 : World.alloc _ _ = w1
  have HB1 : Hid (Bk w1 w.heap.size n (idF [])) := Lib.hid (by rw [← hw1]; exact (Bk.new hn0).congr fun i _ => rfl)
  have HE1 : Hid (Ext w w1) := Lib.hid (by rw [← hw1]; exact (Ext.refl _).alloc _)
  clear hw1
  go_wp2_with fail
  go_loopw [11] (fun i wr => ∃ k : Nat, k ≤ n ∧ i = iV (k : Int) ∧ Bk wr w.heap.size n (idF (manyR k s).1) ∧ St wr N b (manyR k s).2 ∧ Exg b w wr) (fun i _ => n - (intOf i).toNat)
  case atStart => exact ⟨0, by omega, rfl, HB1.out, HS.out.ext HE1.out HBW.out HN.out, HE1.out.exg b⟩
  case round =>
    obtain ⟨k, hk, rfl, hbk, hst, hX⟩ := hrel
    have HBK := Lib.hid hbk
    have HST := Lib.hid hst
    have HX := Lib.hid hX
    clear hbk hst hX
    by_cases hlt : k < n
    · have q2 : (k : Int) < (n : Int) := by omega
      have q3 : (0 : Int) ≤ (k : Int) := by omega
      have q4 : (k : Int) < 1000 := by omega
      go_wp2_with fail
      refine (byte50_st N b _ wr HST.out).mono ?_
      rintro _ w2 ⟨rfl, hst2, hE2⟩
      have HST2 := Lib.hid hst2
      have HE2 := Lib.hid hE2
      have HB2 : Hid (Bk w2 w.heap.size n (idF (manyR k s).1)) := Lib.hid (HBK.out.kept (hE2.2.2.2.2 _ HBK.out.lt (by have := HBW.out; omega)))
      have c2 := HB2.out.cell (k := k) hlt
      have f2 := HB2.out.frozen k
      obtain ⟨x, hx⟩ : ∃ x, (byteR (manyR k s).2).1 = x := ⟨_, rfl⟩
      have hsucc := manyR_succ k s
      rw [hx] at hsucc
      have HSC := Lib.hid hsucc
      clear hst2 hE2 hsucc
      rw [hx]
      clear hx
      go_wp2_with fail
      refine ⟨⟨k + 1, by omega, by go_num, ?_, ?_, ?_⟩, by simp [intOf]; omega⟩
      · rw [HSC.out]
        exact (HB2.out.set k _).congr (idF_snoc (manyR_len k s) x)
      · rw [HSC.out]
        exact HST2.out.kept fun g hg => Below.heap_setCell _ _ _ g (by
          rcases hg with h | rfl
          · have := HN.out g h; exact Nat.ne_of_lt this
          · exact Nat.ne_of_lt HBW.out)
      · exact (HX.out.trans HE2.out).set (.inr (Nat.le_refl _)) _
    · obtain rfl : k = n := by omega
      go_wp2_with fail
      go_ret
      exact ⟨w.heap.size, rfl, Nat.le_refl _, HBK.out, HST.out, HX.out⟩
end Go.Proofs.YtjedhndhdkiidaaDoor
