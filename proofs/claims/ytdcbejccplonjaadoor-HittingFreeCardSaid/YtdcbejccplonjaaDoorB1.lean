/- The walks over TrailingZeros64, OnesCount64 and list. -/
import Derived.Test.YtdcbejccplonjaaDoorB0
import Derived.Test.YtdcbejccplonjaaDoorH4
import Derived.Test.YtdcbejccplonjaaDoorShelf
import Derived.Laws.Bits128
namespace Go.Proofs.YtdcbejccplonjaaDoor
open Go.RowKit
attribute [local go_sem ↓] Go.wp_at_zero Go.wp_at_succ
theorem tz_any (m : Nat) (w : World) (hm : m < 18446744073709551616) (hT : Tab w) : Calls Tryd.prog 52 #[.int .u64 (m : Int)] w fun e w' => e = .returned (.int .i64 (Lib.ctz 64 m : Nat)) ∧ w = w' := by
  have h := Any7.bits_TrailingZeros64 Tryd.laysTz m hm w (fun _ => hT)
  exact h.mono fun e w' ⟨h1, h2⟩ => ⟨h1, h2.symm⟩
/-- The number of bits, as the library reckons it. -/
theorem ones_eq (x : Nat) : stC 8 (stB 8 (stA 8 x)) = bytesOf 8 x := stages 8 x
theorem rep85 : rep 85 8 = 6148914691236517205 := by decide
theorem rep51 : rep 51 8 = 3689348814741910323 := by decide
theorem rep15 : rep 15 8 = 1085102592571150095 := by decide
set_option maxRecDepth 100000 in
set_option maxHeartbeats 2000000 in
theorem ones_any (x : Nat) (w : World) (hx : x < 18446744073709551616) : Calls Tryd.prog 35 #[.int .u64 (x : Int)] w fun e w' => e = .returned (.int .i64 (card x : Nat)) ∧ w = w' := by
  obtain ⟨S1, S2⟩ := sum_bytes x
  rw [← ones_eq x] at S1 S2
  obtain ⟨A, hA⟩ : ∃ A, stA 8 x = A := ⟨_, rfl⟩
  rw [hA] at S1 S2
  obtain ⟨B, hB⟩ : ∃ B, stB 8 A = B := ⟨_, rfl⟩
  rw [hB] at S1 S2
  obtain ⟨C, hC⟩ : ∃ C, stC 8 B = C := ⟨_, rfl⟩
  rw [hC] at S1 S2
  unfold stA at hA
  unfold stB at hB
  unfold stC at hC
  rw [rep85] at hA
  rw [rep51] at hB
  rw [rep15] at hC
  have lA1 : x / 2 &&& 6148914691236517205 ≤ 6148914691236517205 := Nat.and_le_right
  have lA2 : x &&& 6148914691236517205 ≤ 6148914691236517205 := Nat.and_le_right
  have lB1 : A / 4 &&& 3689348814741910323 ≤ 3689348814741910323 := Nat.and_le_right
  have lB2 : A &&& 3689348814741910323 ≤ 3689348814741910323 := Nat.and_le_right
  have eA : bits .and .u64 ((x : Int) / 2) 6148914691236517205 = ((x / 2 &&& 6148914691236517205 : Nat) : Int) := by
    have := bits_and_u64_nat (x / 2) 6148914691236517205 (by omega) (by omega)
    rw [← this]; rfl
  have eA' : bits .and .u64 (x : Int) 6148914691236517205 = ((x &&& 6148914691236517205 : Nat) : Int) := by
    have := bits_and_u64_nat x 6148914691236517205 (by omega) (by omega)
    rw [← this]; rfl
  have eA2 : IntKind.u64.wrap (((x / 2 &&& 6148914691236517205 : Nat) : Int) + ((x &&& 6148914691236517205 : Nat) : Int)) = (A : Int) := by rw [IntKind.wrap_u64]; omega
  have eB : bits .and .u64 ((A : Int) / 4) 3689348814741910323 = ((A / 4 &&& 3689348814741910323 : Nat) : Int) := by
    have := bits_and_u64_nat (A / 4) 3689348814741910323 (by omega) (by omega)
    rw [← this]; rfl
  have eB' : bits .and .u64 (A : Int) 3689348814741910323 = ((A &&& 3689348814741910323 : Nat) : Int) := by
    have := bits_and_u64_nat A 3689348814741910323 (by omega) (by omega)
    rw [← this]; rfl
  have eB2 : IntKind.u64.wrap (((A / 4 &&& 3689348814741910323 : Nat) : Int) + ((A &&& 3689348814741910323 : Nat) : Int)) = (B : Int) := by rw [IntKind.wrap_u64]; omega
  obtain ⟨D, hD⟩ : ∃ D, B / 16 + B = D := ⟨_, rfl⟩
  rw [hD] at hC
  have eC : IntKind.u64.wrap ((B : Int) / 16 + (B : Int)) = (D : Int) := by rw [IntKind.wrap_u64]; omega
  have eC' : bits .and .u64 (D : Int) 1085102592571150095 = (C : Int) := by
    have := bits_and_u64_nat D 1085102592571150095 (by omega) (by omega)
    rw [← hC, ← this]; rfl
  obtain ⟨y1, h1⟩ : ∃ y, C + C / 256 = y := ⟨_, rfl⟩
  obtain ⟨y2, h2⟩ : ∃ y, y1 + y1 / 65536 = y := ⟨_, rfl⟩
  obtain ⟨y3, h3⟩ : ∃ y, y2 + y2 / 4294967296 = y := ⟨_, rfl⟩
  have S3 : y3 % 128 = card x := by rw [← S1, ← h3, ← h2, ← h1]
  have e1 : IntKind.u64.wrap ((C : Int) + (C : Int) / 256) = (y1 : Int) := by rw [IntKind.wrap_u64]; omega
  have e2 : IntKind.u64.wrap ((y1 : Int) + (y1 : Int) / 65536) = (y2 : Int) := by rw [IntKind.wrap_u64]; omega
  have e3 : IntKind.u64.wrap ((y2 : Int) + (y2 : Int) / 4294967296) = (y3 : Int) := by rw [IntKind.wrap_u64]; omega
  have e4 : IntKind.i64.wrap (y3 : Int) = (y3 : Int) := IntWalk.i64_in _ (by omega)
  have e4' : wrap64 (y3 : Int) = (y3 : Int) := IntWalk.wrap64_in _ (by omega)
  have e5 : bits .and .i64 (y3 : Int) 127 = ((card x : Nat) : Int) := by rw [i64_and127, ← S3]; rfl
  clear S1 S2 S3 hA hB hC hD h1 h2 h3 lA1 lA2 lB1 lB2
  go_enter Tryd.func35, Tryd.ntmps35
  go_wp2
  go_ret
  exact ⟨rfl, rfl⟩
def RetI (zs : List Int) (w : World) (e : Ending) (w' : World) : Prop := ∃ v, e = .returned v ∧ Row w' w.heap.size 3 v (zs.map iV) ∧ Ext w w'
def nI (l : List Nat) : List Int := l.map fun (x : Nat) => (x : Int)
set_option maxHeartbeats 2000000 in
theorem list_any (m : Nat) (w : World) (hm : m < 18446744073709551616) (hT : Tab w) : Calls Tryd.prog 41 #[.int .u64 (m : Int)] w (RetI (nI (elems m)) w) := by
  have HT := Lib.hid hT
  clear hT
  go_enter Tryd.func41, Tryd.ntmps41
  go_wp2_with fail
  go_loopw [0, 3] (fun u t wr => ∃ (k : Nat) (acc : List Nat), u = .int .u64 (k : Int) ∧ k < 18446744073709551616 ∧ elems m = acc ++ elems k ∧ Row wr w.heap.size 3 t ((nI acc).map iV) ∧ Ext w wr) (fun u _ _ => (intOf u).toNat)
  case atStart => exact ⟨m, [], rfl, hm, rfl, Row.nil _ _ _, Ext.refl _⟩
  case round =>
    obtain ⟨k, acc, rfl, hk, he, hr, hE⟩ := hrel
    have HE := Lib.hid he
    have HR := Lib.hid hr
    have HX := Lib.hid hE
    have hl : acc.length ≤ 64 := by
      have h1 := card_le64 m
      unfold card at h1
      rw [he, List.length_append] at h1
      omega
    clear he hr hE
    by_cases h0 : k = 0
    · subst h0
      go_wp2_with fail
      go_ret
      refine ⟨_, rfl, ?_, HX.out⟩
      rw [HE.out, elems_zero, List.append_nil]
      exact HR.out
    · have hs := Lib.hid (elems_step h0 hk)
      have hc := ctz_lt h0 hk
      have hz : ((k : Int) != 0) = true := by simp; omega
      have hz' : ((k : Int) == 0) = false := by simp; omega
      have wk : IntKind.u64.wrap ((k : Int) - 1) = ((k - 1 : Nat) : Int) := by rw [IntKind.wrap_u64]; omega
      have ek : bits .and .u64 (k : Int) ((k - 1 : Nat) : Int) = ((k &&& (k - 1) : Nat) : Int) := bits_and_u64_nat k (k - 1) hk (by omega)
      have TZ := Lib.hid (tz_any k wr hk (HT.out.ext HX.out))
      go_wp2_with fail
      refine TZ.out.mono ?_
      rintro e1 w1 ⟨rfl, rfl⟩
      go_wp2_with (at_builtin; refine wapp el35 rfl (.tmp 10) (.tmp 13) rfl (w5 := w) rfl (HX.out.alloc _) (HR.out.ext ((Ext.refl _).alloc _)) rfl rfl (vs1 _ _ _) (one1 rfl) (by simp [nI]; omega) ?_; intro v1 w1 hr1 hE1 hg1 hb1)
      refine ⟨⟨k &&& (k - 1), acc ++ [Lib.ctz 64 k], ?_, ?_, ?_, ?_, hE1⟩, ?_⟩
      · rfl
      · exact Nat.lt_of_le_of_lt Nat.and_le_left hk
      · rw [HE.out, hs.out]; simp
      · simpa [nI] using hr1
      · simp only [intOf]
        have : k &&& (k - 1) ≤ k - 1 := Nat.and_le_right
        omega
end Go.Proofs.YtdcbejccplonjaaDoor
