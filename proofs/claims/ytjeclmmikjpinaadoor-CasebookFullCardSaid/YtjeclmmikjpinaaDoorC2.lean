/- The digest of bytes, and of a list of byte strings. -/
import Derived.Test.YtjeclmmikjpinaaDoorC1
namespace Go.Proofs.YtjeclmmikjpinaaDoor
open Go.RowKit
attribute [local go_sem ↓] Go.wp_at_zero Go.wp_at_succ
attribute [local go_sem ↓] ld48 st48 al48 bu48
attribute [local go_sem] run_al48 run_bu48 run_st48n
/-- Eight bytes in a block of the call's own. -/
def Ret8 (n : Nat) (w : World) (e : Ending) (w' : World) : Prop := e = .returned (.slice (some ⟨w.heap.size, 0, none⟩) 8 8) ∧ BytesAt w' (some ⟨w.heap.size, 0, none⟩) (e8F n) ∧ Ext w w'
set_option maxRecDepth 100000 in
theorem eight_new (n : Nat) (w : World) : Calls Tryd.prog 36 #[.int .u64 (n : Int)] w (Ret8 n w) := by
  have m8 : (Instr.makeSlice 31 (.int .i64 8) (.int .i64 8)).run Tryd.prog w = .ok (.slice (some ⟨w.heap.size, 0, none⟩) 8 8) (w.alloc (.cells (arV (fun _ => vU8 0) 8) 5)) := run_mk38 w 8 8 (by decide) (by decide)
  go_enter Tryd.func36, Tryd.ntmps36
  go_wp2_with fail
  clear m8
  generalize hwB : w.alloc (.cells (arV (fun _ => vU8 0) 8) 5) = wB
  have HB0 : Hid (Bk wB w.heap.size 8 (e8G n 0)) := Lib.hid (by rw [← hwB]; exact (Bk.new (by decide)).congr fun i _ => rfl)
  have HE0 : Hid (Ext w wB) := Lib.hid (by rw [← hwB]; exact (Ext.refl _).alloc _)
  clear hwB
  go_loopw [8] (fun i wr => ∃ k : Nat, k ≤ 8 ∧ i = iV (k : Int) ∧ Bk wr w.heap.size 8 (e8G n k) ∧ Ext w wr) (fun i _ => 8 - (intOf i).toNat)
  case atStart => exact ⟨0, by omega, rfl, HB0.out, HE0.out⟩
  case round =>
    obtain ⟨k, hk, rfl, hB, hE⟩ := hrel
    have HBk := Lib.hid hB
    have HEk := Lib.hid hE
    clear hB hE
    by_cases hlt : k < 8
    · have q0 : (0 : Int) ≤ (k : Int) := by omega
      have q1 : (k : Int) < 8 := by omega
      have c1 := HBk.out.cell hlt
      have f1 := HBk.out.frozen k
      obtain ⟨s, hs⟩ : ∃ s, 56 - 8 * k = s := ⟨_, rfl⟩
      have q2 : (56 : Int) - 8 * (k : Int) = (s : Int) := by omega
      have q3 : (0 : Int) ≤ (s : Int) := by omega
      have q4 : (s : Int) ≤ 56 := by omega
      have HS := Lib.hid hs
      clear hs
      go_wp2_with fail
      refine ⟨⟨k + 1, by omega, by go_num, (HBk.out.set k _).congr fun i hi => ?_, HEk.out.set (Nat.le_refl _) _⟩, by simp [intOf]; omega⟩
      unfold upd e8G
      by_cases h1 : i = k
      · subst h1
        rw [if_pos rfl, if_pos (by omega), HS.out]
        congr 1
      · rw [if_neg h1]
        by_cases h2 : i < k
        · rw [if_pos h2, if_pos (by omega)]
        · rw [if_neg h2, if_neg (by omega)]
    · obtain rfl : k = 8 := by omega
      go_wp2_with fail
      go_ret
      refine ⟨rfl, bytes_of_cells (e8F_len n) fun i hi => ?_, HEk.out⟩
      rw [Nat.zero_add, HBk.out.cell hi, e8F_at hi]
      unfold e8G
      rw [if_pos hi]
def shaF (xs : List UInt8) : List UInt8 := sumF (wrF hs0 xs)
theorem shaF_len (xs : List UInt8) : (shaF xs).length = 32 := by unfold shaF sumF; exact digF_len _
def partsS (l : List (List UInt8)) : HS := l.foldl (fun x p => wrF (wrF x (e8F p.length)) p) hs0
def partsF (l : List (List UInt8)) : List UInt8 := sumF (partsS l)
theorem partsF_len (l : List (List UInt8)) : (partsF l).length = 32 := by unfold partsF sumF; exact digF_len _
theorem partsS_take {l : List (List UInt8)} {k : Nat} {x : List UInt8} (h : l[k]? = some x) : partsS (l.take (k + 1)) = wrF (wrF (partsS (l.take k)) (e8F x.length)) x := by
  unfold partsS
  rw [List.take_add_one, h, List.foldl_append]
  rfl
set_option maxRecDepth 100000 in
theorem sum39_ok (xs : List UInt8) (v : Value) (w : World) (h : SlB w v xs) (hT : Tab w) : Calls Tryd.prog 22 #[v] w (RetId (shaF xs) w) := by
  obtain ⟨A, c, rfl, h1, h2, hb⟩ := h
  have HT := Lib.hid hT
  have HB := Lib.hid hb
  have HC := Lib.hid (And.intro h1 h2)
  have h0w := hT.lt
  clear hT hb h1 h2
  go_enter Tryd.func22, Tryd.ntmps22
  go_upto_region 1 with fail
  generalize hwB : w.alloc (.cells (idA []) 27) = wB
  have HR0 : Hid (Bk wB w.heap.size 32 (idF [])) := Lib.hid (by rw [← hwB]; exact Bk.new (by decide))
  have HE0 : Hid (Ext w wB) := Lib.hid (by rw [← hwB]; exact (Ext.refl _).alloc _)
  have hz0 : w.heap.size < wB.heap.size := by rw [← hwB]; simp
  clear hwB
  go_wp2_with fail
  refine (new63_ok wB).mono ?_
  rintro _ w1 ⟨rfl, hh1, hE1⟩
  have HH1 := Lib.hid hh1
  have HE1 := Lib.hid hE1
  have hz1 : wB.heap.size < w1.heap.size := hh1.1.lt
  clear hh1 hE1
  go_wp2_with fail
  refine (write64_ok wB.heap.size _ xs A c w1 HH1.out (HT.out.ext (HE0.out.trans HE1.out)) (by omega) (HB.out.ext (HE0.out.trans HE1.out)) (fun h0 ad e => by
    subst e
    obtain ⟨ad', e, hlt, -⟩ := HB.out h0
    cases e
    omega) HC.out.1 HC.out.2).mono ?_
  rintro _ w3 ⟨rfl, hh3, hX3⟩
  have HH3 := Lib.hid hh3
  have HE3 : Hid (Ext wB w3) := Lib.hid (hX3.ext HE1.out (Nat.le_refl _))
  clear hh3 hX3 HH1
  go_wp2_with fail
  refine (sum65_ok wB.heap.size _ w3 HH3.out (HT.out.ext (HE0.out.trans HE3.out))).mono ?_
  rintro _ w4 ⟨rfl, hE4⟩
  have HE4 := Lib.hid (HE3.out.trans hE4)
  have HRR := Lib.hid (HR0.out.ext (HE3.out.trans hE4))
  clear hE4
  have l2 := run_st48 HRR.out (shaF xs)
  rw [show sumF (wrF hs0 xs) = shaF xs from rfl]
  go_wp2_with fail
  exact bodyPost_ret (resBk Tryd.results22 (g := w.heap.size) rfl HRR.out.putAll Tryd.underlying27 rfl Tryd.size27) rfl ⟨rfl, Ext.setCells (Nat.le_refl _) _ _ (HE0.out.trans HE4.out)⟩
/-- A block holds slices of bytes. -/
def Sls (w : World) (b : Nat) (l : List (List UInt8)) : Prop := ∀ i x, l[i]? = some x → ∃ v, w.cell? ⟨b, i, none⟩ = some v ∧ SlB w v x
theorem Sls.ext {w w' : World} {b : Nat} {l : List (List UInt8)} (h : Sls w b l) (k : Ext w w') : Sls w' b l := fun i x hi => by
  obtain ⟨v, h1, h2⟩ := h i x hi
  exact ⟨v, k.cell h1, h2.ext k⟩
set_option maxRecDepth 100000 in
set_option maxHeartbeats 1000000 in
theorem parts_ok (l : List (List UInt8)) (b : Nat) (w : World) (h : Sls w b l) (hT : Tab w) (hl : l.length ≤ 1000000) : Calls Tryd.prog 18 #[.slice (some ⟨b, 0, none⟩) l.length l.length] w (RetId (partsF l) w) := by
  have HT := Lib.hid hT
  have HL := Lib.hid h
  have h0w := hT.lt
  clear hT h
  obtain ⟨n, hn⟩ : ∃ n, l.length = n := ⟨_, rfl⟩
  have HN := Lib.hid hn
  rw [hn] at hl ⊢
  clear hn
  go_enter Tryd.func18, Tryd.ntmps18
  go_upto_region 1 with fail
  generalize hwB : w.alloc (.cells (idA []) 27) = wB
  have HR0 : Hid (Bk wB w.heap.size 32 (idF [])) := Lib.hid (by rw [← hwB]; exact Bk.new (by decide))
  have HE0 : Hid (Ext w wB) := Lib.hid (by rw [← hwB]; exact (Ext.refl _).alloc _)
  have hz0 : w.heap.size < wB.heap.size := by rw [← hwB]; simp
  clear hwB
  go_wp2_with fail
  refine (new63_ok wB).mono ?_
  rintro _ w1 ⟨rfl, hh1, hE1⟩
  have HH1 := Lib.hid hh1
  have HE1 := Lib.hid hE1
  have hz1 : wB.heap.size < w1.heap.size := hh1.1.lt
  clear hh1 hE1
  go_wp2_with fail
  go_loopw [9] (fun i wr => ∃ k : Nat, k ≤ n ∧ i = iV (k : Int) ∧ Hs wr wB.heap.size (partsS (l.take k)) ∧ Ext wB wr ∧ wB.heap.size < wr.heap.size) (fun i _ => n - (intOf i).toNat)
  case atStart => exact ⟨0, by omega, rfl, HH1.out, HE1.out, hz1⟩
  case round =>
    obtain ⟨k, hk, rfl, hB, hE, hz⟩ := hrel
    have HBk := Lib.hid hB
    have HEk := Lib.hid hE
    clear hB hE
    by_cases hlt : k < n
    · have q0 : (0 : Int) ≤ (k : Int) := by omega
      have q1 : (k : Int) < (n : Int) := by omega
      obtain ⟨x, hx⟩ : ∃ x, l[k]? = some x := ⟨l[k]'(by rw [HN.out]; exact hlt), List.getElem?_eq_getElem _⟩
      obtain ⟨v, c1, A, c, rfl, hc1, hc2, hb⟩ := (HL.out.ext (HE0.out.trans HEk.out)) k x hx
      have HV := Lib.hid ((HL.out.ext (HE0.out)) k x hx)
      have HX := Lib.hid hx
      have HB := Lib.hid hb
      have HC := Lib.hid (And.intro hc1 hc2)
      obtain ⟨m, hm⟩ : ∃ m, x.length = m := ⟨_, rfl⟩
      have HM := Lib.hid hm
      rw [hm] at c1
      have q2 : (0 : Int) ≤ (m : Int) := by omega
      have q3 : (m : Int) < 18446744073709551616 := by unfold maxLen at hc2; omega
      clear hx hb hc1 hc2 hm
      go_wp2_with fail
      refine (eight_new m wr).mono ?_
      rintro _ w2 ⟨rfl, hb2, hE2⟩
      have HB2 := Lib.hid hb2
      have HE2 := Lib.hid hE2
      clear hb2 hE2
      go_wp2_with fail
      have C1 := write64_ok wB.heap.size _ (e8F m) (some ⟨wr.heap.size, 0, none⟩) 8 w2 (HBk.out.ext HE2.out) (HT.out.ext (HE0.out.trans (HEk.out.trans HE2.out))) (by omega) HB2.out (fun _ ad e => by cases e; exact Nat.ne_of_gt hz) (by rw [e8F_len]; decide) (by unfold maxLen; omega)
      rw [e8F_len] at C1
      refine C1.mono ?_
      rintro _ w3 ⟨rfl, hh3, hX3⟩
      have HH3 := Lib.hid hh3
      have HE3 : Hid (Ext wB w3) := Lib.hid (hX3.ext (HEk.out.trans HE2.out) (Nat.le_refl _))
      have hz3 : wB.heap.size < w3.heap.size := Nat.lt_of_lt_of_le hz (Nat.le_trans HE2.out.size hX3.size)
      clear hh3 hX3 C1
      go_wp2_with fail
      have HBY : Hid (BytesAt w3 A x ∧ (0 < x.length → ∀ ad, A = some ad → ad.block ≠ wB.heap.size)) := Lib.hid (by
        obtain ⟨v', d1, A', c', e', -, -, d3⟩ := HV.out
        have : (.slice A' x.length c' : Value) = .slice A m c := by
          have d2 := HEk.out.cell d1
          rw [c1] at d2
          rw [← e']
          exact (Option.some.inj d2).symm
        cases this
        refine ⟨d3.ext HE3.out, fun h0 ad e => ?_⟩
        subst e
        obtain ⟨ad', e, hlt', -⟩ := d3 h0
        cases e
        exact Nat.ne_of_lt hlt')
      have C2 := write64_ok wB.heap.size _ x A c w3 HH3.out (HT.out.ext (HE0.out.trans HE3.out)) (by omega) HBY.out.1 HBY.out.2 HC.out.1 HC.out.2
      rw [HM.out] at C2
      refine C2.mono ?_
      rintro _ w4 ⟨rfl, hh4, hX4⟩
      have HH4 := Lib.hid hh4
      have HE4 : Hid (Ext wB w4) := Lib.hid (hX4.ext HE3.out (Nat.le_refl _))
      have hz4 : wB.heap.size < w4.heap.size := Nat.lt_of_lt_of_le hz3 hX4.size
      clear hh4 hX4 C2
      go_wp2_with fail
      refine ⟨⟨k + 1, by omega, by go_num, ?_, HE4.out, hz4⟩, by simp [intOf]; omega⟩
      rw [partsS_take HX.out, HM.out]
      exact HH4.out
    · obtain rfl : k = n := by omega
      go_wp2_with fail
      refine (sum65_ok wB.heap.size _ wr HBk.out (HT.out.ext (HE0.out.trans HEk.out))).mono ?_
      rintro _ w4 ⟨rfl, hE4⟩
      have HE4 := Lib.hid (HEk.out.trans hE4)
      have HRR := Lib.hid (HR0.out.ext (HEk.out.trans hE4))
      clear hE4
      have l2 := run_st48 HRR.out (partsF l)
      rw [show sumF (partsS (l.take k)) = partsF l from by rw [List.take_of_length_le (by rw [HN.out]; exact Nat.le_refl _)]; rfl]
      go_wp2_with fail
      exact bodyPost_ret (resBk Tryd.results18 (g := w.heap.size) rfl HRR.out.putAll Tryd.underlying27 rfl Tryd.size27) rfl ⟨rfl, Ext.setCells (Nat.le_refl _) _ _ (HE0.out.trans HE4.out)⟩
end Go.Proofs.YtjeclmmikjpinaaDoor
