/- The walk over the sets of a family of bit sets. -/
import Derived.Test.YtdcbejccplonjaaDoorB21
namespace Go.Proofs.YtdcbejccplonjaaDoor
open Go.RowKit
attribute [local go_sem ↓] Go.wp_at_zero Go.wp_at_succ
abbrev bV (x : Nat) : Value := .int .u8 (x : Int)
def Bs (w : World) (v : Value) (xs : List Nat) : Prop := SlAt w v (xs.map bV)
theorem Bs.ext {w w' : World} {v : Value} {xs : List Nat} (h : Bs w v xs) (k : Ext w w') : Bs w' v xs := SlAt.ext h k
theorem Bs.read {w : World} {v : Value} {xs : List Nat} (h : Bs w v xs) : ∃ A c, v = .slice A xs.length c ∧ xs.length ≤ c ∧ c ≤ maxLen ∧ ∀ W, Ext w W → ∀ j, j < xs.length → ∃ ad : Addr, A = some ad ∧ W.cell? (ad.add j) = some (bV (xs.getD j 0)) := by
  obtain ⟨A, c, h1, h2, h3, h4⟩ := h.at_
  rw [List.length_map] at h1 h2
  refine ⟨A, c, h1, h2, h3, fun W hW j hj => ?_⟩
  obtain ⟨ad, e, _, hc⟩ := h4 (by rw [List.length_map]; omega)
  refine ⟨ad, e, hW.cell (hc j _ ?_)⟩
  rw [List.getElem?_map, List.getElem?_eq_getElem hj, List.getD_eq_getElem?_getD, List.getElem?_eq_getElem hj]
  rfl
def U8 (xs : List Nat) : Prop := ∀ x ∈ xs, x < 256
theorem U8.get {xs : List Nat} (h : U8 xs) (i : Nat) : xs.getD i 0 < 256 := by
  rcases Nat.lt_or_ge i xs.length with h1 | h1
  · exact h _ (getD_mem h1)
  · rw [List.getD_eq_getElem?_getD, List.getElem?_eq_none h1]; decide
def bitsTo (b k : Nat) : List Nat := (List.range k).filter fun x => b.testBit x
theorem bitsTo_succ (b k : Nat) : bitsTo b (k + 1) = bitsTo b k ++ (if b.testBit k = true then [k] else []) := by
  unfold bitsTo
  rw [List.range_succ, List.filter_append, List.filter_cons]
  split <;> rfl
theorem bitsTo_len (b k : Nat) : (bitsTo b k).length ≤ k := by
  have := List.length_filter_le (fun x => b.testBit x) (List.range k)
  rwa [List.length_range] at this
theorem bitsTo_8 {b : Nat} (h : b < 256) : bitsTo b 8 = elems b := by
  refine asc_nat (List.Pairwise.sublist List.filter_sublist List.pairwise_lt_range) (elems_asc b) fun x => ?_
  rw [mem_elems]
  unfold bitsTo
  rw [List.mem_filter, List.mem_range]
  constructor
  · rintro ⟨h1, h2⟩; exact ⟨by omega, h2⟩
  · rintro ⟨_, h2⟩
    refine ⟨Classical.byContradiction fun hn => ?_, h2⟩
    rw [Nat.testBit_lt_two_pow (Nat.lt_of_lt_of_le h (Nat.pow_le_pow_right (n := 2) (by omega) (show 8 ≤ x by omega)))] at h2
    cases h2
/-- The sets of a family of bit sets. -/
def famF (xs : List Nat) : List (List Int) := (xs.take 10).map fun b => nI (elems b)
theorem famF_fam (xs : List Nat) : Fam (famF xs) := fun s hs => by
  obtain ⟨b, _, rfl⟩ := List.mem_map.1 hs
  exact ok_elems b
theorem famF_masks {xs : List Nat} (h : U8 xs) : (famF xs).map maskI = xs.take 10 := by
  unfold famF
  rw [List.map_map]
  have : ∀ b ∈ xs.take 10, (maskI ∘ fun b => nI (elems b)) b = b := fun b hb => mask_of_list (Nat.lt_of_lt_of_le (h b (List.mem_of_mem_take hb)) (by decide))
  exact (List.map_congr_left this).trans (List.map_id' _)
theorem famF_len (xs : List Nat) : (famF xs).length ≤ 10 := by unfold famF; rw [List.length_map, List.length_take]; omega
theorem famF_read (xs : List Nat) (h : U8 xs) : readF (famF xs) = some (xs.take 10) := by
  unfold readF
  have hl := famF_len xs
  rw [if_neg (by omega), if_pos (List.all_eq_true.2 (famF_fam xs)), famF_masks h]
theorem shr_bit8 (b : Nat) {k : Nat} (hb : b < 256) : bits .and .u8 ((b : Int) / (2 : Int) ^ k) 1 = (if b.testBit k = true then 1 else 0) := by
  have e : ((b : Int) / (2 : Int) ^ k) = ((b / 2 ^ k : Nat) : Int) := by rw [pow2]; exact (Int.natCast_ediv b (2 ^ k)).symm
  have l : b / 2 ^ k < 256 := Nat.lt_of_le_of_lt (Nat.div_le_self _ _) hb
  have h3 : bits .and .u8 ((b / 2 ^ k : Nat) : Int) 1 = ((b / 2 ^ k % 2 : Nat) : Int) := by
    generalize b / 2 ^ k = n at l
    have key : ∀ n, n < 256 → bits .and .u8 ((n : Nat) : Int) 1 = ((n % 2 : Nat) : Int) := by decide +kernel
    exact key n l
  rw [e, h3, Nat.testBit_eq_decide_div_mod_eq]
  have h2 := Nat.mod_two_eq_zero_or_one (b / 2 ^ k)
  rcases h2 with h | h <;> rw [h] <;> simp
set_option maxRecDepth 100000 in
set_option maxHeartbeats 8000000 in
theorem sets_any (xs : List Nat) (v : Value) (w : World) (h : Bs w v xs) (hu : U8 xs) : Calls Tryd.prog 12 #[v] w (RetRs (famF xs) w) := by
  obtain ⟨A, c, rfl, a1, a2, RA⟩ := h.read
  have HR := Lib.hid RA
  have HU := Lib.hid hu
  have hl : xs.length ≤ 9223372036854775807 := by unfold maxLen at a2; omega
  clear RA h a1 a2 hu
  go_enter Tryd.func12, Tryd.ntmps12
  go_wp2_with fail
  go_loopw [3, 4] (fun t i wr => ∃ (k : Nat) (vs : List Value), k ≤ xs.length ∧ k ≤ 10 ∧ i = iV (k : Int) ∧ Outs wr w.heap.size t vs ((xs.take k).map fun m => nI (elems m)) ∧ Ext w wr) (fun _ i _ => xs.length - (intOf i).toNat)
  case atStart => exact ⟨0, [], by omega, by omega, rfl, Outs.nil _ _, Ext.refl _⟩
  case round =>
    obtain ⟨k, vs, hk, hk10, rfl, hO, hE⟩ := hrel
    have HO := Lib.hid hO
    have HX := Lib.hid hE
    clear hO hE
    by_cases hlt : k < xs.length ∧ k < 10
    · obtain ⟨hkl, hkt⟩ := hlt
      have hkt' : (k : Int) < 10 := by omega
      have hb := U8.get HU.out k
      have HTK : Hid ((xs.take (k + 1)).map (fun m => nI (elems m)) = (xs.take k).map (fun m => nI (elems m)) ++ [nI (elems (xs.getD k 0))]) := by
        rw [List.take_succ_eq_append_getElem hkl, List.map_append, List.getD_eq_getElem?_getD, List.getElem?_eq_getElem hkl]; exact Lib.hid rfl
      have hvl : vs.length ≤ 10 := by have := HO.out.len; simp at this; omega
      obtain ⟨b, hbb⟩ : ∃ b, xs.getD k 0 = b := ⟨_, rfl⟩
      have HB := Lib.hid hbb
      rw [hbb] at hb HTK
      have HB8 := Lib.hid (bitsTo_8 hb)
      clear hbb
      generalize hwr : wr = wc at *
      go_wp2_with fail
      go_loopw [5, 17] (fun s x wq => ∃ j : Nat, j ≤ 8 ∧ x = iV (j : Int) ∧ Row wq wc.heap.size 3 s ((nI (bitsTo b j)).map iV) ∧ Ext wc wq) (fun _ x _ => 8 - (intOf x).toNat)
      case atStart => exact ⟨0, by omega, rfl, Row.nil _ _ _, Ext.refl _⟩
      case round =>
        obtain ⟨j, hj, rfl, hr, hE⟩ := hrel
        have HRj := Lib.hid hr
        have HEj := Lib.hid hE
        clear hr hE
        by_cases hj8 : j < 8
        · obtain ⟨ad, rfl, c1⟩ := HR.out wr (HX.out.trans HEj.out) k hkl
          rw [HB.out] at c1
          have esh := shr_bit8 b (k := j) hb
          have HS := Lib.hid (bitsTo_succ b j)
          have hbl := bitsTo_len b j
          have q1 : (0 : Int) ≤ (j : Int) := by omega
          cases hbit : b.testBit j with
          | true =>
            rw [hbit, if_pos rfl] at esh
            rw [hbit, if_pos rfl] at HS
            clear hbit
            go_wp2_with (at_builtin; go_loud (refine wapp el35 rfl (.tmp 28) (.tmp 30) rfl (w5 := wc) rfl (HEj.out.alloc _) (HRj.out.ext ((Ext.refl _).alloc _)) rfl rfl (vs1 _ _ _) (one1 rfl) ?hm ?_; (case hm => (rw [List.length_map, nI_len, List.length_singleton]; omega)); intro v1 w1 hr1 hE1 hg1 hb1))
            exact ⟨⟨j + 1, by omega, by go_num, by rw [HS.out]; simpa [nI] using hr1, hE1⟩, by simp [intOf]; omega⟩
          | false =>
            rw [hbit, if_neg (by simp)] at esh
            rw [hbit, if_neg (by simp), List.append_nil] at HS
            clear hbit
            go_wp2_with fail
            exact ⟨⟨j + 1, by omega, by go_num, by rw [HS.out]; exact HRj.out, HEj.out⟩, by simp [intOf]; omega⟩
        · obtain rfl : j = 8 := by omega
          rw [HB8.out] at HRj
          obtain ⟨V, vc, e1, -, -⟩ := HRj.out.form
          rw [List.length_map] at e1
          subst e1
          go_wp2_with (at_builtin; go_loud (refine wapp el24 rfl (.tmp 33) (.tmp 35) rfl (w5 := w) rfl ((HX.out.trans HEj.out).alloc _) ((HO.out.row.ext HEj.out).ext ((Ext.refl _).alloc _)) rfl rfl (vs1 _ _ _) (one1 rfl) ?hm ?_; (case hm => (rw [List.length_singleton]; omega)); intro v1 w1 hr1 hE1 hg1 hb1))
          have HP := HO.out.push HEj.out HRj.out hg1 hr1 hb1
          exact ⟨⟨k + 1, _, by omega, by omega, by go_num, by rw [HTK.out]; exact HP, hE1⟩, by simp [intOf]; omega⟩
    · have HT : Hid ((xs.take k).map (fun m => nI (elems m)) = famF xs) := by
        unfold famF
        have : xs.take k = xs.take 10 := by
          rcases Nat.lt_or_ge k 10 with h | h
          · rw [List.take_of_length_le (by omega), List.take_of_length_le (by omega)]
          · have : k = 10 := by omega
            rw [this]
        rw [this]
        exact Lib.hid rfl
      have hor : k = xs.length ∨ (k < xs.length ∧ k = 10) := by omega
      rcases hor with h1 | ⟨h1, h2⟩
      · subst h1
        go_wp2_with fail
        go_ret
        exact ⟨_, rfl, by rw [← HT.out]; exact HO.out.sl, HX.out⟩
      · subst h2
        go_wp2_with fail
        go_ret
        exact ⟨_, rfl, by rw [← HT.out]; exact HO.out.sl, HX.out⟩
end Go.Proofs.YtdcbejccplonjaaDoor
