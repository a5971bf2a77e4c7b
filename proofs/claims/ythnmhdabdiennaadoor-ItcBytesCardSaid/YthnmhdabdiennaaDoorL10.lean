/- The walk over the law ItcBytes. -/
import Derived.Test.YthnmhdabdiennaaDoorR23
import Derived.Test.YthnmhdabdiennaaDoorR24
import Derived.Test.YthnmhdabdiennaaDoorL7
import Derived.Outline
namespace Go.Proofs.YthnmhdabdiennaaDoor
open Go.RowKit
attribute [local go_sem ↓] Go.wp_at_zero Go.wp_at_succ
attribute [local go_sem ↓] ld36 ld34 ld38 st36 st38 st32 al36 al38 bu36 bu32 bu38 bs23
attribute [local go_sem] run_ld36 run_st36 run_al36 blkOf_drew blkOf_setRow_same blkOf_setRow_other RV_size run_bu36 blkOf_new blkOf_old
attribute [local go_sem] cellRow run_bu38 run_al38 run_st38 run_ld38 blkOf_setRow_same8 PV_size blkOf_new2'
theorem conv_bts {w : World} {A : Option Addr} {xs : List UInt8} (c n : Nat) (hn : n = xs.length) (h : BytesAt w A xs) (hA : A = none → xs.length = 0) : (convert 56 9 (.slice A n c)).run Tryd.prog w = .ok (Str xs) w := by
  subst hn
  cases A with
  | none =>
    have h0 : xs = [] := List.eq_nil_of_length_eq_zero (hA rfl)
    subst h0
    exact (show (convert 56 9 (.slice none 0 c)).run Tryd.prog w = .ok (.string ⟨#[]⟩) w by kernel_rfl)
  | some ad =>
    refine run_convert_bytes_back (P := Tryd.prog) w 56 9 5 ad c xs Tryd.underlying56 Tryd.underlying5 Tryd.underlying9 fun j hj => ?_
    obtain ⟨ad', e, _, hc⟩ := h (by omega)
    cases e
    exact hc j _ (List.getElem?_eq_getElem hj)
theorem zself (x : Pr) (p q p' q' : Option Addr) (w : World) (h : PpAt w p q x) (h' : PpAt w p' q' x) : Calls Tryd.prog 15 #[SV2 p q, SV2 p' q'] w (RetB true w) := by
  have := stequal_any x.i x.i x.t x.t _ _ w h.st h'.st
  rw [(idsame_iff _ _).2 rfl, (same_iff _ _).2 rfl] at this
  exact this

set_option maxRecDepth 100000 in
set_option maxHeartbeats 8000000 in
theorem bytes_big (A B C : Option Addr) (n c nb cb na ca : Nat) (w : World) (hn : n ≤ 9223372036854775807) (hA : ActsAt w A n) (hb : nb ≤ 9223372036854775807) (ha : na ≤ 9223372036854775807) (h : 20 < nb ∨ 20 < na) :
    Calls Tryd.prog 10 #[.slice A n c, .slice B nb cb, .slice C na ca] w (RetB true w) := by
  have PL := Lib.hid (play_any A n c w hn hA)
  clear hA
  have h3 : 20 < nb ∨ (¬ 20 < nb ∧ 20 < na) := by omega
  clear h
  rcases h3 with h4 | ⟨h4, h5⟩
  all_goals
    go_enter Tryd.func10, Tryd.ntmps10
    go_wp2_with fail
    refine PL.out.mono ?_
    rintro e1 w1 ⟨v, zs, rfl, hP, hR, h0, hl, hE1⟩
    clear hP hR PL
    go_wp2_with fail
    refine (awake_any w1).mono ?_
    rintro e2 w2 ⟨rfl, hE2⟩
    go_wp2_with fail
    refine (awake_any w2).mono ?_
    rintro e3 w3 ⟨rfl, hE3⟩
    go_wp2_with fail
    go_ret
    exact ⟨rfl, hE1.trans (hE2.trans hE3)⟩
set_option maxRecDepth 100000 in
set_option maxHeartbeats 8000000 in
theorem bytes_small (A B C : Option Addr) (n c nb cb na ca : Nat) (bs as_ : List UInt8) (w : World) (hn : n ≤ 9223372036854775807) (hA : ActsAt w A n) (hb : nb = bs.length) (ha : na = as_.length) (hB : BytesAt w B bs) (hC : BytesAt w C as_) (hB0 : B = none → bs.length = 0) (h1 : ¬ 20 < nb) (h2 : ¬ 20 < na) :
    Calls Tryd.prog 10 #[.slice A n c, .slice B nb cb, .slice C na ca] w (RetB true w) := by
  have PL := Lib.hid (play_any A n c w hn hA)
  have HB := Lib.hid hB
  have HC := Lib.hid hC
  have HNB := Lib.hid hb
  have HNA := Lib.hid ha
  have HB0 := Lib.hid hB0
  clear hA hB hC hb ha hB0
  go_enter Tryd.func10, Tryd.ntmps10
  go_wp2_with fail
  refine PL.out.mono ?_
  rintro e1 w1 ⟨v, zs, rfl, hP, hR, h0, hl, hE1⟩
  obtain ⟨g, cc, rfl, r1, r2, RD⟩ := hP.read h0
  have HRD := Lib.hid RD
  have HRL := Lib.hid hR
  clear hP RD hR PL
  unfold maxLen at r2
  go_wp2_with fail
  refine (awake_any w1).mono ?_
  rintro e2 w2 ⟨rfl, hE2⟩
  have EW2 := Lib.hid (hE1.trans hE2)
  go_wp2_with fail
  go_loopw [42] (fun i wr => ∃ j : Nat, j ≤ zs.length ∧ i = .int .i64 (j : Int) ∧ Ext w2 wr) (fun i _ => zs.length - (intOf i).toNat)
  case atStart => exact ⟨0, by omega, rfl, Ext.refl _⟩
  case round =>
    obtain ⟨j, hj, rfl, hE⟩ := hrel
    have HE := Lib.hid hE
    clear hE
    by_cases hlt : j < zs.length
    · obtain ⟨⟨p, q, x⟩, hz⟩ : ∃ z, zs[j]? = some z := ⟨_, List.getElem?_eq_getElem hlt⟩
      have hr := Lib.hid (HRL.out _ (List.mem_of_getElem? hz))
      obtain ⟨hld, hpp⟩ := HRD.out wr (hE2.trans HE.out) j p q x hz
      have q1 : (0 : Int) ≤ (j : Int) := Int.natCast_nonneg _
      have q2 : (j : Int) < (zs.length : Int) := by omega
      clear hz
      simp only [] at hr
      go_upto_region 7 with (fail)
      generalize hW : (wr.alloc (.cells PV0 38)).setRow wr.heap.size (PV p q x.o x.s) = w3
      obtain ⟨E3, l3, -, -, hbx⟩ := letterP hW
      have HP := Lib.hid (hpp.ext E3)
      have HE3 := Lib.hid (HE.out.trans E3)
      clear hW hld hpp E3 HE
      generalize wr.heap.size = gx at hbx l3 ⊢
      have HBX := Lib.hid hbx
      clear hbx
      obtain ⟨-, -, -, ld⟩ := held_pair (Ext.refl w3) HBX.out
      have TOP := hr.out.top
      have RB := Lib.hid (fun w' => rbytes_any x.o x.s x.i x.t w' (hr.out.big (by omega)) hr.out.id hr.out.ev (by omega))
      have PL1 : (stBytes x.i x.t).length ≤ 2000 := by
        have h1 := idBytes_len hr.out.id
        have h2 := evBytes_len hr.out.ev (by omega)
        unfold stBytes
        rw [List.length_append]
        omega
      have P0 : 0 < (stBytes x.i x.t).length := by
        have := idBytes_pos x.i
        unfold stBytes
        rw [List.length_append]
        omega
      have RF := Lib.hid (fun r => readF_back (IdOn.idnf_ hr.out.id) (by have := hr.out.id.depth; omega) hr.out.ev.nf (by have := hr.out.ev.depth; omega) (by omega) r)
      have SB := Lib.hid (fun w' (hx : Ext w3 w') => stbytes_arg x.i x.t _ bs B cb w' (HP.out.ext hx).st (top_fits hr.out.top (by omega)) nb HNB.out (HB.out.ext (EW2.out.trans (HE3.out.trans hx))) (by have := HNB.out; omega) (by omega))
      clear TOP
      generalize hPB : stBytes x.i x.t = P at *
      have HPB := Lib.hid hPB
      clear hPB
      go_wp2_with fail
      refine (RB.out _).mono ?_
      rintro e4 w4 ⟨v4, rfl, hr4, hE4⟩
      obtain ⟨A4, c4, rfl, hy4, hc4, hm4, hz4⟩ := hr4.form
      unfold maxLen at hm4
      have HY := Lib.hid hy4
      have HZ4 := Lib.hid hz4
      clear hr4 hy4 hz4 ld
      obtain ⟨-, c0, c1, -⟩ := held_pair hE4 HBX.out
      have l4 : gx < w4.heap.size := World.block_lt_of_cell? _ _ c0
      have X4 : Ext w w4 := EW2.out.trans (HE3.out.trans hE4)
      have hcvB : ∀ W, Ext w4 W → (convert 56 9 (.slice B nb cb)).run Tryd.prog W = .ok (Str bs) W := fun W hx => conv_bts cb nb HNB.out (HB.out.ext (X4.trans hx)) HB0.out
      have hcvP : ∀ W, Ext w4 W → (convert 56 9 (.slice A4 P.length c4)).run Tryd.prog W = .ok (Str P) W := fun W hx => conv_bts c4 P.length rfl (HY.out.ext hx) HZ4.out
      have hs1 : ¬ (9223372036854775807 < bs.length + P.length) := by have := HNB.out; omega
      go_wp2_with fail
      refine wp_region_noPanic ?_
      refine wp_region_held_drew (S := (fun w' => Ext w4 w' ∧ ∀ b o, b < w4.heap.size → w'.cell? ⟨b, o, none⟩ = w4.cell? ⟨b, o, none⟩)) (by kernel_rfl) ?_ (fun hHeld => ?_)
      · exact Ext.held (by repeat (first | assumption | exact Ext.refl _ | apply Ext.alloc | apply Ext.drew | apply Ext.drewN))
      refine wpAnyH_take (i := 0) (v := ?_) (oper_at rfl) (by kernel_rfl) (by kernel_rfl) (by kernel_rfl) (fun _ _ _ h => h) (Or.inl ⟨by rfl, ?_⟩) hHeld ?_
      rotate_left
      · (intro ww hSw; (try dsimp only at hSw); go_simp; try (with_reducible rfl))
      try simp only [Act.put, List.setIfInBounds_toArray, List.set_cons_zero, List.set_cons_succ]
      refine wpAnyH_take (i := 1) (v := ?_) (oper_at rfl) (by kernel_rfl) (by kernel_rfl) (by kernel_rfl) (fun _ _ _ h => h) (Or.inl ⟨by rfl, ?_⟩) hHeld ?_
      rotate_left
      · (intro ww hSw; (try dsimp only at hSw); go_simp; try (with_reducible rfl))
      try simp only [Act.put, List.setIfInBounds_toArray, List.set_cons_zero, List.set_cons_succ]
      refine wpAnyH_take (i := 2) (v := ?_) (oper_at rfl) (by kernel_rfl) (by kernel_rfl) (by kernel_rfl) (fun _ _ _ h => h) (Or.inl ⟨by rfl, ?_⟩) hHeld ?_
      rotate_left
      · (intro ww hSw; (try dsimp only at hSw); go_simp; try (with_reducible rfl))
      try simp only [Act.put, List.setIfInBounds_toArray, List.set_cons_zero, List.set_cons_succ]
      refine wpAnyH_take (i := 5) (v := ?_) (oper_at rfl) (by kernel_rfl) (by kernel_rfl) (by kernel_rfl) (fun _ _ _ h => h) (Or.inl ⟨by rfl, ?_⟩) hHeld ?_
      rotate_left
      · (intro ww hSw; (try dsimp only at hSw); go_simp; try (with_reducible rfl))
      try simp only [Act.put, List.setIfInBounds_toArray, List.set_cons_zero, List.set_cons_succ]
      refine wpAnyH_take (i := 6) (v := ?_) (oper_at rfl) (by kernel_rfl) (by kernel_rfl) (by kernel_rfl) (fun _ _ _ h => h) (Or.inl ⟨by rfl, ?_⟩) hHeld ?_
      rotate_left
      · (intro ww hSw; (try dsimp only at hSw); go_simp; try (with_reducible rfl))
      try simp only [Act.put, List.setIfInBounds_toArray, List.set_cons_zero, List.set_cons_succ]
      refine wpAnyH_take (i := 7) (v := ?_) (oper_at rfl) (by kernel_rfl) (by kernel_rfl) (by kernel_rfl) (fun _ _ _ h => h) (Or.inl ⟨by rfl, ?_⟩) hHeld ?_
      rotate_left
      · (intro ww hSw; (try dsimp only at hSw); go_simp; try (with_reducible rfl))
      try simp only [Act.put, List.setIfInBounds_toArray, List.set_cons_zero, List.set_cons_succ]
      refine wpAnyH_take (i := 8) (v := ?_) (oper_at rfl) (by kernel_rfl) (by kernel_rfl) (by kernel_rfl) (fun _ _ _ h => h) (Or.inl ⟨by rfl, ?_⟩) hHeld ?_
      rotate_left
      · (intro ww hSw; (try dsimp only at hSw); go_simp; try (with_reducible rfl))
      try simp only [Act.put, List.setIfInBounds_toArray, List.set_cons_zero, List.set_cons_succ]
      refine wpAnyH_take (i := 9) (v := ?_) (oper_at rfl) (by kernel_rfl) (by kernel_rfl) (by kernel_rfl) (fun _ _ _ h => h) (Or.inl ⟨by rfl, ?_⟩) hHeld ?_
      rotate_left
      · (intro ww hSw; (try dsimp only at hSw); go_simp; try (with_reducible rfl))
      try simp only [Act.put, List.setIfInBounds_toArray, List.set_cons_zero, List.set_cons_succ]
      refine wpAnyH_ready (rs := [3]) (by kernel_rfl) (by simp) (AllReadyH.cons (oper_at rfl) (fun K hK => ?_) AllReadyH.nil)
      go_simp
      go_at_call 24
      refine (SB.out _ (hE4.trans hHeld.1)).mono ?_
      rintro e5 w5 ⟨v5, rfl, hr5, hbb5⟩
      obtain ⟨A5, c5, rfl, hy5, hc5, hm5, hz5⟩ := hr5.form
      have hE5 : Ext w4 w5 := Ext.trans hHeld.1 hbb5
      have hcv5 := conv_bts c5 (bs.length + P.length) (by simp) hy5 hz5
      try go_wp2_with fail
      refine hK.out _ _ ?_ (fun hHeld => ?_)
      · exact Ext.held (by repeat (first | assumption | exact Ext.refl _ | apply Ext.alloc | apply Ext.drew | apply Ext.drewN))
      clear hK K
      try simp only [Act.put, List.setIfInBounds_toArray, List.set_cons_zero, List.set_cons_succ]
      refine wpAnyH_ready (rs := [4]) (by kernel_rfl) (by simp) (AllReadyH.cons (oper_at rfl) (fun K hK => ?_) AllReadyH.nil)
      go_simp
      try go_wp2_with fail
      refine hK.out _ _ ?_ (fun hHeld => ?_)
      · exact Ext.held (by repeat (first | assumption | exact Ext.refl _ | apply Ext.alloc | apply Ext.drew | apply Ext.drewN))
      clear hK K
      try simp only [Act.put, List.setIfInBounds_toArray, List.set_cons_zero, List.set_cons_succ]
      refine wpAnyH_take (i := 10) (v := ?_) (oper_at rfl) (by kernel_rfl) (by kernel_rfl) (by kernel_rfl) (fun _ _ _ h => h) (Or.inl ⟨by rfl, ?_⟩) hHeld ?_
      rotate_left
      · (intro ww hSw; (try dsimp only at hSw); go_simp; try (with_reducible rfl))
      try simp only [Act.put, List.setIfInBounds_toArray, List.set_cons_zero, List.set_cons_succ]
      refine wpAnyH_done (by kernel_rfl) ?_ _
      refine NoPanic.normal ?_
      rw [show (bs ++ P == ((⟨bs.toArray⟩ : ByteArray) ++ ⟨P.toArray⟩).toList) = true from by simp [ByteArray.mk_append_mk]]
      have HY5 := Lib.hid (HY.out.ext hE5)
      have X5 : Ext w w5 := X4.trans hE5
      have HC5 := Lib.hid (HC.out.ext X5)
      have D0 := Lib.hid (hE5.cell c0)
      have D1 := Lib.hid (hE5.cell c1)
      have l5 : gx < w5.heap.size := World.block_lt_of_cell? _ _ D0.out
      have HPX5 := Lib.hid (fun w' (hx : Ext w5 w') => HP.out.ext (hE4.trans (hE5.trans hx)))
      have hla : as_.length ≤ 20 := by have := HNA.out; omega
      clear hcvB hcvP hcv5 hr5 hy5 hc5 hm5 hz5 c0 c1
      go_wp2_with (first
        | (at_builtin; refine wappE rfl (.tmp 61) (.tmp 62) rfl (v := .slice (some ⟨w5.heap.size, 0, none⟩) 0 0) (xs := []) (w5 := w5) rfl ((Ext.refl _).alloc _) (own0b (Nat.le_refl _) (heap_alloc_new _ _)) rfl rfl (HY5.out.ext ((Ext.refl _).alloc _)) (by simp; omega) ?_; intro v6 w6 hr6 hE6 hg6; rw [List.nil_append] at hr6)
        | (at_builtin; refine wappE rfl (.tmp 63) (.tmp 64) rfl (w5 := w5) rfl hE6 hr6 rfl HNA.out (HC5.out.ext hE6) (by omega) ?_; intro v7 w7 hr7 hE7 hg7; obtain ⟨A7, c7, rfl, hy7, hc7, hm7, -⟩ := hr7.form)
        | fail)
      unfold maxLen at hm7
      refine (read_any (P ++ as_) A7 _ c7 _ hy7 (by simp) hc7 (by omega)).mono ?_
      rw [RF.out as_]
      rintro e8 w8 ⟨v8, rfl, hv8, hE8⟩
      obtain ⟨ri, rs, rfl, hi8, hs8⟩ := hv8
      have X8 : Ext w5 w8 := hE7.trans hE8
      have V8 := Lib.hid (fun w' (hx : Ext w8 w') => show PpAt w' ri rs x from ⟨hi8.ext hx, hs8.ext hx⟩)
      clear hr6 hg6 hr7 hg7 hy7 hc7 hm7 hi8 hs8
      go_upto_region 11 with (fail)
      generalize hW : w8.alloc (Obj.cells #[.pointer ri, .pointer rs] 31) = w9
      have E9 : Ext w8 w9 := by rw [← hW]; simp
      have a0 : w9.cell? ⟨w8.heap.size, 0, none⟩ = some (.pointer ri) := by rw [← hW]; exact new_at _ _ _ _ _ rfl
      have a1 : w9.cell? ⟨w8.heap.size, 1, none⟩ = some (.pointer rs) := by rw [← hW]; exact new_at _ _ _ _ _ rfl
      have c0 := E9.cell (X8.cell D0.out)
      have c1 := E9.cell (X8.cell D1.out)
      have z9 := World.block_lt_of_cell? _ _ a0
      have y9 := World.block_lt_of_cell? _ _ c0
      clear hW
      have X9 : Ext w5 w9 := X8.trans E9
      have EQ := Lib.hid (fun w' (hx : Ext w9 w') => zself x ri rs p q w' (V8.out w' (E9.trans hx)) (HPX5.out w' (X9.trans hx)))
      have T1 := Lib.hid (fun w' (hx : Ext w9 w') => text_of 14 x ri rs w' (V8.out w' (E9.trans hx)) hr.out (by omega))
      have T2 := Lib.hid (fun w' (hx : Ext w9 w') => text_of 14 x p q w' (HPX5.out w' (X9.trans hx)) hr.out (by omega))
      go_region_held3 (fun w' => Ext w9 w' ∧ ∀ b o, b < w9.heap.size → w'.cell? ⟨b, o, none⟩ = w9.cell? ⟨b, o, none⟩)
        (refine Ext.held ?_ <;> repeat (first | assumption | exact Ext.refl _ | apply Ext.alloc | apply Ext.drew | apply Ext.drewN))
        (first
          | (go_at_call 15; go_split_ands; refine (EQ.out _ (by assumption)).mono ?_; rintro e10 w10 ⟨rfl, hbb10⟩; have hE10 : Ext w9 w10 := Ext.trans (by assumption) hbb10)
          | (go_at_call_of 25 (Value.agg #[Value.pointer ri, Value.pointer rs]); go_split_ands; refine (T1.out _ hE10).mono ?_; rintro e11 w11 ⟨rfl, hbb11⟩; have hE11 : Ext w9 w11 := Ext.trans hE10 hbb11)
          | (go_at_call_of 25 (Value.agg #[Value.pointer p, Value.pointer q]); go_split_ands; refine (T2.out _ hE11).mono ?_; rintro e12 w12 ⟨rfl, hbb12⟩; have hE12 : Ext w9 w12 := Ext.trans hE11 hbb12)
          | fail)
      go_wp2_with fail
      exact ⟨⟨j + 1, by omega, by go_num, HE3.out.trans (hE4.trans (hE5.trans (X9.trans hE12)))⟩, by simp [intOf]; omega⟩
    · obtain rfl : j = zs.length := by omega
      go_wp2_with fail
      go_ret
      exact ⟨rfl, hE1.trans (hE2.trans HE.out)⟩
end Go.Proofs.YthnmhdabdiennaaDoor
