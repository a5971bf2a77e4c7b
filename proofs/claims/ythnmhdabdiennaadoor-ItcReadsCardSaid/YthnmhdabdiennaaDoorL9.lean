/- The walk over the law ItcReads. -/
import Derived.Test.YthnmhdabdiennaaDoorK25
import Derived.Test.YthnmhdabdiennaaDoorK24
import Derived.Test.YthnmhdabdiennaaDoorK16
import Derived.Outline
namespace Go.Proofs.YthnmhdabdiennaaDoor
open Go.RowKit
attribute [local go_sem ↓] Go.wp_at_zero Go.wp_at_succ
theorem tabIs_ext {w w' : World} {name : String} {k : IntKind} {zs : List Int} (h : Lib.TabIs Tryd.prog w name k zs) (hx : Ext w w') : Lib.TabIs Tryd.prog w' name k zs := by
  unfold Lib.TabIs World.var? at *
  cases hg : Tryd.prog.globalNamed name with
  | none => simp [hg] at h
  | some g =>
    simp only [hg, Option.bind_some] at h ⊢
    have hlt : g < w.heap.size := by
      rcases Nat.lt_or_ge g w.heap.size with h' | h'
      · exact h'
      · rw [Array.getElem?_eq_none h'] at h; simp at h
    rw [hx.block g hlt]
    exact h
theorem fmt_most {w : World} (htab : Lib.TabIs Tryd.prog w "internal/strconv.uint64pow10" .u64 Lib.pow10Tab) : Fmt (· ≤ mostN) w := fun n w' hn hx => by
  have hn' : n ≤ mostN := hn
  rw [lo_small hn']
  exact fmt_any n (by unfold mostN at hn'; omega) w' (tabIs_ext htab hx)
theorem fits_all : ∀ t : EvT, t.fits = true → t.all (· ≤ mostN)
  | .leaf n, h => fits_n (t := .leaf n) h
  | .node n l r, h => by
    have h' := h
    simp only [EvT.fits, Bool.and_eq_true] at h'
    exact ⟨fits_n (t := .node n l r) h, fits_all l h'.2.1, fits_all r h'.2.2⟩
theorem take_bytes {w : World} {A : Option Addr} {xs : List UInt8} (h : BytesAt w A xs) (k : Nat) : BytesAt w A (xs.take k) := fun h0 => by
  rw [List.length_take] at h0
  obtain ⟨ad, e, hb, hc⟩ := h (by omega)
  refine ⟨ad, e, hb, fun j b hj => hc j b ?_⟩
  rw [List.getElem?_take] at hj
  split at hj
  · exact hj
  · cases hj
/-- Bytes as a string. -/
theorem conv_bytes {w : World} {A : Option Addr} {xs : List UInt8} (c : Nat) (h : BytesAt w A xs) (h0 : 0 < xs.length) : (convert 56 9 (.slice A xs.length c)).run Tryd.prog w = .ok (Str xs) w := by
  obtain ⟨ad, rfl, _, hc⟩ := h h0
  exact run_convert_bytes_back (P := Tryd.prog) w 56 9 5 ad c xs Tryd.underlying56 Tryd.underlying5 Tryd.underlying9 fun j hj => hc j _ (List.getElem?_eq_getElem hj)
theorem idsame_refl : ∀ i : IdT, i.same i = true
  | .zero => rfl
  | .node l r => by rw [IdT.same, idsame_refl l, idsame_refl r]; rfl
theorem idText_le : ∀ i : IdT, (idText i).length ≤ 4 * (idBytes i).length
  | .zero => by simp [idText, idBytes]
  | .node l r => by
    have h1 := idText_le l
    have h2 := idText_le r
    rw [idText, idBytes]
    split
    · simp
    · simp only [List.length_cons, List.length_append, List.length_nil]; omega
theorem dig_le (n : Nat) (h : n ≤ mostN) : (Lib.decDigits n).length ≤ 20 := by
  by_cases h0 : n = 0
  · subst h0; rw [dec0]; decide
  · rw [Lib.decDigits_length]
    have := Lib.numDigits_eq n (by omega) (by unfold mostN at h; omega)
    split at this <;> omega
theorem evText_le : ∀ t : EvT, t.fits = true → (evText t).length ≤ 30 * (evBytes t).length
  | .leaf n, h => by
    have := dig_le n (fits_n (t := .leaf n) h)
    simp only [evText, evBytes, List.length_cons]; omega
  | .node n l r, h => by
    have h0 := dig_le n (fits_n (t := .node n l r) h)
    simp only [EvT.fits, Bool.and_eq_true] at h
    have h1 := evText_le l h.2.1
    have h2 := evText_le r h.2.2
    simp only [evText, evBytes, List.length_cons, List.length_append, List.length_nil]; omega
theorem stText_le (i : IdT) (t : EvT) (h : t.fits = true) : (stText i t).length ≤ 30 * (stBytes i t).length + 10 := by
  have h1 := idText_le i
  have h2 := evText_le t h
  simp only [stText, stBytes, List.length_cons, List.length_append, List.length_nil]; omega
set_option maxRecDepth 100000 in
set_option maxHeartbeats 4000000 in
theorem reads_law (xs : List UInt8) (A : Option Addr) (n c : Nat) (w : World) (h : BytesAt w A xs) (hn : n = xs.length) (hc : n ≤ c) (hcm : c ≤ 9223372036854775807)
    (htab : Lib.TabIs Tryd.prog w "internal/strconv.uint64pow10" .u64 Lib.pow10Tab) : Calls Tryd.prog 9 #[.slice A n c] w (RetB true w) := by
  have HB := Lib.hid (take_bytes h 300)
  have HT := Lib.hid htab
  have hyl : (xs.take 300).length = min 300 n := by rw [List.length_take, hn]
  have HYL := Lib.hid hyl
  clear h htab hn hyl
  generalize xs.take 300 = ys at *
  by_cases h3 : 300 < n
  all_goals
    go_enter Tryd.func9, Tryd.ntmps9
    go_wp2_with fail
    refine (read_any ys A _ c _ HB.out (by have := HYL.out; omega) (by have := HYL.out; omega) hcm).mono ?_
    cases hr : readF ys with
    | none =>
      rintro e w1 ⟨rfl, hb1⟩
      clear hr
      go_wp2_with fail
      refine (awake_any _).mono ?_
      rintro e w2 ⟨rfl, hb2⟩
      have c0 : w2.cell? ⟨w1.heap.size, 0, none⟩ = some (.pointer none) := hb2.cell (by simp [go_sem])
      have c1 : w2.cell? ⟨w1.heap.size, 1, none⟩ = some (.pointer none) := hb2.cell (by simp [go_sem])
      have ZS : ∀ w', StAt w' (.agg #[.pointer none, .pointer none]) .zero (.leaf 0) := fun w' => ⟨_, _, rfl, rfl, .inl ⟨rfl, rfl⟩⟩
      have QS := Lib.hid fun w' => stequal_any .zero .zero (.leaf 0) (.leaf 0) _ _ w' (ZS w') (ZS w')
      clear ZS
      go_wp2_with fail
      refine (QS.out _).mono ?_
      rintro e w3 ⟨rfl, hb3⟩
      simp only [IdT.same, EvT.same]
      go_wp2_with fail
      go_ret
      exact ⟨rfl, hb1.trans (Ext.trans (by simp) (hb2.trans hb3))⟩
    | some itk =>
      obtain ⟨i, t, k⟩ := itk
      rintro e w1 ⟨v1, rfl, hv1, hb1⟩
      obtain ⟨k1, k2, kb, idp, -, tdp, tnf, tft, ttp⟩ := readF_facts hr
      have V1 := Lib.hid hv1
      obtain ⟨qi, qs, rfl, -, -⟩ := hv1
      clear hr
      have hyl := HYL.out
      have hkl : (ys.take k).length = k := by rw [List.length_take]; omega
      have hP0 : 0 < (stBytes i t).length := by rw [kb, hkl]; omega
      have hPl : (stBytes i t).length ≤ 300 := by rw [kb, hkl]; omega
      have k3 : k ≤ n := by omega
      have k4 : k ≤ 300 := by omega
      have kc : k ≤ c := by omega
      have KB := Lib.hid kb
      have TF := Lib.hid tft
      have TN := Lib.hid tnf
      have CV : Hid (∀ W, Ext w W → (convert 56 9 (.slice A k c)).run Tryd.prog W = .ok (Str (stBytes i t)) W) := fun W hx => by
        have := conv_bytes (w := W) (A := A) (xs := ys.take k) c ((take_bytes HB.out k).ext hx) (by omega)
        rw [hkl, ← kb] at this
        exact this
      clear kb tft tnf hkl k2 hyl
      go_wp2_with fail
      generalize hW : w1.alloc (Obj.cells #[.pointer qi, .pointer qs] 31) = w0
      have E0 : Ext w w0 := by rw [← hW]; exact hb1.trans (by simp)
      have a0 : w0.cell? ⟨w1.heap.size, 0, none⟩ = some (.pointer qi) := by rw [← hW]; simp
      have a1 : w0.cell? ⟨w1.heap.size, 1, none⟩ = some (.pointer qs) := by rw [← hW]; simp
      have V0 : Hid (StAt w0 (.agg #[.pointer qi, .pointer qs]) i t) := V1.out.ext (by rw [← hW]; simp)
      have z0 := World.block_lt_of_cell? _ _ a0
      clear hW
      have hcvP : ∀ W, Ext w0 W → (convert 56 9 (.slice A k c)).run Tryd.prog W = .ok (Str (stBytes i t)) W := fun W hx => CV.out W (E0.trans hx)
      have SB := Lib.hid fun w' (hx : Ext w0 w') => stbytes_nil i t _ w' (V0.out.ext hx) TF.out (by omega)
      have AW := Lib.hid awake_any
      have hk1 : decide ((k : Int) < 1) = false := by simp; omega
      have hk2 : decide ((300 : Int) < (k : Int)) = false := by simp; omega
      have hk3 : decide ((n : Int) < (k : Int)) = false := by simp; omega
      have hk4 : decide (n < k) = false := by simp; omega
      refine wp_region_noPanic ?_
      refine wp_region_held_drew (S := (fun w' => Ext w0 w' ∧ ∀ b o, b < w0.heap.size → w'.cell? ⟨b, o, none⟩ = w0.cell? ⟨b, o, none⟩)) (by kernel_rfl) ?_ (fun hHeld => ?_)
      · exact Ext.held (by repeat (first | assumption | exact Ext.refl _ | apply Ext.alloc | apply Ext.drew | apply Ext.drewN))
      refine wpAnyH_ready (rs := [0]) (by kernel_rfl) (by simp) (AllReadyH.cons (oper_at rfl) (fun K hK => ?_) AllReadyH.nil)
      go_simp
      go_at_call 12
      refine (AW.out _).mono ?_
      rintro e w2 ⟨rfl, hbb⟩
      have hE2 : Ext w0 w2 := Ext.trans hHeld.1 hbb
      try go_wp2_with fail
      refine hK.out _ _ ?_ (fun hHeld => ?_)
      · exact Ext.held (by repeat (first | assumption | exact Ext.refl _ | apply Ext.alloc | apply Ext.drew | apply Ext.drewN))
      clear hK K
      try simp only [Act.put, List.setIfInBounds_toArray, List.set_cons_zero, List.set_cons_succ]
      refine wpAnyH_take (i := 1) (v := ?_) (oper_at rfl) (by kernel_rfl) (by kernel_rfl) (by kernel_rfl) (fun _ _ _ h => h) (Or.inl ⟨by rfl, ?_⟩) hHeld ?_
      rotate_left
      · (intro ww hSw; (try dsimp only at hSw); go_simp; try (with_reducible rfl))
      try simp only [Act.put, List.setIfInBounds_toArray, List.set_cons_zero, List.set_cons_succ]
      refine wpAnyH_take (i := 2) (v := ?_) (oper_at rfl) (by kernel_rfl) (by kernel_rfl) (by kernel_rfl) (fun _ _ _ h => h) (Or.inl ⟨by rfl, ?_⟩) hHeld ?_
      rotate_left
      · (intro ww hSw; (try dsimp only at hSw); go_simp; try (with_reducible rfl))
      try simp only [Act.put, List.setIfInBounds_toArray, List.set_cons_zero, List.set_cons_succ]
      refine wpAnyH_take (i := 3) (v := ?_) (oper_at rfl) (by kernel_rfl) (by kernel_rfl) (by kernel_rfl) (fun _ _ _ h => h) (Or.inl ⟨by rfl, ?_⟩) hHeld ?_
      rotate_left
      · (intro ww hSw; (try dsimp only at hSw); go_simp; try (with_reducible rfl))
      try simp only [Act.put, List.setIfInBounds_toArray, List.set_cons_zero, List.set_cons_succ]
      refine wpAnyH_take (i := 4) (v := ?_) (oper_at rfl) (by kernel_rfl) (by kernel_rfl) (by kernel_rfl) (fun _ _ _ h => h) (Or.inl ⟨by rfl, ?_⟩) hHeld ?_
      rotate_left
      · (intro ww hSw; (try dsimp only at hSw); go_simp; try (with_reducible rfl))
      try simp only [Act.put, List.setIfInBounds_toArray, List.set_cons_zero, List.set_cons_succ]
      refine wpAnyH_take (i := 5) (v := ?_) (oper_at rfl) (by kernel_rfl) (by kernel_rfl) (by kernel_rfl) (fun _ _ _ h => h) (Or.inl ⟨by rfl, ?_⟩) hHeld ?_
      rotate_left
      · (intro ww hSw; (try dsimp only at hSw); go_simp; try (with_reducible rfl))
      try simp only [Act.put, List.setIfInBounds_toArray, List.set_cons_zero, List.set_cons_succ]
      refine wpAnyH_take (i := 6) (v := ?_) (oper_at rfl) (by kernel_rfl) (by kernel_rfl) (by kernel_rfl) (fun _ _ _ h => h) (Or.inl ⟨by rfl, ?_⟩) hHeld ?_
      rotate_left
      · (intro ww hSw; (try dsimp only at hSw); go_simp; try (with_reducible rfl))
      try simp only [Act.put, List.setIfInBounds_toArray, List.set_cons_zero, List.set_cons_succ]
      refine wpAnyH_take (i := 7) (v := ?_) (oper_at rfl) (by kernel_rfl) (by kernel_rfl) (by kernel_rfl) (fun _ _ _ h => h) (Or.inl ⟨by rfl, ?_⟩) hHeld ?_
      rotate_left
      · (intro ww hSw; (try dsimp only at hSw); go_simp; try (with_reducible rfl))
      try simp only [Act.put, List.setIfInBounds_toArray, List.set_cons_zero, List.set_cons_succ]
      refine wpAnyH_take (i := 8) (v := ?_) (oper_at rfl) (by kernel_rfl) (by kernel_rfl) (by kernel_rfl) (fun _ _ _ h => h) (Or.inl ⟨by rfl, ?_⟩) hHeld ?_
      rotate_left
      · (intro ww hSw; (try dsimp only at hSw); go_simp; try (with_reducible rfl))
      try simp only [Act.put, List.setIfInBounds_toArray, List.set_cons_zero, List.set_cons_succ]
      refine wpAnyH_take (i := 9) (v := ?_) (oper_at rfl) (by kernel_rfl) (by kernel_rfl) (by kernel_rfl) (fun _ _ _ h => h) (Or.inl ⟨by rfl, ?_⟩) hHeld ?_
      rotate_left
      · (intro ww hSw; (try dsimp only at hSw); go_simp; try (with_reducible rfl))
      try simp only [Act.put, List.setIfInBounds_toArray, List.set_cons_zero, List.set_cons_succ]
      refine wpAnyH_take (i := 10) (v := ?_) (oper_at rfl) (by kernel_rfl) (by kernel_rfl) (by kernel_rfl) (fun _ _ _ h => h) (Or.inl ⟨by rfl, ?_⟩) hHeld ?_
      rotate_left
      · (intro ww hSw; (try dsimp only at hSw); go_simp; try (with_reducible rfl))
      try simp only [Act.put, List.setIfInBounds_toArray, List.set_cons_zero, List.set_cons_succ]
      refine wpAnyH_take (i := 11) (v := ?_) (oper_at rfl) (by kernel_rfl) (by kernel_rfl) (by kernel_rfl) (fun _ _ _ h => h) (Or.inl ⟨by rfl, ?_⟩) hHeld ?_
      rotate_left
      · (intro ww hSw; (try dsimp only at hSw); go_simp; try (with_reducible rfl))
      try simp only [Act.put, List.setIfInBounds_toArray, List.set_cons_zero, List.set_cons_succ]
      refine wpAnyH_take (i := 12) (v := ?_) (oper_at rfl) (by kernel_rfl) (by kernel_rfl) (by kernel_rfl) (fun _ _ _ h => h) (Or.inl ⟨by rfl, ?_⟩) hHeld ?_
      rotate_left
      · (intro ww hSw; (try dsimp only at hSw); go_simp; try (with_reducible rfl))
      try simp only [Act.put, List.setIfInBounds_toArray, List.set_cons_zero, List.set_cons_succ]
      refine wpAnyH_take (i := 13) (v := ?_) (oper_at rfl) (by kernel_rfl) (by kernel_rfl) (by kernel_rfl) (fun _ _ _ h => h) (Or.inl ⟨by rfl, ?_⟩) hHeld ?_
      rotate_left
      · (intro ww hSw; (try dsimp only at hSw); go_simp; try (with_reducible rfl))
      try simp only [Act.put, List.setIfInBounds_toArray, List.set_cons_zero, List.set_cons_succ]
      refine wpAnyH_take (i := 16) (v := ?_) (oper_at rfl) (by kernel_rfl) (by kernel_rfl) (by kernel_rfl) (fun _ _ _ h => h) (Or.inl ⟨by rfl, ?_⟩) hHeld ?_
      rotate_left
      · (intro ww hSw; (try dsimp only at hSw); go_simp; try (with_reducible rfl))
      try simp only [Act.put, List.setIfInBounds_toArray, List.set_cons_zero, List.set_cons_succ]
      refine wpAnyH_take (i := 17) (v := ?_) (oper_at rfl) (by kernel_rfl) (by kernel_rfl) (by kernel_rfl) (fun _ _ _ h => h) (Or.inl ⟨by rfl, ?_⟩) hHeld ?_
      rotate_left
      · (intro ww hSw; (try dsimp only at hSw); go_simp; try (with_reducible rfl))
      try simp only [Act.put, List.setIfInBounds_toArray, List.set_cons_zero, List.set_cons_succ]
      refine wpAnyH_take (i := 18) (v := ?_) (oper_at rfl) (by kernel_rfl) (by kernel_rfl) (by kernel_rfl) (fun _ _ _ h => h) (Or.inl ⟨by rfl, ?_⟩) hHeld ?_
      rotate_left
      · (intro ww hSw; (try dsimp only at hSw); go_simp; try (with_reducible rfl))
      try simp only [Act.put, List.setIfInBounds_toArray, List.set_cons_zero, List.set_cons_succ]
      refine wpAnyH_take (i := 19) (v := ?_) (oper_at rfl) (by kernel_rfl) (by kernel_rfl) (by kernel_rfl) (fun _ _ _ h => h) (Or.inl ⟨by rfl, ?_⟩) hHeld ?_
      rotate_left
      · (intro ww hSw; (try dsimp only at hSw); go_simp; try (with_reducible rfl))
      try simp only [Act.put, List.setIfInBounds_toArray, List.set_cons_zero, List.set_cons_succ]
      refine wpAnyH_ready (rs := [14]) (by kernel_rfl) (by simp) (AllReadyH.cons (oper_at rfl) (fun K hK => ?_) AllReadyH.nil)
      go_simp
      go_at_call 24
      refine (SB.out _ hHeld.1).mono ?_
      rintro e w3 ⟨v3, rfl, hr3, hbb3⟩
      have hE3 : Ext w0 w3 := Ext.trans hHeld.1 hbb3
      obtain ⟨A3, c3, rfl, hb3, -⟩ := hr3.bytes
      have hcv3 := conv_bytes c3 hb3 hP0
      try go_wp2_with fail
      refine hK.out _ _ ?_ (fun hHeld => ?_)
      · exact Ext.held (by repeat (first | assumption | exact Ext.refl _ | apply Ext.alloc | apply Ext.drew | apply Ext.drewN))
      clear hK K
      try simp only [Act.put, List.setIfInBounds_toArray, List.set_cons_zero, List.set_cons_succ]
      refine wpAnyH_ready (rs := [15]) (by kernel_rfl) (by simp) (AllReadyH.cons (oper_at rfl) (fun K hK => ?_) AllReadyH.nil)
      go_simp
      try go_wp2_with fail
      refine hK.out _ _ ?_ (fun hHeld => ?_)
      · exact Ext.held (by repeat (first | assumption | exact Ext.refl _ | apply Ext.alloc | apply Ext.drew | apply Ext.drewN))
      clear hK K
      try simp only [Act.put, List.setIfInBounds_toArray, List.set_cons_zero, List.set_cons_succ]
      refine wpAnyH_take (i := 20) (v := ?_) (oper_at rfl) (by kernel_rfl) (by kernel_rfl) (by kernel_rfl) (fun _ _ _ h => h) (Or.inl ⟨by rfl, ?_⟩) hHeld ?_
      rotate_left
      · (intro ww hSw; (try dsimp only at hSw); go_simp; try (with_reducible rfl))
      try simp only [Act.put, List.setIfInBounds_toArray, List.set_cons_zero, List.set_cons_succ]
      refine wpAnyH_take (i := 21) (v := ?_) (oper_at rfl) (by kernel_rfl) (by kernel_rfl) (by kernel_rfl) (fun _ _ _ h => h) (Or.inl ⟨by rfl, ?_⟩) hHeld ?_
      rotate_left
      · (intro ww hSw; (try dsimp only at hSw); go_simp; try (with_reducible rfl))
      try simp only [Act.put, List.setIfInBounds_toArray, List.set_cons_zero, List.set_cons_succ]
      refine wpAnyH_done (by kernel_rfl) ?_ _
      refine NoPanic.normal ?_
      go_wp2_with fail
      have MZ := merge_zero 16 t TN.out tdp
      have JN := join_some 16 i .zero i t (.leaf 0) (.agg #[.pointer qi, .pointer qs]) (.agg #[.pointer none, .pointer none]) w3 (V0.out.ext hE3) ⟨_, _, rfl, rfl, .inl ⟨rfl, rfl⟩⟩ (sum_zero_right i) (by unfold mostN at ttp; omega) (by simp [EvT.top]) tdp (Nat.zero_le _) true (by rw [MZ]; exact TF.out)
      rw [MZ] at JN
      refine JN.mono ?_
      clear JN MZ
      rintro e w4 ⟨v4, rfl, hv4, hb4⟩
      have V4 := Lib.hid hv4
      obtain ⟨ri, rs, rfl, -, -⟩ := hv4
      have b0 := hb4.cell (hE3.cell a0)
      have b1 := hb4.cell (hE3.cell a1)
      have zb := World.block_lt_of_cell? _ _ b0
      clear a0 a1 z0 hcv3 hb3 hr3 hcvP hk1 hk2 hk3 hk4
      have hE4 : Ext w0 w4 := hE3.trans hb4
      have V34 := Lib.hid (V0.out.ext hE4)
      go_wp2_with fail
      generalize hW : w4.alloc (Obj.cells #[.pointer ri, .pointer rs] 31) = w5
      have E5 : Ext w4 w5 := by rw [← hW]; simp
      have d0 : w5.cell? ⟨w4.heap.size, 0, none⟩ = some (.pointer ri) := by rw [← hW]; simp
      have d1 : w5.cell? ⟨w4.heap.size, 1, none⟩ = some (.pointer rs) := by rw [← hW]; simp
      replace b0 := E5.cell b0
      replace b1 := E5.cell b1
      have z5 := World.block_lt_of_cell? _ _ d0
      have z6 := World.block_lt_of_cell? _ _ b0
      clear hW zb
      have EW5 : Ext w w5 := E0.trans (hE4.trans E5)
      have EQ : Hid (∀ w', Ext w5 w' → Calls Tryd.prog 15 #[.agg #[.pointer ri, .pointer rs], .agg #[.pointer qi, .pointer qs]] w' (RetB true w')) := fun w' hx => by
        have := stequal_any i i t t _ _ w' (V4.out.ext (E5.trans hx)) (V34.out.ext (E5.trans hx))
        rw [idsame_refl, (same_iff t t).2 rfl] at this
        exact this
      have TX : Hid (∀ v' w', StAt w' v' i t → Ext w5 w' → Calls Tryd.prog 25 #[v'] w' (RetT (stText i t) w')) := fun v' w' hv hx =>
        sttext_any (· ≤ mostN) i t v' w' hv (fits_all t TF.out) ((fmt_most HT.out).ext (EW5.trans hx)) (by have := stText_le i t TF.out; omega)
      go_region_held3 (fun w' => Ext w5 w' ∧ ∀ b o, b < w5.heap.size → w'.cell? ⟨b, o, none⟩ = w5.cell? ⟨b, o, none⟩)
        (refine Ext.held ?_ <;> repeat (first | assumption | exact Ext.refl _ | apply Ext.alloc | apply Ext.drew | apply Ext.drewN))
        (first
          | (go_at_call 15; go_split_ands; refine (EQ.out _ (by assumption)).mono ?_; rintro e w6 ⟨rfl, hbb6⟩; have hE6 : Ext w5 w6 := Ext.trans (by assumption) hbb6)
          | (go_at_call_of 25 (Value.agg #[Value.pointer ri, Value.pointer rs]); go_split_ands; refine (TX.out _ _ (V4.out.ext (E5.trans hE6)) hE6).mono ?_; rintro e w7 ⟨rfl, hbb7⟩; have hE7 : Ext w5 w7 := Ext.trans hE6 hbb7)
          | (go_at_call_of 25 (Value.agg #[Value.pointer qi, Value.pointer qs]); go_split_ands; refine (TX.out _ _ (V34.out.ext (E5.trans hE7)) hE7).mono ?_; rintro e w8 ⟨rfl, hbb8⟩; have hE8 : Ext w5 w8 := Ext.trans hE7 hbb8))
      go_wp2_with fail
      go_ret
      exact ⟨rfl, EW5.trans hE8⟩
end Go.Proofs.YthnmhdabdiennaaDoor
