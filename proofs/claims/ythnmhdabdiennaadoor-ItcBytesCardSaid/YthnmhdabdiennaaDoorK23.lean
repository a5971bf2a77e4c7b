/- The walks over the writers of identities and event trees. -/
import Derived.Test.YthnmhdabdiennaaDoorK22
namespace Go.Proofs.YthnmhdabdiennaaDoor
open Go.RowKit
attribute [local go_sem ↓] Go.wp_at_zero Go.wp_at_succ
theorem IdAt.typ77 {w : World} {i : IdT} {b : Nat} (h : IdAt w (.pointer (some ⟨b, 0, none⟩)) i) : typ w b = some 77 := by
  cases i with
  | zero => cases h
  | node l r =>
    obtain ⟨b', _, _, e, _, _, _, _, ht⟩ := h
    obtain rfl : b = b' := by simpa using e
    exact ht
theorem EvAt.typ103 {w : World} {t : EvT} {b : Nat} (h : EvAt w (.pointer (some ⟨b, 0, none⟩)) t) : typ w b = some 103 := by
  cases t with
  | leaf n =>
    obtain ⟨b', e, _, _, _, _, ht⟩ := h
    obtain rfl : b = b' := by simpa using e
    exact ht
  | node n l r =>
    obtain ⟨b', _, _, e, _, _, _, _, _, _, ht⟩ := h
    obtain rfl : b = b' := by simpa using e
    exact ht
theorem ByRow.snoc {w' : World} {B g cap : Nat} {xs : List UInt8} {n : Nat} (h : n < 256) (hown : w'.ownsRow B 5 1 (.slice (some ⟨g, 0, none⟩) (xs.length + 1) cap) (xs.length + 1) (bytesV xs ++ [.int .u8 (n : Int)])) : ByRow w' B (.slice (some ⟨g, 0, none⟩) (xs.length + 1) cap) (xs ++ [UInt8.ofNat n]) := by
  unfold ByRow
  rw [bytesV_append, bytesV_one _ h, List.length_append]
  exact hown
set_option maxRecDepth 100000 in
set_option maxHeartbeats 2000000 in
theorem idbytes_any (i : IdT) : ∀ (v p : Value) (xs : List UInt8) (B : Nat) (w : World), IdAt w v i → ByRow w B p xs → B ≤ w.heap.size → xs.length + (idBytes i).length ≤ 1099511627776 → Calls Tryd.prog 45 #[v, p] w (RetRow B p (xs ++ idBytes i) w) := by
  obtain ⟨i0, hi0, hz0, hz1, hz2⟩ := info_parts Tryd.info5
  have I0 := Lib.hid hi0
  have Z0 := Lib.hid hz0
  have Z1 := Lib.hid hz1
  have Z2 := Lib.hid hz2
  clear hi0 hz0 hz1 hz2
  induction i with
  | zero =>
    rintro v p xs B w rfl hr hB hl
    have HR := Lib.hid hr
    have hl' : xs.length ≤ 1099511627776 := by omega
    clear hr hl
    go_enter Tryd.func45, Tryd.ntmps45
    go_wp2_with (at_builtin; refine wpList_append_lies _ rfl (.tmp 8) (.tmp 9) 56 rfl B 5 i0 _ 1 1 Tryd.underlying56 I0.out Z0.out Z1.out Z2.out rfl (by decide) _ xs.length (bytesV xs) rfl (World.ownsRow.alloc HR.out _) ⟨w.heap.size, 0, none⟩ 1 1 [.int .u8 0] rfl rfl (news1 (heap_alloc_new _ _)) (by simp [Value.oneCell']) (by omega) (by unfold maxLen; omega) (by omega) (by simp; omega) _ rfl ?_; intro g5 cap5 w6 hown6 hgrow6 hat6 hlt6)
    go_ret
    exact ⟨_, rfl, ByRow.snoc (n := 0) (by decide) hown6, Grw.ext ((Ext.refl w).alloc _) (Grw.lies hgrow6 hat6 rfl)⟩
  | node l r ihl ihr =>
    intro v p xs B w h hr hB hl
    have WH := Lib.hid (whole_any _ v w h)
    have HI := Lib.hid h
    have HR := Lib.hid hr
    obtain ⟨b, ql, qr, rfl, a0, a1, hb, il, ir⟩ := h.node_parts
    have T77 := h.typ77
    cases h1 : IdT.isOne (.node l r) with
    | true =>
      have e : idBytes (.node l r) = [1] := by rw [idBytes, h1]; rfl
      rw [e] at hl ⊢
      rw [h1] at WH
      have hl' : xs.length ≤ 1099511627776 := by omega
      clear hr hl h ihl ihr h1 e il ir T77
      go_enter Tryd.func45, Tryd.ntmps45
      go_wp2_with fail
      refine WH.out.mono ?_
      rintro e w1 ⟨rfl, rfl⟩
      go_wp2_with (at_builtin; refine wpList_append_lies _ rfl (.tmp 14) (.tmp 15) 56 rfl B 5 i0 _ 1 1 Tryd.underlying56 I0.out Z0.out Z1.out Z2.out rfl (by decide) _ xs.length (bytesV xs) rfl (World.ownsRow.alloc HR.out _) ⟨w.heap.size, 0, none⟩ 1 1 [.int .u8 1] rfl rfl (news1 (heap_alloc_new _ _)) (by simp [Value.oneCell']) (by omega) (by unfold maxLen; omega) (by omega) (by simp; omega) _ rfl ?_; intro g5 cap5 w6 hown6 hgrow6 hat6 hlt6)
      go_ret
      exact ⟨_, rfl, ByRow.snoc (n := 1) (by decide) hown6, Grw.ext ((Ext.refl w).alloc _) (Grw.lies hgrow6 hat6 rfl)⟩
    | false =>
      have e : idBytes (.node l r) = 2 :: (idBytes l ++ idBytes r) := by rw [idBytes, h1]; rfl
      rw [e] at hl ⊢
      simp only [List.length_cons, List.length_append] at hl
      rw [h1] at WH
      have IL := Lib.hid fun p' (ys : List UInt8) w' (hk : Kp w w') (hy : ByRow w' B p' ys) (hz : B ≤ w'.heap.size) (hl' : ys.length ≤ xs.length + 1) => ihl _ p' ys B w' (il.kp hk) hy hz (by omega)
      have IR := Lib.hid fun p' (ys : List UInt8) w' (hk : Kp w w') (hy : ByRow w' B p' ys) (hz : B ≤ w'.heap.size) (hl' : ys.length ≤ xs.length + 1 + (idBytes l).length) => ihr _ p' ys B w' (ir.kp hk) hy hz (by omega)
      have hl' : xs.length ≤ 1099511627776 := by omega
      have T7 := Lib.hid T77
      have KB : Hid (∀ w', Kp w w' → w'.cell? ⟨b, 0, none⟩ = some (.pointer ql) ∧ w'.cell? ⟨b, 1, none⟩ = some (.pointer qr)) := fun w' hk => ⟨hk.cell T77 (.inl rfl) a0, hk.cell T77 (.inl rfl) a1⟩
      clear hr hl h ihl ihr h1 e il ir T77
      go_enter Tryd.func45, Tryd.ntmps45
      go_wp2_with fail
      refine WH.out.mono ?_
      rintro e w1 ⟨rfl, rfl⟩
      go_wp2_with fail
      go_region_held3 (fun w' => Kp w w' ∧ w'.cell? ⟨b, 0, none⟩ = some (.pointer ql) ∧ w'.cell? ⟨b, 1, none⟩ = some (.pointer qr))
        (refine ⟨?_, ?_, ?_⟩ <;> first | assumption | exact Kp.refl _ | exact Kp.alloc (by assumption) _ | exact Kp.alloc (Kp.refl _) _ | exact Kp.drew (by assumption) | exact Kp.drew (Kp.alloc (Kp.refl _) _) | exact (Kp.drew (Kp.refl _)).alloc _ | go_keep)
        (first
          | (go_at_call_of 45 (Value.pointer ql); go_split_ands; refine (IL.out _ _ _ hK1 (ByRow.snoc (n := 2) (by decide) hown1) zB1 (by simp)).mono ?_; rintro e w2 ⟨v2, rfl, hr2, hg2⟩; have hK2 : Kp w w2 := hK1.trans (hg2.kp hown1); obtain ⟨p0, p1⟩ := KB.out _ hK2; have zB2 : B ≤ w2.heap.size := Nat.le_trans zB1 hg2.g.size)
          | (go_at_call_of 45 (Value.pointer qr); go_split_ands; refine (IR.out _ _ _ hK2 hr2 zB2 (by simp; omega)).mono ?_; rintro e w3 ⟨v3, rfl, hr3, hg3⟩; have hK3 : Kp w w3 := hK2.trans (hg3.kp hr2); obtain ⟨q0, q1⟩ := KB.out _ hK3)
          | (refine step_append_lies _ (by rfl) _ _ _ (by rfl) B 5 i0 _ 1 1 Tryd.underlying56 I0.out Z0.out Z1.out Z2.out rfl (by omega) p xs.length (bytesV xs) (by rfl) (World.ownsRow.alloc HR.out _) ⟨w.heap.size, 0, none⟩ 1 1 [.int .u8 2] (by rfl) (by rfl) (news1 (T := 5) (fr := (0, 0)) (heap_alloc_new w _)) (by simp [Value.oneCell']) (by omega) (by unfold maxLen; omega) (by omega) (by simp; omega) (w.heap.size + 1) (by simp) ?_; intro g1 cap1 w1 hown1 hgrow1 hat1 hlt1; have hG1 : Grw w w1 p (.slice (some ⟨g1, 0, none⟩) (xs.length + 1) cap1) := Grw.ext (w1 := w.alloc (.cells #[.int .u8 2] 5)) ((Ext.refl w).alloc _) (Grw.lies (w := w.alloc (.cells #[.int .u8 2] 5)) ⟨hgrow1.os, hgrow1.tape, hgrow1.output, hgrow1.size, hgrow1.block⟩ hat1 (by simp)); have hK1 : Kp w w1 := hG1.kp HR.out; obtain ⟨n0, n1⟩ := KB.out _ hK1; have zB1 : B ≤ w1.heap.size := Nat.le_trans hB hG1.g.size))
      have e3 : xs ++ 2 :: (idBytes l ++ idBytes r) = xs ++ [UInt8.ofNat 2] ++ idBytes l ++ idBytes r := by simp
      go_wp2_with fail
      go_ret
      refine ⟨_, rfl, ?_, (hG1.trans hg2).trans hg3⟩
      rw [e3]
      exact hr3
theorem ByRow.base {w : World} {B B' : Nat} {v : Value} {xs : List UInt8} (h : ByRow w B v xs) (hB : B' ≤ B) : ByRow w B' v xs := by
  have h' : w.ownsRow B 5 1 v xs.length (bytesV xs) := h
  refine ⟨h'.1, ?_⟩
  rcases h'.2 with h1 | ⟨g, cap, cur, e, hb, h2⟩
  · exact .inl h1
  · exact .inr ⟨g, cap, cur, e, by omega, h2⟩
/-- A new row in the place of an old one. -/
theorem row_of_new {w w' : World} {B : Nat} {v v' : Value} {ys : List UInt8} (hB : B ≤ w.heap.size) (h0 : 0 < ys.length) (hr : ByRow w' w.heap.size v' ys) (hx : Ext w w') : ByRow w' B v' ys ∧ Grw w w' v v' := by
  refine ⟨hr.base hB, ⟨hx.os, hx.tape, hx.output, hx.size, fun k hk _ => hx.block k hk⟩, ?_⟩
  obtain ⟨g, cap, rfl, hb, _⟩ := own_form hr h0
  exact .inr ⟨g, rfl, hb⟩
theorem putuint_row (n B : Nat) (v : Value) (xs : List UInt8) (w : World) (h : ByRow w B v xs) (hB : B ≤ w.heap.size) (h0 : 0 < xs.length) (hn : n < 18446744073709551616) (hx : xs.length ≤ 1099511627770) : Calls Tryd.prog 71 #[v, .int .u64 (n : Int)] w (RetRow B v (xs ++ putU n) w) := by
  obtain ⟨A, c, rfl, hb, _⟩ := h.bytes
  refine (putuint_any n A c xs w hb h0 hn hx).mono ?_
  rintro e w1 ⟨v1, rfl, hr1, hx1⟩
  obtain ⟨q1, q2⟩ := row_of_new (v := .slice A xs.length c) hB (by simp; omega) hr1 hx1
  exact ⟨v1, rfl, q1, q2⟩
theorem fits_n {t : EvT} (h : t.fits = true) : t.n ≤ mostN := by
  cases t with
  | leaf n => simp only [EvT.fits, decide_eq_true_eq] at h; exact h
  | node n l r => simp only [EvT.fits, Bool.and_eq_true, decide_eq_true_eq] at h; exact h.1
set_option maxRecDepth 100000 in
set_option maxHeartbeats 4000000 in
theorem evbytes_any (t : EvT) : ∀ (v p : Value) (xs : List UInt8) (B : Nat) (w : World), EvAt w v t → t.fits = true → ByRow w B p xs → B ≤ w.heap.size → xs.length + (evBytes t).length ≤ 1099511627700 → Calls Tryd.prog 44 #[v, p] w (RetRow B p (xs ++ evBytes t) w) := by
  obtain ⟨i0, hi0, hz0, hz1, hz2⟩ := info_parts Tryd.info5
  have I0 := Lib.hid hi0
  have Z0 := Lib.hid hz0
  have Z1 := Lib.hid hz1
  have Z2 := Lib.hid hz2
  clear hi0 hz0 hz1 hz2
  induction t with
  | leaf n =>
    intro v p xs B w h hf hr hB hl
    have LA := Lib.hid (leaf_any _ v w h)
    have HR := Lib.hid hr
    have hn := fits_n hf
    obtain ⟨b, ql, qr, rfl, a0, a1, -, -, hb, -⟩ := h.kids
    have T3 := h.typ103
    rw [EvT.n_leaf] at a0 a1 hn
    rw [lo_small hn] at a1
    rw [EvT.isLeaf_leaf] at LA
    have hn64 : n < 18446744073709551616 := by unfold mostN at hn; omega
    have hl' : xs.length ≤ 1099511627700 := by omega
    have KB : Hid (∀ w', Kp w w' → w'.cell? ⟨b, 1, none⟩ = some (.int .u64 (n : Int))) := fun w' hk => hk.cell T3 (.inr rfl) a1
    have PU := Lib.hid fun v' w' (hy : ByRow w' B v' (xs ++ [UInt8.ofNat 0])) (hz : B ≤ w'.heap.size) => putuint_row n B v' _ w' hy hz (by simp) hn64 (by simp; omega)
    clear hr hl h hf a0 T3 hn hn64
    go_enter Tryd.func44, Tryd.ntmps44
    go_wp2_with fail
    refine LA.out.mono ?_
    rintro e w1 ⟨rfl, rfl⟩
    go_wp2_with fail
    go_region_held3 (fun w' => Kp w w' ∧ w'.cell? ⟨b, 1, none⟩ = some (.int .u64 (n : Int)))
      (refine ⟨?_, ?_⟩ <;> first | assumption | exact Kp.refl _ | exact Kp.alloc (by assumption) _ | exact Kp.alloc (Kp.refl _) _ | exact Kp.drew (by assumption) | exact Kp.drew (Kp.alloc (Kp.refl _) _) | exact (Kp.drew (Kp.refl _)).alloc _ | go_keep)
      (first
        | (go_at_call 71; go_split_ands; refine (PU.out _ _ (ByRow.snoc (n := 0) (by decide) hown1) zB1).mono ?_; rintro e w2 ⟨v2, rfl, hr2, hg2⟩; have hK2 : Kp w w2 := hK1.trans (hg2.kp hown1); have p1 := KB.out _ hK2)
        | (refine step_append_lies _ (by rfl) _ _ _ (by rfl) B 5 i0 _ 1 1 Tryd.underlying56 I0.out Z0.out Z1.out Z2.out rfl (by omega) p xs.length (bytesV xs) (by rfl) (World.ownsRow.alloc HR.out _) ⟨w.heap.size, 0, none⟩ 1 1 [.int .u8 0] (by rfl) (by rfl) (news1 (T := 5) (fr := (0, 0)) (heap_alloc_new w _)) (by simp [Value.oneCell']) (by omega) (by unfold maxLen; omega) (by omega) (by simp; omega) (w.heap.size + 1) (by simp) ?_; intro g1 cap1 w1 hown1 hgrow1 hat1 hlt1; have hG1 : Grw w w1 p (.slice (some ⟨g1, 0, none⟩) (xs.length + 1) cap1) := Grw.ext (w1 := w.alloc (.cells #[.int .u8 0] 5)) ((Ext.refl w).alloc _) (Grw.lies (w := w.alloc (.cells #[.int .u8 0] 5)) ⟨hgrow1.os, hgrow1.tape, hgrow1.output, hgrow1.size, hgrow1.block⟩ hat1 (by simp)); have hK1 : Kp w w1 := hG1.kp HR.out; have n1 := KB.out _ hK1; have zB1 : B ≤ w1.heap.size := Nat.le_trans hB hG1.g.size))
    have e3 : xs ++ evBytes (.leaf n) = xs ++ [UInt8.ofNat 0] ++ putU n := by simp [evBytes]
    go_wp2_with fail
    go_ret
    refine ⟨_, rfl, ?_, hG1.trans hg2⟩
    rw [e3]
    exact hr2
  | node n l r ihl ihr =>
    intro v p xs B w h hf hr hB hl
    have LA := Lib.hid (leaf_any _ v w h)
    have HR := Lib.hid hr
    have hn := fits_n hf
    simp only [EvT.fits, Bool.and_eq_true] at hf
    obtain ⟨b, bl, br, rfl, a0, a1, a2, a3, hb, hl3, hr3⟩ := h.node_parts
    have T3 := h.typ103
    rw [EvT.n_node] at hn
    rw [lo_small hn] at a1
    rw [EvT.isLeaf_node] at LA
    have hn64 : n < 18446744073709551616 := by unfold mostN at hn; omega
    simp only [evBytes, List.length_cons, List.length_append] at hl
    have hl' : xs.length ≤ 1099511627700 := by omega
    have KB : Hid (∀ w', Kp w w' → w'.cell? ⟨b, 1, none⟩ = some (.int .u64 (n : Int)) ∧ w'.cell? ⟨b, 2, none⟩ = some (.pointer (some ⟨bl, 0, none⟩)) ∧ w'.cell? ⟨b, 3, none⟩ = some (.pointer (some ⟨br, 0, none⟩))) := fun w' hk => ⟨hk.cell T3 (.inr rfl) a1, hk.cell T3 (.inr rfl) a2, hk.cell T3 (.inr rfl) a3⟩
    have PU := Lib.hid fun v' w' (hy : ByRow w' B v' (xs ++ [UInt8.ofNat 1])) (hz : B ≤ w'.heap.size) => putuint_row n B v' _ w' hy hz (by simp) hn64 (by simp; omega)
    have IL := Lib.hid fun p' w' (hk : Kp w w') (hy : ByRow w' B p' (xs ++ [UInt8.ofNat 1] ++ putU n)) (hz : B ≤ w'.heap.size) => ihl _ p' _ B w' (hl3.kp hk) hf.2.1 hy hz (by simp; omega)
    have IR := Lib.hid fun p' w' (hk : Kp w w') (hy : ByRow w' B p' (xs ++ [UInt8.ofNat 1] ++ putU n ++ evBytes l)) (hz : B ≤ w'.heap.size) => ihr _ p' _ B w' (hr3.kp hk) hf.2.2 hy hz (by simp; omega)
    clear hr hl h hf a0 T3 hn hn64 ihl ihr hl3 hr3
    go_enter Tryd.func44, Tryd.ntmps44
    go_wp2_with fail
    refine LA.out.mono ?_
    rintro e w1 ⟨rfl, rfl⟩
    go_wp2_with fail
    go_region_held3 (fun w' => Kp w w' ∧ w'.cell? ⟨b, 1, none⟩ = some (.int .u64 (n : Int)) ∧ w'.cell? ⟨b, 2, none⟩ = some (.pointer (some ⟨bl, 0, none⟩)) ∧ w'.cell? ⟨b, 3, none⟩ = some (.pointer (some ⟨br, 0, none⟩)))
      (refine ⟨?_, ?_, ?_, ?_⟩ <;> first | assumption | exact Kp.refl _ | exact Kp.alloc (by assumption) _ | exact Kp.alloc (Kp.refl _) _ | exact Kp.drew (by assumption) | exact Kp.drew (Kp.alloc (Kp.refl _) _) | exact (Kp.drew (Kp.refl _)).alloc _ | go_keep)
      (first
        | (go_at_call 71; go_split_ands; refine (PU.out _ _ (ByRow.snoc (n := 1) (by decide) hown1) zB1).mono ?_; rintro e w2 ⟨v2, rfl, hr2, hg2⟩; have hK2 : Kp w w2 := hK1.trans (hg2.kp hown1); obtain ⟨p1, p2, p3⟩ := KB.out _ hK2; have zB2 : B ≤ w2.heap.size := Nat.le_trans zB1 hg2.g.size)
        | (go_at_call_of 44 (Value.pointer (some ⟨bl, 0, none⟩)); go_split_ands; refine (IL.out _ _ hK2 hr2 zB2).mono ?_; rintro e w3 ⟨v3, rfl, hr3, hg3⟩; have hK3 : Kp w w3 := hK2.trans (hg3.kp hr2); obtain ⟨q1, q2, q3⟩ := KB.out _ hK3; have zB3 : B ≤ w3.heap.size := Nat.le_trans zB2 hg3.g.size)
        | (go_at_call_of 44 (Value.pointer (some ⟨br, 0, none⟩)); go_split_ands; refine (IR.out _ _ hK3 hr3 zB3).mono ?_; rintro e w4 ⟨v4, rfl, hr4, hg4⟩; have hK4 : Kp w w4 := hK3.trans (hg4.kp hr3); obtain ⟨r1, r2, r3⟩ := KB.out _ hK4)
        | (refine step_append_lies _ (by rfl) _ _ _ (by rfl) B 5 i0 _ 1 1 Tryd.underlying56 I0.out Z0.out Z1.out Z2.out rfl (by omega) p xs.length (bytesV xs) (by rfl) (World.ownsRow.alloc HR.out _) ⟨w.heap.size, 0, none⟩ 1 1 [.int .u8 1] (by rfl) (by rfl) (news1 (T := 5) (fr := (0, 0)) (heap_alloc_new w _)) (by simp [Value.oneCell']) (by omega) (by unfold maxLen; omega) (by omega) (by simp; omega) (w.heap.size + 1) (by simp) ?_; intro g1 cap1 w1 hown1 hgrow1 hat1 hlt1; have hG1 : Grw w w1 p (.slice (some ⟨g1, 0, none⟩) (xs.length + 1) cap1) := Grw.ext (w1 := w.alloc (.cells #[.int .u8 1] 5)) ((Ext.refl w).alloc _) (Grw.lies (w := w.alloc (.cells #[.int .u8 1] 5)) ⟨hgrow1.os, hgrow1.tape, hgrow1.output, hgrow1.size, hgrow1.block⟩ hat1 (by simp)); have hK1 : Kp w w1 := hG1.kp HR.out; obtain ⟨n1, n2, n3⟩ := KB.out _ hK1; have zB1 : B ≤ w1.heap.size := Nat.le_trans hB hG1.g.size))
    have e3 : xs ++ evBytes (.node n l r) = xs ++ [UInt8.ofNat 1] ++ putU n ++ evBytes l ++ evBytes r := by simp [evBytes]
    go_wp2_with fail
    go_ret
    refine ⟨_, rfl, ?_, ((hG1.trans hg2).trans hg3).trans hg4⟩
    rw [e3]
    exact hr4
end Go.Proofs.YthnmhdabdiennaaDoor
