/- The tree of a disclosure. -/
import Derived.Test.YtjedhndhdkiidaaDoorV10
import Derived.Laws.IdiomStrings
namespace Go.Proofs.YtjedhndhdkiidaaDoor
open Go.RowKit
attribute [local go_sem ↓] Go.wp_at_zero Go.wp_at_succ
attribute [local go_sem] baSize baList
attribute [local go_sem ↓] ld75 ld48 ld73 st75 st48 al75 al48 bu75 bu48
attribute [local go_sem] run_al75 run_al48 run_bu48 run_bu75n run_bu75c run_bu75o run_st75n run_st48n
theorem conv938 (w : World) (s : List UInt8) (hs : s.length ≤ 1000000) : ∃ c w', (convert 9 38 (sV s)).run Tryd.prog w = .ok (.slice (some ⟨w.heap.size, 0, none⟩) s.length c) w' ∧ Ext w w' ∧ SlB w' (.slice (some ⟨w.heap.size, 0, none⟩) s.length c) s := by
  have h := run_bytes_of_string (P := Tryd.prog) w 9 38 5 ⟨s.toArray⟩ Tryd.underlying9 Tryd.underlying38 Tryd.underlying5
  rw [baSize] at h
  refine ⟨_, _, h, ((Ext.refl _).drew).alloc _, some ⟨w.heap.size, 0, none⟩, _, rfl, grownCap_ge _ _ _ _, grownCap_le_maxLen _ _ _ _ (by unfold maxLen; omega), ?_⟩
  refine bytes_of_cells rfl fun i hi => ?_
  have e : idF s i = .int .u8 ((s[i].toNat : Nat) : Int) := idF_at (List.getElem?_eq_getElem hi)
  rw [Nat.zero_add, e]
  show (w.drew.alloc _).cell? ⟨w.drew.heap.size, i, none⟩ = _
  rw [World.cell?_alloc_mark, bytesRow_at _ _ _ (by simpa using hi)]
  rfl
theorem bs51 (n : Nat) (ps : Array (Nat × Value)) : Instr.buildSlice 51 n ps = bsS 51 n ps := by unfold bsS; rfl
theorem run_bs51 (w : World) (f : Nat → Value) : (bsS 51 1 #[(0, .agg (arV f 32))]).run Tryd.prog w = .ok (.slice (some ⟨w.heap.size, 0, none⟩) 1 1) (w.alloc (.cells (arV f 32) 48)) :=
  run_bs 51 48 32 (idA []) Tryd.underlying51 (by unfold idA arV idF; kernel_rfl) (by decide) (by decide) w f
attribute [local go_sem ↓] bs51
attribute [local go_sem] run_bs51
theorem el51 : El 51 48 (.agg (idA [])) 32 32 := ⟨Tryd.underlying51, by unfold idA arV idF; kernel_rfl, by show (idA []).size = 32; exact arV_size, by decide, by decide⟩
/-- A digest's cells. -/
def idC (d : List UInt8) : List Value := (idA d).toList
theorem idC_len (d : List UInt8) : (idC d).length = 32 := by unfold idC; rw [Array.length_toList, arV_size]
theorem one_idC (d : List UInt8) : ∀ u ∈ [idC d].flatten, u.oneCell' = true := by
  intro u hu
  simp at hu
  exact one_id d u hu
abbrev Ids := List (List UInt8)
def lvlF : Ids → Ids
  | a :: b :: l => pairF a b :: lvlF l
  | l => l
theorem lvlF_len : ∀ l : Ids, (lvlF l).length = (l.length + 1) / 2
  | [] => by simp [lvlF]
  | [_] => by simp [lvlF]
  | a :: b :: l => by
    rw [lvlF, List.length_cons, lvlF_len l, List.length_cons, List.length_cons]
    omega
/-- The root of a row of digests. -/
def topF (l : Ids) : List UInt8 := if _h : l.length ≤ 1 then l.getD 0 [] else topF (lvlF l)
termination_by l.length
decreasing_by rw [lvlF_len]; omega
theorem topF_small {l : Ids} (h : l.length ≤ 1) : topF l = l.getD 0 [] := by rw [topF, dif_pos h]
theorem topF_large {l : Ids} (h : ¬ l.length ≤ 1) : topF l = topF (lvlF l) := by rw [topF, dif_neg h]
/-- The level above, half done. -/
theorem lvlF_step : ∀ (l : Ids) (k : Nat), 2 * k + 1 < l.length → lvlF (l.take (2 * k + 2)) = lvlF (l.take (2 * k)) ++ [pairF (l.getD (2 * k) []) (l.getD (2 * k + 1) [])]
  | [], k, h => by simp at h
  | [_], k, h => by simp at h
  | a :: b :: l, 0, _ => by simp [lvlF]
  | a :: b :: l, k + 1, h => by
    have ih := lvlF_step l k (by simp at h; omega)
    rw [show 2 * (k + 1) + 2 = (2 * k + 2) + 1 + 1 by omega, show 2 * (k + 1) = 2 * k + 1 + 1 by omega, List.take_succ_cons, List.take_succ_cons, List.take_succ_cons, List.take_succ_cons, lvlF, lvlF, ih]
    rfl
theorem lvlF_even {l : Ids} {k : Nat} (h : 2 * k = l.length) : lvlF (l.take (2 * k)) = lvlF l := by rw [h, List.take_length]
theorem lvlF_odd : ∀ (l : Ids) (k : Nat), 2 * k + 1 = l.length → lvlF l = lvlF (l.take (2 * k)) ++ [l.getD (2 * k) []]
  | [], k, h => by simp at h
  | [a], 0, _ => rfl
  | [a], k + 1, h => by simp at h
  | a :: b :: l, 0, h => by simp at h
  | a :: b :: l, k + 1, h => by
    have ih := lvlF_odd l k (by simp at h; omega)
    rw [show 2 * (k + 1) = 2 * k + 1 + 1 by omega, List.take_succ_cons, List.take_succ_cons, lvlF, lvlF, ih]
    rfl
/-- What stands for an item in the lowest row. -/
def nodF (x : It) : List UInt8 := pairF (leafF x.nm) (comF x)
def rootF (xs : List It) : List UInt8 := topF (xs.map nodF)
def Id32 (l : Ids) : Prop := ∀ d ∈ l, d.length = 32
theorem lvlF_32 : ∀ (l : Ids), Id32 l → Id32 (lvlF l)
  | [], h => h
  | [_], h => h
  | a :: b :: l, h => fun d hd => by
    rw [lvlF] at hd
    rcases List.mem_cons.1 hd with rfl | h1
    · exact pairF_len _ _
    · exact lvlF_32 l (fun d hd => h d (by simp [hd])) d h1
theorem ids_get {l : Ids} {j : Nat} (h : j < l.length) : (l.map idC).getD j [] = idC (l.getD j []) := by
  rw [List.getD_eq_getElem?_getD, List.getElem?_map, List.getElem?_eq_getElem h, List.getD_eq_getElem?_getD, List.getElem?_eq_getElem h]
  rfl
theorem mem_getD {α : Type} {l : List α} {j : Nat} {d : α} (h : j < l.length) : l.getD j d ∈ l := by
  rw [List.getD_eq_getElem?_getD, List.getElem?_eq_getElem h]
  exact List.getElem_mem h
/-- A digest out of a row, loaded whole. -/
theorem ids_read {w : World} {B : Nat} {v : Value} {l : Ids} (h : Row 32 w B 48 v (l.map idC)) : ∃ A c, v = .slice A l.length c ∧ ∀ j, j < l.length → ∃ b : Nat, A = some ⟨b, 0, none⟩ ∧ v.ownBlock = some b ∧ b < w.heap.size ∧ ∀ W, W.heap[b]? = w.heap[b]? → (ldS 48 (.pointer (some ⟨b, j * 32, none⟩))).run Tryd.prog W = .ok (idV (l.getD j [])) W := by
  have h' := h.2
  rcases h'.2 with ⟨rfl, h0⟩ | ⟨g, cap, cur, rfl, hb, hc, h1, h2, h3, h4⟩
  · refine ⟨none, 0, ?_, fun j hj => ?_⟩
    · rw [List.length_map] at h0
      rw [h0]
    · rw [List.length_map] at h0
      omega
  · refine ⟨some ⟨g, 0, none⟩, cap, by rw [List.length_map], fun j hj => ⟨g, rfl, rfl, (Array.getElem?_eq_some_iff.1 hc).1, fun W hW => ?_⟩⟩
    refine run_ld48 fun i hi => ?_
    have hcell : w.cell? ⟨g, j * 32 + i, none⟩ = some (idF (l.getD j []) i) := by
      have := World.ownsRow.cells h' rfl (j * 32 + i) (idF (l.getD j []) i) (by
        rw [h.1.at_ (by rw [List.length_map]; exact hj) hi, ids_get hj]
        unfold idC
        rw [Array.getElem?_toList, arV_at hi])
      rw [add0] at this
      exact this
    unfold World.cell? at hcell ⊢
    rw [hW]
    exact hcell

set_option maxRecDepth 100000 in
set_option maxHeartbeats 4000000 in
theorem root33_ok (xs : List It) (v : Value) (w : World) (h : DsAt w v xs) (hx : ∀ x ∈ xs, ItOk x) (hn : ∀ x ∈ xs, x.nm.length ≤ 1000) (hl : xs.length ≤ 100) (hT : Tab w) : Calls Tryd.prog 33 #[dsV v] w (RetId (rootF xs) w) := by
  obtain ⟨A, c, rfl, h1, h2, h3⟩ := h.read
  have HR := Lib.hid h3
  have HT := Lib.hid hT
  have HOK := Lib.hid hx
  have HN := Lib.hid hn
  clear h h3 h2 h1 hT hx hn
  go_enter Tryd.func33, Tryd.ntmps33
  go_upto_region 2 with fail
  generalize hwB : (w.alloc (.cells #[.slice A xs.length c] 32)).alloc (.cells (idA []) 48) = wB
  have t0 : wB.cell? ⟨w.heap.size, 0, none⟩ = some (.slice A xs.length c) := by rw [← hwB]; exact ((Ext.refl _).alloc _).cell (new_at _ _ _ 0 _ rfl)
  have HB0 : Hid (Bk wB (w.heap.size + 1) 32 (idF [])) := Lib.hid (by
    have e : (w.alloc (.cells #[.slice A xs.length c] 32)).heap.size = w.heap.size + 1 := by simp
    rw [← hwB, ← e]
    exact Bk.new (by decide))
  have HE0 : Hid (Ext w wB) := Lib.hid (by rw [← hwB]; exact ((Ext.refl _).alloc _).alloc _)
  have hz0 : w.heap.size + 2 ≤ wB.heap.size := by rw [← hwB]; simp
  clear hwB
  go_wp2_with fail
  clear t0
  go_loopw [3, 11] (fun t i wr => ∃ (k : Nat) (l : Ids) (v : Value), k ≤ xs.length ∧ i = iV (k : Int) ∧ t = v ∧ l = (xs.take k).map nodF ∧ Row 32 wr (w.heap.size + 2) 48 v (l.map idC) ∧ Bk wr (w.heap.size + 1) 32 (idF []) ∧ Ext w wr ∧ w.heap.size + 2 ≤ wr.heap.size) (fun _ i _ => xs.length - (intOf i).toNat)
  case atStart => exact ⟨0, [], nilV, by omega, rfl, rfl, rfl, Row.nil _ _ _ _, HB0.out, HE0.out, hz0⟩
  case round =>
    obtain ⟨k, l, v, hk, rfl, rfl, hp, hr, hb, hX, hz1⟩ := hrel
    have HP := Lib.hid hp
    have HPL : Hid (l.length = k) := Lib.hid (by rw [hp, List.length_map, List.length_take]; omega)
    have HRW := Lib.hid hr
    have HB1 := Lib.hid hb
    have HX := Lib.hid hX
    obtain ⟨Av, cv, hv, -, -⟩ := HRW.out.form
    rw [List.length_map, HPL.out] at hv
    subst hv
    clear hp hr hb hX
    by_cases hlt : k < xs.length
    · have q1 : (k : Int) < (xs.length : Int) := by omega
      have q0 : (0 : Int) ≤ (k : Int) := by omega
      obtain ⟨bb, o, A1, c1, rfl, hb, cR, v1, v2, v3⟩ := HR.out wr HX.out k hlt
      obtain ⟨x, hx⟩ : ∃ x, xs.getD k It0 = x := ⟨_, rfl⟩
      rw [hx] at cR v1 v3
      have l1 := run_ld75 cR
      have HF : Hid (xs.take (k + 1) = xs.take k ++ [x]) := Lib.hid (by
        rw [List.take_succ_eq_append_getElem hlt, ← hx, List.getD_eq_getElem?_getD, List.getElem?_eq_getElem hlt]
        rfl)
      have HXO : Hid (ItOk x) := Lib.hid (HOK.out x (by rw [← hx]; exact mem_getD hlt))
      have HXN : Hid (x.nm.length ≤ 1000) := Lib.hid (HN.out x (by rw [← hx]; exact mem_getD hlt))
      have HSV : Hid (SlB wr (.slice A1 x.vl.length c1) x.vl) := Lib.hid ⟨A1, c1, rfl, v1, v2, v3⟩
      clear hx cR v1 v2 v3
      go_upto_region 5 with fail
      clear l1
      generalize hw4 : wr.alloc (.cells (itA x.nm x.op x.cm (.slice A1 x.vl.length c1) x.sl) 75) = w4
      have HBX : Hid (Bk w4 wr.heap.size 51 (itF x.nm x.op x.cm (.slice A1 x.vl.length c1) x.sl)) := Lib.hid (by rw [← hw4]; exact Bk.new (by decide))
      have HE4 : Hid (Ext wr w4) := Lib.hid (by rw [← hw4]; exact (Ext.refl _).alloc _)
      clear hw4
      obtain ⟨c3, w3, hcv, hE3, hS3⟩ := conv938 w4.drew x.nm (by have := HXN.out; omega)
      have hX3 : Ext w4 w3 := ((Ext.refl _).drew).trans hE3
      have HS3 := Lib.hid hS3
      clear hE3 hS3
      have KB : Hid (∀ W, Ext w4 W → (fun w' => w'.cell? ⟨wr.heap.size, 0, none⟩ = some (sV x.nm) ∧ (ldS 75 (.pointer (some ⟨wr.heap.size, 0, none⟩))).run Tryd.prog w' = .ok (.agg (itA x.nm x.op x.cm (.slice A1 x.vl.length c1) x.sl)) w') W) := Lib.hid (fun W h => ⟨(HBX.out.ext h).cell (by decide), (HBX.out.ext h).run_ld75⟩)
      refine wp_region_noPanic ?_
      refine wp_region_X (S := (fun w' => w'.cell? ⟨wr.heap.size, 0, none⟩ = some (sV x.nm) ∧ (ldS 75 (.pointer (some ⟨wr.heap.size, 0, none⟩))).run Tryd.prog w' = .ok (.agg (itA x.nm x.op x.cm (.slice A1 x.vl.length c1) x.sl)) w')) (z := 10) (by kernel_rfl) ?_ (fun hHeld => ?_)
      · first | assumption | exact KB.out _ (by repeat (first | assumption | exact Ext.refl _ | apply Ext.alloc | apply Ext.drew | apply Ext.drewN))
      refine wpAnyX_take (i := 0) (v := ?_) (oper_at rfl) (by kernel_rfl) (by kernel_rfl) (by kernel_rfl) (by kernel_rfl) (fun _ _ _ h => h) (Or.inl ⟨by rfl, ?_⟩) hHeld ?_
      rotate_left
      · (intro ww hSw; (try dsimp only at hSw); go_simp; try (with_reducible rfl))
      try simp only [Act.put, List.setIfInBounds_toArray, List.set_cons_zero, List.set_cons_succ]
      refine wpAnyX_take (i := 1) (v := ?_) (oper_at rfl) (by kernel_rfl) (by kernel_rfl) (by kernel_rfl) (by kernel_rfl) (fun _ _ _ h => h) (Or.inl ⟨by rfl, ?_⟩) hHeld ?_
      rotate_left
      · (intro ww hSw; (try dsimp only at hSw); go_simp; try (with_reducible rfl))
      try simp only [Act.put, List.setIfInBounds_toArray, List.set_cons_zero, List.set_cons_succ]
      refine wpAnyX_take (i := 2) (v := ?_) (oper_at rfl) (by kernel_rfl) (by kernel_rfl) (by kernel_rfl) (by kernel_rfl) (fun _ _ _ h => h) (Or.inl ⟨by rfl, ?_⟩) hHeld ?_
      rotate_left
      · (intro ww hSw; (try dsimp only at hSw); go_simp; try (with_reducible rfl))
      try simp only [Act.put, List.setIfInBounds_toArray, List.set_cons_zero, List.set_cons_succ]
      refine wpAnyX_take (i := 5) (v := ?_) (oper_at rfl) (by kernel_rfl) (by kernel_rfl) (by kernel_rfl) (by kernel_rfl) (fun _ _ _ h => h) (Or.inl ⟨by rfl, ?_⟩) hHeld ?_
      rotate_left
      · (intro ww hSw; (try dsimp only at hSw); go_simp; try (with_reducible rfl))
      try simp only [Act.put, List.setIfInBounds_toArray, List.set_cons_zero, List.set_cons_succ]
      refine wpAnyX_ready (rs := [3]) (by kernel_rfl) (by simp) (AllReadyX.cons (by decide) (oper_at rfl) (fun K hK => ?_) AllReadyX.nil)
      go_simp
      refine hK.out _ _ ?_ (fun hHeld => ?_)
      · first | assumption | exact KB.out _ (by repeat (first | assumption | exact Ext.refl _ | apply Ext.alloc | apply Ext.drew | apply Ext.drewN))
      clear hK K
      try simp only [Act.put, List.setIfInBounds_toArray, List.set_cons_zero, List.set_cons_succ]
      refine wpAnyX_ready (rs := [4]) (by kernel_rfl) (by simp) (AllReadyX.cons (by decide) (oper_at rfl) (fun K hK => ?_) AllReadyX.nil)
      go_simp
      go_at_call 38
      refine (leaf38_ok _ _ w3 HS3.out (HT.out.ext (HX.out.trans (HE4.out.trans hX3)))).mono ?_
      rintro _ w5 ⟨rfl, hE5⟩
      have hX5 : Ext w4 w5 := hX3.trans hE5
      clear hE5
      try go_wp2_with fail
      refine hK.out _ _ ?_ (fun hHeld => ?_)
      · first | assumption | exact KB.out _ (by repeat (first | assumption | exact Ext.refl _ | apply Ext.alloc | apply Ext.drew | apply Ext.drewN))
      clear hK K
      try simp only [Act.put, List.setIfInBounds_toArray, List.set_cons_zero, List.set_cons_succ]
      refine wpAnyX_ready (rs := [6]) (by kernel_rfl) (by simp) (AllReadyX.cons (by decide) (oper_at rfl) (fun K hK => ?_) AllReadyX.nil)
      go_simp
      go_at_call 60
      refine (commit60_ok x _ w5 (HSV.out.ext (HE4.out.trans hX5)) (HT.out.ext (HX.out.trans (HE4.out.trans hX5))) HXO.out).mono ?_
      rintro _ w6 ⟨rfl, hE6⟩
      have hX6 : Ext w4 w6 := hX5.trans hE6
      clear hE6
      try go_wp2_with fail
      refine hK.out _ _ ?_ (fun hHeld => ?_)
      · first | assumption | exact KB.out _ (by repeat (first | assumption | exact Ext.refl _ | apply Ext.alloc | apply Ext.drew | apply Ext.drewN))
      clear hK K
      try simp only [Act.put, List.setIfInBounds_toArray, List.set_cons_zero, List.set_cons_succ]
      refine wpAnyX_ready (rs := [7]) (by kernel_rfl) (by simp) (AllReadyX.cons (by decide) (oper_at rfl) (fun K hK => ?_) AllReadyX.nil)
      go_simp
      go_at_call 40
      refine (pair40_ok _ _ (leafF_len _) (comF_len HXO.out) w6 (HT.out.ext (HX.out.trans (HE4.out.trans hX6)))).mono ?_
      rintro _ w7 ⟨rfl, hE7⟩
      have hX7 : Ext w4 w7 := hX6.trans hE7
      clear hE7
      try go_wp2_with fail
      refine hK.out _ _ ?_ (fun hHeld => ?_)
      · first | assumption | exact KB.out _ (by repeat (first | assumption | exact Ext.refl _ | apply Ext.alloc | apply Ext.drew | apply Ext.drewN))
      clear hK K
      try simp only [Act.put, List.setIfInBounds_toArray, List.set_cons_zero, List.set_cons_succ]
      refine wpAnyX_ready (rs := [8]) (by kernel_rfl) (by simp) (AllReadyX.cons (by decide) (oper_at rfl) (fun K hK => ?_) AllReadyX.nil)
      go_simp
      refine hK.out _ _ ?_ (fun hHeld => ?_)
      · first | assumption | exact KB.out _ (by repeat (first | assumption | exact Ext.refl _ | apply Ext.alloc | apply Ext.drew | apply Ext.drewN))
      clear hK K
      try simp only [Act.put, List.setIfInBounds_toArray, List.set_cons_zero, List.set_cons_succ]
      refine wpAnyX_ready (rs := [9]) (by kernel_rfl) (by simp) (AllReadyX.cons (by decide) (oper_at rfl) (fun K hK => ?_) AllReadyX.nil)
      refine sappB el51 (by rfl) (.tmp 15) (.tmp 23) (by rfl) (B := w.heap.size + 2) (vs := l.map idC) (us := [idC (nodF x)]) (by rfl) (by have := hX7.size; have := HE4.out.size; simp; omega) (HRW.out.ext (HE4.out.trans (hX7.alloc _))) (by rfl) rfl (Wide.one (idC_len _)) (by simp only [List.flatten_cons, List.flatten_nil, List.append_nil]; exact vs1 _ _ _) (one_idC _) (by rw [List.length_map, HPL.out]; simp; omega) (by rw [List.length_map, HPL.out]; simp; omega) ?_
      intro v9 w9 hr9 hg9 hb9
      have hX8 : Ext wr (w7.alloc (.cells (idA (pairF (leafF x.nm) (comF x))) 48)) := HE4.out.trans (hX7.alloc _)
      have hX84 : Ext w4 (w7.alloc (.cells (idA (pairF (leafF x.nm) (comF x))) 48)) := hX7.alloc _
      have hown : ∀ kk, (Value.slice Av k cv).ownBlock = some kk → w.heap.size + 2 ≤ kk ∧ kk < wr.heap.size := fun kk e => HRW.out.lt kk e
      have HB9 := Lib.hid ((HB1.out.ext hX8).kept (hg9.block _ ((HB1.out.ext hX8).lt) (fun e => by have := (hown _ e.symm).1; omega)))
      have HX9 : Hid (Ext w w9) := Lib.hid (ext_grow (HX.out.trans hX8) hg9 (fun kk e => by have := (hown kk e).1; omega))
      have HR9 : Hid (Row 32 w9 (w.heap.size + 2) 48 v9 ((l ++ [nodF x]).map idC)) := Lib.hid (by rw [List.map_append]; exact hr9)
      have hz9 : w.heap.size + 2 ≤ w9.heap.size := Nat.le_trans (Nat.le_trans hz1 hX8.size) hg9.size
      have hbx := (HBX.out.ext hX84).kept (hg9.block _ ((HBX.out.ext hX84).lt) (fun e => by have := (hown _ e.symm).2; omega))
      have y0 := hbx.cell (k := 0) (by decide)
      have y1 := hbx.run_ld75
      clear hr9 hg9 hb9 hown hX8 hX84 hbx
      refine hK.out _ _ ?_ (fun hHeld => ?_)
      · exact ⟨y0, y1⟩
      clear hK K
      try simp only [Act.put, List.setIfInBounds_toArray, List.set_cons_zero, List.set_cons_succ]
      refine wpAnyX_ready (rs := [10]) (by kernel_rfl) (by simp) (AllReadyX.last rfl (oper_at rfl) (fun K hK => ?_))
      go_simp
      refine hK.out _ _ ?_
      clear hK K
      try simp only [Act.put, List.setIfInBounds_toArray, List.set_cons_zero, List.set_cons_succ]
      refine wpAnyX_done (by kernel_rfl) ?_ _
      refine NoPanic.normal ?_
      go_wp2_with fail
      exact ⟨⟨k + 1, l ++ [nodF x], _, by omega, by go_num, rfl, by rw [HF.out, List.map_append, HP.out]; rfl, HR9.out, HB9.out, HX9.out, hz9⟩, by simp [intOf]; omega⟩
    · obtain rfl : k = xs.length := by omega
      rw [List.take_length] at HP
      by_cases hz : xs.length = 0
      · have q1 : ((xs.length : Int) == 0) = true := by simp [hz]
        have l2 := run_st48 HB1.out []
        go_wp2_with fail
        have hr : rootF xs = [] := by
          have : xs = [] := List.eq_nil_of_length_eq_zero hz
          subst this
          unfold rootF
          rw [topF_small (by simp)]
          rfl
        rw [hr]
        exact bodyPost_ret (resBk Tryd.results33 (g := w.heap.size + 1) rfl HB1.out.putAll Tryd.underlying48 rfl Tryd.size48) rfl ⟨rfl, Ext.setCells (by omega) _ _ HX.out⟩
      · have q1 : ((xs.length : Int) == 0) = false := by simpa using hz
        have HI : Hid (Id32 l) := Lib.hid (fun d hd => by
          rw [HP.out] at hd
          obtain ⟨x, hx, rfl⟩ := List.mem_map.1 hd
          exact pairF_len _ _)
        have HTO : Hid (rootF xs = topF l) := Lib.hid (by rw [HP.out]; rfl)
        go_wp2_with fail
        clear q1
        generalize hwo : wr = wo at *
        clear hwo
        go_loopw [3] (fun t wr => ∃ (m : Ids) (v : Value), t = v ∧ Row 32 wr (w.heap.size + 2) 48 v (m.map idC) ∧ Id32 m ∧ topF m = topF l ∧ 0 < m.length ∧ m.length ≤ 100 ∧ Bk wr (w.heap.size + 1) 32 (idF []) ∧ Ext w wr ∧ w.heap.size + 2 ≤ wr.heap.size) (fun t _ => sLen t)
        case atStart => exact ⟨l, _, rfl, HRW.out, HI.out, rfl, by rw [HPL.out]; omega, by rw [HPL.out]; omega, HB1.out, HX.out, hz1⟩
        case round =>
          obtain ⟨m, v, rfl, hr, hi, ht, hm0, hm1, hb, hX, hz2⟩ := hrel
          obtain ⟨wn, rfl⟩ : ∃ wn, wn = wr := ⟨_, rfl⟩
          obtain ⟨A', c', hv, HRD⟩ := ids_read hr
          subst hv
          have HRD := Lib.hid HRD
          have HRN := Lib.hid hr
          have HIN := Lib.hid hi
          have HTN := Lib.hid ht
          have HBN := Lib.hid hb
          have HXN := Lib.hid hX
          clear hr hi ht hb hX HRW HI HB1 HX
          by_cases h1 : m.length ≤ 1
          · have q1 : ¬ (1 : Int) < (m.length : Int) := by omega
            obtain ⟨b, rfl, -, hbl, hld⟩ := HRD.out 0 (by omega)
            have l1 := hld wn rfl
            obtain ⟨d0, hd0⟩ : ∃ d, m.getD 0 [] = d := ⟨_, rfl⟩
            rw [hd0] at l1
            have l2 := run_st48 HBN.out d0
            have HD0 := Lib.hid hd0
            clear hd0 hld
            have q2 : (0 : Int) < (m.length : Int) := by omega
            rw [Nat.zero_mul] at l1
            go_wp2_with fail
            rw [HTO.out, ← HTN.out, topF_small h1, HD0.out]
            exact bodyPost_ret (resBk Tryd.results33 (g := w.heap.size + 1) rfl HBN.out.putAll Tryd.underlying48 rfl Tryd.size48) rfl ⟨rfl, Ext.setCells (by omega) _ _ HXN.out⟩
          · have q1 : (1 : Int) < (m.length : Int) := by omega
            go_wp2_with fail
            go_loopw [6, 7] (fun t i wr => ∃ (j p : Nat) (v : Value), 2 * j = p ∧ p ≤ m.length ∧ i = iV (p : Int) ∧ t = v ∧ Row 32 wr wn.heap.size 48 v ((lvlF (m.take p)).map idC) ∧ Ext wn wr) (fun _ i _ => m.length - (intOf i).toNat)
            case atStart => exact ⟨0, 0, nilV, rfl, by omega, rfl, rfl, by simpa [lvlF] using Row.nil 32 wn wn.heap.size 48, Ext.refl _⟩
            case round =>
              obtain ⟨j, p, v, hj, hpm, rfl, rfl, hr, hX⟩ := hrel
              have HJ := Lib.hid hj
              have HRI := Lib.hid hr
              have HXI := Lib.hid hX
              have HLL : Hid ((lvlF (m.take p)).length ≤ 100) := Lib.hid (by rw [lvlF_len, List.length_take]; omega)
              obtain ⟨Av, cv, hv, -, -⟩ := HRI.out.form
              obtain ⟨nl, hnl⟩ : ∃ nl, ((lvlF (m.take p)).map idC).length = nl := ⟨_, rfl⟩
              rw [hnl] at hv
              subst hv
              have HNL := Lib.hid hnl
              clear hj hr hX hnl
              by_cases hlt : p + 1 < m.length
              · obtain ⟨b, hb1, hb2, hbl, ld1⟩ := HRD.out p (by omega)
                obtain ⟨b', hb1', -, -, ld2⟩ := HRD.out (p + 1) hlt
                subst hb1
                obtain rfl : b = b' := by simpa using hb1'
                obtain ⟨da, hda⟩ : ∃ d, m.getD p [] = d := ⟨_, rfl⟩
                obtain ⟨db, hdb⟩ : ∃ d, m.getD (p + 1) [] = d := ⟨_, rfl⟩
                have HDA : Hid (da.length = 32 ∧ db.length = 32) := Lib.hid ⟨by rw [← hda]; exact HIN.out _ (mem_getD (by omega)), by rw [← hdb]; exact HIN.out _ (mem_getD hlt)⟩
                have HST : Hid (lvlF (m.take (p + 2)) = lvlF (m.take p) ++ [pairF da db]) := Lib.hid (by
                  have := lvlF_step m j (by have := HJ.out; omega)
                  rw [HJ.out, hda, hdb] at this
                  exact this)
                rw [hda] at ld1
                rw [hdb] at ld2
                have q2 : (p : Int) + 1 < (m.length : Int) := by omega
                have q3 : (0 : Int) ≤ (p : Int) := by omega
                have q4 : (p : Int) < (m.length : Int) := by omega
                have q5 : (p : Int) ≤ 100 := by omega
                have LD := Lib.hid (And.intro ld1 ld2)
                have HBL := Lib.hid hbl
                have e2 : IntKind.i64.wrap ((p : Int) + 1) = (p : Int) + 1 := IntWalk.i64_in _ (by omega)
                have q6 : (0 : Int) ≤ (p : Int) + 1 := by omega
                clear hda hdb ld1 ld2 hb1' hbl
                go_upto_region 14 with fail
                have KB : Hid (∀ W, Ext wn W → (fun w' => Ext wn w' ∧ (ldS 48 (.pointer (some ⟨b, p * 32, none⟩))).run Tryd.prog w' = .ok (idV da) w' ∧ (ldS 48 (.pointer (some ⟨b, (p + 1) * 32, none⟩))).run Tryd.prog w' = .ok (idV db) w') W) := Lib.hid (fun W h => ⟨h, LD.out.1 W (h.block _ HBL.out), LD.out.2 W (h.block _ HBL.out)⟩)
                have hXI := HXI.out
                refine wp_region_noPanic ?_
                refine wp_region_X (S := (fun w' => Ext wn w' ∧ (ldS 48 (.pointer (some ⟨b, p * 32, none⟩))).run Tryd.prog w' = .ok (idV da) w' ∧ (ldS 48 (.pointer (some ⟨b, (p + 1) * 32, none⟩))).run Tryd.prog w' = .ok (idV db) w')) (z := 13) (by kernel_rfl) ?_ (fun hHeld => ?_)
                · first | assumption | exact KB.out _ (by repeat (first | assumption | exact Ext.refl _ | apply Ext.alloc | apply Ext.drew | apply Ext.drewN))
                refine wpAnyX_take (i := 0) (v := ?_) (oper_at rfl) (by kernel_rfl) (by kernel_rfl) (by kernel_rfl) (by kernel_rfl) (fun _ _ _ h => h) (Or.inl ⟨by rfl, ?_⟩) hHeld ?_
                rotate_left
                · (intro ww hSw; (try dsimp only at hSw); go_simp; try (with_reducible rfl))
                try simp only [Act.put, List.setIfInBounds_toArray, List.set_cons_zero, List.set_cons_succ]
                refine wpAnyX_take (i := 1) (v := ?_) (oper_at rfl) (by kernel_rfl) (by kernel_rfl) (by kernel_rfl) (by kernel_rfl) (fun _ _ _ h => h) (Or.inl ⟨by rfl, ?_⟩) hHeld ?_
                rotate_left
                · (intro ww hSw; (try dsimp only at hSw); go_simp; try (with_reducible rfl))
                try simp only [Act.put, List.setIfInBounds_toArray, List.set_cons_zero, List.set_cons_succ]
                refine wpAnyX_take (i := 2) (v := ?_) (oper_at rfl) (by kernel_rfl) (by kernel_rfl) (by kernel_rfl) (by kernel_rfl) (fun _ _ _ h => h) (Or.inl ⟨by rfl, ?_⟩) hHeld ?_
                rotate_left
                · (intro ww hSw; (try dsimp only at hSw); go_simp; try (with_reducible rfl))
                try simp only [Act.put, List.setIfInBounds_toArray, List.set_cons_zero, List.set_cons_succ]
                refine wpAnyX_take (i := 3) (v := ?_) (oper_at rfl) (by kernel_rfl) (by kernel_rfl) (by kernel_rfl) (by kernel_rfl) (fun _ _ _ h => h) (Or.inl ⟨by rfl, ?_⟩) hHeld ?_
                rotate_left
                · (intro ww hSw; (try dsimp only at hSw); go_simp; try (with_reducible rfl))
                try simp only [Act.put, List.setIfInBounds_toArray, List.set_cons_zero, List.set_cons_succ]
                refine wpAnyX_take (i := 4) (v := ?_) (oper_at rfl) (by kernel_rfl) (by kernel_rfl) (by kernel_rfl) (by kernel_rfl) (fun _ _ _ h => h) (Or.inl ⟨by rfl, ?_⟩) hHeld ?_
                rotate_left
                · (intro ww hSw; (try dsimp only at hSw); go_simp; try (with_reducible rfl))
                try simp only [Act.put, List.setIfInBounds_toArray, List.set_cons_zero, List.set_cons_succ]
                refine wpAnyX_take (i := 5) (v := ?_) (oper_at rfl) (by kernel_rfl) (by kernel_rfl) (by kernel_rfl) (by kernel_rfl) (fun _ _ _ h => h) (Or.inl ⟨by rfl, ?_⟩) hHeld ?_
                rotate_left
                · (intro ww hSw; (try dsimp only at hSw); go_simp; try (with_reducible rfl))
                try simp only [Act.put, List.setIfInBounds_toArray, List.set_cons_zero, List.set_cons_succ]
                refine wpAnyX_take (i := 6) (v := ?_) (oper_at rfl) (by kernel_rfl) (by kernel_rfl) (by kernel_rfl) (by kernel_rfl) (fun _ _ _ h => h) (Or.inl ⟨by rfl, ?_⟩) hHeld ?_
                rotate_left
                · (intro ww hSw; (try dsimp only at hSw); go_simp; try (with_reducible rfl))
                try simp only [Act.put, List.setIfInBounds_toArray, List.set_cons_zero, List.set_cons_succ]
                refine wpAnyX_take (i := 7) (v := ?_) (oper_at rfl) (by kernel_rfl) (by kernel_rfl) (by kernel_rfl) (by kernel_rfl) (fun _ _ _ h => h) (Or.inl ⟨by rfl, ?_⟩) hHeld ?_
                rotate_left
                · (intro ww hSw; (try dsimp only at hSw); go_simp; try (with_reducible rfl))
                try simp only [Act.put, List.setIfInBounds_toArray, List.set_cons_zero, List.set_cons_succ]
                refine wpAnyX_take (i := 8) (v := ?_) (oper_at rfl) (by kernel_rfl) (by kernel_rfl) (by kernel_rfl) (by kernel_rfl) (fun _ _ _ h => h) (Or.inl ⟨by rfl, ?_⟩) hHeld ?_
                rotate_left
                · (intro ww hSw; (try dsimp only at hSw); go_simp; try (with_reducible rfl))
                try simp only [Act.put, List.setIfInBounds_toArray, List.set_cons_zero, List.set_cons_succ]
                refine wpAnyX_take (i := 9) (v := ?_) (oper_at rfl) (by kernel_rfl) (by kernel_rfl) (by kernel_rfl) (by kernel_rfl) (fun _ _ _ h => h) (Or.inl ⟨by rfl, ?_⟩) hHeld ?_
                rotate_left
                · (intro ww hSw; (try dsimp only at hSw); go_simp; try (with_reducible rfl))
                try simp only [Act.put, List.setIfInBounds_toArray, List.set_cons_zero, List.set_cons_succ]
                refine wpAnyX_ready (rs := [10]) (by kernel_rfl) (by simp) (AllReadyX.cons (by decide) (oper_at rfl) (fun K hK => ?_) AllReadyX.nil)
                go_simp
                go_at_call 40
                refine (pair40_ok _ _ HDA.out.1 HDA.out.2 _ (HT.out.ext (HXN.out.trans (by repeat (first | assumption | exact Ext.refl _ | apply Ext.alloc | apply Ext.drew | apply Ext.drewN))))).mono ?_
                rintro _ w7 ⟨rfl, hE7⟩
                have hX7 : Ext wn w7 := Ext.trans (by repeat (first | assumption | exact Ext.refl _ | apply Ext.alloc | apply Ext.drew | apply Ext.drewN)) hE7
                have hI7 : Ext wr w7 := Ext.trans (by repeat (first | assumption | exact Ext.refl _ | apply Ext.alloc | apply Ext.drew | apply Ext.drewN)) hE7
                clear hE7
                try go_wp2_with fail
                refine hK.out _ _ ?_ (fun hHeld => ?_)
                · first | assumption | exact KB.out _ (by repeat (first | assumption | exact Ext.refl _ | apply Ext.alloc | apply Ext.drew | apply Ext.drewN))
                clear hK K
                try simp only [Act.put, List.setIfInBounds_toArray, List.set_cons_zero, List.set_cons_succ]
                refine wpAnyX_ready (rs := [11]) (by kernel_rfl) (by simp) (AllReadyX.cons (by decide) (oper_at rfl) (fun K hK => ?_) AllReadyX.nil)
                go_simp
                refine hK.out _ _ ?_ (fun hHeld => ?_)
                · first | assumption | exact KB.out _ (by repeat (first | assumption | exact Ext.refl _ | apply Ext.alloc | apply Ext.drew | apply Ext.drewN))
                clear hK K
                try simp only [Act.put, List.setIfInBounds_toArray, List.set_cons_zero, List.set_cons_succ]
                refine wpAnyX_ready (rs := [12]) (by kernel_rfl) (by simp) (AllReadyX.cons (by decide) (oper_at rfl) (fun K hK => ?_) AllReadyX.nil)
                refine sapp el51 (by rfl) (.tmp 40) (.tmp 51) (by rfl) (w5 := wn) (vs := (lvlF (m.take p)).map idC) (us := [idC (pairF da db)]) (by rfl) (hX7.alloc _) (HRI.out.ext (hI7.alloc _)) (by rfl) rfl (Wide.one (idC_len _)) (by simp only [List.flatten_cons, List.flatten_nil, List.append_nil]; exact vs1 _ _ _) (one_idC _) (by rw [List.length_map]; have := HLL.out; simp; omega) (by rw [List.length_map]; have := HLL.out; simp; omega) ?_
                intro v9 w9 hr9 hE9 hg9 hb9
                have HR9 : Hid (Row 32 w9 wn.heap.size 48 v9 ((lvlF (m.take (p + 2))).map idC)) := Lib.hid (by rw [HST.out, List.map_append]; exact hr9)
                clear hr9 hg9 hb9
                refine hK.out _ _ ?_ (fun hHeld => ?_)
                · first | assumption | exact KB.out _ (by repeat (first | assumption | exact Ext.refl _ | apply Ext.alloc | apply Ext.drew | apply Ext.drewN))
                clear hK K
                try simp only [Act.put, List.setIfInBounds_toArray, List.set_cons_zero, List.set_cons_succ]
                refine wpAnyX_ready (rs := [13]) (by kernel_rfl) (by simp) (AllReadyX.last rfl (oper_at rfl) (fun K hK => ?_))
                go_simp
                refine hK.out _ _ ?_
                clear hK K
                try simp only [Act.put, List.setIfInBounds_toArray, List.set_cons_zero, List.set_cons_succ]
                refine wpAnyX_done (by kernel_rfl) ?_ _
                refine NoPanic.normal ?_
                go_wp2_with fail
                exact ⟨⟨j + 1, p + 2, _, by have := HJ.out; omega, by omega, by go_num, rfl, HR9.out, hE9⟩, by simp [intOf]; omega⟩
              · have hpe : p = m.length ∨ p + 1 = m.length := by omega
                have HML : Hid ((lvlF m).length = (m.length + 1) / 2) := Lib.hid (lvlF_len m)
                have HM32 := Lib.hid (lvlF_32 m HIN.out)
                have HTM : Hid (topF (lvlF m) = topF l) := Lib.hid (by rw [← topF_large h1]; exact HTN.out)
                have q2 : ¬ (p : Int) + 1 < (m.length : Int) := by omega
                have q5 : (p : Int) ≤ 100 := by omega
                rcases hpe with hpe | hpe
                · have q6 : ((m.length : Int) % 2 == 1) = false := by rw [beq_eq_false_iff_ne]; have := HJ.out; omega
                  have HR2 : Hid (Row 32 wr wn.heap.size 48 (.slice Av nl cv) ((lvlF m).map idC)) := Lib.hid (by
                    have := HRI.out
                    rw [hpe, List.take_length] at this
                    exact this)
                  have hnl2 : nl = (m.length + 1) / 2 := by
                    rw [← HNL.out, List.length_map, hpe, List.take_length, HML.out]
                  have HNE := Lib.hid hnl2
                  clear hpe hnl2
                  go_wp2_with fail
                  refine ⟨⟨lvlF m, _, rfl, HR2.out.base hz2, HM32.out, HTM.out, by rw [HML.out]; omega, by rw [HML.out]; omega, HBN.out.ext HXI.out, HXN.out.trans HXI.out, Nat.le_trans hz2 HXI.out.size⟩, ?_⟩
                  show nl < m.length
                  rw [HNE.out]
                  omega
                · have q6 : ((m.length : Int) % 2 == 1) = true := by rw [beq_iff_eq]; have := HJ.out; omega
                  obtain ⟨b, hb1, hb2, hbl, ld1⟩ := HRD.out p (by omega)
                  subst hb1
                  obtain ⟨da, hda⟩ : ∃ d, m.getD p [] = d := ⟨_, rfl⟩
                  have HLM : Hid (lvlF m = lvlF (m.take p) ++ [da]) := Lib.hid (by
                    have := lvlF_odd m j (by have := HJ.out; omega)
                    rw [HJ.out, hda] at this
                    exact this)
                  rw [hda] at ld1
                  have l1 := ld1 wr (HXI.out.block _ hbl)
                  have q7 : IntKind.i64.wrap ((m.length : Int) - 1) = (p : Int) := by rw [IntWalk.i64_in _ (by omega)]; omega
                  have q8 : (m.length : Int) - 1 = (p : Int) := by omega
                  have q9 : (p : Int) < (m.length : Int) := by omega
                  have q10 : (0 : Int) ≤ (p : Int) := by omega
                  have HPE := Lib.hid hpe
                  clear hpe hda ld1 hbl
                  go_wp2_with (at_builtin; go_loud (refine wapp el51 rfl (.tmp 57) (.tmp 64) rfl (w5 := wn) (vs := (lvlF (m.take p)).map idC) (us := [idC da]) rfl (HXI.out.alloc _) (HRI.out.ext ((Ext.refl _).alloc _)) rfl rfl (Wide.one (idC_len _)) (by simp only [List.flatten_cons, List.flatten_nil, List.append_nil]; exact vs1 _ _ _) (one_idC _) (by rw [List.length_map]; have := HLL.out; simp; omega) (by rw [List.length_map]; have := HLL.out; simp; omega) ?_; intro v9 w9 hr9 hE9 hg9 hb9; have HR9 := Lib.hid hr9; have HE9 := Lib.hid hE9; clear hr9 hE9 hg9 hb9))
                  have hr : Row 32 w9 wn.heap.size 48 v9 ((lvlF m).map idC) := by rw [HLM.out, List.map_append]; exact HR9.out
                  obtain ⟨A9, c9, e9, -, -⟩ := hr.form
                  refine ⟨⟨lvlF m, _, rfl, hr.base hz2, HM32.out, HTM.out, by rw [HML.out]; omega, by rw [HML.out]; omega, HBN.out.ext HE9.out, HXN.out.trans HE9.out, Nat.le_trans hz2 HE9.out.size⟩, ?_⟩
                  rw [e9]
                  show ((lvlF m).map idC).length < m.length
                  rw [List.length_map, HML.out]
                  omega
end Go.Proofs.YtjedhndhdkiidaaDoor
