/- Fields, items and names in memory; a document's check. -/
import Derived.Test.YtjedhndhdkiidaaDoorV1
namespace Go.Proofs.YtjedhndhdkiidaaDoor
open Go.RowKit
attribute [local go_sem ↓] Go.wp_at_zero Go.wp_at_succ
/-- Bytes behind a slice. -/
def SlB (w : World) (v : Value) (xs : List UInt8) : Prop := ∃ A c, v = .slice A xs.length c ∧ xs.length ≤ c ∧ c ≤ maxLen ∧ BytesAt w A xs
theorem SlB.ext {w w' : World} {v : Value} {xs : List UInt8} (h : SlB w v xs) (k : Ext w w') : SlB w' v xs := by
  obtain ⟨A, c, e, h1, h2, h3⟩ := h
  exact ⟨A, c, e, h1, h2, h3.ext k⟩
theorem SlB.nil (w : World) : SlB w nilV [] := ⟨none, 0, rfl, by simp, by unfold maxLen; omega, BytesAt.nil_ _ _⟩
/-- A field. -/
structure Fd where
  nm : List UInt8
  vl : List UInt8
  sl : List UInt8
abbrev Fd0 : Fd := ⟨[], [], []⟩
def FdAt (w : World) (u : List Value) (f : Fd) : Prop := ∃ v s, u = [sV f.nm, v, s] ∧ SlB w v f.vl ∧ SlB w s f.sl
theorem FdAt.ext {w w' : World} {u : List Value} {f : Fd} (h : FdAt w u f) (k : Ext w w') : FdAt w' u f := by
  obtain ⟨v, s, e, h1, h2⟩ := h
  exact ⟨v, s, e, h1.ext k, h2.ext k⟩
/-- Fields behind a slice. -/
def FsAt (w : World) (v : Value) (fs : List Fd) : Prop := ∃ us, SlAt 3 w v us ∧ us.length = fs.length ∧ ∀ j, j < fs.length → FdAt w (us.getD j []) (fs.getD j Fd0)
theorem FsAt.ext {w w' : World} {v : Value} {fs : List Fd} (h : FsAt w v fs) (k : Ext w w') : FsAt w' v fs := by
  obtain ⟨us, h1, h2, h3⟩ := h
  exact ⟨us, h1.ext k, h2, fun j hj => (h3 j hj).ext k⟩
theorem FsAt.read {w : World} {v : Value} {fs : List Fd} (h : FsAt w v fs) : ∃ A c, v = .slice A fs.length c ∧ fs.length ≤ c ∧ c ≤ maxLen ∧ ∀ W, Ext w W → ∀ j, j < fs.length → ∃ (b o : Nat) (A1 : Option Addr) (c1 : Nat) (A2 : Option Addr) (c2 : Nat), A = some ⟨b, o, none⟩ ∧ b < W.heap.size ∧
    W.cell? ⟨b, o + j * 3, none⟩ = some (sV (fs.getD j Fd0).nm) ∧ W.cell? ⟨b, o + j * 3 + 1, none⟩ = some (.slice A1 (fs.getD j Fd0).vl.length c1) ∧ W.cell? ⟨b, o + j * 3 + 2, none⟩ = some (.slice A2 (fs.getD j Fd0).sl.length c2) ∧
    (fs.getD j Fd0).vl.length ≤ c1 ∧ c1 ≤ maxLen ∧ BytesAt W A1 (fs.getD j Fd0).vl ∧ (fs.getD j Fd0).sl.length ≤ c2 ∧ c2 ≤ maxLen ∧ BytesAt W A2 (fs.getD j Fd0).sl := by
  obtain ⟨us, h1, h2, h3⟩ := h
  obtain ⟨A, c, e, k1, k2, k3⟩ := h1.read
  refine ⟨A, c, by rw [e, h2], by omega, k2, fun W hW j hj => ?_⟩
  obtain ⟨b, o, e2, hb, hc⟩ := k3 W hW j (by omega) (by omega)
  obtain ⟨v1, v2, e3, ⟨A1, c1, rfl, a1, a2, a3⟩, ⟨A2, c2, rfl, b1, b2, b3⟩⟩ := h3 j hj
  rw [e3] at hc
  exact ⟨b, o, A1, c1, A2, c2, e2, hb, hc 0 _ (by omega) rfl, hc 1 _ (by omega) rfl, hc 2 _ (by omega) rfl, a1, a2, a3.ext hW, b1, b2, b3.ext hW⟩
/-- Names behind a slice. -/
abbrev SsAt (w : World) (v : Value) (ss : List (List UInt8)) : Prop := SlAt 1 w v (ss.map fun s => [sV s])
theorem SsAt.read {w : World} {v : Value} {ss : List (List UInt8)} (h : SsAt w v ss) : ∃ A c, v = .slice A ss.length c ∧ ss.length ≤ c ∧ c ≤ maxLen ∧ ∀ W, Ext w W → ∀ j, j < ss.length → ∃ b o : Nat, A = some ⟨b, o, none⟩ ∧ b < W.heap.size ∧ W.cell? ⟨b, o + j, none⟩ = some (sV (ss.getD j [])) := by
  obtain ⟨A, c, e, k1, k2, k3⟩ := SlAt.read h
  rw [List.length_map] at e k1 k3
  refine ⟨A, c, e, k1, k2, fun W hW j hj => ?_⟩
  obtain ⟨b, o, e2, hb, hc⟩ := k3 W hW j hj (by omega)
  refine ⟨b, o, e2, hb, ?_⟩
  have := hc 0 (sV (ss.getD j [])) (by omega) (by
    rw [List.getD_eq_getElem?_getD, List.getElem?_map, List.getElem?_eq_getElem hj, List.getD_eq_getElem?_getD, List.getElem?_eq_getElem hj]
    rfl)
  simpa using this
/-! ### slices.Index and Contains at names -/
theorem not_mem_take {s : List UInt8} {ss : List (List UInt8)} {k : Nat} (hk : k < ss.length) (h : s ∉ ss.take k) (hne : s ≠ ss.getD k []) : s ∉ ss.take (k + 1) := by
  rw [List.take_succ_eq_append_getElem hk]
  intro hm
  rcases List.mem_append.1 hm with h1 | h1
  · exact h h1
  · rw [List.mem_singleton] at h1
    exact hne (by rw [List.getD_eq_getElem?_getD, List.getElem?_eq_getElem hk]; exact h1)
attribute [local go_sem] baSize baList
def RetX (s : List UInt8) (ss : List (List UInt8)) (w : World) (e : Ending) (w' : World) : Prop := ∃ i : Int, e = .returned (iV i) ∧ decide (0 ≤ i) = decide (s ∈ ss) ∧ w = w'
set_option maxRecDepth 100000 in
theorem index59_ok (s : List UInt8) (ss : List (List UInt8)) (v : Value) (w : World) (h : SsAt w v ss) : Calls Tryd.prog 59 #[v, sV s] w (RetX s ss w) := by
  obtain ⟨A, c, rfl, h1, h2, h3⟩ := h.read
  have HR := Lib.hid h3
  have HC : Hid (c ≤ maxLen) := Lib.hid h2
  have HL : Hid (ss.length ≤ 9223372036854775807) := Lib.hid (by unfold maxLen at h2; omega)
  clear h h3 h2 h1
  go_enter Tryd.func59, Tryd.ntmps59
  go_wp2_with fail
  go_loopw [8] (fun i wr => ∃ k : Nat, k ≤ ss.length ∧ i = iV (k : Int) ∧ wr = w ∧ s ∉ ss.take k) (fun i _ => ss.length - (intOf i).toNat)
  case atStart => exact ⟨0, by omega, rfl, rfl, by simp⟩
  case round =>
    obtain ⟨k, hk, rfl, rfl, ha⟩ := hrel
    by_cases hlt : k < ss.length
    · have q1 : (k : Int) < (ss.length : Int) := by omega
      have q0 : (0 : Int) ≤ (k : Int) := by omega
      have q2 : (k : Int) < 9223372036854775807 := by have := HL.out; omega
      obtain ⟨b, o, rfl, hb, c0⟩ := HR.out wr (Ext.refl _) k hlt
      obtain ⟨t, ht⟩ : ∃ t, ss.getD k [] = t := ⟨_, rfl⟩
      rw [ht] at c0
      by_cases hst : s = t
      · have q3 : (s == t) = true := by simp [hst]
        go_wp2_with fail
        go_ret
        refine ⟨(k : Int), rfl, ?_, rfl⟩
        have hm : s ∈ ss := by
          rw [hst, ← ht, List.getD_eq_getElem?_getD, List.getElem?_eq_getElem hlt]
          exact List.getElem_mem hlt
        simp [hm]
      · have q3 : (s == t) = false := by simp [hst]
        go_wp2_with fail
        exact ⟨⟨k + 1, by omega, by go_num, trivial, not_mem_take hlt ha (by rw [ht]; exact hst)⟩, by simp [intOf]; omega⟩
    · obtain rfl : k = ss.length := by omega
      rw [List.take_length] at ha
      go_wp2_with fail
      go_ret
      exact ⟨-1, rfl, by simp [ha], rfl⟩
theorem contains31_ok (s : List UInt8) (ss : List (List UInt8)) (v : Value) (w : World) (h : SsAt w v ss) : Calls Tryd.prog 31 #[v, sV s] w (RetP (.bool (decide (s ∈ ss))) w) := by
  have CC := Lib.hid (index59_ok s ss v w h)
  obtain ⟨A, c, rfl, h1, h2, h3⟩ := h.read
  clear h h1 h2 h3
  go_enter Tryd.func31, Tryd.ntmps31
  go_wp2_with fail
  refine CC.out.mono ?_
  rintro _ _ ⟨i, rfl, hi, rfl⟩
  have HI := Lib.hid hi
  clear hi CC
  go_wp2_with fail
  go_ret
  exact ⟨by rw [← HI.out]; rfl, rfl⟩
end Go.Proofs.YtjedhndhdkiidaaDoor
