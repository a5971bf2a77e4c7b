/- The walk over same. -/
import Derived.Test.YtdcbejccplonjaaDoorB19
namespace Go.Proofs.YtdcbejccplonjaaDoor
open Go.RowKit
attribute [local go_sem ↓] Go.wp_at_zero Go.wp_at_succ
/-- A slice of families. -/
structure Rss (w : World) (v : Value) (fs : List (List (List Int))) : Prop where
  at_ : ∃ vs : List Value, SlAt w v vs ∧ vs.length = fs.length ∧ ∀ j, j < fs.length → Rs w (vs.getD j (.slice none 0 0)) (fs.getD j [])
theorem Rss.read {w : World} {v : Value} {fs : List (List (List Int))} (h : Rss w v fs) : ∃ A c, v = .slice A fs.length c ∧ fs.length ≤ c ∧ c ≤ maxLen ∧ ∀ W, Ext w W → ∀ j, j < fs.length → ∃ (ad : Addr) (u : Value), A = some ad ∧ W.cell? (ad.add j) = some u ∧ Rs w u (fs.getD j []) := by
  obtain ⟨vs, ⟨A, c, h1, h2, h3, h4⟩, h5, h6⟩ := h.at_
  rw [h5] at h1 h2
  refine ⟨A, c, h1, h2, h3, fun W hW j hj => ?_⟩
  obtain ⟨ad, e, _, hc⟩ := h4 (by omega)
  have hj' : j < vs.length := by omega
  refine ⟨ad, vs.getD j (.slice none 0 0), e, hW.cell (hc j _ ?_), h6 j hj⟩
  rw [List.getElem?_eq_getElem hj', List.getD_eq_getElem?_getD, List.getElem?_eq_getElem hj']
  rfl
/-- What the values of a row of lists read as. -/
structure Cont (w : World) (vs : List Value) (ls : List (List Int)) : Prop where
  len : vs.length = ls.length
  is : ∀ j, j < ls.length → Is w (vs.getD j (.slice none 0 0)) (ls.getD j [])
theorem Cont.nil (w : World) : Cont w [] [] := ⟨rfl, fun j hj => by simp at hj⟩
theorem getD_app {α : Type} (a b : List α) (d : α) (j : Nat) : (a ++ b).getD j d = if j < a.length then a.getD j d else b.getD (j - a.length) d := by
  rw [List.getD_eq_getElem?_getD, List.getD_eq_getElem?_getD, List.getD_eq_getElem?_getD, List.getElem?_append]
  split <;> rfl
theorem Cont.app {w : World} {vs us : List Value} {ls ms : List (List Int)} (h : Cont w vs ls) (k : Cont w us ms) : Cont w (vs ++ us) (ls ++ ms) := by
  refine ⟨by rw [List.length_append, List.length_append, h.len, k.len], fun j hj => ?_⟩
  rw [getD_app, getD_app, h.len]
  rw [List.length_append] at hj
  split
  · rename_i h1; exact h.is j h1
  · exact k.is _ (by omega)
theorem Rs.cont {w : World} {v : Value} {ls : List (List Int)} (h : Rs w v ls) : ∃ us A c, v = .slice A ls.length c ∧ us.length = ls.length ∧ VsAt w A us ∧ Cont w us ls ∧ ∀ u ∈ us, u.oneCell' = true := by
  obtain ⟨vs, ⟨A, c, h1, h2, h3, h4⟩, h5, h6⟩ := h.at_
  refine ⟨vs, A, c, by rw [h1, h5], h5, h4, ⟨h5, h6⟩, fun u hu => ?_⟩
  obtain ⟨j, hj, rfl⟩ := List.mem_iff_getElem.1 hu
  have := h6 j (by omega)
  rw [List.getD_eq_getElem?_getD, List.getElem?_eq_getElem hj] at this
  obtain ⟨A', c', e, _⟩ := SlAt.at_ this
  have e' : vs[j] = _ := e
  rw [e']
  rfl
theorem flat_take_snoc {α : Type} (fs : List (List α)) {k : Nat} (h : k < fs.length) : (fs.take (k + 1)).flatten = (fs.take k).flatten ++ fs.getD k [] := by
  rw [take_snoc h, List.flatten_append, List.getD_eq_getElem?_getD, List.getElem?_eq_getElem h]
  simp
theorem flat_take_le {α : Type} (fs : List (List α)) (k : Nat) : (fs.take k).flatten.length ≤ fs.flatten.length := by
  have : fs.flatten = (fs.take k).flatten ++ (fs.drop k).flatten := by rw [← List.flatten_append, List.take_append_drop]
  rw [this, List.length_append]
  omega
theorem held2 {w w' : World} {p q : Addr} {u v : Value} (h : Ext w w') (hp : w.cell? p = some u) (hq : w.cell? q = some v) : Ext w w' ∧ w'.cell? p = some u ∧ w'.cell? q = some v := ⟨h, h.cell hp, h.cell hq⟩
set_option maxRecDepth 100000 in
set_option maxHeartbeats 8000000 in
theorem same_any (a : List (List Int)) (fs : List (List (List Int))) (va vl : Value) (w : World) (ha : Rs w va a) (hl : Rss w vl fs) (hb : fs.flatten.length ≤ 100000) (hk : fs.length ≤ 100000) : Calls Tryd.prog 14 #[va, vl] w (RetB (decide (a = fs.flatten)) w) := by
  obtain ⟨A, ca, rfl, a1, a2, RA⟩ := ha.read
  obtain ⟨B, cb, rfl, b1, b2, RB⟩ := hl.read
  have HA := Lib.hid RA
  have HB := Lib.hid RB
  have hla : a.length ≤ 9223372036854775807 := by unfold maxLen at a2; omega
  obtain ⟨bb, hbb⟩ : ∃ bb, fs.flatten = bb := ⟨_, rfl⟩
  rw [hbb]
  rw [hbb] at hb
  have HBB := Lib.hid hbb
  clear RA RB ha hl a1 a2 b1 b2 hbb
  go_enter Tryd.func14, Tryd.ntmps14
  go_wp2_with fail
  go_loopw [5, 11] (fun t i wr => ∃ (k : Nat) (vs : List Value), k ≤ fs.length ∧ i = iV (k : Int) ∧ Row wr w.heap.size 35 t vs ∧ Cont w vs ((fs.take k).flatten) ∧ Ext w wr) (fun _ i _ => fs.length - (intOf i).toNat)
  case atStart => exact ⟨0, [], by omega, rfl, Row.nil _ _ _, by simpa using Cont.nil w, Ext.refl _⟩
  case round =>
    obtain ⟨k, vs, hkl, rfl, hr, hc, hE⟩ := hrel
    have HR := Lib.hid hr
    have HC := Lib.hid hc
    have HE := Lib.hid hE
    clear hr hc hE
    obtain ⟨T, tc, e1, -, -⟩ := HR.out.form
    subst e1
    by_cases hlt : k < fs.length
    · obtain ⟨ad, u, rfl, c1, hu⟩ := HB.out wr HE.out k hlt
      obtain ⟨us, U, uc, rfl, hul, hva, hcu, h1⟩ := hu.cont
      have HVA := Lib.hid (hva.ext HE.out)
      have HCU := Lib.hid hcu
      have H1 := Lib.hid h1
      have HFS := Lib.hid (flat_take_snoc fs hlt)
      have hle := flat_take_le fs (k + 1)
      rw [HBB.out, HFS.out, List.length_append, ← hul, ← HC.out.len] at hle
      obtain ⟨fm, hfm⟩ : ∃ fm, fs.getD k [] = fm := ⟨_, rfl⟩
      rw [hfm] at HFS HCU c1 hul
      clear hfm hu hva hcu h1
      go_wp2_with (at_builtin; go_loud (refine wapp el24 rfl (.tmp 15) (.tmp 16) rfl (w5 := w) rfl HE.out HR.out rfl hul.symm HVA.out H1.out (by omega) ?_; intro v1 w1 hr1 hE1 hg1 hb1))
      exact ⟨⟨k + 1, vs ++ us, by omega, by go_num, hr1, by rw [HFS.out]; exact HC.out.app HCU.out, hE1⟩, by simp [intOf]; omega⟩
    · obtain rfl : k = fs.length := by omega
      rw [List.take_length, HBB.out] at HC
      have hvl := HC.out.len
      by_cases hlen : a.length = bb.length
      · have t0 : (((a.length : Nat) : Int) != ((vs.length : Nat) : Int)) = false := by simp; omega
        have HLEN := Lib.hid hlen
        have HVL := Lib.hid hvl
        clear hlen hvl
        go_wp2_with fail
        clear t0
        generalize hwr : wr = wc at *
        go_loopw [26] (fun i wq => ∃ j : Nat, j ≤ a.length ∧ i = iV (j : Int) ∧ a.take j = bb.take j ∧ Ext wc wq) (fun i _ => a.length - (intOf i).toNat)
        case atStart => exact ⟨0, by omega, rfl, by simp, Ext.refl _⟩
        case round =>
          obtain ⟨j, hj, rfl, ht, hE2⟩ := hrel
          have HTk := Lib.hid ht
          have HE2 := Lib.hid hE2
          have HEw := Lib.hid (HE.out.trans hE2)
          clear ht hE2
          by_cases hjl : j < a.length
          · have hlb0 : j < bb.length := by have := HLEN.out; omega
            have hlv0 : j < vs.length := by have := HVL.out; omega
            obtain ⟨ad, u, rfl, c1, hu⟩ := HA.out wr HEw.out j hjl
            obtain ⟨g, rfl, -, r1⟩ := (HR.out.ext HE2.out).some_of (by omega)
            have c2 : wr.cell? ⟨g, j, none⟩ = some (vs.getD j (.slice none 0 0)) := by
              rw [r1.cellAt j (by omega), List.getD_eq_getElem?_getD, List.getElem?_eq_getElem (by omega)]; rfl
            have hv := (HC.out.is j (by omega)).ext HEw.out
            have HTS := Lib.hid (take_eq_succ (d := ([] : List Int)) hjl (show j < bb.length by omega))
            obtain ⟨y, hy⟩ : ∃ y, vs.getD j (.slice none 0 0) = y := ⟨_, rfl⟩
            rw [hy] at c2 hv
            obtain ⟨la, hla'⟩ : ∃ x, a.getD j [] = x := ⟨_, rfl⟩
            rw [hla'] at hu HTS
            obtain ⟨lb, hlb'⟩ : ∃ x, bb.getD j [] = x := ⟨_, rfl⟩
            rw [hlb'] at hv HTS
            have EQ := Lib.hid (fun W (hW : Ext wr W) => equal_any la lb u y W (hu.ext hW) (hv.ext hW))
            clear hy hla' hlb' hu hv r1
            generalize hwr2 : wr = wd at *
            go_wp2_with fail
            go_region_held3 (fun w' => Ext wd w' ∧ w'.cell? (ad.add j) = some u ∧ w'.cell? ⟨g, j, none⟩ = some y)
              ((refine held2 ?_ c1 c2; repeat (first | assumption | exact Ext.refl _ | apply Ext.alloc | apply Ext.drew | apply Ext.drewN)))
              ((go_at_call 22; (refine (EQ.out _ (by repeat (first | assumption | exact Ext.refl _ | apply Ext.drew | apply Ext.drewN))).mono ?_); rintro e3 w3 ⟨rfl, hb3⟩; have hE3 : Ext wd w3 := Ext.trans (by repeat (first | assumption | exact Ext.refl _ | apply Ext.drew | apply Ext.drewN)) hb3))
            by_cases he : la = lb
            · have HN := Lib.hid (HTS.out.2 ⟨HTk.out, he⟩)
              rw [decide_eq_true he]
              clear HTS
              go_wp2_with fail
              exact ⟨⟨j + 1, by omega, by go_num, HN.out, HE2.out.trans hE3⟩, by simp [intOf]; omega⟩
            · have HN : Hid (decide (a = bb) = false) := Lib.hid (decide_eq_false (ne_of_take (k := j + 1) fun h => he (HTS.out.1 h).2))
              rw [decide_eq_false he]
              clear HTS
              go_wp2_with fail
              go_ret
              rw [HN.out]
              exact ⟨rfl, HEw.out.trans hE3⟩
          · obtain rfl : j = a.length := by omega
            have HN : Hid (decide (a = bb) = true) := Lib.hid (decide_eq_true (by
              have := HTk.out
              rw [List.take_length, HLEN.out, List.take_length] at this
              exact this))
            go_wp2_with fail
            go_ret
            rw [HN.out]
            exact ⟨rfl, HEw.out⟩
      · have HN : Hid (decide (a = bb) = false) := Lib.hid (decide_eq_false fun e => hlen (by rw [e]))
        have t0 : (((a.length : Nat) : Int) != ((vs.length : Nat) : Int)) = true := by simp; omega
        go_wp2_with fail
        go_ret
        rw [HN.out]
        exact ⟨rfl, HE.out⟩
end Go.Proofs.YtdcbejccplonjaaDoor
