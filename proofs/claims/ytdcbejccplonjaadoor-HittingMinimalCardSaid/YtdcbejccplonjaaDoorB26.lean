/- The walks over the reference's insert and Reduce. -/
import Derived.Test.YtdcbejccplonjaaDoorB25
namespace Go.Proofs.YtdcbejccplonjaaDoor
open Go.RowKit
attribute [local go_sem ↓] Go.wp_at_zero Go.wp_at_succ
/-- The state of insert: what is out, and is s in it? -/
def InsAt (s : List Int) (ls : List (List Int)) (k : Nat) (o : List (List Int)) (d : Bool) : Prop := insF s ls = o ++ (if d then ls.drop k else insF s (ls.drop k))
theorem insAt_start (s : List Int) (ls : List (List Int)) : InsAt s ls 0 [] false := by unfold InsAt; rfl
theorem insAt_done {s : List Int} {ls : List (List Int)} {k : Nat} {o : List (List Int)} (h : InsAt s ls k o true) (hk : k < ls.length) : InsAt s ls (k + 1) (o ++ [ls.getD k []]) true := by
  unfold InsAt at h ⊢
  rw [h, if_pos rfl, if_pos rfl, List.drop_eq_getElem_cons hk, List.getD_eq_getElem?_getD, List.getElem?_eq_getElem hk]
  simp
theorem insAt_put {s : List Int} {ls : List (List Int)} {k : Nat} {o : List (List Int)} (h : InsAt s ls k o false) (hk : k < ls.length) (hc : cmpF s (ls.getD k []) < 0) : InsAt s ls (k + 1) (o ++ [s] ++ [ls.getD k []]) true := by
  unfold InsAt at h ⊢
  have hg : ls.getD k [] = ls[k] := by rw [List.getD_eq_getElem?_getD, List.getElem?_eq_getElem hk]; rfl
  rw [hg] at hc ⊢
  rw [h, if_pos rfl, if_neg (by simp), List.drop_eq_getElem_cons hk, insF, if_pos (cmp_neg.1 hc)]
  simp
theorem insAt_go {s : List Int} {ls : List (List Int)} {k : Nat} {o : List (List Int)} (h : InsAt s ls k o false) (hk : k < ls.length) (hc : ¬ cmpF s (ls.getD k []) < 0) (hd : cmpF (ls.getD k []) s < 0) : InsAt s ls (k + 1) (o ++ [ls.getD k []]) false := by
  unfold InsAt at h ⊢
  have hg : ls.getD k [] = ls[k] := by rw [List.getD_eq_getElem?_getD, List.getElem?_eq_getElem hk]; rfl
  rw [hg] at hc hd ⊢
  rw [h, if_neg (by simp), if_neg (by simp), List.drop_eq_getElem_cons hk, insF, if_neg (fun h => hc (cmp_neg.2 h)), if_pos (cmp_neg.1 hd)]
  simp
theorem insAt_same {s : List Int} {ls : List (List Int)} {k : Nat} {o : List (List Int)} (h : InsAt s ls k o false) (hk : k < ls.length) (hc : ¬ cmpF s (ls.getD k []) < 0) (hd : ¬ cmpF (ls.getD k []) s < 0) : InsAt s ls (k + 1) (o ++ [ls.getD k []]) true := by
  unfold InsAt at h ⊢
  have hg : ls.getD k [] = ls[k] := by rw [List.getD_eq_getElem?_getD, List.getElem?_eq_getElem hk]; rfl
  rw [hg] at hc hd ⊢
  rw [h, if_neg (by simp), if_pos rfl, List.drop_eq_getElem_cons hk, insF, if_neg (fun h => hc (cmp_neg.2 h)), if_neg (fun h => hd (cmp_neg.2 h))]
  simp
theorem insAt_end {s : List Int} {ls : List (List Int)} {o : List (List Int)} {d : Bool} (h : InsAt s ls ls.length o d) : insF s ls = o ++ (if d then [] else [s]) := by
  unfold InsAt at h
  rw [h, List.drop_length]
  rfl
set_option maxRecDepth 100000 in
set_option maxHeartbeats 8000000 in
theorem insert_any (ls : List (List Int)) (s : List Int) (vl vs : Value) (w : World) (hl : Rs w vl ls) (hs : Is w vs s) (hb : ls.length ≤ 100000) : Calls Tryd.prog 37 #[vl, vs] w (RetRs (insF s ls) w) := by
  have HS := Lib.hid hs
  obtain ⟨A, c, rfl, a1, a2, RA⟩ := hl.read
  have HR := Lib.hid (RA w (Ext.refl _))
  obtain ⟨S, sc, rfl, -, -, -⟩ := hs.read
  clear RA hl hs a1 a2
  go_enter Tryd.func37, Tryd.ntmps37
  go_wp2_with fail
  go_loopw [5, 6, 11] (fun t d i wr => ∃ (k : Nat) (us : List Value) (o : List (List Int)) (b : Bool), k ≤ ls.length ∧ i = iV (k : Int) ∧ d = .bool b ∧ us.length ≤ 2 * k ∧ Row wr w.heap.size 35 t us ∧ Cont w us o ∧ InsAt s ls k o b ∧ Ext w wr) (fun _ _ i _ => ls.length - (intOf i).toNat)
  case atStart => exact ⟨0, [], [], false, by omega, rfl, rfl, by simp, Row.nil _ _ _, Cont.nil _, insAt_start _ _, Ext.refl _⟩
  case round =>
    obtain ⟨k, us, o, b, hk, rfl, rfl, hul, hr, hc, hi, hE⟩ := hrel
    have HRo := Lib.hid hr
    have HC := Lib.hid hc
    have HI := Lib.hid hi
    have HE := Lib.hid hE
    clear hr hc hi hE
    by_cases hlt : k < ls.length
    · obtain ⟨ad, u, rfl, c1, hu⟩ := HR.out k hlt
      have c1 := HE.out.cell c1
      have HU := Lib.hid hu
      obtain ⟨U, uc, rfl, -, -, -⟩ := hu.read
      have L1 := Lib.hid (fun W (hW : Ext w W) => rless_any s (ls.getD k []) (.slice S s.length sc) _ W (HS.out.ext hW) (hu.ext hW))
      have L2 := Lib.hid (fun W (hW : Ext w W) => rless_any (ls.getD k []) s _ (.slice S s.length sc) W (hu.ext hW) (HS.out.ext hW))
      clear hu
      cases b with
      | true =>
        have HN := Lib.hid (insAt_done HI.out hlt)
        obtain ⟨x, hx⟩ : ∃ x, ls.getD k [] = x := ⟨_, rfl⟩
        rw [hx] at HU HN c1
        clear hx L1 L2
        go_wp2_with (at_builtin; go_loud (refine wapp el24 rfl (.tmp 33) (.tmp 35) rfl (w5 := w) rfl (HE.out.alloc _) (HRo.out.ext ((Ext.refl _).alloc _)) rfl rfl (vs1 _ _ _) (one1 rfl) ?hm ?_; (case hm => (rw [List.length_singleton]; omega)); intro v1 w1 hr1 hE1 hg1 hb1))
        exact ⟨⟨k + 1, _, _, true, by omega, by go_num, rfl, by simp; omega, hr1, HC.out.app (cont1 HU.out), HN.out, hE1⟩, by simp [intOf]; omega⟩
      | false =>
        by_cases h1 : cmpF s (ls.getD k []) < 0
        · have HN := Lib.hid (insAt_put HI.out hlt h1)
          rw [decide_eq_true h1] at L1
          obtain ⟨x, hx⟩ : ∃ x, ls.getD k [] = x := ⟨_, rfl⟩
          rw [hx] at HU HN c1 L1
          clear hx L2 h1
          go_wp2_with fail
          refine (L1.out _ HE.out).mono ?_
          rintro e2 w2 ⟨rfl, hE2⟩
          have HE2 := Lib.hid (HE.out.trans hE2)
          have HR2 := Lib.hid (HRo.out.ext hE2)
          clear hE2
          go_wp2_with (first
            | (at_builtin; refine wapp el24 rfl (.tmp 22) (.tmp 24) rfl (w5 := w) rfl (HE2.out.alloc _) (HR2.out.ext ((Ext.refl _).alloc _)) rfl rfl (vs1 _ _ _) (one1 rfl) ?hm ?_; (case hm => (rw [List.length_singleton]; omega)); intro v1 w1 hr1 hE1 hg1 hb1)
            | (at_builtin; go_loud (refine wapp el24 rfl (.tmp 33) (.tmp 35) rfl (w5 := w) rfl (hE1.alloc _) (hr1.ext ((Ext.refl _).alloc _)) rfl rfl (vs1 _ _ _) (one1 rfl) ?hm ?_; (case hm => (rw [List.length_append, List.length_singleton, List.length_singleton]; omega)); intro v3 w3 hr3 hE3 hg3 hb3)))
          exact ⟨⟨k + 1, _, _, true, by omega, by go_num, rfl, by simp; omega, hr3, (HC.out.app (cont1 HS.out)).app (cont1 HU.out), HN.out, hE3⟩, by simp [intOf]; omega⟩
        · by_cases h2 : cmpF (ls.getD k []) s < 0
          · have HN := Lib.hid (insAt_go HI.out hlt h1 h2)
            rw [decide_eq_false h1] at L1
            rw [decide_eq_true h2] at L2
            obtain ⟨x, hx⟩ : ∃ x, ls.getD k [] = x := ⟨_, rfl⟩
            rw [hx] at HU HN c1 L1 L2
            clear hx h1 h2
            go_wp2_with fail
            refine (L1.out _ HE.out).mono ?_
            rintro e2 w2 ⟨rfl, hE2⟩
            have HE2 := Lib.hid (HE.out.trans hE2)
            have HR2 := Lib.hid (HRo.out.ext hE2)
            clear hE2
            go_wp2_with fail
            refine (L2.out _ HE2.out).mono ?_
            rintro e4 w4 ⟨rfl, hE4⟩
            have HE4 := Lib.hid (HE2.out.trans hE4)
            have HR4 := Lib.hid (HR2.out.ext hE4)
            clear hE4
            go_wp2_with (at_builtin; go_loud (refine wapp el24 rfl (.tmp 33) (.tmp 35) rfl (w5 := w) rfl (HE4.out.alloc _) (HR4.out.ext ((Ext.refl _).alloc _)) rfl rfl (vs1 _ _ _) (one1 rfl) ?hm ?_; (case hm => (rw [List.length_singleton]; omega)); intro v1 w1 hr1 hE1 hg1 hb1))
            exact ⟨⟨k + 1, _, _, false, by omega, by go_num, rfl, by simp; omega, hr1, HC.out.app (cont1 HU.out), HN.out, hE1⟩, by simp [intOf]; omega⟩
          · have HN := Lib.hid (insAt_same HI.out hlt h1 h2)
            rw [decide_eq_false h1] at L1
            rw [decide_eq_false h2] at L2
            obtain ⟨x, hx⟩ : ∃ x, ls.getD k [] = x := ⟨_, rfl⟩
            rw [hx] at HU HN c1 L1 L2
            clear hx h1 h2
            go_wp2_with fail
            refine (L1.out _ HE.out).mono ?_
            rintro e2 w2 ⟨rfl, hE2⟩
            have HE2 := Lib.hid (HE.out.trans hE2)
            have HR2 := Lib.hid (HRo.out.ext hE2)
            clear hE2
            go_wp2_with fail
            refine (L2.out _ HE2.out).mono ?_
            rintro e4 w4 ⟨rfl, hE4⟩
            have HE4 := Lib.hid (HE2.out.trans hE4)
            have HR4 := Lib.hid (HR2.out.ext hE4)
            clear hE4
            go_wp2_with (at_builtin; go_loud (refine wapp el24 rfl (.tmp 33) (.tmp 35) rfl (w5 := w) rfl (HE4.out.alloc _) (HR4.out.ext ((Ext.refl _).alloc _)) rfl rfl (vs1 _ _ _) (one1 rfl) ?hm ?_; (case hm => (rw [List.length_singleton]; omega)); intro v1 w1 hr1 hE1 hg1 hb1))
            exact ⟨⟨k + 1, _, _, true, by omega, by go_num, rfl, by simp; omega, hr1, HC.out.app (cont1 HU.out), HN.out, hE1⟩, by simp [intOf]; omega⟩
    · obtain rfl : k = ls.length := by omega
      have HN := Lib.hid (insAt_end HI.out)
      cases b with
      | true =>
        go_wp2_with fail
        go_ret
        refine ⟨_, rfl, ?_, HE.out⟩
        have hN : insF s ls = o := by have := HN.out; simpa using this
        rw [hN]
        exact rs_of_row HRo.out HC.out HE.out
      | false =>
        go_wp2_with (at_builtin; go_loud (refine wapp el24 rfl (.tmp 40) (.tmp 42) rfl (w5 := w) rfl (HE.out.alloc _) (HRo.out.ext ((Ext.refl _).alloc _)) rfl rfl (vs1 _ _ _) (one1 rfl) ?hm ?_; (case hm => (rw [List.length_singleton]; omega)); intro v1 w1 hr1 hE1 hg1 hb1))
        go_ret
        refine ⟨_, rfl, ?_, hE1⟩
        have hN : insF s ls = o ++ [s] := by have := HN.out; simpa using this
        rw [hN]
        exact rs_of_row hr1 (HC.out.app (cont1 HS.out)) hE1
end Go.Proofs.YtdcbejccplonjaaDoor
