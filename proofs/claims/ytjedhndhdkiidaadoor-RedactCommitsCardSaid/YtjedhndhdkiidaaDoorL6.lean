/- The walk over RedactCommits. -/
import Derived.Test.YtjedhndhdkiidaaDoorL4
import Derived.Test.YtjedhndhdkiidaaDoorV27
namespace Go.Proofs.YtjedhndhdkiidaaDoor
open Go.RowKit
attribute [local go_sem ↓] Go.wp_at_zero Go.wp_at_succ
attribute [local go_sem] baSize baList
attribute [local go_sem ↓] ld75 ld48 ld73 st75 st48 al75 al48 bu75 bu48 eq48 ne48
attribute [local go_sem] run_al75 run_al48 run_bu48 run_bu75n run_bu75c run_bu75o run_st75n run_st48n run_eqD run_neD
theorem run_slice24l (w : World) (A A2 : Option Addr) (len c n : Nat) (h : n ≤ len) (hA : (if c = n then A else A.map (·.add (n * 3))) = A2) : (Instr.slice 24 (.slice A len c) (some (.int .i64 (n : Int))) none none).run Tryd.prog w = .ok (.slice A2 (len - n) (c - n)) w := by
  subst hA
  have e2 : Tryd.prog.elem 24 = 40 := by kernel_rfl
  have hs : (sizeOf 40).run Tryd.prog w = .ok 3 w := by kernel_rfl
  rw [run_slice_l w 24 A len c (by rw [e2]; exact Tryd.underlying24) .i64 (n : Int) (by omega) (by omega), e2, hs]
  simp [Result.andThen, sliced]
theorem us_one {w : World} {us : List (List Value)} {fs : List Fd} (hl : us.length = fs.length) (h : ∀ j, j < fs.length → FdAt w (us.getD j []) (fs.getD j Fd0)) : ∀ x ∈ us, ∀ u ∈ x, u.oneCell' = true := fun x hx u hu => by
  obtain ⟨j, hj, rfl⟩ := List.getElem_of_mem hx
  obtain ⟨v, s, e, ⟨A, c, e1, -⟩, ⟨A', c', e2, -⟩⟩ := h j (by omega)
  rw [List.getD_eq_getElem?_getD, List.getElem?_eq_getElem hj] at e
  have e' : us[j] = [sV (fs.getD j Fd0).nm, v, s] := e
  rw [e', e1, e2] at hu
  simp at hu
  rcases hu with rfl | rfl | rfl <;> rfl
theorem flat_one {l : List (List Value)} (h : ∀ x ∈ l, ∀ u ∈ x, u.oneCell' = true) : ∀ u ∈ l.flatten, u.oneCell' = true := fun u hu => by
  obtain ⟨x, hx, hu⟩ := List.mem_flatten.1 hu
  exact h x hx u hu
/-- Fields, turned. -/
def turF {α : Type} (l : List α) (k : Nat) : List α := l.drop k ++ l.take k
theorem turF_perm {α : Type} (l : List α) (k : Nat) : (turF l k).Perm l := by
  unfold turF
  have := List.perm_append_comm (l₁ := l.drop k) (l₂ := l.take k)
  rwa [List.take_append_drop] at this
theorem rot_get {α : Type} (l : List α) (k j : Nat) (d : α) (hk : k ≤ l.length) (hj : j < l.length) : (turF l k).getD j d = l.getD (if j < l.length - k then k + j else j - (l.length - k)) d := by
  unfold turF
  rw [List.getD_eq_getElem?_getD, List.getD_eq_getElem?_getD, List.getElem?_append, List.length_drop]
  split
  · rw [List.getElem?_drop]
  · rw [List.getElem?_take, if_pos (by omega)]
theorem rot_at {w : World} {v : Value} {us : List (List Value)} {fs : List Fd} {k : Nat} (hk : k ≤ fs.length) (hl : us.length = fs.length) (h : ∀ j, j < fs.length → FdAt w (us.getD j []) (fs.getD j Fd0)) (hs : SlAt 3 w v (turF us k)) : FsAt w v (turF fs k) := by
  have e : (turF fs k).length = fs.length := (turF_perm fs k).length_eq
  refine ⟨turF us k, hs, by rw [e, (turF_perm us k).length_eq, hl], fun j hj => ?_⟩
  rw [e] at hj
  rw [rot_get us k j [] (by omega) (by omega), rot_get fs k j Fd0 hk hj, hl]
  exact h _ (by split <;> omega)
theorem doc_rot {fs : List Fd} (hd : DocOk fs) (k : Nat) : chkF (turF fs k) = 0 ∧ docF (turF fs k) = docF fs := by
  have hp := turF_perm fs k
  have hd' : DocOk (turF fs k) := ⟨by rw [hp.length_eq]; exact hd.pos, by rw [hp.length_eq]; exact hd.le, fun f hf => hd.each f (hp.mem_iff.1 hf), (hp.map (fun x : Fd => x.nm)).nodup_iff.2 hd.names⟩
  exact ⟨chk_of_ok hd', doc_unique hd.names ((docF_perm _).trans (hp.map _)) (docF_nd _)⟩
theorem com_rot {fs : List Fd} (hc : chkF fs = 0) (k : Nat) : comR (turF fs k) = comR fs := by
  have h := doc_rot (docOk_of hc) k
  unfold comR
  rw [if_pos h.1, if_pos hc, h.2]
set_option maxRecDepth 100000 in
set_option maxHeartbeats 1000000 in
theorem commits_law (rs : List Rw) (v : Value) (t : Nat) (w : World) (h : RsAt w v rs) (ht : t < 256) (hT : Tab w) : Calls Tryd.prog 6 #[v, .int .u8 (t : Int)] w (RetB true w) := by
  have CF := Lib.hid (fields16_ok rs v w h)
  have HT := Lib.hid hT
  have hnm : ∀ f ∈ fsF rs (min rs.length 70), f.nm.length ≤ 9223372036854775807 := fun f hf => by have := fsF_nm hf; omega
  have hfl : (fsF rs (min rs.length 70)).length ≤ 70 := by rw [fsF_len]; omega
  obtain ⟨fs, hfs⟩ : ∃ fs, fsF rs (min rs.length 70) = fs := ⟨_, rfl⟩
  rw [hfs] at CF hnm hfl
  have HNM := Lib.hid hnm
  have HFL := Lib.hid hfl
  obtain ⟨er, her⟩ : ∃ er, chkF fs = er := ⟨_, rfl⟩
  obtain ⟨D, hD⟩ : ∃ D, comR fs = D := ⟨_, rfl⟩
  have HER := Lib.hid her
  have HD := Lib.hid hD
  obtain ⟨A, c, rfl, -, -, -⟩ := h.read
  clear h hT hfs hnm her hD hfl
  go_enter Tryd.func6, Tryd.ntmps6
  go_wp2_with fail
  refine CF.out.mono ?_
  rintro _ w1 ⟨v1, v2, rfl, hf1, hf2, hE1⟩
  have HF1 := Lib.hid hf1
  have HF2 := Lib.hid hf2
  have HE1 := Lib.hid hE1
  obtain ⟨A1, c1, rfl, hc1, hm1, -⟩ := hf1.read
  obtain ⟨A2, c2, rfl, -, -, -⟩ := hf2.read
  have HC1 := Lib.hid (And.intro hc1 hm1)
  clear hf1 hf2 hE1 hc1 hm1 CF
  have C19 : Hid (Calls Tryd.prog 19 #[.slice A1 fs.length c1] w1 (fun e w' => e = .returned (.tuple #[idV D, iV er]) ∧ Ext w1 w')) := Lib.hid (by
    have := commit19_ok fs _ w1 HF1.out (HT.out.ext HE1.out)
    unfold RetCm at this
    rw [HER.out, HD.out] at this
    exact this)
  go_upto_region 3 with (go_at_call 19; refine C19.out.mono ?_; rintro _ w2 ⟨rfl, hE2⟩; have HE2 := Lib.hid hE2; clear hE2)
  generalize hw3 : w2.alloc _ = w3
  have HB3 : Hid (Bk w3 w2.heap.size 32 (idF D)) := Lib.hid (by rw [← hw3]; exact Bk.new (by decide))
  have HE3 : Hid (Ext w1 w3) := Lib.hid (by rw [← hw3]; exact HE2.out.alloc _)
  clear hw3
  have C17 : Hid (∀ W, Ext w3 W → Calls Tryd.prog 17 #[.slice A2 fs.length c2] W (RetI er W)) := Lib.hid (fun W hW => by
    have := rcheck17_ok fs _ W (HF2.out.ext (HE3.out.trans hW)) HNM.out
    rw [HER.out] at this
    exact this)
  have C13 : Hid (∀ W, Ext w3 W → Calls Tryd.prog 13 #[] W (RetB true W)) := Lib.hid (fun W hW => awake13_ok W (HT.out.ext (HE1.out.trans (HE3.out.trans hW))))
  go_upto_region 6 with (first
    | (go_at_call 17; refine (C17.out _ (by repeat (first | assumption | exact Ext.refl _ | apply Ext.drew | apply Ext.drewN))).mono ?_; rintro _ w4 ⟨rfl, hE4⟩; have hX4 : Ext w3 w4 := Ext.trans (by repeat (first | assumption | exact Ext.refl _ | apply Ext.drew | apply Ext.drewN)) hE4; clear hE4)
    | (go_at_call 13; refine (C13.out _ hX4).mono ?_; rintro _ w5 ⟨rfl, hE5⟩; have HX5 := Lib.hid (hX4.trans hE5); clear hE5 hX4))
  have HX15 := Lib.hid (HE3.out.trans HX5.out)
  clear C17 C13 C19
  by_cases hz : er = 0
  · subst hz
    have hok := docOk_of HER.out
    have HOK := Lib.hid hok
    have hpos := hok.pos
    have hle := hok.le
    obtain ⟨k, hk⟩ : ∃ k, t % fs.length = k := ⟨_, rfl⟩
    have hkl : k < fs.length := by rw [← hk]; exact Nat.mod_lt _ hpos
    have q1 : ((t : Int).tmod (fs.length : Int)) = (k : Int) := by rw [← hk]; rfl
    have q2 : ((fs.length : Int) == 0) = false := by rw [beq_eq_false_iff_ne]; omega
    have q3 : ¬ (fs.length : Int) = 0 := by omega
    have HK := Lib.hid hkl
    clear hok hle
    go_upto_region 9 with fail
    obtain ⟨us, hsl, hul, hit⟩ := HF1.out
    obtain ⟨A', c', e', h1, h2, hV⟩ := hsl.at_
    obtain ⟨rfl, -, rfl⟩ := Value.slice.inj e'
    have HIT := Lib.hid hit
    have HUL := Lib.hid hul
    have HWU := Lib.hid hsl.wide
    have HON : Hid (∀ x ∈ us, ∀ u ∈ x, u.oneCell' = true) := Lib.hid (us_one hul hit)
    obtain ⟨A3, hA3⟩ : ∃ A3, (if c1 = k then A1 else A1.map (·.add (k * 3))) = A3 := ⟨_, rfl⟩
    obtain ⟨l3, hl3⟩ : ∃ l3, fs.length - k = l3 := ⟨_, rfl⟩
    obtain ⟨c3, hc3⟩ : ∃ c3, c1 - k = c3 := ⟨_, rfl⟩
    have s2 : ∀ W, (Instr.slice 24 (.slice A1 fs.length c1) (some (.int .i64 (k : Int))) none none).run Tryd.prog W = .ok (.slice A3 l3 c3) W := fun W => by rw [← hl3, ← hc3]; exact run_slice24l W A1 A3 fs.length c1 k (by omega) hA3
    have HDV : Hid (VsAt w1 A3 (us.drop k).flatten) := Lib.hid (by
      have := VsAt.drop hV hsl.wide h1 k (by omega)
      rw [hA3] at this
      exact this)
    have HTV : Hid (VsAt w1 A1 (us.take k).flatten) := Lib.hid (VsAt.take hV k)
    have HLD : Hid ((us.drop k).length = l3) := Lib.hid (by rw [List.length_drop, hul, hl3])
    have HLT : Hid ((us.take k).length = k) := Lib.hid (by rw [List.length_take]; omega)
    have qk : (k : Int) ≤ (fs.length : Int) := by omega
    have qc : (k : Int) ≤ (c1 : Int) := by omega
    have q00 : (0 : Int) ≤ (k : Int) := by omega
    have HL3 := Lib.hid (show l3 ≤ 70 by have := HFL.out; omega)
    clear hA3 hl3 hc3 hsl hul hit h1 h2 hV e' q1 q2 q3 hk hpos
    have KB : Hid (∀ W, Ext w5 W → (fun w' => Ext w5 w') W) := Lib.hid (fun W h => h)
    refine wp_region_noPanic ?_
    refine wp_region_held_drew (S := (fun w' => Ext w5 w')) (by kernel_rfl) ?_ (fun hHeld => ?_)
    · first | assumption | exact KB.out _ (by repeat (first | assumption | exact Ext.refl _ | apply Ext.alloc | apply Ext.drew | apply Ext.drewN))
    refine wpAnyH_take (i := 1) (v := ?_) (oper_at rfl) (by kernel_rfl) (by kernel_rfl) (by kernel_rfl) (fun _ _ _ h => h) (Or.inl ⟨by rfl, ?_⟩) hHeld ?_
    rotate_left
    · (intro ww hSw; (try dsimp only at hSw); go_simp; try (with_reducible rfl))
    try simp only [Act.put, List.setIfInBounds_toArray, List.set_cons_zero, List.set_cons_succ]
    refine wpAnyH_take (i := 2) (v := ?_) (oper_at rfl) (by kernel_rfl) (by kernel_rfl) (by kernel_rfl) (fun _ _ _ h => h) (Or.inl ⟨by rfl, ?_⟩) hHeld ?_
    rotate_left
    · (intro ww hSw; (try dsimp only at hSw); go_simp; try (with_reducible rfl))
    try simp only [Act.put, List.setIfInBounds_toArray, List.set_cons_zero, List.set_cons_succ]
    refine wpAnyH_take (i := 3) (v := ?_) (oper_at rfl) (by kernel_rfl) (by kernel_rfl) (by kernel_rfl) (fun _ _ _ h => h) (Or.inl ⟨by rfl, ?_⟩) hHeld ?_
    rotate_left
    · (intro ww hSw; (try dsimp only at hSw); go_simp; try (with_reducible rfl))
    try simp only [Act.put, List.setIfInBounds_toArray, List.set_cons_zero, List.set_cons_succ]
    refine wpAnyH_take (i := 5) (v := ?_) (oper_at rfl) (by kernel_rfl) (by kernel_rfl) (by kernel_rfl) (fun _ _ _ h => h) (Or.inl ⟨by rfl, ?_⟩) hHeld ?_
    rotate_left
    · (intro ww hSw; (try dsimp only at hSw); go_simp; try (with_reducible rfl))
    try simp only [Act.put, List.setIfInBounds_toArray, List.set_cons_zero, List.set_cons_succ]
    refine wpAnyH_take (i := 6) (v := ?_) (oper_at rfl) (by kernel_rfl) (by kernel_rfl) (by kernel_rfl) (fun _ _ _ h => h) (Or.inl ⟨by rfl, ?_⟩) hHeld ?_
    rotate_left
    · (intro ww hSw; (try dsimp only at hSw); go_simp; try (with_reducible rfl))
    try simp only [Act.put, List.setIfInBounds_toArray, List.set_cons_zero, List.set_cons_succ]
    refine wpAnyH_take (i := 7) (v := ?_) (oper_at rfl) (by kernel_rfl) (by kernel_rfl) (by kernel_rfl) (fun _ _ _ h => h) (Or.inl ⟨by rfl, ?_⟩) hHeld ?_
    rotate_left
    · (intro ww hSw; (try dsimp only at hSw); go_simp; try (with_reducible rfl))
    try simp only [Act.put, List.setIfInBounds_toArray, List.set_cons_zero, List.set_cons_succ]
    refine wpAnyH_ready (rs := [0]) (by kernel_rfl) (by simp) (AllReadyH.cons (oper_at rfl) (fun K hK => ?_) AllReadyH.nil)
    go_simp
    generalize hwa : World.alloc _ (.cells #[] 40) = wa
    have HRA : Hid (Row 3 wa w5.heap.size 40 (.slice (some ⟨_, 0, none⟩) 0 0) []) := Lib.hid (by rw [← hwa]; exact row_new (us := []) (Ext.size (a := w5) (by repeat (first | assumption | exact Ext.refl _ | apply Ext.alloc | apply Ext.drew | apply Ext.drewN))) (Wide.nil 3) rfl (by simp))
    have hXa : Ext w5 wa := by (rw [← hwa]; exact Ext.alloc (by repeat (first | assumption | exact Ext.refl _ | apply Ext.alloc | apply Ext.drew | apply Ext.drewN)) _)
    clear hwa
    refine hK.out _ _ ?_ (fun hHeld => ?_)
    · first | assumption | exact KB.out _ (by repeat (first | assumption | exact Ext.refl _ | apply Ext.alloc | apply Ext.drew | apply Ext.drewN))
    clear hK K
    try simp only [Act.put, List.setIfInBounds_toArray, List.set_cons_zero, List.set_cons_succ]
    refine wpAnyH_ready (rs := [4]) (by kernel_rfl) (by simp) (AllReadyH.cons (oper_at rfl) (fun K hK => ?_) AllReadyH.nil)
    refine sapp el24 (by rfl) (.tmp 44) (.tmp 47) (by rfl) (w5 := w5) (vs := []) (us := us.drop k) (by rfl) (by repeat (first | assumption | exact Ext.refl _ | apply Ext.alloc | apply Ext.drew | apply Ext.drewN)) (HRA.out.ext (by repeat (first | assumption | exact Ext.refl _ | apply Ext.alloc | apply Ext.drew | apply Ext.drewN))) (by rfl) HLD.out.symm (fun x hx => HWU.out x (List.mem_of_mem_drop hx)) (HDV.out.ext (HX15.out.trans (by repeat (first | assumption | exact Ext.refl _ | apply Ext.alloc | apply Ext.drew | apply Ext.drewN)))) (flat_one fun x hx => HON.out x (List.mem_of_mem_drop hx)) (by have := HL3.out; rw [HLD.out]; simp; omega) (by have := HL3.out; rw [HLD.out]; simp; omega) ?_
    intro vb wb hrb hEb hgb hbb
    rw [List.nil_append] at hrb
    have HRB := Lib.hid hrb
    clear hrb hgb hbb
    refine hK.out _ _ ?_ (fun hHeld => ?_)
    · first | assumption | exact KB.out _ (by repeat (first | assumption | exact Ext.refl _ | apply Ext.alloc | apply Ext.drew | apply Ext.drewN))
    clear hK K
    try simp only [Act.put, List.setIfInBounds_toArray, List.set_cons_zero, List.set_cons_succ]
    refine wpAnyH_ready (rs := [8]) (by kernel_rfl) (by simp) (AllReadyH.cons (oper_at rfl) (fun K hK => ?_) AllReadyH.nil)
    refine sapp el24 (by rfl) (.tmp 48) (.tmp 51) (by rfl) (w5 := w5) (vs := us.drop k) (us := us.take k) (by rfl) (by repeat (first | assumption | exact Ext.refl _ | apply Ext.alloc | apply Ext.drew | apply Ext.drewN)) (HRB.out.ext (by repeat (first | assumption | exact Ext.refl _ | apply Ext.alloc | apply Ext.drew | apply Ext.drewN))) (by rfl) HLT.out.symm (fun x hx => HWU.out x (List.mem_of_mem_take hx)) (HTV.out.ext (HX15.out.trans (by repeat (first | assumption | exact Ext.refl _ | apply Ext.alloc | apply Ext.drew | apply Ext.drewN)))) (flat_one fun x hx => HON.out x (List.mem_of_mem_take hx)) (by have := HL3.out; have := HK.out; have := HFL.out; rw [HLD.out, HLT.out]; omega) (by have := HL3.out; have := HK.out; have := HFL.out; rw [HLD.out, HLT.out]; omega) ?_
    intro vc wc hrc hEc hgc hbc
    have HRC := Lib.hid hrc
    clear hrc hgc hbc
    refine hK.out _ _ ?_ (fun hHeld => ?_)
    · first | assumption | exact KB.out _ (by repeat (first | assumption | exact Ext.refl _ | apply Ext.alloc | apply Ext.drew | apply Ext.drewN))
    clear hK K
    try simp only [Act.put, List.setIfInBounds_toArray, List.set_cons_zero, List.set_cons_succ]
    refine wpAnyH_take (i := 9) (v := ?_) (oper_at rfl) (by kernel_rfl) (by kernel_rfl) (by kernel_rfl) (fun _ _ _ h => h) (Or.inl ⟨by rfl, ?_⟩) hHeld ?_
    rotate_left
    · (intro ww hSw; (try dsimp only at hSw); go_simp; try (with_reducible rfl))
    try simp only [Act.put, List.setIfInBounds_toArray, List.set_cons_zero, List.set_cons_succ]
    refine wpAnyH_done (by kernel_rfl) ?_ _
    refine NoPanic.normal ?_
    have HEc := Lib.hid hEc
    have HX1c := Lib.hid (HX15.out.trans hEc)
    have HFR : Hid (FsAt wc vc (turF fs k)) := Lib.hid (rot_at (us := us) (by have := HK.out; omega) HUL.out (fun j hj => (HIT.out j hj).ext HX1c.out) HRC.out.sl)
    have C19 : Hid (∀ W, Ext wc W → Calls Tryd.prog 19 #[vc] W (fun e w' => e = .returned (.tuple #[idV D, iV 0]) ∧ Ext W w')) := Lib.hid (fun W hW => by
      have := commit19_ok (turF fs k) vc W (HFR.out.ext hW) (HT.out.ext (HE1.out.trans (HX1c.out.trans hW)))
      unfold RetCm at this
      rw [com_rot HER.out, (doc_rot HOK.out k).1, HD.out] at this
      exact this)
    clear hEb hEc hXa s2 qk qc q00 KB hkl
    go_upto_region 11 with (go_at_call 19; refine (C19.out _ (by repeat (first | assumption | exact Ext.refl _ | apply Ext.drew | apply Ext.drewN))).mono ?_; rintro _ wd ⟨rfl, hEd⟩; have hXd : Ext wc wd := Ext.trans (by repeat (first | assumption | exact Ext.refl _ | apply Ext.drew | apply Ext.drewN)) hEd; clear hEd)
    generalize hwe : wd.alloc _ = we
    have HBe : Hid (Bk we wd.heap.size 32 (idF D)) := Lib.hid (by rw [← hwe]; exact Bk.new (by decide))
    have HEe : Hid (Ext wc we) := Lib.hid (by rw [← hwe]; exact hXd.alloc _)
    clear hwe hXd
    have HX1e := Lib.hid (HX1c.out.trans HEe.out)
    have C20 : Hid (∀ W, Ext we W → Calls Tryd.prog 20 #[.slice A2 fs.length c2] W (fun e w' => ∃ va, e = .returned (.tuple #[idV D, va]) ∧ Ext W w')) := Lib.hid (fun W hW => by
      have hd := HOK.out
      refine (root20_ok fs _ W (HF2.out.ext (HX1e.out.trans hW)) (by have := hd.le; omega) hd.pos (fun f hf => by have := hd.each f hf; have h2 := okN_len this.1; exact ⟨by omega, by omega, by omega⟩) (HT.out.ext (HE1.out.trans (HX1e.out.trans hW)))).mono ?_
      rintro e w' ⟨va, rfl, -, h3⟩
      refine ⟨va, ?_, h3⟩
      rw [srtF_doc hd.names, show topF ((docF fs).map nodF) = D by rw [← HD.out]; unfold comR; rw [if_pos HER.out]; rfl])
    go_upto_region 12 with (go_at_call 20; refine (C20.out _ (by repeat (first | assumption | exact Ext.refl _ | apply Ext.drew | apply Ext.drewN))).mono ?_; rintro _ wf ⟨va, rfl, hEf⟩; have hXf : Ext we wf := Ext.trans (by repeat (first | assumption | exact Ext.refl _ | apply Ext.drew | apply Ext.drewN)) hEf; clear hEf)
    generalize hwg : wf.alloc _ = wg
    have HBg : Hid (Bk wg wf.heap.size 32 (idF D)) := Lib.hid (by rw [← hwg]; exact Bk.new (by decide))
    have HEg : Hid (Ext we wg) := Lib.hid (by rw [← hwg]; exact hXf.alloc _)
    clear hwg hXf
    have HXg := Lib.hid (HX1e.out.trans HEg.out)
    have l1 := (HB3.out.ext (HX5.out.trans (HEc.out.trans (HEe.out.trans HEg.out)))).run_ld48
    have l2 := (HBe.out.ext HEg.out).run_ld48
    have l3' := HBg.out.run_ld48
    have qe := eqV_self D
    go_wp2_with fail
    go_ret
    exact ⟨rfl, HE1.out.trans HXg.out⟩
  · have q1 : (er != 0) = true := by simp [hz]
    have HD0 : D = [] := by rw [← HD.out]; unfold comR; rw [if_neg (by rw [HER.out]; exact hz)]
    subst HD0
    have l1 := (HB3.out.ext HX5.out).run_ld48
    clear hz
    go_wp2_with fail
    go_ret
    exact ⟨ret_bool (eqV_self []), HE1.out.trans HX15.out⟩

end Go.Proofs.YtjedhndhdkiidaaDoor
