/- The reference's check of a document, and its sorting. -/
import Derived.Test.YtjedhndhdkiidaaDoorV13
namespace Go.Proofs.YtjedhndhdkiidaaDoor
open Go.RowKit
attribute [local go_sem ↓] Go.wp_at_zero Go.wp_at_succ
attribute [local go_sem] baSize baList
set_option maxRecDepth 100000 in
theorem rcheck17_ok (fs : List Fd) (v : Value) (w : World) (h : FsAt w v fs) (hn : ∀ f ∈ fs, f.nm.length ≤ 9223372036854775807) : Calls Tryd.prog 17 #[v] w (RetI (chkF fs) w) := by
  obtain ⟨A, c, rfl, h1, h2, h3⟩ := h.read
  have HH := Lib.hid h
  have HNM := Lib.hid hn
  have HR := Lib.hid h3
  have HC : Hid (fs.length ≤ c ∧ c ≤ maxLen) := Lib.hid ⟨h1, h2⟩
  clear h h3 h2 h1 hn
  by_cases hz : fs.length = 0
  · have q1 : ((fs.length : Int) == 0) = true := by simp [hz]
    go_enter Tryd.func17, Tryd.ntmps17
    go_wp2_with fail
    go_ret
    exact ⟨by unfold chkF; rw [if_pos hz]; rfl, Ext.refl _⟩
  · by_cases h64 : 64 < fs.length
    · have q1 : ((fs.length : Int) == 0) = false := by simpa using hz
      have q2 : (64 : Int) < (fs.length : Int) := by omega
      go_enter Tryd.func17, Tryd.ntmps17
      go_wp2_with fail
      go_ret
      exact ⟨by unfold chkF; rw [if_neg hz, if_pos h64]; rfl, Ext.refl _⟩
    · have q1 : ((fs.length : Int) == 0) = false := by simpa using hz
      have q2 : ¬ (64 : Int) < (fs.length : Int) := by omega
      have HX0 : Hid (chkF fs = chkG fs 0 (fs.length - 0)) := Lib.hid (by unfold chkF; rw [if_neg hz, if_neg h64, Nat.sub_zero])
      obtain ⟨E, hE⟩ : ∃ E, chkF fs = E := ⟨_, rfl⟩
      rw [hE] at HX0 ⊢
      clear hE
      go_enter Tryd.func17, Tryd.ntmps17
      go_wp2_with fail
      clear q1 q2
      go_loopw [14] (fun i wr => ∃ k : Nat, k ≤ fs.length ∧ i = iV (k : Int) ∧ Ext w wr ∧ E = chkG fs k (fs.length - k)) (fun i _ => fs.length - (intOf i).toNat)
      case atStart => exact ⟨0, by omega, rfl, Ext.refl _, HX0.out⟩
      case round =>
        obtain ⟨k, hk, rfl, hX, ha⟩ := hrel
        have HX := Lib.hid hX
        have HA := Lib.hid ha
        clear hX ha
        by_cases hlt : k < fs.length
        · have q1 : (k : Int) < (fs.length : Int) := by omega
          have q0 : (0 : Int) ≤ (k : Int) := by omega
          have q2 : (k : Int) < 9223372036854775807 := by omega
          have HS := Lib.hid (chkG_step hlt)
          obtain ⟨bb, o, A1, c1, A2, c2, rfl, hb, e0, e1, e2, -⟩ := HR.out wr HX.out k hlt
          have HT := Lib.hid (HH.out.take hk)
          obtain ⟨f, hf⟩ : ∃ f, fs.getD k Fd0 = f := ⟨_, rfl⟩
          rw [hf] at e0 e1 e2 HS
          have HFN : Hid (f.nm.length ≤ 9223372036854775807) := Lib.hid (HNM.out f (by rw [← hf]; exact mem_getD hlt))
          clear hf
          obtain ⟨m, hm⟩ : ∃ m, f.vl.length = m := ⟨_, rfl⟩
          obtain ⟨l, hl⟩ : ∃ l, f.sl.length = l := ⟨_, rfl⟩
          rw [hm] at e1
          rw [hl] at e2
          have HM := Lib.hid hm
          have HL := Lib.hid hl
          clear hm hl
          have CV := Lib.hid (fun W => name35_ok f.nm W HFN.out)
          have q3 : (k : Int) ≤ (c : Int) := by have := HC.out; omega
          go_wp2_with fail
          refine (CV.out _).mono ?_
          rintro _ _ ⟨rfl, rfl⟩
          by_cases ho : okN f.nm = false
          · go_wp2_with fail
            go_ret
            refine ⟨?_, (HX.out.alloc _)⟩
            rw [HA.out, HS.out]
            unfold chkOne
            rw [if_pos ho]
            rfl
          · have ho' : okN f.nm = true := by simpa using ho
            by_cases hv : 4000 < m
            · have r1 : decide ((4000 : Int) < (m : Int)) = true := by rw [decide_eq_true_iff]; omega
              have HV := Lib.hid hv
              clear hv
              go_wp2_with fail
              go_ret
              refine ⟨?_, (HX.out.alloc _)⟩
              rw [HA.out, HS.out]
              unfold chkOne
              rw [if_neg ho, HM.out, if_pos HV.out]
              rfl
            · have r1 : decide ((4000 : Int) < (m : Int)) = false := by rw [decide_eq_false_iff_not]; omega
              have HV := Lib.hid hv
              clear hv
              by_cases hs : l = 16
              · have r2 : ((l : Int) != 16) = false := by rw [hs]; rfl
                have HSL := Lib.hid hs
                clear hs
                go_wp2_with fail
                have HLT : Hid (l = 16) := HSL
                generalize hw4 : wr.alloc (.cells #[.string ⟨f.nm.toArray⟩, .slice A1 m c1, .slice A2 l c2] 58) = w4
                have t0 : w4.cell? ⟨wr.heap.size, 0, none⟩ = some (sV f.nm) := by rw [← hw4]; exact new_at _ _ _ 0 _ rfl
                have HT0 := Lib.hid t0
                have HE4 : Hid (Ext wr w4) := Lib.hid (by rw [← hw4]; exact (Ext.refl _).alloc _)
                clear hw4 t0 e0 e1 e2 r1 r2
                obtain ⟨wo, rfl⟩ : ∃ wo, wo = wr := ⟨_, rfl⟩
                go_loopw [5] (fun i wr => ∃ j : Nat, j ≤ k ∧ i = iV (j : Int) ∧ Ext w4 wr ∧ (fs.take j).any (fun o => o.nm == f.nm) = false) (fun i _ => k - (intOf i).toNat)
                case atStart => exact ⟨0, by omega, rfl, Ext.refl _, by simp⟩
                case round =>
                  obtain ⟨j, hj, rfl, hXj, haj⟩ := hrel
                  have HXJ := Lib.hid hXj
                  have HAJ := Lib.hid haj
                  clear hXj haj
                  by_cases hjk : j < k
                  · have q5 : (j : Int) < (k : Int) := by omega
                    have q6 : (0 : Int) ≤ (j : Int) := by omega
                    have q7 : (j : Int) < (fs.length : Int) := by omega
                    obtain ⟨b2, o2, B1, d1, B2, d2, eA, hb2, g0, -, -, -⟩ := HR.out wr (HX.out.trans (HE4.out.trans HXJ.out)) j (by omega)
                    obtain ⟨rfl, rfl⟩ : bb = b2 ∧ o = o2 := by simpa using eA
                    obtain ⟨g, hg⟩ : ∃ g, fs.getD j Fd0 = g := ⟨_, rfl⟩
                    rw [hg] at g0
                    have t0 := HXJ.out.cell HT0.out
                    by_cases hn : g.nm = f.nm
                    · have q8 : (g.nm == f.nm) = true := by simp [hn]
                      have HNN : Hid ((fs.take k).any (fun o => o.nm == f.nm) = true) := Lib.hid (List.any_eq_true.2 ⟨g, by
                        rw [← hg, List.getD_eq_getElem?_getD, List.getElem?_eq_getElem (by omega : j < fs.length)]
                        exact List.mem_take_iff_getElem.2 ⟨j, by omega, rfl⟩, q8⟩)
                      clear hn eA hg
                      go_wp2_with fail
                      go_quiet (fail)
                      go_wp2_with fail
                      go_ret
                      refine ⟨?_, (HX.out.trans (HE4.out.trans HXJ.out)).drewN _⟩
                      rw [HA.out, HS.out]
                      unfold chkOne
                      rw [if_neg ho, HM.out, if_neg HV.out, HL.out, if_neg (show ¬ l ≠ 16 by rw [HLT.out]; decide), if_pos HNN.out]
                      rfl
                    · have q8 : (g.nm == f.nm) = false := by simp [hn]
                      have HNN : Hid ((fs.take (j + 1)).any (fun o => o.nm == f.nm) = false) := Lib.hid (any_take (by omega) HAJ.out (by rw [hg]; exact q8))
                      clear hn eA hg
                      go_wp2_with fail
                      go_quiet (fail)
                      go_wp2_with fail
                      exact ⟨⟨j + 1, by omega, by go_num, HXJ.out.drewN _, HNN.out⟩, by simp [intOf]; omega⟩
                  · obtain rfl : j = k := by omega
                    go_wp2_with fail
                    refine ⟨⟨j + 1, by omega, by go_num, HX.out.trans (HE4.out.trans HXJ.out), ?_⟩, by simp [intOf]; omega⟩
                    rw [HA.out, HS.out]
                    unfold chkOne
                    rw [if_neg ho, HM.out, if_neg HV.out, HL.out, if_neg (show ¬ l ≠ 16 by rw [HLT.out]; decide), if_neg (show ¬ ((fs.take j).any (fun o => o.nm == f.nm)) = true by rw [HAJ.out]; decide), if_pos rfl]
              · have r2 : ((l : Int) != 16) = true := by rw [bne_iff_ne]; omega
                have HSL := Lib.hid hs
                clear hs
                go_wp2_with fail
                go_ret
                refine ⟨?_, (HX.out.alloc _)⟩
                rw [HA.out, HS.out]
                unfold chkOne
                rw [if_neg ho, HM.out, if_neg HV.out, HL.out, if_pos HSL.out]
                rfl
        · obtain rfl : k = fs.length := by omega
          go_wp2_with fail
          go_ret
          refine ⟨?_, HX.out⟩
          rw [HA.out, Nat.sub_self]
          rfl
/-! ### Sorting by insertion -/
def posF (f : Fd) (l : List Fd) : Nat → Nat
  | 0 => 0
  | i + 1 => if f.nm < (l.getD i Fd0).nm then posF f l i else i + 1
theorem posF_le (f : Fd) (l : List Fd) : ∀ i, posF f l i ≤ i
  | 0 => Nat.le_refl _
  | i + 1 => by
    unfold posF
    split
    · exact Nat.le_succ_of_le (posF_le f l i)
    · exact Nat.le_refl _
/-- A field is put behind the last one whose name is not greater. -/
def stepS (l : List Fd) (f : Fd) : List Fd := l.take (posF f l l.length) ++ f :: l.drop (posF f l l.length)
def srtF (fs : List Fd) : List Fd := fs.foldl stepS []
theorem srtF_snoc (l : List Fd) (f : Fd) : srtF (l ++ [f]) = stepS (srtF l) f := by unfold srtF; rw [List.foldl_append]; rfl
theorem stepS_perm (l : List Fd) (f : Fd) : (stepS l f).Perm (f :: l) := by
  unfold stepS
  have h := (List.perm_middle (a := f) (l₁ := l.take (posF f l l.length)) (l₂ := l.drop (posF f l l.length)))
  rw [List.take_append_drop] at h
  exact h
theorem srtF_perm (fs : List Fd) : (srtF fs).Perm fs := by
  unfold srtF
  have h : ∀ (l acc : List Fd), (l.foldl stepS acc).Perm (acc ++ l) := by
    intro l
    induction l with
    | nil => intro acc; simp
    | cons f l ih =>
      intro acc
      rw [List.foldl_cons]
      refine (ih _).trans ?_
      have := (stepS_perm acc f).append_right l
      exact this.trans (List.perm_middle (a := f) (l₁ := acc) (l₂ := l)).symm
  simpa using h fs []
theorem srtF_len (fs : List Fd) : (srtF fs).length = fs.length := (srtF_perm fs).length_eq
/-- Fields and where their bytes lie. -/
abbrev PF := Fd × (Option Addr × Nat) × (Option Addr × Nat)
abbrev PF0 : PF := (Fd0, (none, 0), (none, 0))
def encF (p : PF) : List Value := [sV p.1.nm, .slice p.2.1.1 p.1.vl.length p.2.1.2, .slice p.2.2.1 p.1.sl.length p.2.2.2]
def FpAt (w : World) (ps : List PF) : Prop := ∀ p ∈ ps, SlB w (.slice p.2.1.1 p.1.vl.length p.2.1.2) p.1.vl ∧ SlB w (.slice p.2.2.1 p.1.sl.length p.2.2.2) p.1.sl
theorem FpAt.ext {w w' : World} {ps : List PF} (h : FpAt w ps) (k : Ext w w') : FpAt w' ps := fun p hp => ⟨(h p hp).1.ext k, (h p hp).2.ext k⟩
theorem FsAt.of_row {w : World} {v : Value} {ps : List PF} (h : SlAt 3 w v (ps.map encF)) (hp : FpAt w ps) : FsAt w v (ps.map (·.1)) := by
  refine ⟨ps.map encF, h, by simp, fun j hj => ?_⟩
  rw [List.length_map] at hj
  have e1 : (ps.map encF).getD j [] = encF ps[j] := by rw [List.getD_eq_getElem?_getD, List.getElem?_map, List.getElem?_eq_getElem hj]; rfl
  have e2 : (ps.map (·.1)).getD j Fd0 = ps[j].1 := by rw [List.getD_eq_getElem?_getD, List.getElem?_map, List.getElem?_eq_getElem hj]; rfl
  rw [e1, e2]
  exact ⟨_, _, rfl, (hp _ (List.getElem_mem hj)).1, (hp _ (List.getElem_mem hj)).2⟩
theorem el25 : El 25 58 (.agg #[.string ⟨#[]⟩, .slice none 0 0, .slice none 0 0]) 3 64 := ⟨Tryd.underlying25, by kernel_rfl, rfl, by decide, by decide⟩
theorem encF_wide (ps : List PF) : Wide 3 (ps.map encF) := Wide.map (f := encF) (s := 3) (fun _ => rfl) ps
theorem encF_one (ps : List PF) : ∀ u ∈ (ps.map encF).flatten, u.oneCell' = true := by
  intro u hu
  obtain ⟨l, hl, hu2⟩ := List.mem_flatten.1 hu
  obtain ⟨p, -, rfl⟩ := List.mem_map.1 hl
  unfold encF at hu2
  simp at hu2
  rcases hu2 with rfl | rfl | rfl <;> rfl
/-- The rest of a slice. -/
theorem VsAt.drop {s : Nat} {w : World} {A : Option Addr} {c : Nat} {us : List (List Value)} (h : VsAt w A us.flatten) (hw : Wide s us) (hc : us.length ≤ c) (k : Nat) (hk : k ≤ us.length) : VsAt w (if c = k then A else A.map (·.add (k * s))) (us.drop k).flatten := fun h0 => by
  have hwd : Wide s (us.drop k) := fun x hx => hw x (List.mem_of_mem_drop hx)
  have hwt : Wide s (us.take k) := fun x hx => hw x (List.mem_of_mem_take hx)
  have hlt : k < us.length := by
    rw [hwd.flat, List.length_drop] at h0
    rcases Nat.lt_or_ge k us.length with h1 | h1
    · exact h1
    · rw [show us.length - k = 0 by omega, Nat.zero_mul] at h0
      omega
  have e1 : us.flatten = (us.take k).flatten ++ (us.drop k).flatten := by rw [← List.flatten_append, List.take_append_drop]
  have e2 : (us.take k).flatten.length = k * s := by rw [hwt.flat, List.length_take, Nat.min_eq_left hk]
  obtain ⟨b, o, e, hb, hcell⟩ := h (by rw [e1, List.length_append]; omega)
  refine ⟨b, o + k * s, ?_, hb, fun j u hj => ?_⟩
  · rw [if_neg (by omega), e]
    show some ((⟨b, o, none⟩ : Addr).add (k * s)) = _
    rw [addE]
  · have := hcell (k * s + j) u (by rw [e1, List.getElem?_append_right (by omega), e2, Nat.add_sub_cancel_left]; exact hj)
    rw [Nat.add_assoc]
    exact this
theorem VsAt.take {w : World} {A : Option Addr} {us : List (List Value)} (h : VsAt w A us.flatten) (k : Nat) : VsAt w A (us.take k).flatten := fun h0 => by
  have e1 : us.flatten = (us.take k).flatten ++ (us.drop k).flatten := by rw [← List.flatten_append, List.take_append_drop]
  obtain ⟨b, o, e, hb, hcell⟩ := h (by rw [e1, List.length_append]; omega)
  refine ⟨b, o, e, hb, fun j u hj => hcell j u ?_⟩
  rw [e1, List.getElem?_append_left (by
    rcases Nat.lt_or_ge j (us.take k).flatten.length with h1 | h1
    · exact h1
    · rw [List.getElem?_eq_none h1] at hj; cases hj)]
  exact hj
theorem run_slice25l (w : World) (A A2 : Option Addr) (len c n : Nat) (h : n ≤ len) (hA : (if c = n then A else A.map (·.add (n * 3))) = A2) : (Instr.slice 25 (.slice A len c) (some (.int .i64 (n : Int))) none none).run Tryd.prog w = .ok (.slice A2 (len - n) (c - n)) w := by
  subst hA
  have e2 : Tryd.prog.elem 25 = 58 := by kernel_rfl
  have hs : (sizeOf 58).run Tryd.prog w = .ok 3 w := by kernel_rfl
  rw [run_slice_l w 25 A len c (by rw [e2]; exact Tryd.underlying25) .i64 (n : Int) (by omega) (by omega), e2, hs]
  simp [Result.andThen, sliced]
/-- Fields are handed back. -/
def RetSr (fs : List Fd) (w : World) (e : Ending) (w' : World) : Prop := ∃ v, e = .returned v ∧ FsAt w' v fs ∧ Ext w w'
/-- The name of a field in a row. -/
theorem row_name {w : World} {B : Nat} {v : Value} {ps : List PF} (h : Row 3 w B 58 v (ps.map encF)) : ∃ A c, v = .slice A ps.length c ∧ ∀ j, j < ps.length → ∃ b : Nat, A = some ⟨b, 0, none⟩ ∧ w.cell? ⟨b, j * 3, none⟩ = some (sV (ps.getD j PF0).1.nm) := by
  have h' := h.2
  rcases h'.2 with ⟨rfl, h0⟩ | ⟨g, cap, cur, rfl, hb, hc, h1, h2, h3, h4⟩
  · rw [List.length_map] at h0
    exact ⟨none, 0, by rw [h0], fun j hj => by omega⟩
  · refine ⟨some ⟨g, 0, none⟩, cap, by rw [List.length_map], fun j hj => ⟨g, rfl, ?_⟩⟩
    have := World.ownsRow.cells h' rfl (j * 3 + 0) (sV (ps.getD j PF0).1.nm) (by
      rw [h.1.at_ (by rw [List.length_map]; exact hj) (by decide)]
      rw [List.getD_eq_getElem?_getD, List.getElem?_map, List.getElem?_eq_getElem hj, List.getD_eq_getElem?_getD, List.getElem?_eq_getElem hj]
      rfl)
    rw [add0] at this
    exact this
set_option maxRecDepth 100000 in
set_option maxHeartbeats 4000000 in
theorem sorted22_ok (fs : List Fd) (v : Value) (w : World) (h : FsAt w v fs) (hl : fs.length ≤ 100) : Calls Tryd.prog 22 #[v] w (RetSr (srtF fs) w) := by
  obtain ⟨A, c, rfl, h1, h2, h3⟩ := h.read
  have HR := Lib.hid h3
  clear h h3 h2 h1
  go_enter Tryd.func22, Tryd.ntmps22
  go_wp2_with fail
  go_loopw [3, 10] (fun t i wr => ∃ (k : Nat) (ps : List PF) (v : Value), k ≤ fs.length ∧ i = iV (k : Int) ∧ t = v ∧ ps.map (·.1) = srtF (fs.take k) ∧ Row 3 wr w.heap.size 58 v (ps.map encF) ∧ FpAt wr ps ∧ Ext w wr) (fun _ i _ => fs.length - (intOf i).toNat)
  case atStart => exact ⟨0, [], nilV, by omega, rfl, rfl, rfl, Row.nil _ _ _ _, (fun p hp => by cases hp), Ext.refl _⟩
  case round =>
    obtain ⟨k, ps, v, hk, rfl, rfl, hp, hr, hpa, hX⟩ := hrel
    have HPL : Hid (ps.length = k) := Lib.hid (by
      have := congrArg List.length hp
      rw [List.length_map, srtF_len, List.length_take] at this
      omega)
    have HP := Lib.hid hp
    have HRW := Lib.hid hr
    have HPA := Lib.hid hpa
    have HX := Lib.hid hX
    obtain ⟨Av, cv, hv, hv2, -⟩ := hr.form
    rw [List.length_map, HPL.out] at hv hv2
    subst hv
    have HVA : Hid (VsAt wr Av ((ps.map encF).flatten)) := Lib.hid (by
      obtain ⟨A', c', e, -, -, h4⟩ := hr.sl.at_
      have : Av = A' := by simpa using (Value.slice.inj e).1
      rw [this]
      exact h4)
    have HCV := Lib.hid hv2
    clear hp hr hpa hX hv2
    by_cases hlt : k < fs.length
    · have q1 : (k : Int) < (fs.length : Int) := by omega
      have q0 : (0 : Int) ≤ (k : Int) := by omega
      obtain ⟨bb, o, A1, c1, A2, c2, rfl, hb, e0, e1, e2, v1, v2, v3, s1, s2, s3⟩ := HR.out wr HX.out k hlt
      obtain ⟨f, hf⟩ : ∃ f, fs.getD k Fd0 = f := ⟨_, rfl⟩
      rw [hf] at e0 e1 e2 v1 v3 s1 s3
      have HF : Hid (fs.take (k + 1) = fs.take k ++ [f]) := Lib.hid (by
        rw [List.take_succ_eq_append_getElem hlt, ← hf, List.getD_eq_getElem?_getD, List.getElem?_eq_getElem hlt]
        rfl)
      have HPN : Hid (FpAt wr [(f, (A1, c1), (A2, c2))]) := Lib.hid (fun p hp => by
        obtain rfl := List.mem_singleton.1 hp
        exact ⟨⟨A1, c1, rfl, v1, v2, v3⟩, ⟨A2, c2, rfl, s1, s2, s3⟩⟩)
      clear hf v1 v2 v3 s1 s2 s3
      go_upto_region 5 with fail
      obtain ⟨wo, rfl⟩ : ∃ wo, wo = wr := ⟨_, rfl⟩
      generalize hw4 : wo.alloc (.cells #[.string ⟨f.nm.toArray⟩, .slice A1 f.vl.length c1, .slice A2 f.sl.length c2] 58) = w4
      have p0 : w4.cell? ⟨wo.heap.size, 0, none⟩ = some (sV f.nm) := by rw [← hw4]; exact new_at _ _ _ 0 _ rfl
      have p1 : w4.cell? ⟨wo.heap.size, 1, none⟩ = some (.slice A1 f.vl.length c1) := by rw [← hw4]; exact new_at _ _ _ 1 _ rfl
      have p2 : w4.cell? ⟨wo.heap.size, 2, none⟩ = some (.slice A2 f.sl.length c2) := by rw [← hw4]; exact new_at _ _ _ 2 _ rfl
      have HE4 : Hid (Ext wo w4) := Lib.hid (by rw [← hw4]; exact (Ext.refl _).alloc _)
      have HPP := Lib.hid (And.intro p0 (And.intro p1 p2))
      clear hw4 e0 e1 e2 p0 p1 p2
      go_wp2_with fail
      go_loopw [6] (fun i wr => ∃ j : Nat, j ≤ k ∧ i = iV (j : Int) ∧ Ext w4 wr ∧ posF f (srtF (fs.take k)) k = posF f (srtF (fs.take k)) j) (fun i _ => (intOf i).toNat)
      case atStart => exact ⟨k, Nat.le_refl _, rfl, Ext.refl _, rfl⟩
      case round =>
        obtain ⟨j, hj, rfl, hXj, hpos⟩ := hrel
        have HXJ := Lib.hid hXj
        clear hXj
        by_cases hj0 : j = 0
        · subst hj0
          have HPOS0 : Hid (posF f (srtF (fs.take k)) k = 0) := Lib.hid (by rw [hpos]; rfl)
          clear hpos
          go_wp2_with fail
          go_quiet (fail)
          obtain ⟨p, hp⟩ : ∃ p : Nat, p = 0 := ⟨_, rfl⟩
          have HZ0 := Lib.hid hp
          have hpk : p ≤ k := by omega
          have HPOS : Hid (posF f (srtF (fs.take k)) k = p) := Lib.hid (by rw [HPOS0.out, hp])
          clear hp
          generalize hwx : wr.drewN nq = wx
          have HXX : Hid (Ext w4 wx) := Lib.hid (by rw [← hwx]; exact HXJ.out.drewN _)
          clear hwx
          obtain ⟨A3, hA3⟩ : ∃ A3, (if cv = p then Av else Av.map (·.add (p * 3))) = A3 := ⟨_, rfl⟩
          have HPK : Hid (p ≤ k) := Lib.hid hpk
          obtain ⟨l3, hl3⟩ : ∃ l3, k - p = l3 := ⟨_, rfl⟩
          obtain ⟨c3, hc3⟩ : ∃ c3, cv - p = c3 := ⟨_, rfl⟩
          have s2 : ∀ W, (Instr.slice 25 (.slice Av k cv) (some (.int .i64 0)) none none).run Tryd.prog W = .ok (.slice A3 l3 c3) W := fun W => by rw [← hl3, ← hc3]; rw [show (0 : Int) = (p : Int) by have := HZ0.out; omega]; exact run_slice25l W Av A3 k cv p hpk hA3
          have HDV : Hid (VsAt wo A3 (((ps.drop p).map encF).flatten)) := Lib.hid (by
            have := VsAt.drop HVA.out (encF_wide ps) (by rw [List.length_map, HPL.out]; exact HCV.out) p (by rw [List.length_map, HPL.out]; exact hpk)
            rw [hA3, ← List.map_drop] at this
            exact this)
          have HTV : Hid (VsAt wo Av (((ps.take p).map encF).flatten)) := Lib.hid (by
            have := VsAt.take HVA.out p
            rw [← List.map_take] at this
            exact this)
          have HLD : Hid (((ps.drop p).map encF).length = l3) := Lib.hid (by rw [List.length_map, List.length_drop, HPL.out, hl3])
          have HLT : Hid (((ps.take p).map encF).length = p) := Lib.hid (by rw [List.length_map, List.length_take, HPL.out]; omega)
          have qk : (p : Int) ≤ (k : Int) := by omega
          have qc : (p : Int) ≤ (cv : Int) := by have := HCV.out; omega
          have q00 : (0 : Int) ≤ (p : Int) := by omega
          have HCV2 := Lib.hid (And.intro hpk (And.intro hl3 HCV.out))
          clear hA3 hl3 hc3
          have p0 := HXX.out.cell HPP.out.1
          have p1 := HXX.out.cell HPP.out.2.1
          have p2 := HXX.out.cell HPP.out.2.2
          go_upto_region 8 with fail
          have KB : Hid (∀ W, Ext wx W → (fun w' => Ext wx w' ∧ w'.cell? ⟨wo.heap.size, 0, none⟩ = some (sV f.nm) ∧ w'.cell? ⟨wo.heap.size, 1, none⟩ = some (.slice A1 f.vl.length c1) ∧ w'.cell? ⟨wo.heap.size, 2, none⟩ = some (.slice A2 f.sl.length c2)) W) := Lib.hid (fun W h => ⟨h, h.cell p0, h.cell p1, h.cell p2⟩)
          refine wp_region_noPanic ?_
          refine wp_region_X (S := (fun w' => Ext wx w' ∧ w'.cell? ⟨wo.heap.size, 0, none⟩ = some (sV f.nm) ∧ w'.cell? ⟨wo.heap.size, 1, none⟩ = some (.slice A1 f.vl.length c1) ∧ w'.cell? ⟨wo.heap.size, 2, none⟩ = some (.slice A2 f.sl.length c2))) (z := 6) (by kernel_rfl) ?_ (fun hHeld => ?_)
          · first | assumption | exact KB.out _ (by repeat (first | assumption | exact Ext.refl _ | apply Ext.alloc | apply Ext.drew | apply Ext.drewN))
          refine wpAnyX_take (i := 0) (v := ?_) (oper_at rfl) (by kernel_rfl) (by kernel_rfl) (by kernel_rfl) (by kernel_rfl) (fun _ _ _ h => h) (Or.inl ⟨by rfl, ?_⟩) hHeld ?_
          rotate_left
          · (intro ww hSw; (try dsimp only at hSw); go_simp; try (with_reducible rfl))
          try simp only [Act.put, List.setIfInBounds_toArray, List.set_cons_zero, List.set_cons_succ]
          refine wpAnyX_take (i := 2) (v := ?_) (oper_at rfl) (by kernel_rfl) (by kernel_rfl) (by kernel_rfl) (by kernel_rfl) (fun _ _ _ h => h) (Or.inl ⟨by rfl, ?_⟩) hHeld ?_
          rotate_left
          · (intro ww hSw; (try dsimp only at hSw); go_simp; try (with_reducible rfl))
          try simp only [Act.put, List.setIfInBounds_toArray, List.set_cons_zero, List.set_cons_succ]
          refine wpAnyX_take (i := 3) (v := ?_) (oper_at rfl) (by kernel_rfl) (by kernel_rfl) (by kernel_rfl) (by kernel_rfl) (fun _ _ _ h => h) (Or.inl ⟨by rfl, ?_⟩) hHeld ?_
          rotate_left
          · (intro ww hSw; (try dsimp only at hSw); go_simp; try (with_reducible rfl))
          try simp only [Act.put, List.setIfInBounds_toArray, List.set_cons_zero, List.set_cons_succ]
          refine wpAnyX_take (i := 4) (v := ?_) (oper_at rfl) (by kernel_rfl) (by kernel_rfl) (by kernel_rfl) (by kernel_rfl) (fun _ _ _ h => h) (Or.inl ⟨by rfl, ?_⟩) hHeld ?_
          rotate_left
          · (intro ww hSw; (try dsimp only at hSw); go_simp; try (with_reducible rfl))
          try simp only [Act.put, List.setIfInBounds_toArray, List.set_cons_zero, List.set_cons_succ]
          refine wpAnyX_ready (rs := [1]) (by kernel_rfl) (by simp) (AllReadyX.cons (by decide) (oper_at rfl) (fun K hK => ?_) AllReadyX.nil)
          go_simp
          refine hK.out _ _ ?_ (fun hHeld => ?_)
          · first | assumption | exact KB.out _ (by repeat (first | assumption | exact Ext.refl _ | apply Ext.alloc | apply Ext.drew | apply Ext.drewN))
          clear hK K
          try simp only [Act.put, List.setIfInBounds_toArray, List.set_cons_zero, List.set_cons_succ]
          refine wpAnyX_ready (rs := [5]) (by kernel_rfl) (by simp) (AllReadyX.cons (by decide) (oper_at rfl) (fun K hK => ?_) AllReadyX.nil)
          refine sapp el25 (by rfl) (.tmp 32) (.tmp 35) (by rfl) (w5 := wx) (vs := [encF (f, (A1, c1), (A2, c2))]) (us := (ps.drop p).map encF) (by rfl) (by repeat (first | assumption | exact Ext.refl _ | apply Ext.alloc | apply Ext.drew | apply Ext.drewN)) (row_new (us := [encF (f, (A1, c1), (A2, c2))]) (Ext.size (a := wx) (by repeat (first | assumption | exact Ext.refl _ | apply Ext.alloc | apply Ext.drew | apply Ext.drewN))) (Wide.one rfl) rfl (by simp)) (by rfl) HLD.out.symm (encF_wide _) (HDV.out.ext (HE4.out.trans (HXX.out.trans (by repeat (first | assumption | exact Ext.refl _ | apply Ext.alloc | apply Ext.drew | apply Ext.drewN))))) (encF_one _) (by rw [HLD.out]; simp; have := HCV2.out; omega) (by rw [HLD.out]; simp; have := HCV2.out; omega) ?_
          intro v7 w7 hr7 hE7 hg7 hb7
          have HR7 := Lib.hid hr7
          have HV7 : Hid (∃ A c, v7 = .slice A (1 + l3) c ∧ VsAt w7 A (encF (f, (A1, c1), (A2, c2)) :: (ps.drop p).map encF).flatten) := Lib.hid (by
              obtain ⟨A', c', e, -, -, h4⟩ := hr7.sl.at_
              refine ⟨A', c', ?_, h4⟩
              rw [e]
              congr 1
              rw [List.length_append, HLD.out]
              rfl)
          obtain ⟨A7, c7, e7, h7⟩ := HV7.out
          subst e7
          have H7 := Lib.hid h7
          clear hr7 hg7 hb7 h7
          refine hK.out _ _ ?_ (fun hHeld => ?_)
          · first | assumption | exact KB.out _ (by repeat (first | assumption | exact Ext.refl _ | apply Ext.alloc | apply Ext.drew | apply Ext.drewN))
          clear hK K
          try simp only [Act.put, List.setIfInBounds_toArray, List.set_cons_zero, List.set_cons_succ]
          refine wpAnyX_ready (rs := [6]) (by kernel_rfl) (by simp) (AllReadyX.last rfl (oper_at rfl) (fun K hK => ?_))
          go_simp
          refine hK.out _ _ ?_
          clear hK K
          try simp only [Act.put, List.setIfInBounds_toArray, List.set_cons_zero, List.set_cons_succ]
          refine wpAnyX_done (by kernel_rfl) ?_ _
          refine NoPanic.normal ?_
          have HE7 : Hid (Ext wo w7) := Lib.hid (HE4.out.trans (HXX.out.trans hE7))
          clear p0 p1 p2 hE7
          go_wp2_with (first | (at_builtin; refine wapp el25 rfl (.tmp 37) (.tmp 40) rfl (w5 := w7) (vs := []) (us := (ps.take p).map encF) rfl ((Ext.refl _).alloc _) (row_new (Nat.le_refl _) (Wide.nil 3) rfl (by simp)) rfl (by rw [HLT.out]; exact HZ0.out.symm) (encF_wide _) (HTV.out.ext (HE7.out.alloc _)) (encF_one _) (by rw [HLT.out]; simp; have := HCV2.out; omega) (by rw [HLT.out]; simp; have := HCV2.out; omega) ?_; intro v8 w8 hr8 hE8 hg8 hb8; rw [List.nil_append] at hr8; have HR8 := Lib.hid hr8; have HE8 := Lib.hid hE8; clear hr8 hE8 hg8 hb8) | (at_builtin; refine wapp el25 rfl (.tmp 41) (.tmp 42) rfl (w5 := w7) (vs := (ps.take p).map encF) (us := encF (f, (A1, c1), (A2, c2)) :: (ps.drop p).map encF) rfl HE8.out HR8.out rfl (by rw [List.length_cons, HLD.out, Nat.add_comm]) (by first | exact HR7.out.1) (H7.out.ext HE8.out) (by first | exact encF_one ((f, (A1, c1), (A2, c2)) :: ps.drop p)) (by rw [HLT.out, List.length_cons, HLD.out]; have := HCV2.out; omega) (by rw [HLT.out, List.length_cons, HLD.out]; have := HCV2.out; omega) ?_; intro v9 w9 hr9 hE9 hg9 hb9; have HR9 := Lib.hid hr9; have HE9 := Lib.hid hE9; clear hr9 hE9 hg9 hb9))
          have HX9 : Ext wo w9 := HE7.out.trans HE9.out
          refine ⟨⟨k + 1, ps.take p ++ (f, (A1, c1), (A2, c2)) :: ps.drop p, _, by omega, by go_num, rfl, ?_, ?_, ?_, HX.out.trans HX9⟩, by simp [intOf]; omega⟩
          · rw [HF.out, srtF_snoc, List.map_append, List.map_cons, List.map_take, List.map_drop, HP.out]
            unfold stepS
            rw [srtF_len, List.length_take, Nat.min_eq_left hk, HPOS.out]
          · have := HR9.out.base (B' := w.heap.size) (HX.out.trans HE7.out).size
            rw [List.map_append, List.map_cons]
            exact this
          · intro q hq
            rcases List.mem_append.1 hq with h1 | h1
            · exact ((HPA.out.ext HX9) q (List.mem_of_mem_take h1))
            · rcases List.mem_cons.1 h1 with rfl | h2
              · exact (HPN.out.ext HX9) _ (List.mem_singleton.2 rfl)
              · exact ((HPA.out.ext HX9) q (List.mem_of_mem_drop h2))
        · obtain ⟨i, rfl⟩ : ∃ i, j = i + 1 := ⟨j - 1, by omega⟩
          obtain ⟨A9, c9, e9, hrd⟩ := row_name (HRW.out.ext (HE4.out.trans HXJ.out))
          obtain ⟨b9, hb9, hc9⟩ := hrd i (by rw [HPL.out]; omega)
          obtain ⟨g, hg⟩ : ∃ g, (ps.getD i PF0).1 = g := ⟨_, rfl⟩
          rw [hg] at hc9
          obtain rfl : Av = some ⟨b9, 0, none⟩ := by
            have e1 : (Value.slice Av k cv) = .slice (some ⟨b9, 0, none⟩) ps.length c9 := by rw [e9, hb9]
            simpa using (Value.slice.inj e1).1
          have hgs : (srtF (fs.take k)).getD i Fd0 = g := by
            rw [← HP.out, ← hg, List.getD_eq_getElem?_getD, List.getElem?_map, List.getElem?_eq_getElem (by rw [HPL.out]; omega : i < ps.length), List.getD_eq_getElem?_getD, List.getElem?_eq_getElem (by rw [HPL.out]; omega : i < ps.length)]
            rfl
          have HST : Hid (posF f (srtF (fs.take k)) (i + 1) = if f.nm < g.nm then posF f (srtF (fs.take k)) i else i + 1) := Lib.hid (by rw [posF, hgs])
          have p0 := HXJ.out.cell HPP.out.1
          have e1 := bytesLess_eq g.nm f.nm
          have e2 := sle_or g.nm f.nm
          have w1 : IntKind.i64.wrap (((i + 1 : Nat) : Int) - 1) = (i : Int) := by rw [IntWalk.i64_in _ (by omega)]; omega
          have w2 : ((i + 1 : Nat) : Int) - 1 = (i : Int) := by omega
          have qa : (0 : Int) < ((i + 1 : Nat) : Int) := by omega
          have qb : (i : Int) < (k : Int) := by omega
          have qd : (0 : Int) ≤ (i : Int) := by omega
          clear e9 hb9 hrd hg hgs hj0
          by_cases hlt2 : f.nm < g.nm
          · have HPN2 : Hid (posF f (srtF (fs.take k)) k = posF f (srtF (fs.take k)) i) := Lib.hid (by rw [hpos, HST.out, if_pos hlt2])
            clear hpos
            go_wp2_with fail
            go_quiet (fail)
            go_wp2_with fail
            exact ⟨⟨i, by omega, rfl, HXJ.out.drewN _, HPN2.out⟩, by simp [intOf]⟩
          · have HPOS0 : Hid (posF f (srtF (fs.take k)) k = i + 1) := Lib.hid (by rw [hpos, HST.out, if_neg hlt2])
            clear hpos
            go_wp2_with fail
            go_quiet (fail)
            obtain ⟨p, hp⟩ : ∃ p, i + 1 = p := ⟨_, rfl⟩
            have hpk : p ≤ k := by omega
            have HPOS : Hid (posF f (srtF (fs.take k)) k = p) := Lib.hid (by rw [HPOS0.out, hp])
            generalize hii : ((i + 1 : Nat) : Int) = pi
            obtain rfl : pi = (p : Int) := by rw [← hii, hp]
            clear hii p0 e1 e2 w1 w2 qa qb qd hp
            generalize hwx : wr.drewN nq = wx
            have HXX : Hid (Ext w4 wx) := Lib.hid (by rw [← hwx]; exact HXJ.out.drewN _)
            clear hwx
            obtain ⟨A3, hA3⟩ : ∃ A3, (if cv = p then (some ⟨b9, 0, none⟩) else (some (⟨b9, 0, none⟩ : Addr)).map (·.add (p * 3))) = A3 := ⟨_, rfl⟩
            have HPK : Hid (p ≤ k) := Lib.hid hpk
            obtain ⟨l3, hl3⟩ : ∃ l3, k - p = l3 := ⟨_, rfl⟩
            obtain ⟨c3, hc3⟩ : ∃ c3, cv - p = c3 := ⟨_, rfl⟩
            have s2 : ∀ W, (Instr.slice 25 (.slice (some ⟨b9, 0, none⟩) k cv) (some (.int .i64 (p : Int))) none none).run Tryd.prog W = .ok (.slice A3 l3 c3) W := fun W => by rw [← hl3, ← hc3]; exact run_slice25l W (some ⟨b9, 0, none⟩) A3 k cv p hpk hA3
            have HDV : Hid (VsAt wo A3 (((ps.drop p).map encF).flatten)) := Lib.hid (by
              have := VsAt.drop HVA.out (encF_wide ps) (by rw [List.length_map, HPL.out]; exact HCV.out) p (by rw [List.length_map, HPL.out]; exact hpk)
              rw [hA3, ← List.map_drop] at this
              exact this)
            have HTV : Hid (VsAt wo (some ⟨b9, 0, none⟩) (((ps.take p).map encF).flatten)) := Lib.hid (by
              have := VsAt.take HVA.out p
              rw [← List.map_take] at this
              exact this)
            have HLD : Hid (((ps.drop p).map encF).length = l3) := Lib.hid (by rw [List.length_map, List.length_drop, HPL.out, hl3])
            have HLT : Hid (((ps.take p).map encF).length = p) := Lib.hid (by rw [List.length_map, List.length_take, HPL.out]; omega)
            have qk : (p : Int) ≤ (k : Int) := by omega
            have qc : (p : Int) ≤ (cv : Int) := by have := HCV.out; omega
            have q00 : (0 : Int) ≤ (p : Int) := by omega
            have HCV2 := Lib.hid (And.intro hpk (And.intro hl3 HCV.out))
            clear hA3 hl3 hc3
            have p0 := HXX.out.cell HPP.out.1
            have p1 := HXX.out.cell HPP.out.2.1
            have p2 := HXX.out.cell HPP.out.2.2
            go_upto_region 8 with fail
            have KB : Hid (∀ W, Ext wx W → (fun w' => Ext wx w' ∧ w'.cell? ⟨wo.heap.size, 0, none⟩ = some (sV f.nm) ∧ w'.cell? ⟨wo.heap.size, 1, none⟩ = some (.slice A1 f.vl.length c1) ∧ w'.cell? ⟨wo.heap.size, 2, none⟩ = some (.slice A2 f.sl.length c2)) W) := Lib.hid (fun W h => ⟨h, h.cell p0, h.cell p1, h.cell p2⟩)
            refine wp_region_noPanic ?_
            refine wp_region_X (S := (fun w' => Ext wx w' ∧ w'.cell? ⟨wo.heap.size, 0, none⟩ = some (sV f.nm) ∧ w'.cell? ⟨wo.heap.size, 1, none⟩ = some (.slice A1 f.vl.length c1) ∧ w'.cell? ⟨wo.heap.size, 2, none⟩ = some (.slice A2 f.sl.length c2))) (z := 6) (by kernel_rfl) ?_ (fun hHeld => ?_)
            · first | assumption | exact KB.out _ (by repeat (first | assumption | exact Ext.refl _ | apply Ext.alloc | apply Ext.drew | apply Ext.drewN))
            refine wpAnyX_take (i := 0) (v := ?_) (oper_at rfl) (by kernel_rfl) (by kernel_rfl) (by kernel_rfl) (by kernel_rfl) (fun _ _ _ h => h) (Or.inl ⟨by rfl, ?_⟩) hHeld ?_
            rotate_left
            · (intro ww hSw; (try dsimp only at hSw); go_simp; try (with_reducible rfl))
            try simp only [Act.put, List.setIfInBounds_toArray, List.set_cons_zero, List.set_cons_succ]
            refine wpAnyX_take (i := 2) (v := ?_) (oper_at rfl) (by kernel_rfl) (by kernel_rfl) (by kernel_rfl) (by kernel_rfl) (fun _ _ _ h => h) (Or.inl ⟨by rfl, ?_⟩) hHeld ?_
            rotate_left
            · (intro ww hSw; (try dsimp only at hSw); go_simp; try (with_reducible rfl))
            try simp only [Act.put, List.setIfInBounds_toArray, List.set_cons_zero, List.set_cons_succ]
            refine wpAnyX_take (i := 3) (v := ?_) (oper_at rfl) (by kernel_rfl) (by kernel_rfl) (by kernel_rfl) (by kernel_rfl) (fun _ _ _ h => h) (Or.inl ⟨by rfl, ?_⟩) hHeld ?_
            rotate_left
            · (intro ww hSw; (try dsimp only at hSw); go_simp; try (with_reducible rfl))
            try simp only [Act.put, List.setIfInBounds_toArray, List.set_cons_zero, List.set_cons_succ]
            refine wpAnyX_take (i := 4) (v := ?_) (oper_at rfl) (by kernel_rfl) (by kernel_rfl) (by kernel_rfl) (by kernel_rfl) (fun _ _ _ h => h) (Or.inl ⟨by rfl, ?_⟩) hHeld ?_
            rotate_left
            · (intro ww hSw; (try dsimp only at hSw); go_simp; try (with_reducible rfl))
            try simp only [Act.put, List.setIfInBounds_toArray, List.set_cons_zero, List.set_cons_succ]
            refine wpAnyX_ready (rs := [1]) (by kernel_rfl) (by simp) (AllReadyX.cons (by decide) (oper_at rfl) (fun K hK => ?_) AllReadyX.nil)
            go_simp
            refine hK.out _ _ ?_ (fun hHeld => ?_)
            · first | assumption | exact KB.out _ (by repeat (first | assumption | exact Ext.refl _ | apply Ext.alloc | apply Ext.drew | apply Ext.drewN))
            clear hK K
            try simp only [Act.put, List.setIfInBounds_toArray, List.set_cons_zero, List.set_cons_succ]
            refine wpAnyX_ready (rs := [5]) (by kernel_rfl) (by simp) (AllReadyX.cons (by decide) (oper_at rfl) (fun K hK => ?_) AllReadyX.nil)
            refine sapp el25 (by rfl) (.tmp 32) (.tmp 35) (by rfl) (w5 := wx) (vs := [encF (f, (A1, c1), (A2, c2))]) (us := (ps.drop p).map encF) (by rfl) (by repeat (first | assumption | exact Ext.refl _ | apply Ext.alloc | apply Ext.drew | apply Ext.drewN)) (row_new (us := [encF (f, (A1, c1), (A2, c2))]) (Ext.size (a := wx) (by repeat (first | assumption | exact Ext.refl _ | apply Ext.alloc | apply Ext.drew | apply Ext.drewN))) (Wide.one rfl) rfl (by simp)) (by rfl) HLD.out.symm (encF_wide _) (HDV.out.ext (HE4.out.trans (HXX.out.trans (by repeat (first | assumption | exact Ext.refl _ | apply Ext.alloc | apply Ext.drew | apply Ext.drewN))))) (encF_one _) (by rw [HLD.out]; simp; have := HCV2.out; omega) (by rw [HLD.out]; simp; have := HCV2.out; omega) ?_
            intro v7 w7 hr7 hE7 hg7 hb7
            have HR7 := Lib.hid hr7
            have HV7 : Hid (∃ A c, v7 = .slice A (1 + l3) c ∧ VsAt w7 A (encF (f, (A1, c1), (A2, c2)) :: (ps.drop p).map encF).flatten) := Lib.hid (by
                obtain ⟨A', c', e, -, -, h4⟩ := hr7.sl.at_
                refine ⟨A', c', ?_, h4⟩
                rw [e]
                congr 1
                rw [List.length_append, HLD.out]
                rfl)
            obtain ⟨A7, c7, e7, h7⟩ := HV7.out
            subst e7
            have H7 := Lib.hid h7
            clear hr7 hg7 hb7 h7
            refine hK.out _ _ ?_ (fun hHeld => ?_)
            · first | assumption | exact KB.out _ (by repeat (first | assumption | exact Ext.refl _ | apply Ext.alloc | apply Ext.drew | apply Ext.drewN))
            clear hK K
            try simp only [Act.put, List.setIfInBounds_toArray, List.set_cons_zero, List.set_cons_succ]
            refine wpAnyX_ready (rs := [6]) (by kernel_rfl) (by simp) (AllReadyX.last rfl (oper_at rfl) (fun K hK => ?_))
            go_simp
            refine hK.out _ _ ?_
            clear hK K
            try simp only [Act.put, List.setIfInBounds_toArray, List.set_cons_zero, List.set_cons_succ]
            refine wpAnyX_done (by kernel_rfl) ?_ _
            refine NoPanic.normal ?_
            have HE7 : Hid (Ext wo w7) := Lib.hid (HE4.out.trans (HXX.out.trans hE7))
            clear p0 p1 p2 hE7
            go_wp2_with (first | (at_builtin; refine wapp el25 rfl (.tmp 37) (.tmp 40) rfl (w5 := w7) (vs := []) (us := (ps.take p).map encF) rfl ((Ext.refl _).alloc _) (row_new (Nat.le_refl _) (Wide.nil 3) rfl (by simp)) rfl HLT.out.symm (encF_wide _) (HTV.out.ext (HE7.out.alloc _)) (encF_one _) (by rw [HLT.out]; simp; have := HCV2.out; omega) (by rw [HLT.out]; simp; have := HCV2.out; omega) ?_; intro v8 w8 hr8 hE8 hg8 hb8; rw [List.nil_append] at hr8; have HR8 := Lib.hid hr8; have HE8 := Lib.hid hE8; clear hr8 hE8 hg8 hb8) | (at_builtin; refine wapp el25 rfl (.tmp 41) (.tmp 42) rfl (w5 := w7) (vs := (ps.take p).map encF) (us := encF (f, (A1, c1), (A2, c2)) :: (ps.drop p).map encF) rfl HE8.out HR8.out rfl (by rw [List.length_cons, HLD.out, Nat.add_comm]) (by first | exact HR7.out.1) (H7.out.ext HE8.out) (by first | exact encF_one ((f, (A1, c1), (A2, c2)) :: ps.drop p)) (by rw [HLT.out, List.length_cons, HLD.out]; have := HCV2.out; omega) (by rw [HLT.out, List.length_cons, HLD.out]; have := HCV2.out; omega) ?_; intro v9 w9 hr9 hE9 hg9 hb9; have HR9 := Lib.hid hr9; have HE9 := Lib.hid hE9; clear hr9 hE9 hg9 hb9))
            have HX9 : Ext wo w9 := HE7.out.trans HE9.out
            refine ⟨⟨k + 1, ps.take p ++ (f, (A1, c1), (A2, c2)) :: ps.drop p, _, by omega, by go_num, rfl, ?_, ?_, ?_, HX.out.trans HX9⟩, by simp [intOf]; omega⟩
            · rw [HF.out, srtF_snoc, List.map_append, List.map_cons, List.map_take, List.map_drop, HP.out]
              unfold stepS
              rw [srtF_len, List.length_take, Nat.min_eq_left hk, HPOS.out]
            · have := HR9.out.base (B' := w.heap.size) (HX.out.trans HE7.out).size
              rw [List.map_append, List.map_cons]
              exact this
            · intro q hq
              rcases List.mem_append.1 hq with h1 | h1
              · exact ((HPA.out.ext HX9) q (List.mem_of_mem_take h1))
              · rcases List.mem_cons.1 h1 with rfl | h2
                · exact (HPN.out.ext HX9) _ (List.mem_singleton.2 rfl)
                · exact ((HPA.out.ext HX9) q (List.mem_of_mem_drop h2))
    · obtain rfl : k = fs.length := by omega
      go_wp2_with fail
      go_ret
      rw [List.take_length] at HP
      refine ⟨_, rfl, ?_, HX.out⟩
      have := FsAt.of_row HRW.out.sl HPA.out
      rw [HP.out] at this
      exact this
end Go.Proofs.YtjedhndhdkiidaaDoor
