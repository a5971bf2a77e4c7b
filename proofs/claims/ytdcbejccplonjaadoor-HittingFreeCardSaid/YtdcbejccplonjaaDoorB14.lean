/- The walk over parts. -/
import Derived.Test.YtdcbejccplonjaaDoorB13
namespace Go.Proofs.YtdcbejccplonjaaDoor
open Go.RowKit
attribute [local go_sem ↓] Go.wp_at_zero Go.wp_at_succ
theorem partsF_len (xs : List Nat) : (partsF xs).length ≤ xs.length := by
  induction xs using snoc_ind with
  | h0 => simp [partsF]
  | h1 l x ih =>
    have e : partsF (l ++ [x]) = partS (partsF l) x := by simp [partsF]
    rw [e]
    unfold partS
    have := List.length_filter_le (fun p : List Nat × Nat => decide (p.2 &&& x = 0)) (partsF l)
    simp only [List.length_append, List.length_singleton]
    omega
theorem partsF_snoc (xs : List Nat) {k : Nat} (h : k < xs.length) : partsF (xs.take (k + 1)) = partS (partsF (xs.take k)) (xs.getD k 0) := by
  unfold partsF
  rw [take_snoc h, List.foldl_append, List.getD_eq_getElem?_getD, List.getElem?_eq_getElem h]
  rfl
/-- What is known of the parts' numbers. -/
structure PsOk (ps : List PT) : Prop where
  len : ps.length ≤ 64
  flat : (ps.flatMap (·.2.1)).length ≤ 64
  u64 : ∀ p ∈ ps, p.2.2 < 18446744073709551616
theorem ps_ok' {xs : List Nat} {k : Nat} {ps : List PT} (hu : U64 xs) (hl : xs.length ≤ 64) (h : ps.map (·.2) = partsF (xs.take k)) : PsOk ps := by
  have hf := parts_facts (xs.take k)
  have hk : (xs.take k).length ≤ 64 := by rw [List.length_take]; omega
  refine ⟨?_, ?_, fun p hp => ?_⟩
  · have := partsF_len (xs.take k)
    rw [← h, List.length_map] at this
    omega
  · have := hf.perm.length_eq
    rw [← h, List.flatMap_map] at this
    omega
  · have hm : p.2 ∈ partsF (xs.take k) := by rw [← h]; exact List.mem_map.2 ⟨p, hp, rfl⟩
    rw [hf.union _ hm]
    refine orAll_lt fun s hs => hu s (List.mem_of_mem_take (hf.perm.mem_iff.1 (List.mem_flatMap.2 ⟨p.2, hm, hs⟩)))
theorem flat_filter {α β : Type} (f : α → List β) (q : α → Bool) : ∀ l : List α, ((l.filter q).flatMap f).length ≤ (l.flatMap f).length
  | [] => by simp
  | a :: l => by
    have := flat_filter f q l
    rw [List.filter_cons]
    split
    · rw [List.flatMap_cons, List.flatMap_cons, List.length_append, List.length_append]
      omega
    · rw [List.flatMap_cons, List.length_append]
      omega
theorem flat_take {α β : Type} (f : α → List β) (l : List α) (i : Nat) : ((l.take i).flatMap f).length ≤ (l.flatMap f).length := by
  have : l.flatMap f = (l.take i).flatMap f ++ (l.drop i).flatMap f := by rw [← List.flatMap_append, List.take_append_drop]
  rw [this, List.length_append]
  omega
theorem flat_mem {α β : Type} (f : α → List β) {a : α} : ∀ {l : List α}, a ∈ l → (f a).length ≤ (l.flatMap f).length
  | b :: l, h => by
    rw [List.flatMap_cons, List.length_append]
    rcases List.mem_cons.1 h with rfl | h
    · omega
    · have := flat_mem f h
      omega
def RetPs (xs : List Nat) (w : World) (e : Ending) (w' : World) : Prop := ∃ (v : Value) (ps : List PT), e = .returned v ∧ Row w' w.heap.size 48 v (ps.map (·.1)) ∧ (∀ p ∈ ps, Us w' p.1 p.2.1) ∧ ps.map (·.2) = partsF xs ∧ Ext w w'
theorem Row.some_of {w : World} {B e n c : Nat} {A : Option Addr} {vs : List Value} (h : Row w B e (.slice A n c) vs) (hn : 0 < vs.length) : ∃ g, A = some ⟨g, 0, none⟩ ∧ n = vs.length ∧ w.ownsRow B e 1 (.slice (some ⟨g, 0, none⟩) vs.length c) vs.length vs := by
  have h' : w.ownsRow B e 1 (.slice A n c) vs.length vs := h
  rcases h'.2 with ⟨h1, h0⟩ | ⟨g, cap, cur, e1, hB, hg, h1, h2, h3, h4⟩
  · omega
  · simp only [Value.slice.injEq] at e1
    obtain ⟨rfl, rfl, rfl⟩ := e1
    exact ⟨g, rfl, rfl, h'⟩
theorem own_len (A : Option Addr) (n m c d : Nat) : (Value.slice A n c).ownBlock = (Value.slice A m d).ownBlock := by cases A <;> rfl
set_option maxRecDepth 100000 in
set_option maxHeartbeats 8000000 in
theorem parts_any (xs : List Nat) (v : Value) (w : World) (h : Us w v xs) (hu : U64 xs) (hl : xs.length ≤ 64) : Calls Tryd.prog 31 #[v] w (RetPs xs w) := by
  obtain ⟨A, c, rfl, _, _, RA⟩ := h.read
  have HR := Lib.hid RA
  have HU := Lib.hid hu
  clear RA h hu
  go_enter Tryd.func31, Tryd.ntmps31
  go_wp2_with fail
  go_loopw [3, 4, 14] (fun t u i wr => ∃ (k : Nat) (ps : List PT), k ≤ xs.length ∧ i = iV (k : Int) ∧ Pts wr w.heap.size t u ps ∧ ps.map (·.2) = partsF (xs.take k) ∧ Ext w wr) (fun _ _ i _ => xs.length - (intOf i).toNat)
  case atStart => exact ⟨0, [], by omega, rfl, Pts.nil _ _, by simp [partsF], Ext.refl _⟩
  case round =>
    obtain ⟨k, ps, hk, rfl, hP, hps, hE⟩ := hrel
    have HX := Lib.hid hE
    have HPS := Lib.hid hps
    have HOK := Lib.hid (ps_ok' HU.out hl hps)
    obtain ⟨A1, c1, e1, l1, z1⟩ := hP.row.form
    obtain ⟨A2, c2, e2, l2, z2⟩ := hP.row2.form
    simp only [List.length_map] at e1 e2 l1 l2 z1 z2
    subst e1
    subst e2
    have HP := Lib.hid hP
    have hpl := HOK.out.len
    clear hps hP hE z1 z2
    by_cases hlt : k < xs.length
    · obtain ⟨ad, rfl, cx⟩ := HR.out wr HX.out k hlt
      have sl := getD_lt HU.out k
      have HSN := Lib.hid (partsF_snoc xs hlt)
      generalize xs.getD k 0 = s at *
      have HI0 := Lib.hid (Inn.start (s := s) HP.out HX.out)
      go_wp2_with fail
      generalize hw0 : wr = w0 at *
      go_loopw [7, 8, 9, 23] (fun vp un kept i wq => ∃ (i' kept' un' : Nat) (vs : List Value) (us : List Nat), i' ≤ ps.length ∧ i = iV (i' : Int) ∧ kept = iV (kept' : Int) ∧ un = uV un' ∧ un' < 18446744073709551616 ∧ Inn w w0 wq (Value.slice A1 ps.length c1) (Value.slice A2 ps.length c2) ps s i' vp un' kept' vs us) (fun _ _ _ i _ => ps.length - (intOf i).toNat)
      case atStart => exact ⟨0, 0, s, _, _, by omega, rfl, rfl, rfl, sl, HI0.out⟩
      case round =>
        obtain ⟨i, kept, un, vs, us, hi, rfl, rfl, rfl, hun, hI⟩ := hrel
        have HI := Lib.hid hI
        clear hI
        by_cases hil : i < ps.length
        · have hlv := HI.out.lv
          have hlu := HI.out.lu
          obtain ⟨g1, rfl, -, r1⟩ := HI.out.row.some_of (by rw [hlv]; omega)
          obtain ⟨g2, rfl, -, r2⟩ := HI.out.row2.some_of (by rw [List.length_map, hlu]; omega)
          rw [hlv] at r1
          rw [List.length_map, hlu] at r2
          have hpm : ps[i] ∈ ps := List.getElem_mem hil
          have PU := HOK.out.u64 _ hpm
          have PP := HP.out.part HI.out.chg hpm
          obtain ⟨-, v1⟩ := drop_getD (d := Value.slice none 0 0) HI.out.vd hil
          obtain ⟨-, u1⟩ := drop_getD (d := 0) HI.out.ud hil
          have cu : wr.cell? ⟨g2, i, none⟩ = some (uV ps[i].2.2) := by
            rw [r2.cellAt i (by omega), List.getElem?_map, List.getElem?_eq_getElem (by omega), ← u1, List.getD_eq_getElem?_getD, List.getElem?_eq_getElem (by omega)]; rfl
          have cv : wr.cell? ⟨g1, i, none⟩ = some ps[i].1 := by
            rw [r1.cellAt i (by omega), List.getElem?_eq_getElem (by omega), ← v1, List.getD_eq_getElem?_getD, List.getElem?_eq_getElem (by omega)]; rfl
          have kl : kept ≤ i := by rw [HI.out.hk]; exact kept_le
          have ck : ∃ x, wr.cell? ⟨g1, kept, none⟩ = some x := ⟨_, by rw [r1.cellAt kept (by omega), List.getElem?_eq_getElem (by omega)]⟩
          have cl : ∃ x, wr.cell? ⟨g2, kept, none⟩ = some x := ⟨_, by rw [r2.cellAt kept (by omega), List.getElem?_eq_getElem (by rw [List.length_map]; omega)]⟩
          have f1 : wr.frozen? ⟨g1, kept, none⟩ = false := r1.frozenAt kept
          have f2 : wr.frozen? ⟨g2, kept, none⟩ = false := r2.frozenAt kept
          have g12 : g1 ≠ g2 := fun e => HP.out.tu g1 rfl (by rw [e]; rfl)
          have HKEEP := Lib.hid (fun hk => HI.out.keep HP.out rfl hil hk)
          have HJOIN := Lib.hid (fun w1 vp1 hk hr hE hg hb => HI.out.join (w1 := w1) (vp1 := vp1) HP.out hil hk hr hE hg hb)
          have hfl : ((s :: ((ps.take i).filter (nk s)).flatMap (·.2.1)).map uV).length ≤ 65 := by
            have a1 := flat_filter (fun p : PT => p.2.1) (nk s) (ps.take i)
            have a2 := flat_take (fun p : PT => p.2.1) ps i
            have a3 := HOK.out.flat
            rw [List.length_map, List.length_cons]
            omega
          have hpf : ps[i].2.1.length ≤ 64 := Nat.le_trans (flat_mem (fun p : PT => p.2.1) hpm) HOK.out.flat
          have hkp : kp s ps[i] = decide (ps[i].2.2 &&& s = 0) := rfl
          clear v1 u1 r1 r2 hpm
          obtain ⟨p, hp⟩ : ∃ p, ps[i] = p := ⟨_, rfl⟩
          rw [hp] at PU PP cu cv HKEEP HJOIN hpf hkp
          clear hp
          obtain ⟨pv, pl, pu⟩ := p
          simp only [] at PU PP cu cv HKEEP HJOIN hpf hkp
          obtain ⟨Ap, cp, e3, -, -, vp3⟩ := SlAt.at_ PP
          rw [List.length_map] at e3
          subst e3
          have HV := Lib.hid vp3
          have HX2 := Lib.hid HI.out.ext
          have HPR := Lib.hid HI.out.prow
          obtain ⟨pr, hpr⟩ : ∃ pr, (s :: ((ps.take i).filter (nk s)).flatMap (·.2.1)) = pr := ⟨_, rfl⟩
          rw [hpr] at HPR HJOIN hfl
          clear hpr
          rw [List.length_map] at hfl
          obtain ⟨Av, cw, e4, -, -⟩ := HPR.out.form
          rw [List.length_map] at e4
          have ea := and_u64 PU sl
          have eo := u64_or_nat un pu hun PU
          have lo : un ||| pu < 18446744073709551616 := orL hun PU
          clear vp3 PP hlv hlu HI
          cases hkb : decide (pu &&& s = 0) with
          | false =>
            have HJ := Lib.hid (fun w1 vp1 hr hE hg hb => HJOIN.out w1 vp1 (hkp.trans hkb) hr hE hg hb)
            have t0 : (((pu &&& s : Nat) : Int) != 0) = true := by
              have : pu &&& s ≠ 0 := of_decide_eq_false hkb
              simp; omega
            clear HJOIN HKEEP hkb hkp ck cl f1 f2
            subst e4
            go_wp2_with (at_builtin; go_loud (refine wapp el48 rfl (.tmp 32) (.tmp 36) rfl (w5 := w) rfl HX2.out HPR.out rfl (List.length_map ..).symm HV.out (fun x hx => by obtain ⟨y, _, rfl⟩ := List.mem_map.1 hx; rfl) ?hm ?_; (case hm => (rw [List.length_map, List.length_map]; omega)); intro v1 w1 hr1 hE1 hg1 hb1))
            exact ⟨⟨i + 1, kept, un ||| pu, vs, us, by omega, by go_num, rfl, by go_num, lo, HJ.out _ _ hr1 hE1 hg1 hb1⟩, by simp [intOf]; omega⟩
          | true =>
            have HK := Lib.hid (HKEEP.out (hkp.trans hkb))
            have t0 : (((pu &&& s : Nat) : Int) != 0) = false := by
              have : pu &&& s = 0 := of_decide_eq_true hkb
              simp; omega
            clear HJOIN HKEEP hkb hkp
            obtain ⟨x1, ck⟩ := ck
            obtain ⟨x2, cl⟩ := cl
            go_wp2_with fail
            exact ⟨⟨i + 1, kept + 1, un, _, _, by omega, by go_num, by go_num, rfl, hun, HK.out⟩, by simp [intOf]; omega⟩
        · obtain rfl : i = ps.length := by omega
          have hkk := HI.out.hk
          have hvt := HI.out.vt
          have hut := HI.out.ut
          have hpn := HI.out.pun
          have hpr := HI.out.prow
          rw [List.take_length] at hkk hvt hut hpn hpr
          have hkl : kept ≤ ps.length := by rw [hkk]; exact List.length_filter_le _ _
          have OLD : Old w0 wr (Value.slice A1 ps.length c1) (Value.slice A2 ps.length c2) u7 := ⟨fun k hk => (HP.out.row.lt k hk).2, fun k hk => (HP.out.row2.lt k hk).2, fun k hk => ⟨HI.out.pnew k hk, (hpr.lt k hk).2⟩, HI.out.chg.size⟩
          have TW : Two w w0 wr wr (Value.slice A1 ps.length c1) (Value.slice A2 ps.length c2) u7 ((s :: (ps.filter (nk s)).flatMap (·.2.1)).map uV) (Value.slice A1 kept c1) (Value.slice A2 kept c2) ((ps.filter (kp s)).map (·.1)) (((ps.filter (kp s)).map (·.2.2)).map uV) := by
            refine ⟨HI.out.ext, HI.out.chg, Nat.le_refl _, ?_, ?_, hpr, fun k hk => by rw [own_len A2 _ ps.length c2 c2]; exact HP.out.tu k (by rw [own_len A1 _ kept c1 c1]; exact hk), .inl (own_len _ _ _ _ _), .inl (own_len _ _ _ _ _)⟩
            · rw [← hvt]; exact HI.out.row.cut (by rw [HI.out.lv]; exact hkl)
            · rw [← hut, List.map_take]; exact HI.out.row2.cut (by rw [List.length_map, HI.out.lu]; exact hkl)
          have hEwr : Ext w wr := HI.out.ext
          have HEQ := Lib.hid (round_eq ps s u7)
          have HDN := Lib.hid (fun w' t u (k : Two w w0 wr w' (Value.slice A1 ps.length c1) (Value.slice A2 ps.length c2) u7 ((s :: (ps.filter (nk s)).flatMap (·.2.1)).map uV) t u ((ps.filter (kp s)).map (·.1) ++ [u7]) (((ps.filter (kp s)).map (·.2.2)).map uV ++ [uV un])) => Two.done HP.out OLD k)
          rw [← hpn] at HEQ
          rw [← HPS.out] at HSN
          have hlf : (ps.filter (kp s)).length ≤ 64 := by rw [← hkk]; omega
          have HT := Lib.hid TW
          have HO := Lib.hid OLD
          have l1' : ((kept : Nat) : Int) ≤ (c1 : Int) := by omega
          have l2' : ((kept : Nat) : Int) ≤ (c2 : Int) := by omega
          have hts : ((ps.filter (kp s)).map (·.1)).length = kept := by rw [List.length_map, hkk]
          have hus : (((ps.filter (kp s)).map (·.2.2)).map uV).length = kept := by rw [List.length_map, List.length_map, hkk]
          obtain ⟨pr, hpr'⟩ : ∃ pr, (s :: (ps.filter (nk s)).flatMap (·.2.1)) = pr := ⟨_, rfl⟩
          rw [hpr'] at HT HDN HEQ hpr
          obtain ⟨ts, hts'⟩ : ∃ ts, ((ps.filter (kp s)).map (·.1)) = ts := ⟨_, rfl⟩
          rw [hts'] at HT HDN hts
          obtain ⟨us', hus'⟩ : ∃ us', (((ps.filter (kp s)).map (·.2.2)).map uV) = us' := ⟨_, rfl⟩
          rw [hus'] at HT HDN hus
          obtain ⟨Av, cw, e4, -, -⟩ := hpr.form
          rw [List.length_map] at e4
          subst e4
          clear hkk hvt hut hpn hpr TW OLD hpr' hts' hus' HI HI0 hlf
          go_wp2_with fail
          go_region_held3 (fun w' => Ext w w')
            (repeat (first | assumption | apply Ext.alloc | apply Ext.drew | apply Ext.drewN))
            (first
              | (refine sapp el53 (by rfl) (.tmp 57) (.tmp 59) (by rfl) (w5 := w) (us := [Value.slice Av pr.length cw]) (by rfl) (by first | exact (Two.step HT2 (by repeat (first | assumption | exact Ext.refl _ | apply Ext.drew | apply Ext.drewN | apply Ext.alloc))).ext | exact (Two.step HT.out (by repeat (first | assumption | exact Ext.refl _ | apply Ext.drew | apply Ext.drewN | apply Ext.alloc))).ext) (by first | exact (Two.step HT2 (by repeat (first | assumption | exact Ext.refl _ | apply Ext.drew | apply Ext.drewN | apply Ext.alloc))).rt | exact (Two.step HT.out (by repeat (first | assumption | exact Ext.refl _ | apply Ext.drew | apply Ext.drewN | apply Ext.alloc))).rt) (by rfl) (by rfl) ?hy ?h1 ?hm ?_; (case hy => first | exact vs1 _ _ _ | exact vs1' (by simp; done) | exact VsAt.ext (vs1 _ _ _) ((Ext.refl _).alloc _) | exact VsAt.ext (vs1' (by simp; done)) ((Ext.refl _).alloc _) | (refine VsAt.ext (vs1 wr _ 48) ?_; (focus ((repeat (first | assumption | exact Ext.refl _ | apply Ext.drew | apply Ext.drewN | apply Ext.alloc)); done))) | (refine VsAt.ext (vs1' (w := wr.alloc (.cells #[uV un] 52)) (e := 48) (by simp; done)) ?_; (focus ((repeat (first | assumption | exact Ext.refl _ | apply Ext.drew | apply Ext.drewN | apply Ext.alloc)); done))) | (refine VsAt.ext (vs1 w7 _ 48) ?_; (focus ((repeat (first | assumption | exact Ext.refl _ | apply Ext.drew | apply Ext.drewN | apply Ext.alloc)); done))) | exact hVA | exact hVA'); (case h1 => exact one1 rfl); (case hm => rw [hts, List.length_singleton]; omega); intro v6 w6 hr6 hE6 hg6 hb6; (try (refine (fun (hVB : VsAt w6 (some ⟨wr.heap.size, 0, none⟩) [uV un]) => ?_) ?_; rotate_left; (refine VsAt.grown (VsAt.ext (vs1 wr _ 52) ?_) hg6 (fun (e : (Value.slice A1 kept c1).ownBlock = some _) => by rw [own_len A1 kept ps.length c1 c1] at e; have := HO.out.t _ e; have := HO.out.s; omega)); (focus ((repeat (first | assumption | exact Ext.refl _ | apply Ext.drew | apply Ext.drewN | apply Ext.alloc)); done)))); (try (refine (fun (hVB' : VsAt w6 (some ⟨wr.heap.size + 1, 0, none⟩) [uV un]) => ?_) ?_; rotate_left; (refine VsAt.grown (VsAt.ext (vs1' (w := wr.alloc (.cells #[Value.slice Av pr.length cw] 48)) (e := 52) (by simp)) ?_) hg6 (fun (e : (Value.slice A1 kept c1).ownBlock = some _) => by rw [own_len A1 kept ps.length c1 c1] at e; have := HO.out.t _ e; have := HO.out.s; omega)); (focus ((repeat (first | assumption | exact Ext.refl _ | apply Ext.drew | apply Ext.drewN | apply Ext.alloc)); done)))); (first | have HT3 := Two.app1 HO.out (Two.step HT2 (by repeat (first | assumption | exact Ext.refl _ | apply Ext.drew | apply Ext.drewN | apply Ext.alloc))) hr6 hE6 hg6 hb6 | have HT1 := Two.app1 HO.out (Two.step HT.out (by repeat (first | assumption | exact Ext.refl _ | apply Ext.drew | apply Ext.drewN | apply Ext.alloc))) hr6 hE6 hg6 hb6))
              | (refine sapp el48 (by rfl) (.tmp 63) (.tmp 65) (by rfl) (w5 := w) (us := [uV un]) (by rfl) (by first | exact (Two.step HT1 (by repeat (first | assumption | exact Ext.refl _ | apply Ext.drew | apply Ext.drewN | apply Ext.alloc))).ext | exact (Two.step HT.out (by repeat (first | assumption | exact Ext.refl _ | apply Ext.drew | apply Ext.drewN | apply Ext.alloc))).ext) (by first | exact (Two.step HT1 (by repeat (first | assumption | exact Ext.refl _ | apply Ext.drew | apply Ext.drewN | apply Ext.alloc))).ru | exact (Two.step HT.out (by repeat (first | assumption | exact Ext.refl _ | apply Ext.drew | apply Ext.drewN | apply Ext.alloc))).ru) (by rfl) (by rfl) ?hy ?h1 ?hm ?_; (case hy => first | exact vs1 _ _ _ | exact vs1' (by simp; done) | exact VsAt.ext (vs1 _ _ _) ((Ext.refl _).alloc _) | exact VsAt.ext (vs1' (by simp; done)) ((Ext.refl _).alloc _) | (refine VsAt.ext (vs1 wr _ 52) ?_; (focus ((repeat (first | assumption | exact Ext.refl _ | apply Ext.drew | apply Ext.drewN | apply Ext.alloc)); done))) | (refine VsAt.ext (vs1' (w := wr.alloc (.cells #[Value.slice Av pr.length cw] 48)) (e := 52) (by simp; done)) ?_; (focus ((repeat (first | assumption | exact Ext.refl _ | apply Ext.drew | apply Ext.drewN | apply Ext.alloc)); done))) | (refine VsAt.ext (vs1 w6 _ 52) ?_; (focus ((repeat (first | assumption | exact Ext.refl _ | apply Ext.drew | apply Ext.drewN | apply Ext.alloc)); done))) | exact hVB | exact hVB'); (case h1 => exact one1 rfl); (case hm => rw [hus, List.length_singleton]; omega); intro v7 w7 hr7 hE7 hg7 hb7; (try (refine (fun (hVA : VsAt w7 (some ⟨wr.heap.size, 0, none⟩) [Value.slice Av pr.length cw]) => ?_) ?_; rotate_left; (refine VsAt.grown (VsAt.ext (vs1 wr _ 48) ?_) hg7 (fun (e : (Value.slice A2 kept c2).ownBlock = some _) => by rw [own_len A2 kept ps.length c2 c2] at e; have := HO.out.u _ e; have := HO.out.s; omega)); (focus ((repeat (first | assumption | exact Ext.refl _ | apply Ext.drew | apply Ext.drewN | apply Ext.alloc)); done)))); (try (refine (fun (hVA' : VsAt w7 (some ⟨wr.heap.size + 1, 0, none⟩) [Value.slice Av pr.length cw]) => ?_) ?_; rotate_left; (refine VsAt.grown (VsAt.ext (vs1' (w := wr.alloc (.cells #[uV un] 52)) (e := 48) (by simp)) ?_) hg7 (fun (e : (Value.slice A2 kept c2).ownBlock = some _) => by rw [own_len A2 kept ps.length c2 c2] at e; have := HO.out.u _ e; have := HO.out.s; omega)); (focus ((repeat (first | assumption | exact Ext.refl _ | apply Ext.drew | apply Ext.drewN | apply Ext.alloc)); done)))); (first | have HT3 := Two.app2 HO.out (Two.step HT1 (by repeat (first | assumption | exact Ext.refl _ | apply Ext.drew | apply Ext.drewN | apply Ext.alloc))) hr7 hE7 hg7 hb7 | have HT2 := Two.app2 HO.out (Two.step HT.out (by repeat (first | assumption | exact Ext.refl _ | apply Ext.drew | apply Ext.drewN | apply Ext.alloc))) hr7 hE7 hg7 hb7)))
          all_goals go_wp2_with fail
          all_goals exact ⟨⟨k + 1, _, by omega, by go_num, HDN.out _ _ _ HT3, by rw [HEQ.out, HSN.out], HT3.ext⟩, by simp [intOf]; omega⟩
    · obtain rfl : k = xs.length := by omega
      rw [List.take_length] at HPS
      go_wp2_with fail
      go_ret
      exact ⟨_, ps, rfl, HP.out.row, HP.out.is, HPS.out, HX.out⟩
end Go.Proofs.YtdcbejccplonjaaDoor
