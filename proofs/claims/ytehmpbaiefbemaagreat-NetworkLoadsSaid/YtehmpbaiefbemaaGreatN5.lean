/- The walk over choice.New, at choices that are valid and in order. -/
import Derived.Test.YtehmpbaiefbemaaGreatN3
import Derived.Test.YtehmpbaiefbemaaGreatN4
import Derived.Test.YtehmpbaiefbemaaGreatShelf
namespace Go.Proofs.YtehmpbaiefbemaaGreat
open Go.RowKit Go.Shelf Go.Sort
attribute [local go_sem ↓] Go.wp_at_zero Go.wp_at_succ
def cfC (c d : Ch) : Int := cmpK c.1 d.1
theorem cfC_lt (c d : Ch) : ltOf cfC c d = true ↔ klt c.1 d.1 := by
  unfold ltOf cfC
  rw [decide_eq_true_iff, cmpK_neg]
theorem cfC_swo : SWO (ltOf cfC) where
  irrefl x := by rw [Bool.eq_false_iff, ne_eq, cfC_lt]; exact klt_irrefl _
  trans x y z h k := by rw [cfC_lt] at *; exact klt_trans h k
  ntrans x y z h k := by
    rw [Bool.eq_false_iff, ne_eq, cfC_lt] at *
    intro hxz
    rcases klt_total x.1 y.1 with h1 | h1 | h1
    · exact h h1
    · exact k (h1 ▸ hxz)
    · exact k (klt_trans h1 hxz)
theorem getD_memC {cs : List Ch} {j : Nat} (h : j < cs.length) : cs.getD j Ch0 ∈ cs := by
  rw [List.getD_eq_getElem?_getD, List.getElem?_eq_getElem h]
  exact List.getElem_mem h
theorem eq_of_key : ∀ {l : List Ch}, (l.map (·.1)).Nodup → ∀ {a b : Ch}, a ∈ l → b ∈ l → a.1 = b.1 → a = b
  | [], _, a, _, ha, _, _ => by cases ha
  | x :: l, h, a, b, ha, hb, e => by
    rw [List.map_cons, List.nodup_cons] at h
    rcases List.mem_cons.1 ha with h1 | h1
    · rcases List.mem_cons.1 hb with h2 | h2
      · rw [h1, h2]
      · exact absurd (List.mem_map.2 ⟨b, h2, by rw [← e, h1]⟩) h.1
    · rcases List.mem_cons.1 hb with h2 | h2
      · exact absurd (List.mem_map.2 ⟨a, h1, by rw [e, h2]⟩) h.1
      · exact eq_of_key h.2 h1 h2 e
theorem perm_asc {l l' : List Ch} (h : AscC l) (hp : l'.Perm l) (hs : l'.Pairwise fun x y => ltOf cfC y x = false) : l' = l := by
  have nd : (l'.map (·.1)).Nodup := ((hp.map (·.1)).nodup_iff).2 h.nodup
  refine List.Perm.eq_of_pairwise (le := fun x y => ltOf cfC y x = false) ?_ hs ?_ hp
  · intro a b ha hb h1 h2
    rw [Bool.eq_false_iff, ne_eq, cfC_lt] at h1 h2
    have e : a.1 = b.1 := by
      rcases klt_total a.1 b.1 with h3 | h3 | h3
      · exact absurd h3 h2
      · exact h3
      · exact absurd h3 h1
    have nd2 : (l.map (·.1)).Nodup := h.nodup
    exact eq_of_key nd2 (hp.mem_iff.1 ha) hb e
  · unfold AscC Asc at h
    rw [List.pairwise_map] at h
    exact h.imp fun hk => by
      rw [Bool.eq_false_iff, ne_eq, cfC_lt]
      exact klt_asymm hk
section
variable {ops : Array Oper} {o : Oper} {a : Act} {Q : Exit → Act → World → Prop} {w w5 : World} {t e s n : Nat} {z : Value}
theorem wmake {rest : List Oper} (el : El t e z s n) (hgd : o.guard = none) (l c : Operand) (ho : o.op = .makeSlice t l c) {m : Nat} (hl : a.eval l = .int .i64 0) (hc : a.eval c = .int .i64 (m : Int)) (hm : m ≤ 100000) (hE : Ext w5 w)
    (h : ∀ v' w', Row s w' w5.heap.size e v' [] → Ext w5 w' → wpList Tryz.prog ops Q rest (a.put o.dst v') w') : wpList Tryz.prog ops Q (o :: rest) a w := by
  obtain ⟨i0, hi0, hz0, hz1, hz2⟩ := info_parts el.info
  refine wpList_make_own w hgd l c t ho w5.heap.size e i0 _ s el.und hi0 hz0 hz1 .i64 .i64 (m : Int) m hl hc rfl (by rw [hz2]; have := el.le; exact Nat.le_trans (Nat.mul_le_mul this hm) (by omega)) (by unfold maxLen; omega) hE.size ?_
  intro w' hown hg
  exact h _ w' ⟨Wide.nil s, hown⟩ (ext_grow hE hg (fun k hk => by cases hk))
end
section
attribute [local go_sem ↓] eq73
attribute [local go_sem] run_eq73
set_option maxRecDepth 100000 in
set_option maxHeartbeats 8000000 in
theorem newSet_any (cs : List Ch) (v : Value) (w : World) (h : Cs w v cs) (hok : OkL cs) (hl : cs.length ≤ 50) : Calls Tryz.prog 16 #[v] w fun e w' => ∃ t, e = .returned (.tuple #[.agg #[t], .int .i64 0]) ∧ Row 7 w' w.heap.size 61 t (cs.map encC) ∧ Ext w w' := by
  obtain ⟨A, c, rfl, a1, a2, RA⟩ := h.read
  rw [List.length_map] at a1 RA ⊢
  have HR := Lib.hid RA
  have HOK := Lib.hid hok
  clear RA h a1 a2 hok
  go_enter Tryz.func16, Tryz.ntmps16
  go_wp2_with fail
  generalize hwA : w.alloc (.cells #[.slice none 0 0] 51) = wA
  have hEA : Ext w wA := by rw [← hwA]; exact (Ext.refl _).alloc _
  have hsA : wA.heap.size = w.heap.size + 1 := by rw [← hwA]; simp
  have hcA : wA.cell? ⟨w.heap.size, 0, none⟩ = some (.slice none 0 0) := by rw [← hwA]; exact new_at _ _ _ _ _ rfl
  have hfA : wA.frozen? ⟨w.heap.size, 0, none⟩ = false := by rw [← hwA]; exact World.frozen?_alloc_at _ _ _ _ rfl
  have HEA := Lib.hid hEA
  have HSA := Lib.hid hsA
  have HCA := Lib.hid hcA
  have HFA := Lib.hid hfA
  clear hwA hEA hsA hcA hfA
  go_loopw [13] (fun i wr => ∃ k : Nat, k ≤ cs.length ∧ i = iV (k : Int) ∧ Ext wA wr) (fun i _ => cs.length - (intOf i).toNat)
  case atStart => exact ⟨0, by omega, rfl, Ext.refl _⟩
  case round =>
    obtain ⟨k, hk, rfl, hE⟩ := hrel
    have HE := Lib.hid hE
    clear hE
    by_cases hlt : k < cs.length
    · obtain ⟨b, o, rfl, hb, cR⟩ := HR.out wr (HEA.out.trans HE.out) k hlt (by omega)
      obtain ⟨x, hx⟩ : ∃ x, cs.getD k Ch0 = x := ⟨_, rfl⟩
      rw [encC_at hlt x hx] at cR
      have CK := Lib.hid (fun W => check_ok x W (HOK.out.ok x (by rw [← hx]; exact getD_memC hlt)))
      obtain ⟨⟨x1, x2, x3, x4⟩, x5⟩ := x
      have c0 := cR 0 _ (by omega) rfl
      have c1 := cR 1 _ (by omega) rfl
      have c2 := cR 2 _ (by omega) rfl
      have c3 := cR 3 _ (by omega) rfl
      have c4 := cR 4 _ (by omega) rfl
      have c5 := cR 5 _ (by omega) rfl
      have c6 := cR 6 _ (by omega) rfl
      rw [Nat.add_zero] at c0
      clear cR hx
      go_wp2_with fail
      refine (CK.out _).mono ?_
      rintro e1 w1 ⟨rfl, hE1⟩
      have HE1 := Lib.hid (((Ext.refl wr).alloc _).trans hE1)
      clear hE1 c0 c1 c2 c3 c4 c5 c6 CK
      go_wp2_with fail
      exact ⟨⟨k + 1, by omega, by go_num, HE.out.trans HE1.out⟩, by simp [intOf]; omega⟩
    · obtain rfl : k = cs.length := by omega
      generalize hwB : wr = wB at *
      go_wp2_with (at_make; refine wmake el22 rfl _ _ rfl rfl rfl (by omega) HE.out ?_; intro v2 w2 hr2 hE2)
      have HR2 := Lib.hid hr2
      have HE2 := Lib.hid hE2
      clear hr2 hE2
      go_loopw [7, 29] (fun t i wq => ∃ k : Nat, k ≤ cs.length ∧ i = iV (k : Int) ∧ Row 7 wq wA.heap.size 61 t ((cs.take k).map encC) ∧ Ext wA wq) (fun _ i _ => cs.length - (intOf i).toNat)
      case atStart => exact ⟨0, by omega, rfl, HR2.out, HE2.out⟩
      case round =>
        obtain ⟨k, hk, rfl, hr, hE⟩ := hrel
        generalize hwC : wr = wC at *
        have HRk := Lib.hid hr
        have HEk := Lib.hid hE
        clear hr hE
        by_cases hlt : k < cs.length
        · obtain ⟨b, o, rfl, hb, cR⟩ := HR.out wC (HEA.out.trans HEk.out) k hlt (by omega)
          obtain ⟨x, hx⟩ : ∃ x, cs.getD k Ch0 = x := ⟨_, rfl⟩
          rw [encC_at hlt x hx] at cR
          have CL := Lib.hid (fun W => clone_any x W)
          have HTK : Hid ((cs.take (k + 1)).map encC = (cs.take k).map encC ++ [encC x]) := by
            rw [List.take_succ_eq_append_getElem hlt, List.map_append, ← hx, List.getD_eq_getElem?_getD, List.getElem?_eq_getElem hlt]; exact Lib.hid rfl
          have htl : ((cs.take k).map encC).length = k := by rw [List.length_map, List.length_take]; omega
          have HTL := Lib.hid htl
          have HON := Lib.hid (encC_one [x])
          obtain ⟨⟨x1, x2, x3, x4⟩, x5⟩ := x
          have c0 := cR 0 _ (by omega) rfl
          have c1 := cR 1 _ (by omega) rfl
          have c2 := cR 2 _ (by omega) rfl
          have c3 := cR 3 _ (by omega) rfl
          have c4 := cR 4 _ (by omega) rfl
          have c5 := cR 5 _ (by omega) rfl
          have c6 := cR 6 _ (by omega) rfl
          rw [Nat.add_zero] at c0
          clear cR hx htl
          go_wp2_with fail
          refine (CL.out _).mono ?_
          rintro e1 w1 ⟨rfl, hE1⟩
          have HE1 := Lib.hid (((Ext.refl wC).alloc _).trans hE1)
          clear hE1 c0 c1 c2 c3 c4 c5 c6 CL
          go_wp2_with (at_builtin; go_loud (refine wapp el22 rfl (.tmp 33) (.tmp 36) rfl (w5 := wA) (us := [encC ((x1, x2, x3, x4), x5)]) rfl ((HEk.out.trans HE1.out).alloc _) ((HRk.out.ext HE1.out).ext ((Ext.refl _).alloc _)) rfl rfl (Wide.one rfl) (vs1 w1 #[kV x1, iV x2, iV x3, iV x4, iV 0, iV x5, .slice none 0 0] 61) HON.out (by rw [HTL.out, List.length_singleton]; omega) (by rw [HTL.out, List.length_singleton]; omega) ?_; intro v3 w3 hr3 hE3 hg3 hb3))
          exact ⟨⟨k + 1, by omega, by go_num, by rw [HTK.out]; exact hr3, hE3⟩, by simp [intOf]; omega⟩
        · obtain rfl : k = cs.length := by omega
          rw [List.take_length] at HRk
          obtain ⟨T, tc, eT, tl, -⟩ := HRk.out.form
          rw [List.length_map] at eT tl
          subst eT
          have eg : ∀ args W, (callFunc 46 args).run Tryz.prog W = .ok (.enter 46 args) W := enters_of Tryz.func46 (by kernel_rfl) rfl
          have SO := Lib.hid (sort_row Tryz.laysCh 7 (by omega) Tryz.isAgg61 Tryz.sizeOf61 encC (fun _ => rfl) (fun x v hv => encC_one [x] v (by simpa using hv)) cfC cfC_swo 46 eg cs wC wA wA.heap.size 61 _ HRk.out HEk.out (Nat.le_refl _) (fun W x y _ _ => cmpC_any x y W) (by omega))
          clear eg
          go_wp2_with fail
          refine SO.out.mono ?_
          rintro e3 w3 ⟨rfl, hE3, -, l', hp, hs, hr3⟩
          obtain rfl := perm_asc HOK.out.asc hp hs
          have HE3 := Lib.hid hE3
          have HR3 : Hid (Row 7 w3 wA.heap.size 61 (Value.slice T l'.length tc) (l'.map encC)) := Lib.hid hr3
          clear hE3 hp hs hr3 SO HRk
          go_wp2_with fail
          go_loopw [10] (fun i wq => ∃ k : Nat, 1 ≤ k ∧ (k ≤ l'.length ∨ k = 1) ∧ i = iV (k : Int) ∧ Ext w3 wq) (fun i _ => l'.length + 1 - (intOf i).toNat)
          case atStart => exact ⟨1, by omega, .inr rfl, rfl, Ext.refl _⟩
          case round =>
            obtain ⟨k, hk1, hk2, rfl, hE4⟩ := hrel
            generalize hw4 : wr = w4 at *
            have HE4 := Lib.hid hE4
            clear hE4
            by_cases hlt : k < l'.length
            · obtain ⟨A1, c1, e1, -, -, RC⟩ := HR3.out.sl.read
              rw [List.length_map] at RC
              obtain ⟨bT, oT, rfl, hbT, cT⟩ := RC w4 HE4.out k hlt (by omega)
              obtain ⟨bT', oT', eT', -, cT'⟩ := RC w4 HE4.out (k - 1) (by omega) (by omega)
              rw [List.length_map, Value.slice.injEq] at e1
              obtain ⟨rfl, -, -⟩ := e1
              rw [Option.some.injEq, Addr.mk.injEq] at eT'
              obtain ⟨rfl, rfl, -⟩ := eT'
              have hasc := ascC_get HOK.out.asc (show k - 1 < k by omega) hlt
              obtain ⟨x, hx⟩ : ∃ x, l'.getD k Ch0 = x := ⟨_, rfl⟩
              obtain ⟨y, hy⟩ : ∃ y, l'.getD (k - 1) Ch0 = y := ⟨_, rfl⟩
              rw [encC_at hlt x hx] at cT
              rw [encC_at (by omega) y hy] at cT'
              rw [hx, hy] at hasc
              obtain ⟨⟨x1, x2, x3, x4⟩, x5⟩ := x
              obtain ⟨⟨y1, y2, y3, y4⟩, y5⟩ := y
              have cx0 := cT 0 _ (by omega) rfl
              have cx1 := cT 1 _ (by omega) rfl
              have cx2 := cT 2 _ (by omega) rfl
              have cx3 := cT 3 _ (by omega) rfl
              have cy0 := cT' 0 _ (by omega) rfl
              have cy1 := cT' 1 _ (by omega) rfl
              have cy2 := cT' 2 _ (by omega) rfl
              have cy3 := cT' 3 _ (by omega) rfl
              rw [Nat.add_zero] at cx0 cy0
              obtain ⟨q, hq⟩ : ∃ q, k - 1 = q := ⟨_, rfl⟩
              rw [hq] at cy0 cy1 cy2 cy3
              have wk : IntKind.i64.wrap (k : Int) = (k : Int) := IntWalk.i64_in _ (by omega)
              have wj : IntKind.i64.wrap ((k : Int) - 1) = (q : Int) := by rw [IntWalk.i64_in _ (by omega)]; omega
              have wj' : wrap64 ((k : Int) - 1) = (q : Int) := by rw [IntWalk.wrap64_in _ (by omega)]; omega
              have q0 : (0 : Int) ≤ (k : Int) := by omega
              have q1 : (k : Int) < (l'.length : Int) := by omega
              have q2 : (0 : Int) ≤ (q : Int) := by omega
              have q3 : (q : Int) < (l'.length : Int) := by omega
              have HEQ : Hid (eqB (x1, x2, x3, x4) (y1, y2, y3, y4) = false) := by
                unfold eqB
                exact Lib.hid (decide_eq_false fun e => klt_ne hasc e.symm)
              clear cT cT' RC hx hy hasc
              have HQ := Lib.hid hq
              clear hq
              go_wp2_with fail
              refine wp_region_noPanic ?_
              refine wp_region_held_drew (S := (fun w' => Ext w4 w' ∧ ∀ b o, b < w4.heap.size → w'.cell? ⟨b, o, none⟩ = w4.cell? ⟨b, o, none⟩)) (by kernel_rfl) ?_ (fun hHeld => ?_)
              · exact Ext.held (by repeat (first | assumption | exact Ext.refl _ | apply Ext.alloc | apply Ext.drew | apply Ext.drewN))
              refine wpAnyH_take (i := 0) (v := ?_) (oper_at rfl) (by kernel_rfl) (by kernel_rfl) (by kernel_rfl) (fun _ _ _ h => h) (Or.inl ⟨by rfl, ?_⟩) hHeld ?_
              rotate_left
              · (intro ww hSw; (try dsimp only at hSw); go_simp; try (with_reducible rfl))
              try simp only [Act.put, List.setIfInBounds_toArray, List.set_cons_zero, List.set_cons_succ]
              refine wpAnyH_take (i := 1) (v := ?_) (oper_at rfl) (by kernel_rfl) (by kernel_rfl) (by kernel_rfl) (fun _ _ _ h => h) (Or.inl ⟨by rfl, ?_⟩) hHeld ?_
              rotate_left
              · (intro ww hSw; (try dsimp only at hSw); go_simp; try (with_reducible rfl))
              try simp only [Act.put, List.setIfInBounds_toArray, List.set_cons_zero, List.set_cons_succ]
              refine wpAnyH_take (i := 2) (v := ?_) (oper_at rfl) (by kernel_rfl) (by kernel_rfl) (by kernel_rfl) (fun _ _ _ h => h) (Or.inl ⟨by rfl, ?_⟩) hHeld ?_
              rotate_left
              · (intro ww hSw; (try dsimp only at hSw); go_simp; try (with_reducible rfl))
              try simp only [Act.put, List.setIfInBounds_toArray, List.set_cons_zero, List.set_cons_succ]
              refine wpAnyH_take (i := 3) (v := ?_) (oper_at rfl) (by kernel_rfl) (by kernel_rfl) (by kernel_rfl) (fun _ _ _ h => h) (Or.inl ⟨by rfl, ?_⟩) hHeld ?_
              rotate_left
              · (intro ww hSw; (try dsimp only at hSw); go_simp; try (with_reducible rfl))
              try simp only [Act.put, List.setIfInBounds_toArray, List.set_cons_zero, List.set_cons_succ]
              refine wpAnyH_take (i := 4) (v := ?_) (oper_at rfl) (by kernel_rfl) (by kernel_rfl) (by kernel_rfl) (fun _ _ _ h => h) (Or.inl ⟨by rfl, ?_⟩) hHeld ?_
              rotate_left
              · (intro ww hSw; (try dsimp only at hSw); go_simp; try (with_reducible rfl))
              try simp only [Act.put, List.setIfInBounds_toArray, List.set_cons_zero, List.set_cons_succ]
              refine wpAnyH_take (i := 5) (v := ?_) (oper_at rfl) (by kernel_rfl) (by kernel_rfl) (by kernel_rfl) (fun _ _ _ h => h) (Or.inl ⟨by rfl, ?_⟩) hHeld ?_
              rotate_left
              · (intro ww hSw; (try dsimp only at hSw); go_simp; try (with_reducible rfl))
              try simp only [Act.put, List.setIfInBounds_toArray, List.set_cons_zero, List.set_cons_succ]
              refine wpAnyH_take (i := 6) (v := ?_) (oper_at rfl) (by kernel_rfl) (by kernel_rfl) (by kernel_rfl) (fun _ _ _ h => h) (Or.inl ⟨by rfl, ?_⟩) hHeld ?_
              rotate_left
              · (intro ww hSw; (try dsimp only at hSw); go_simp; try (with_reducible rfl))
              try simp only [Act.put, List.setIfInBounds_toArray, List.set_cons_zero, List.set_cons_succ]
              refine wpAnyH_take (i := 7) (v := ?_) (oper_at rfl) (by kernel_rfl) (by kernel_rfl) (by kernel_rfl) (fun _ _ _ h => h) (Or.inl ⟨by rfl, ?_⟩) hHeld ?_
              rotate_left
              · (intro ww hSw; (try dsimp only at hSw); go_simp; try (with_reducible rfl))
              try simp only [Act.put, List.setIfInBounds_toArray, List.set_cons_zero, List.set_cons_succ]
              refine wpAnyH_take (i := 8) (v := ?_) (oper_at rfl) (by kernel_rfl) (by kernel_rfl) (by kernel_rfl) (fun _ _ _ h => h) (Or.inl ⟨by rfl, ?_⟩) hHeld ?_
              rotate_left
              · (intro ww hSw; (try dsimp only at hSw); go_simp; try (with_reducible rfl))
              try simp only [Act.put, List.setIfInBounds_toArray, List.set_cons_zero, List.set_cons_succ]
              refine wpAnyH_take (i := 9) (v := ?_) (oper_at rfl) (by kernel_rfl) (by kernel_rfl) (by kernel_rfl) (fun _ _ _ h => h) (Or.inl ⟨by rfl, ?_⟩) hHeld ?_
              rotate_left
              · (intro ww hSw; (try dsimp only at hSw); go_simp; try (with_reducible rfl))
              try simp only [Act.put, List.setIfInBounds_toArray, List.set_cons_zero, List.set_cons_succ]
              refine wpAnyH_take (i := 10) (v := ?_) (oper_at rfl) (by kernel_rfl) (by kernel_rfl) (by kernel_rfl) (fun _ _ _ h => h) (Or.inl ⟨by rfl, ?_⟩) hHeld ?_
              rotate_left
              · (intro ww hSw; (try dsimp only at hSw); go_simp; try (with_reducible rfl))
              try simp only [Act.put, List.setIfInBounds_toArray, List.set_cons_zero, List.set_cons_succ]
              refine wpAnyH_take (i := 11) (v := ?_) (oper_at rfl) (by kernel_rfl) (by kernel_rfl) (by kernel_rfl) (fun _ _ _ h => h) (Or.inl ⟨by rfl, ?_⟩) hHeld ?_
              rotate_left
              · (intro ww hSw; (try dsimp only at hSw); go_simp; try (with_reducible rfl))
              try simp only [Act.put, List.setIfInBounds_toArray, List.set_cons_zero, List.set_cons_succ]
              refine wpAnyH_done (by kernel_rfl) ?_ _
              refine NoPanic.normal ?_
              rw [HEQ.out]
              clear cx0 cx1 cx2 cx3 cy0 cy1 cy2 cy3
              go_wp2_with fail
              exact ⟨⟨k + 1, by omega, .inl (by omega), by go_num, HE4.out.drew⟩, by simp [intOf]; omega⟩
            · have HX4 := Lib.hid (HE3.out.trans HE4.out)
              have cB := HX4.out.cell HCA.out
              have fB : w4.frozen? ⟨w.heap.size, 0, none⟩ = false := by rw [Below.frozen HX4.out (by rw [HSA.out]; show w.heap.size < w.heap.size + 1; omega)]; exact HFA.out
              go_wp2_with fail
              have HR4 := HR3.out.ext HE4.out
              have HX : Hid (Ext w w4) := Lib.hid (HEA.out.trans HX4.out)
              have CC : (w4.setCell ⟨w.heap.size, 0, none⟩ (Value.slice T l'.length tc)).cell? ⟨w.heap.size, 0, none⟩ = some (Value.slice T l'.length tc) := World.cell?_setCell_same _ _ _ cB
              refine bodyPost_ret (v := .tuple #[.agg #[.slice T l'.length tc], .int .i64 0]) (by simp [results, Tryz.results16, go_sem, CC]) rfl ⟨_, rfl, (HR4.base (by rw [HSA.out]; omega)).kept (fun k hk => Below.heap_setCell _ _ _ _ (by have := (HR4.lt k hk).1; rw [HSA.out] at this; show k ≠ w.heap.size; omega)), HX.out.set (Nat.le_refl _) _⟩
end
end Go.Proofs.YtehmpbaiefbemaaGreat
