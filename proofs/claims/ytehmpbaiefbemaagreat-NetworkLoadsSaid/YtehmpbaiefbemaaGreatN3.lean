/- The walk over the choices that the laws make. -/
import Derived.Test.YtehmpbaiefbemaaGreatH2
import Derived.Deep.CutBlock
namespace Go.Proofs.YtehmpbaiefbemaaGreat
open Go.RowKit
attribute [local go_sem ↓] Go.wp_at_zero Go.wp_at_succ
theorem el22 : El 22 61 (.agg #[.int .u8 0, .int .i64 0, .int .i64 0, .int .i64 0, .int .i64 0, .int .i64 0, .slice none 0 0]) 7 72 := ⟨Tryz.underlying22, by kernel_rfl, rfl, by omega, by omega⟩
def Raws (w : World) (v : Value) (rs : List Raw) : Prop := SlAt 7 w v (rs.map encR)
def Cs (w : World) (v : Value) (cs : List Ch) : Prop := SlAt 7 w v (cs.map encC)
abbrev Raw0 : Raw := ⟨0, 0, 0, 0, 0, 0, .slice none 0 0⟩
theorem encR_at {rs : List Raw} {j : Nat} (h : j < rs.length) (r : Raw) (e : rs.getD j Raw0 = r) : (rs.map encR).getD j [] = encR r := by
  rw [List.getD_eq_getElem?_getD, List.getElem?_map, List.getElem?_eq_getElem h, ← e, List.getD_eq_getElem?_getD, List.getElem?_eq_getElem h]
  rfl
theorem encC_at {cs : List Ch} {j : Nat} (h : j < cs.length) (c : Ch) (e : cs.getD j Ch0 = c) : (cs.map encC).getD j [] = encC c := by
  rw [List.getD_eq_getElem?_getD, List.getElem?_map, List.getElem?_eq_getElem h, ← e, List.getD_eq_getElem?_getD, List.getElem?_eq_getElem h]
  rfl
theorem getD_memR {rs : List Raw} {j : Nat} (h : j < rs.length) : rs.getD j Raw0 ∈ rs := by
  rw [List.getD_eq_getElem?_getD, List.getElem?_eq_getElem h]
  exact List.getElem_mem h
theorem flat_drop {s : Nat} : ∀ {es : List (List Value)}, Wide s es → ∀ i, es.flatten.drop (i * s) = (es.drop i).flatten
  | [], _, i => by simp
  | x :: es, h, 0 => by simp
  | x :: es, h, i + 1 => by
    rw [List.flatten_cons, List.drop_append, h x (by simp), List.drop_eq_nil_of_le (by rw [h x (by simp), Nat.succ_mul]; omega), List.nil_append, show (i + 1) * s - s = i * s by rw [Nat.succ_mul]; omega,
      flat_drop (fun y hy => h y (by simp [hy])) i]
    rfl
theorem flat_take {s : Nat} : ∀ {es : List (List Value)}, Wide s es → ∀ i, es.flatten.take (i * s) = (es.take i).flatten
  | [], _, i => by simp
  | x :: es, h, 0 => by simp
  | x :: es, h, i + 1 => by
    rw [List.flatten_cons, List.take_append, h x (by simp), List.take_of_length_le (by rw [h x (by simp), Nat.succ_mul]; omega), show (i + 1) * s - s = i * s by rw [Nat.succ_mul]; omega,
      flat_take (fun y hy => h y (by simp [hy])) i]
    rfl
theorem VsAt.drop {w : World} {b o : Nat} {vs : List Value} (h : VsAt w (some ⟨b, o, none⟩) vs) (k : Nat) : VsAt w (some ⟨b, o + k, none⟩) (vs.drop k) := fun h0 => by
  rw [List.length_drop] at h0
  obtain ⟨b', o', e, hb, hc⟩ := h (by omega)
  cases e
  refine ⟨b, o + k, rfl, hb, fun j u hj => ?_⟩
  rw [Nat.add_assoc]
  refine hc _ u ?_
  rw [List.getElem?_drop] at hj
  exact hj
theorem VsAt.take {w : World} {A : Option Addr} {vs : List Value} (h : VsAt w A vs) (k : Nat) : VsAt w A (vs.take k) := fun h0 => by
  rw [List.length_take] at h0
  obtain ⟨b, o, e, hb, hc⟩ := h (by omega)
  refine ⟨b, o, e, hb, fun j u hj => hc j u ?_⟩
  rw [List.getElem?_take] at hj
  split at hj
  · exact hj
  · cases hj
theorem mem_flat {a b : List (List Value)} (h : ∀ x ∈ a, x ∈ b) {u : Value} (hu : u ∈ a.flatten) : u ∈ b.flatten := by
  obtain ⟨x, hx, hux⟩ := List.mem_flatten.1 hu
  exact List.mem_flatten.2 ⟨x, h x hx, hux⟩
theorem encC_one (cs : List Ch) : ∀ u ∈ (cs.map encC).flatten, u.oneCell' = true := fun u hu => by
  obtain ⟨x, hx, hux⟩ := List.mem_flatten.1 hu
  obtain ⟨c, _, rfl⟩ := List.mem_map.1 hx
  simp only [encC, List.mem_cons, List.not_mem_nil, or_false] at hux
  rcases hux with rfl | rfl | rfl | rfl | rfl | rfl | rfl <;> rfl
theorem sliced_at {s : Nat} {w : World} {A : Option Addr} {n c i : Nat} {es : List (List Value)} (h : SlAt s w (.slice A n c) es) : VsAt w (if c = i then A else A.map (fun x => x.add (i * s))) (es.drop i).flatten := fun h0 => by
  obtain ⟨A', c', h1, h2, h3, h4⟩ := h.at_
  simp only [Value.slice.injEq] at h1
  obtain ⟨rfl, rfl, rfl⟩ := h1
  have hne : es.drop i ≠ [] := fun e => by rw [e] at h0; simp at h0
  have hi : i < es.length := Classical.byContradiction fun hn => hne (List.drop_eq_nil_of_le (by omega))
  rw [← flat_drop h.wide] at h0 ⊢
  rw [List.length_drop] at h0
  obtain ⟨b, o, rfl, hb, hc⟩ := h4 (by omega)
  rw [if_neg (by omega)]
  have := VsAt.drop (b := b) (o := o) (vs := es.flatten) (fun _ => ⟨b, o, rfl, hb, hc⟩) (i * s) (by rw [List.length_drop]; exact h0)
  simpa [addE] using this
theorem take_at {s : Nat} {w : World} {A : Option Addr} {es : List (List Value)} (h : VsAt w A es.flatten) (hw : Wide s es) (i : Nat) : VsAt w A (es.take i).flatten := by
  rw [← flat_take hw]
  exact h.take _
/-- Equality of keys, not run. -/
@[irreducible] def eqS (t : TypeId) (a b : Value) : Sem Value := binOp .eql t a b
theorem eq73 (a b : Value) : binOp .eql 58 a b = eqS 58 a b := by unfold eqS; rfl
@[irreducible] def eqB (x y : Ky) : Bool := decide (x = y)
theorem eqB_true {x y : Ky} (h : eqB x y = true) : x = y := by unfold eqB at h; exact of_decide_eq_true h
theorem eqB_false {x y : Ky} (h : eqB x y = false) : x ≠ y := by unfold eqB at h; exact of_decide_eq_false h
theorem run_eq73 (w : World) (a a' : Nat) (b c d b' c' d' : Int) : (eqS 58 (.agg #[kV a, iV b, iV c, iV d]) (.agg #[kV a', iV b', iV c', iV d'])).run Tryz.prog w = .ok (.bool (eqB (a, b, c, d) (a', b', c', d'))) w := by
  unfold eqS eqB
  by_cases h1 : a = a'
  · by_cases h2 : b = b'
    · by_cases h3 : c = c'
      · by_cases h4 : d = d'
        · subst h1
          subst h2
          subst h3
          subst h4
          go_simp
        · subst h1
          subst h2
          subst h3
          have e : decide (((a, b, c, d) : Ky) = (a, b, c, d')) = false := decide_eq_false (by simp [h4])
          rw [e]
          go_simp
      · subst h1
        subst h2
        have e : decide (((a, b, c, d) : Ky) = (a, b, c', d')) = false := decide_eq_false (by simp [h3])
        rw [e]
        go_simp
    · subst h1
      have e : decide (((a, b, c, d) : Ky) = (a, b', c', d')) = false := decide_eq_false (by simp [h2])
      rw [e]
      go_simp
  · have e : decide (((a, b, c, d) : Ky) = (a', b', c', d')) = false := decide_eq_false (by simp [h1])
    have h1' : ¬ (a : Int) = (a' : Int) := by omega
    rw [e]
    go_simp
section
attribute [local go_sem ↓] eq73
attribute [local go_sem] run_eq73
set_option maxRecDepth 100000 in
set_option maxHeartbeats 8000000 in
theorem choices_any (rs : List Raw) (v : Value) (w : World) (h : Raws w v rs) (hk : ∀ r ∈ rs, r.kd < 256) : Calls Tryz.prog 14 #[v] w fun e w' => ∃ t, e = .returned t ∧ Row 7 w' w.heap.size 61 t ((chsF rs).map encC) ∧ Ext w w' := by
  obtain ⟨A, c, rfl, a1, a2, RA⟩ := h.read
  rw [List.length_map] at a1 RA ⊢
  have HR := Lib.hid RA
  have HK := Lib.hid hk
  have hl : rs.length ≤ 9223372036854775807 := by unfold maxLen at a2; omega
  clear RA h a1 a2 hk
  go_enter Tryz.func14, Tryz.ntmps14
  go_wp2_with fail
  go_loopw [3, 4] (fun t i wr => ∃ k : Nat, k ≤ rs.length ∧ k ≤ 12 ∧ i = iV (k : Int) ∧ Row 7 wr w.heap.size 61 t ((chsTo rs k).map encC) ∧ Ext w wr) (fun _ i _ => rs.length - (intOf i).toNat)
  case atStart => exact ⟨0, by omega, by omega, rfl, Row.nil _ _ _ _, Ext.refl _⟩
  case round =>
    obtain ⟨k, hk, hk12, rfl, hrow, hE⟩ := hrel
    obtain ⟨T, tc, eT, tl, tz⟩ := hrow.form
    rw [List.length_map] at eT tl tz
    subst eT
    have HRow := Lib.hid hrow
    have hcl := (chsTo_ok rs k).2
    have HOK := Lib.hid (chsTo_ok rs k).1
    have HX := Lib.hid hE
    clear hrow hE
    by_cases hlt : k < rs.length ∧ k < 12
    · obtain ⟨hkl, hkt⟩ := hlt
      have hkt' : (k : Int) < 12 := by omega
      generalize hwc : wr = w1 at *
      obtain ⟨b, o, rfl, hb, cR⟩ := HR.out w1 HX.out k hkl (by omega)
      obtain ⟨r, hr⟩ : ∃ r, rs.getD k Raw0 = r := ⟨_, rfl⟩
      rw [encR_at hkl r hr] at cR
      have c0 := cR 0 _ (by omega) rfl
      have c1 := cR 1 _ (by omega) rfl
      have c2 := cR 2 _ (by omega) rfl
      have c3 := cR 3 _ (by omega) rfl
      have c5 := cR 5 _ (by omega) rfl
      rw [Nat.add_zero] at c0
      have HCF : Hid (chF r = ((kindF r, modF r.a 3, if pairK (kindF r) then modF r.b 3 else 0, modF r.n 4), dF r)) := Lib.hid rfl
      have HDF : Hid (dF r = if kindF r = 6 ∨ kindF r = 7 then 1 + modF r.d 5 else if kindF r = 9 ∨ kindF r = 3 then 1 + modF r.d 3 else 0) := Lib.hid rfl
      have M9 := Lib.hid (fun W => mod_any (r.kd : Int) 9 W (by omega) (by omega))
      have M3 := Lib.hid (fun W => mod_any r.a 3 W (by omega) (by omega))
      have M4 := Lib.hid (fun W => mod_any r.n 4 W (by omega) (by omega))
      have MB := Lib.hid (fun W => mod_any r.b 3 W (by omega) (by omega))
      have D5 := Lib.hid (fun W => mod_any r.d 5 W (by omega) (by omega))
      have D3 := Lib.hid (fun W => mod_any r.d 3 W (by omega) (by omega))
      have E9 : Hid (1 + modF (r.kd : Int) 9 = ((kindF r : Nat) : Int)) := Lib.hid (kindF_int r).symm
      have r9 := modF_range (a := (r.kd : Int)) (n := 9) (by omega)
      have rk := kindF_range r
      have r5 := modF_range (a := r.d) (n := 5) (by omega)
      have r3 := modF_range (a := r.d) (n := 3) (by omega)
      generalize modF (r.kd : Int) 9 = m9 at *
      generalize modF r.a 3 = ma at *
      generalize modF r.n 4 = mn at *
      generalize modF r.b 3 = mb at *
      generalize modF r.d 5 = d5 at *
      generalize modF r.d 3 = d3 at *
      generalize kindF r = kk at *
      have hkd := HK.out r (by rw [← hr]; exact getD_memR hkl)
      have wk1 : IntKind.i64.wrap (1 + m9) = 1 + m9 := IntWalk.i64_in _ (by omega)
      have wk2 : IntKind.u8.wrap (1 + m9) = (kk : Int) := by rw [← E9.out, IntKind.wrap_u8]; omega
      have wk : IntKind.i64.wrap (r.kd : Int) = (r.kd : Int) := IntWalk.i64_in _ (by omega)
      have hTS := chsTo_succ rs hkl
      have HTS : Hid (chsTo rs (k + 1) = insC (chsTo rs k) (chF r)) := by rw [hTS, ← hr, List.getD_eq_getElem?_getD, List.getElem?_eq_getElem hkl]; exact Lib.hid rfl
      clear cR hTS
      go_upto_region 5 with fail
      go_cut [5] (fun s5 wx => s5 = .pointer (some ⟨w1.heap.size, 0, none⟩) ∧ wx = (w1.alloc (.cells #[kV kk, iV ma, iV 0, iV mn] 58)).drew)
      case first =>
        refine wp_region_noPanic ?_
        refine wp_region_held_drew (S := (fun w' => Ext w1 w' ∧ ∀ b o, b < w1.heap.size → w'.cell? ⟨b, o, none⟩ = w1.cell? ⟨b, o, none⟩)) (by kernel_rfl) ?_ (fun hHeld => ?_)
        · exact Ext.held (by repeat (first | assumption | exact Ext.refl _ | apply Ext.alloc | apply Ext.drew | apply Ext.drewN))
        refine wpAnyH_take (i := 0) (v := ?_) (oper_at rfl) (by kernel_rfl) (by kernel_rfl) (by kernel_rfl) (fun _ _ _ h => h) (Or.inl ⟨by rfl, ?_⟩) hHeld ?_
        rotate_left
        · (intro ww hSw; (try dsimp only at hSw); go_simp; try (with_reducible rfl))
        try simp only [Act.put, List.setIfInBounds_toArray, List.set_cons_zero, List.set_cons_succ]
        refine wpAnyH_take (i := 1) (v := ?_) (oper_at rfl) (by kernel_rfl) (by kernel_rfl) (by kernel_rfl) (fun _ _ _ h => h) (Or.inl ⟨by rfl, ?_⟩) hHeld ?_
        rotate_left
        · (intro ww hSw; (try dsimp only at hSw); go_simp; try (with_reducible rfl))
        try simp only [Act.put, List.setIfInBounds_toArray, List.set_cons_zero, List.set_cons_succ]
        refine wpAnyH_take (i := 2) (v := ?_) (oper_at rfl) (by kernel_rfl) (by kernel_rfl) (by kernel_rfl) (fun _ _ _ h => h) (Or.inl ⟨by rfl, ?_⟩) hHeld ?_
        rotate_left
        · (intro ww hSw; (try dsimp only at hSw); go_simp; try (with_reducible rfl))
        try simp only [Act.put, List.setIfInBounds_toArray, List.set_cons_zero, List.set_cons_succ]
        refine wpAnyH_take (i := 3) (v := ?_) (oper_at rfl) (by kernel_rfl) (by kernel_rfl) (by kernel_rfl) (fun _ _ _ h => h) (Or.inl ⟨by rfl, ?_⟩) hHeld ?_
        rotate_left
        · (intro ww hSw; (try dsimp only at hSw); go_simp; try (with_reducible rfl))
        try simp only [Act.put, List.setIfInBounds_toArray, List.set_cons_zero, List.set_cons_succ]
        refine wpAnyH_take (i := 4) (v := ?_) (oper_at rfl) (by kernel_rfl) (by kernel_rfl) (by kernel_rfl) (fun _ _ _ h => h) (Or.inl ⟨by rfl, ?_⟩) hHeld ?_
        rotate_left
        · (intro ww hSw; (try dsimp only at hSw); go_simp; try (with_reducible rfl))
        try simp only [Act.put, List.setIfInBounds_toArray, List.set_cons_zero, List.set_cons_succ]
        refine wpAnyH_take (i := 5) (v := ?_) (oper_at rfl) (by kernel_rfl) (by kernel_rfl) (by kernel_rfl) (fun _ _ _ h => h) (Or.inl ⟨by rfl, ?_⟩) hHeld ?_
        rotate_left
        · (intro ww hSw; (try dsimp only at hSw); go_simp; try (with_reducible rfl))
        try simp only [Act.put, List.setIfInBounds_toArray, List.set_cons_zero, List.set_cons_succ]
        refine wpAnyH_take (i := 6) (v := ?_) (oper_at rfl) (by kernel_rfl) (by kernel_rfl) (by kernel_rfl) (fun _ _ _ h => h) (Or.inl ⟨by rfl, ?_⟩) hHeld ?_
        rotate_left
        · (intro ww hSw; (try dsimp only at hSw); go_simp; try (with_reducible rfl))
        try simp only [Act.put, List.setIfInBounds_toArray, List.set_cons_zero, List.set_cons_succ]
        refine wpAnyH_take (i := 10) (v := ?_) (oper_at rfl) (by kernel_rfl) (by kernel_rfl) (by kernel_rfl) (fun _ _ _ h => h) (Or.inl ⟨by rfl, ?_⟩) hHeld ?_
        rotate_left
        · (intro ww hSw; (try dsimp only at hSw); go_simp; try (with_reducible rfl))
        try simp only [Act.put, List.setIfInBounds_toArray, List.set_cons_zero, List.set_cons_succ]
        refine wpAnyH_take (i := 11) (v := ?_) (oper_at rfl) (by kernel_rfl) (by kernel_rfl) (by kernel_rfl) (fun _ _ _ h => h) (Or.inl ⟨by rfl, ?_⟩) hHeld ?_
        rotate_left
        · (intro ww hSw; (try dsimp only at hSw); go_simp; try (with_reducible rfl))
        try simp only [Act.put, List.setIfInBounds_toArray, List.set_cons_zero, List.set_cons_succ]
        refine wpAnyH_take (i := 12) (v := ?_) (oper_at rfl) (by kernel_rfl) (by kernel_rfl) (by kernel_rfl) (fun _ _ _ h => h) (Or.inl ⟨by rfl, ?_⟩) hHeld ?_
        rotate_left
        · (intro ww hSw; (try dsimp only at hSw); go_simp; try (with_reducible rfl))
        try simp only [Act.put, List.setIfInBounds_toArray, List.set_cons_zero, List.set_cons_succ]
        refine wpAnyH_take (i := 13) (v := ?_) (oper_at rfl) (by kernel_rfl) (by kernel_rfl) (by kernel_rfl) (fun _ _ _ h => h) (Or.inl ⟨by rfl, ?_⟩) hHeld ?_
        rotate_left
        · (intro ww hSw; (try dsimp only at hSw); go_simp; try (with_reducible rfl))
        try simp only [Act.put, List.setIfInBounds_toArray, List.set_cons_zero, List.set_cons_succ]
        refine wpAnyH_take (i := 14) (v := ?_) (oper_at rfl) (by kernel_rfl) (by kernel_rfl) (by kernel_rfl) (fun _ _ _ h => h) (Or.inl ⟨by rfl, ?_⟩) hHeld ?_
        rotate_left
        · (intro ww hSw; (try dsimp only at hSw); go_simp; try (with_reducible rfl))
        try simp only [Act.put, List.setIfInBounds_toArray, List.set_cons_zero, List.set_cons_succ]
        refine wpAnyH_take (i := 15) (v := ?_) (oper_at rfl) (by kernel_rfl) (by kernel_rfl) (by kernel_rfl) (fun _ _ _ h => h) (Or.inl ⟨by rfl, ?_⟩) hHeld ?_
        rotate_left
        · (intro ww hSw; (try dsimp only at hSw); go_simp; try (with_reducible rfl))
        try simp only [Act.put, List.setIfInBounds_toArray, List.set_cons_zero, List.set_cons_succ]
        refine wpAnyH_take (i := 17) (v := ?_) (oper_at rfl) (by kernel_rfl) (by kernel_rfl) (by kernel_rfl) (fun _ _ _ h => h) (Or.inl ⟨by rfl, ?_⟩) hHeld ?_
        rotate_left
        · (intro ww hSw; (try dsimp only at hSw); go_simp; try (with_reducible rfl))
        try simp only [Act.put, List.setIfInBounds_toArray, List.set_cons_zero, List.set_cons_succ]
        refine wpAnyH_take (i := 18) (v := ?_) (oper_at rfl) (by kernel_rfl) (by kernel_rfl) (by kernel_rfl) (fun _ _ _ h => h) (Or.inl ⟨by rfl, ?_⟩) hHeld ?_
        rotate_left
        · (intro ww hSw; (try dsimp only at hSw); go_simp; try (with_reducible rfl))
        try simp only [Act.put, List.setIfInBounds_toArray, List.set_cons_zero, List.set_cons_succ]
        refine wpAnyH_take (i := 19) (v := ?_) (oper_at rfl) (by kernel_rfl) (by kernel_rfl) (by kernel_rfl) (fun _ _ _ h => h) (Or.inl ⟨by rfl, ?_⟩) hHeld ?_
        rotate_left
        · (intro ww hSw; (try dsimp only at hSw); go_simp; try (with_reducible rfl))
        try simp only [Act.put, List.setIfInBounds_toArray, List.set_cons_zero, List.set_cons_succ]
        refine wpAnyH_take (i := 20) (v := ?_) (oper_at rfl) (by kernel_rfl) (by kernel_rfl) (by kernel_rfl) (fun _ _ _ h => h) (Or.inl ⟨by rfl, ?_⟩) hHeld ?_
        rotate_left
        · (intro ww hSw; (try dsimp only at hSw); go_simp; try (with_reducible rfl))
        try simp only [Act.put, List.setIfInBounds_toArray, List.set_cons_zero, List.set_cons_succ]
        refine wpAnyH_take (i := 21) (v := ?_) (oper_at rfl) (by kernel_rfl) (by kernel_rfl) (by kernel_rfl) (fun _ _ _ h => h) (Or.inl ⟨by rfl, ?_⟩) hHeld ?_
        rotate_left
        · (intro ww hSw; (try dsimp only at hSw); go_simp; try (with_reducible rfl))
        try simp only [Act.put, List.setIfInBounds_toArray, List.set_cons_zero, List.set_cons_succ]
        refine wpAnyH_take (i := 22) (v := ?_) (oper_at rfl) (by kernel_rfl) (by kernel_rfl) (by kernel_rfl) (fun _ _ _ h => h) (Or.inl ⟨by rfl, ?_⟩) hHeld ?_
        rotate_left
        · (intro ww hSw; (try dsimp only at hSw); go_simp; try (with_reducible rfl))
        try simp only [Act.put, List.setIfInBounds_toArray, List.set_cons_zero, List.set_cons_succ]
        refine wpAnyH_ready (rs := [7, 25]) (by kernel_rfl) (by simp) (AllReadyH.cons (oper_at rfl) (fun K hK => ?_) (AllReadyH.cons (oper_at rfl) (fun K hK => ?_) AllReadyH.nil))
        · go_simp
          go_at_call 40
          refine (M9.out _).mono ?_
          rintro e1 w2 ⟨rfl, rfl⟩
          try go_wp2_with fail
          refine hK.out _ _ ?_ (fun hHeld => ?_)
          · exact Ext.held (by repeat (first | assumption | exact Ext.refl _ | apply Ext.alloc | apply Ext.drew | apply Ext.drewN))
          clear hK K
          try simp only [Act.put, List.setIfInBounds_toArray, List.set_cons_zero, List.set_cons_succ]
          refine wpAnyH_take (i := 8) (v := ?_) (oper_at rfl) (by kernel_rfl) (by kernel_rfl) (by kernel_rfl) (fun _ _ _ h => h) (Or.inl ⟨by rfl, ?_⟩) hHeld ?_
          rotate_left
          · (intro ww hSw; (try dsimp only at hSw); go_simp; try (with_reducible rfl))
          try simp only [Act.put, List.setIfInBounds_toArray, List.set_cons_zero, List.set_cons_succ]
          refine wpAnyH_take (i := 9) (v := ?_) (oper_at rfl) (by kernel_rfl) (by kernel_rfl) (by kernel_rfl) (fun _ _ _ h => h) (Or.inl ⟨by rfl, ?_⟩) hHeld ?_
          rotate_left
          · (intro ww hSw; (try dsimp only at hSw); go_simp; try (with_reducible rfl))
          try simp only [Act.put, List.setIfInBounds_toArray, List.set_cons_zero, List.set_cons_succ]
          refine wpAnyH_ready (rs := [16, 25]) (by kernel_rfl) (by simp) (AllReadyH.cons (oper_at rfl) (fun K hK => ?_) (AllReadyH.cons (oper_at rfl) (fun K hK => ?_) AllReadyH.nil))
          · go_simp
            go_at_call 40
            refine (M3.out _).mono ?_
            rintro e1 w2 ⟨rfl, rfl⟩
            try go_wp2_with fail
            refine hK.out _ _ ?_ (fun hHeld => ?_)
            · exact Ext.held (by repeat (first | assumption | exact Ext.refl _ | apply Ext.alloc | apply Ext.drew | apply Ext.drewN))
            clear hK K
            try simp only [Act.put, List.setIfInBounds_toArray, List.set_cons_zero, List.set_cons_succ]
            refine wpAnyH_ready (rs := [23, 25]) (by kernel_rfl) (by simp) (AllReadyH.cons (oper_at rfl) (fun K hK => ?_) (AllReadyH.cons (oper_at rfl) (fun K hK => ?_) AllReadyH.nil))
            · go_simp
              go_at_call 40
              refine (M4.out _).mono ?_
              rintro e1 w2 ⟨rfl, rfl⟩
              try go_wp2_with fail
              refine hK.out _ _ ?_ (fun hHeld => ?_)
              · exact Ext.held (by repeat (first | assumption | exact Ext.refl _ | apply Ext.alloc | apply Ext.drew | apply Ext.drewN))
              clear hK K
              try simp only [Act.put, List.setIfInBounds_toArray, List.set_cons_zero, List.set_cons_succ]
              refine wpAnyH_take (i := 24) (v := ?_) (oper_at rfl) (by kernel_rfl) (by kernel_rfl) (by kernel_rfl) (fun _ _ _ h => h) (Or.inl ⟨by rfl, ?_⟩) hHeld ?_
              rotate_left
              · (intro ww hSw; (try dsimp only at hSw); go_simp; try (with_reducible rfl))
              try simp only [Act.put, List.setIfInBounds_toArray, List.set_cons_zero, List.set_cons_succ]
              refine wpAnyH_ready (rs := [25]) (by kernel_rfl) (by simp) (AllReadyH.cons (oper_at rfl) (fun K hK => ?_) AllReadyH.nil)
              go_simp
              refine hK.out _ _ ?_ (fun hHeld => ?_)
              · exact Ext.held (by repeat (first | assumption | exact Ext.refl _ | apply Ext.alloc | apply Ext.drew | apply Ext.drewN))
              clear hK K
              try simp only [Act.put, List.setIfInBounds_toArray, List.set_cons_zero, List.set_cons_succ]
              refine wpAnyH_ready (rs := [26]) (by kernel_rfl) (by simp) (AllReadyH.cons (oper_at rfl) (fun K hK => ?_) AllReadyH.nil)
              go_simp
              refine hK.out _ _ ?_ (fun hHeld => ?_)
              · exact Ext.held (by repeat (first | assumption | exact Ext.refl _ | apply Ext.alloc | apply Ext.drew | apply Ext.drewN))
              clear hK K
              try simp only [Act.put, List.setIfInBounds_toArray, List.set_cons_zero, List.set_cons_succ]
              refine wpAnyH_done (by kernel_rfl) ?_ _
              refine NoPanic.normal ?_
              go_wp2_with fail
              go_meet
              exact ⟨rfl, rfl⟩
            · go_simp
              refine hK.out _ _ ?_ (fun hHeld => ?_)
              · exact Ext.held (by repeat (first | assumption | exact Ext.refl _ | apply Ext.alloc | apply Ext.drew | apply Ext.drewN))
              clear hK K
              try simp only [Act.put, List.setIfInBounds_toArray, List.set_cons_zero, List.set_cons_succ]
              refine wpAnyH_ready (rs := [23]) (by kernel_rfl) (by simp) (AllReadyH.cons (oper_at rfl) (fun K hK => ?_) AllReadyH.nil)
              go_simp
              go_at_call 40
              refine (M4.out _).mono ?_
              rintro e1 w2 ⟨rfl, rfl⟩
              try go_wp2_with fail
              refine hK.out _ _ ?_ (fun hHeld => ?_)
              · exact Ext.held (by repeat (first | assumption | exact Ext.refl _ | apply Ext.alloc | apply Ext.drew | apply Ext.drewN))
              clear hK K
              try simp only [Act.put, List.setIfInBounds_toArray, List.set_cons_zero, List.set_cons_succ]
              refine wpAnyH_take (i := 24) (v := ?_) (oper_at rfl) (by kernel_rfl) (by kernel_rfl) (by kernel_rfl) (fun _ _ _ h => h) (Or.inl ⟨by rfl, ?_⟩) hHeld ?_
              rotate_left
              · (intro ww hSw; (try dsimp only at hSw); go_simp; try (with_reducible rfl))
              try simp only [Act.put, List.setIfInBounds_toArray, List.set_cons_zero, List.set_cons_succ]
              refine wpAnyH_ready (rs := [26]) (by kernel_rfl) (by simp) (AllReadyH.cons (oper_at rfl) (fun K hK => ?_) AllReadyH.nil)
              go_simp
              refine hK.out _ _ ?_ (fun hHeld => ?_)
              · exact Ext.held (by repeat (first | assumption | exact Ext.refl _ | apply Ext.alloc | apply Ext.drew | apply Ext.drewN))
              clear hK K
              try simp only [Act.put, List.setIfInBounds_toArray, List.set_cons_zero, List.set_cons_succ]
              refine wpAnyH_done (by kernel_rfl) ?_ _
              refine NoPanic.normal ?_
              go_wp2_with fail
              go_meet
              exact ⟨rfl, rfl⟩
          · go_simp
            refine hK.out _ _ ?_ (fun hHeld => ?_)
            · exact Ext.held (by repeat (first | assumption | exact Ext.refl _ | apply Ext.alloc | apply Ext.drew | apply Ext.drewN))
            clear hK K
            try simp only [Act.put, List.setIfInBounds_toArray, List.set_cons_zero, List.set_cons_succ]
            refine wpAnyH_ready (rs := [16]) (by kernel_rfl) (by simp) (AllReadyH.cons (oper_at rfl) (fun K hK => ?_) AllReadyH.nil)
            go_simp
            go_at_call 40
            refine (M3.out _).mono ?_
            rintro e1 w2 ⟨rfl, rfl⟩
            try go_wp2_with fail
            refine hK.out _ _ ?_ (fun hHeld => ?_)
            · exact Ext.held (by repeat (first | assumption | exact Ext.refl _ | apply Ext.alloc | apply Ext.drew | apply Ext.drewN))
            clear hK K
            try simp only [Act.put, List.setIfInBounds_toArray, List.set_cons_zero, List.set_cons_succ]
            refine wpAnyH_ready (rs := [23]) (by kernel_rfl) (by simp) (AllReadyH.cons (oper_at rfl) (fun K hK => ?_) AllReadyH.nil)
            go_simp
            go_at_call 40
            refine (M4.out _).mono ?_
            rintro e1 w2 ⟨rfl, rfl⟩
            try go_wp2_with fail
            refine hK.out _ _ ?_ (fun hHeld => ?_)
            · exact Ext.held (by repeat (first | assumption | exact Ext.refl _ | apply Ext.alloc | apply Ext.drew | apply Ext.drewN))
            clear hK K
            try simp only [Act.put, List.setIfInBounds_toArray, List.set_cons_zero, List.set_cons_succ]
            refine wpAnyH_take (i := 24) (v := ?_) (oper_at rfl) (by kernel_rfl) (by kernel_rfl) (by kernel_rfl) (fun _ _ _ h => h) (Or.inl ⟨by rfl, ?_⟩) hHeld ?_
            rotate_left
            · (intro ww hSw; (try dsimp only at hSw); go_simp; try (with_reducible rfl))
            try simp only [Act.put, List.setIfInBounds_toArray, List.set_cons_zero, List.set_cons_succ]
            refine wpAnyH_ready (rs := [26]) (by kernel_rfl) (by simp) (AllReadyH.cons (oper_at rfl) (fun K hK => ?_) AllReadyH.nil)
            go_simp
            refine hK.out _ _ ?_ (fun hHeld => ?_)
            · exact Ext.held (by repeat (first | assumption | exact Ext.refl _ | apply Ext.alloc | apply Ext.drew | apply Ext.drewN))
            clear hK K
            try simp only [Act.put, List.setIfInBounds_toArray, List.set_cons_zero, List.set_cons_succ]
            refine wpAnyH_done (by kernel_rfl) ?_ _
            refine NoPanic.normal ?_
            go_wp2_with fail
            go_meet
            exact ⟨rfl, rfl⟩
        · go_simp
          refine hK.out _ _ ?_ (fun hHeld => ?_)
          · exact Ext.held (by repeat (first | assumption | exact Ext.refl _ | apply Ext.alloc | apply Ext.drew | apply Ext.drewN))
          clear hK K
          try simp only [Act.put, List.setIfInBounds_toArray, List.set_cons_zero, List.set_cons_succ]
          refine wpAnyH_ready (rs := [7]) (by kernel_rfl) (by simp) (AllReadyH.cons (oper_at rfl) (fun K hK => ?_) AllReadyH.nil)
          go_simp
          go_at_call 40
          refine (M9.out _).mono ?_
          rintro e1 w2 ⟨rfl, rfl⟩
          try go_wp2_with fail
          refine hK.out _ _ ?_ (fun hHeld => ?_)
          · exact Ext.held (by repeat (first | assumption | exact Ext.refl _ | apply Ext.alloc | apply Ext.drew | apply Ext.drewN))
          clear hK K
          try simp only [Act.put, List.setIfInBounds_toArray, List.set_cons_zero, List.set_cons_succ]
          refine wpAnyH_take (i := 8) (v := ?_) (oper_at rfl) (by kernel_rfl) (by kernel_rfl) (by kernel_rfl) (fun _ _ _ h => h) (Or.inl ⟨by rfl, ?_⟩) hHeld ?_
          rotate_left
          · (intro ww hSw; (try dsimp only at hSw); go_simp; try (with_reducible rfl))
          try simp only [Act.put, List.setIfInBounds_toArray, List.set_cons_zero, List.set_cons_succ]
          refine wpAnyH_take (i := 9) (v := ?_) (oper_at rfl) (by kernel_rfl) (by kernel_rfl) (by kernel_rfl) (fun _ _ _ h => h) (Or.inl ⟨by rfl, ?_⟩) hHeld ?_
          rotate_left
          · (intro ww hSw; (try dsimp only at hSw); go_simp; try (with_reducible rfl))
          try simp only [Act.put, List.setIfInBounds_toArray, List.set_cons_zero, List.set_cons_succ]
          refine wpAnyH_ready (rs := [16]) (by kernel_rfl) (by simp) (AllReadyH.cons (oper_at rfl) (fun K hK => ?_) AllReadyH.nil)
          go_simp
          go_at_call 40
          refine (M3.out _).mono ?_
          rintro e1 w2 ⟨rfl, rfl⟩
          try go_wp2_with fail
          refine hK.out _ _ ?_ (fun hHeld => ?_)
          · exact Ext.held (by repeat (first | assumption | exact Ext.refl _ | apply Ext.alloc | apply Ext.drew | apply Ext.drewN))
          clear hK K
          try simp only [Act.put, List.setIfInBounds_toArray, List.set_cons_zero, List.set_cons_succ]
          refine wpAnyH_ready (rs := [23]) (by kernel_rfl) (by simp) (AllReadyH.cons (oper_at rfl) (fun K hK => ?_) AllReadyH.nil)
          go_simp
          go_at_call 40
          refine (M4.out _).mono ?_
          rintro e1 w2 ⟨rfl, rfl⟩
          try go_wp2_with fail
          refine hK.out _ _ ?_ (fun hHeld => ?_)
          · exact Ext.held (by repeat (first | assumption | exact Ext.refl _ | apply Ext.alloc | apply Ext.drew | apply Ext.drewN))
          clear hK K
          try simp only [Act.put, List.setIfInBounds_toArray, List.set_cons_zero, List.set_cons_succ]
          refine wpAnyH_take (i := 24) (v := ?_) (oper_at rfl) (by kernel_rfl) (by kernel_rfl) (by kernel_rfl) (fun _ _ _ h => h) (Or.inl ⟨by rfl, ?_⟩) hHeld ?_
          rotate_left
          · (intro ww hSw; (try dsimp only at hSw); go_simp; try (with_reducible rfl))
          try simp only [Act.put, List.setIfInBounds_toArray, List.set_cons_zero, List.set_cons_succ]
          refine wpAnyH_ready (rs := [26]) (by kernel_rfl) (by simp) (AllReadyH.cons (oper_at rfl) (fun K hK => ?_) AllReadyH.nil)
          go_simp
          refine hK.out _ _ ?_ (fun hHeld => ?_)
          · exact Ext.held (by repeat (first | assumption | exact Ext.refl _ | apply Ext.alloc | apply Ext.drew | apply Ext.drewN))
          clear hK K
          try simp only [Act.put, List.setIfInBounds_toArray, List.set_cons_zero, List.set_cons_succ]
          refine wpAnyH_done (by kernel_rfl) ?_ _
          refine NoPanic.normal ?_
          go_wp2_with fail
          go_meet
          exact ⟨rfl, rfl⟩
      case rest =>
        obtain ⟨rfl, rfl⟩ := hcut
        have wk3 : IntKind.i64.wrap (1 + d5) = 1 + d5 := IntWalk.i64_in _ (by omega)
        have wk4 : IntKind.i64.wrap (1 + d3) = 1 + d3 := IntWalk.i64_in _ (by omega)
        have hc : kk = 1 ∨ kk = 2 ∨ kk = 3 ∨ kk = 4 ∨ kk = 5 ∨ kk = 6 ∨ kk = 7 ∨ kk = 8 ∨ kk = 9 := by omega
        obtain ⟨kb, hkb⟩ : ∃ kb, (if pairK kk = true then mb else 0) = kb := ⟨_, rfl⟩
        obtain ⟨dd, hdd⟩ : ∃ dd, dF r = dd := ⟨_, rfl⟩
        rw [hkb, hdd] at HCF
        have HDD := HDF.out
        rw [hdd] at HDD
        clear hdd HDF E9 M9 M3 M4 wk1 wk2 wk
        have e2 := (((Ext.refl w1).alloc (.cells #[kV kk, iV ma, iV 0, iV mn] 58)).drew).cell c2
        have e5 := (((Ext.refl w1).alloc (.cells #[kV kk, iV ma, iV 0, iV mn] 58)).drew).cell c5
        go_upto_block 2 with fail
        go_cut [] (fun wx => wx = ((w1.alloc (.cells #[kV kk, iV ma, iV kb, iV mn] 58)).alloc (.cells #[kV 0, iV 0, iV 0, iV 0, iV 0, iV dd, .slice none 0 0] 61)).drew)
        case first =>
          rcases hc with rfl | rfl | rfl | rfl | rfl | rfl | rfl | rfl | rfl
          all_goals simp [pairK] at hkb HDD
          all_goals subst hkb
          all_goals subst HDD
          all_goals go_wp2_with fail
          · refine (MB.out _).mono ?_
            rintro e1 w2 ⟨rfl, rfl⟩
            go_wp2_with fail
            go_meet
            exact rfl
          · go_meet
            exact rfl
          · refine (D3.out _).mono ?_
            rintro e1 w2 ⟨rfl, rfl⟩
            go_wp2_with fail
            go_meet
            exact rfl
          · go_meet
            exact rfl
          · refine (MB.out _).mono ?_
            rintro e1 w2 ⟨rfl, rfl⟩
            go_wp2_with fail
            go_meet
            exact rfl
          · refine (MB.out _).mono ?_
            rintro e1 w2 ⟨rfl, rfl⟩
            go_wp2_with fail
            refine (D5.out _).mono ?_
            rintro e1 w2 ⟨rfl, rfl⟩
            go_wp2_with fail
            go_meet
            exact rfl
          · refine (MB.out _).mono ?_
            rintro e1 w2 ⟨rfl, rfl⟩
            go_wp2_with fail
            refine (D5.out _).mono ?_
            rintro e1 w2 ⟨rfl, rfl⟩
            go_wp2_with fail
            go_meet
            exact rfl
          · go_meet
            exact rfl
          · refine (D3.out _).mono ?_
            rintro e1 w2 ⟨rfl, rfl⟩
            go_wp2_with fail
            go_meet
            exact rfl
        case rest =>
          subst hcut
          clear hc r5 r3 c0 c1 c2 c3 c5 e2 e5 wk3 wk4 MB D5 D3 HDD hkb hkd HR
          obtain ⟨cs, hcs⟩ : ∃ cs, chsTo rs k = cs := ⟨_, rfl⟩
          rw [hcs] at HRow HOK HTS hcl tl tz ⊢
          clear hcs
          go_upto_block 3 with fail
          generalize hw3 : (w1.alloc (.cells #[kV kk, iV ma, iV kb, iV mn] 58)).alloc (.cells #[kV kk, iV ma, iV kb, iV mn, iV 0, iV dd, .slice none 0 0] 61) = w2'
          obtain ⟨hE2, b0, b1, hA, hB⟩ := let2 hw3
          have HE13 : Hid (Ext w1 w2'.drew) := Lib.hid hE2.drew
          have B0 : Hid (w1.heap.size < w2'.drew.heap.size) := Lib.hid b0
          have B1 : Hid (w1.heap.size + 1 < w2'.drew.heap.size) := Lib.hid b1
          have HA : Hid (∀ i v, (#[kV kk, iV ma, iV kb, iV mn] : Array Value)[i]? = some v → w2'.drew.cell? ⟨w1.heap.size, i, none⟩ = some v) := Lib.hid hA
          have HB : Hid (∀ i v, (#[kV kk, iV ma, iV kb, iV mn, iV 0, iV dd, .slice none 0 0] : Array Value)[i]? = some v → w2'.drew.cell? ⟨w1.heap.size + 1, i, none⟩ = some v) := Lib.hid hB
          generalize w2'.drew = w3 at *
          clear hA hB hw3 hE2 b0 b1
          obtain ⟨kx, hkx⟩ : ∃ kx : Ky, (kk, ma, kb, mn) = kx := ⟨_, rfl⟩
          have HKX := Lib.hid hkx
          obtain ⟨p, hp⟩ : ∃ p, posC kx cs cs.length = p := ⟨_, rfl⟩
          have HPO := Lib.hid hp
          have hple : p ≤ cs.length := by rw [← hp]; exact posC_le _ _ _
          clear hp hkx
          go_cut [7] (fun s7 wx => s7 = iV (p : Int) ∧ Ext w3 wx)
          case first =>
            go_wp2_with fail
            go_loopw [7] (fun x wx => ∃ j : Nat, j ≤ cs.length ∧ x = iV (j : Int) ∧ posC kx cs j = p ∧ Ext w3 wx) (fun x _ => (intOf x).toNat)
            case atStart => exact ⟨cs.length, Nat.le_refl _, rfl, HPO.out, Ext.refl _⟩
            case round =>
              obtain ⟨j, hj, rfl, hp, hEj⟩ := hrel
              generalize hw4 : wr = w4 at *
              have HP := Lib.hid hp
              have HEJ := Lib.hid hEj
              clear hp hEj
              have ck0 := HEJ.out.cell (HA.out 0 _ rfl)
              have ck1 := HEJ.out.cell (HA.out 1 _ rfl)
              have ck2 := HEJ.out.cell (HA.out 2 _ rfl)
              have ck3 := HEJ.out.cell (HA.out 3 _ rfl)
              have bk := HEJ.out.lt _ B0.out
              cases j with
              | zero =>
                have hp0 : p = 0 := by have := HP.out; rw [posC] at this; exact this.symm
                go_wp2_with fail
                refine wp_region_noPanic ?_
                refine wp_region_held_drew (S := (fun w' => Ext w4 w' ∧ ∀ b o, b < w4.heap.size → w'.cell? ⟨b, o, none⟩ = w4.cell? ⟨b, o, none⟩)) (by kernel_rfl) ?_ (fun hHeld => ?_)
                · exact Ext.held (by repeat (first | assumption | exact Ext.refl _ | apply Ext.alloc | apply Ext.drew | apply Ext.drewN))
                refine wpAnyH_take (i := 0) (v := ?_) (oper_at rfl) (by kernel_rfl) (by kernel_rfl) (by kernel_rfl) (fun _ _ _ h => h) (Or.inl ⟨by rfl, ?_⟩) hHeld ?_
                rotate_left
                · (intro ww hSw; (try dsimp only at hSw); go_simp; try (with_reducible rfl))
                try simp only [Act.put, List.setIfInBounds_toArray, List.set_cons_zero, List.set_cons_succ]
                refine wpAnyH_take (i := 1) (v := ?_) (oper_at rfl) (by kernel_rfl) (by kernel_rfl) (by kernel_rfl) (fun _ _ _ h => h) (Or.inl ⟨by rfl, ?_⟩) hHeld ?_
                rotate_left
                · (intro ww hSw; (try dsimp only at hSw); go_simp; try (with_reducible rfl))
                try simp only [Act.put, List.setIfInBounds_toArray, List.set_cons_zero, List.set_cons_succ]
                refine wpAnyH_take (i := 2) (v := ?_) (oper_at rfl) (by kernel_rfl) (by kernel_rfl) (by kernel_rfl) (fun _ _ _ h => h) (Or.inl ⟨by rfl, ?_⟩) hHeld ?_
                rotate_left
                · (intro ww hSw; (try dsimp only at hSw); go_simp; try (with_reducible rfl))
                try simp only [Act.put, List.setIfInBounds_toArray, List.set_cons_zero, List.set_cons_succ]
                refine wpAnyH_take (i := 3) (v := undef) (oper_at rfl) (by kernel_rfl) (by kernel_rfl) (by kernel_rfl) (fun _ _ _ h => h) (Or.inr ⟨by rfl, rfl⟩) hHeld ?_
                try simp only [Act.put, List.setIfInBounds_toArray, List.set_cons_zero, List.set_cons_succ]
                refine wpAnyH_take (i := 4) (v := undef) (oper_at rfl) (by kernel_rfl) (by kernel_rfl) (by kernel_rfl) (fun _ _ _ h => h) (Or.inr ⟨by rfl, rfl⟩) hHeld ?_
                try simp only [Act.put, List.setIfInBounds_toArray, List.set_cons_zero, List.set_cons_succ]
                refine wpAnyH_take (i := 5) (v := undef) (oper_at rfl) (by kernel_rfl) (by kernel_rfl) (by kernel_rfl) (fun _ _ _ h => h) (Or.inr ⟨by rfl, rfl⟩) hHeld ?_
                try simp only [Act.put, List.setIfInBounds_toArray, List.set_cons_zero, List.set_cons_succ]
                refine wpAnyH_take (i := 6) (v := undef) (oper_at rfl) (by kernel_rfl) (by kernel_rfl) (by kernel_rfl) (fun _ _ _ h => h) (Or.inr ⟨by rfl, rfl⟩) hHeld ?_
                try simp only [Act.put, List.setIfInBounds_toArray, List.set_cons_zero, List.set_cons_succ]
                refine wpAnyH_take (i := 7) (v := undef) (oper_at rfl) (by kernel_rfl) (by kernel_rfl) (by kernel_rfl) (fun _ _ _ h => h) (Or.inr ⟨by rfl, rfl⟩) hHeld ?_
                try simp only [Act.put, List.setIfInBounds_toArray, List.set_cons_zero, List.set_cons_succ]
                refine wpAnyH_take (i := 8) (v := undef) (oper_at rfl) (by kernel_rfl) (by kernel_rfl) (by kernel_rfl) (fun _ _ _ h => h) (Or.inr ⟨by rfl, rfl⟩) hHeld ?_
                try simp only [Act.put, List.setIfInBounds_toArray, List.set_cons_zero, List.set_cons_succ]
                refine wpAnyH_take (i := 9) (v := undef) (oper_at rfl) (by kernel_rfl) (by kernel_rfl) (by kernel_rfl) (fun _ _ _ h => h) (Or.inr ⟨by rfl, rfl⟩) hHeld ?_
                try simp only [Act.put, List.setIfInBounds_toArray, List.set_cons_zero, List.set_cons_succ]
                refine wpAnyH_take (i := 10) (v := undef) (oper_at rfl) (by kernel_rfl) (by kernel_rfl) (by kernel_rfl) (fun _ _ _ h => h) (Or.inr ⟨by rfl, rfl⟩) hHeld ?_
                try simp only [Act.put, List.setIfInBounds_toArray, List.set_cons_zero, List.set_cons_succ]
                refine wpAnyH_take (i := 11) (v := ?_) (oper_at rfl) (by kernel_rfl) (by kernel_rfl) (by kernel_rfl) (fun _ _ _ h => h) (Or.inl ⟨by rfl, ?_⟩) hHeld ?_
                rotate_left
                · (intro ww hSw; (try dsimp only at hSw); go_simp; try (with_reducible rfl))
                try simp only [Act.put, List.setIfInBounds_toArray, List.set_cons_zero, List.set_cons_succ]
                refine wpAnyH_done (by kernel_rfl) ?_ _
                refine NoPanic.normal ?_
                go_wp2_with fail
                go_meet
                exact ⟨by rw [hp0], HEJ.out.drew⟩
              | succ j =>
                obtain ⟨A1, c1, e1, -, -, RC⟩ := HRow.out.sl.read
                rw [List.length_map] at RC
                obtain ⟨bT, oT, rfl, hbT, cT⟩ := RC w4 (HE13.out.trans HEJ.out) j (by omega) (by omega)
                rw [List.length_map, Value.slice.injEq] at e1
                obtain ⟨rfl, -, -⟩ := e1
                obtain ⟨y, hy⟩ : ∃ y, cs.getD j Ch0 = y := ⟨_, rfl⟩
                rw [encC_at (by omega) y hy] at cT
                obtain ⟨⟨y1, y2, y3, y4⟩, y5⟩ := y
                have cy0 := cT 0 _ (by omega) rfl
                have cy1 := cT 1 _ (by omega) rfl
                have cy2 := cT 2 _ (by omega) rfl
                have cy3 := cT 3 _ (by omega) rfl
                rw [Nat.add_zero] at cy0
                have HST : Hid (posC kx cs (j + 1) = if klt kx (y1, y2, y3, y4) then posC kx cs j else j + 1) := by rw [posC, hy]; exact Lib.hid rfl
                have RL := Lib.hid (fun W => rless_any kx (y1, y2, y3, y4) W)
                have q1 : ((j + 1 : Nat) : Int) - 1 = (j : Int) := by omega
                have wj : IntKind.i64.wrap (j : Int) = (j : Int) := IntWalk.i64_in _ (by omega)
                have q2 : (0 : Int) ≤ (j : Int) := by omega
                have q3 : (j : Int) < (cs.length : Int) := by omega
                rw [← HKX.out] at RL
                clear cT RC hy
                go_wp2_with fail
                refine wp_region_noPanic ?_
                refine wp_region_held_drew (S := (fun w' => Ext w4 w' ∧ ∀ b o, b < w4.heap.size → w'.cell? ⟨b, o, none⟩ = w4.cell? ⟨b, o, none⟩)) (by kernel_rfl) ?_ (fun hHeld => ?_)
                · exact Ext.held (by repeat (first | assumption | exact Ext.refl _ | apply Ext.alloc | apply Ext.drew | apply Ext.drewN))
                refine wpAnyH_take (i := 0) (v := ?_) (oper_at rfl) (by kernel_rfl) (by kernel_rfl) (by kernel_rfl) (fun _ _ _ h => h) (Or.inl ⟨by rfl, ?_⟩) hHeld ?_
                rotate_left
                · (intro ww hSw; (try dsimp only at hSw); go_simp; try (with_reducible rfl))
                try simp only [Act.put, List.setIfInBounds_toArray, List.set_cons_zero, List.set_cons_succ]
                refine wpAnyH_take (i := 1) (v := ?_) (oper_at rfl) (by kernel_rfl) (by kernel_rfl) (by kernel_rfl) (fun _ _ _ h => h) (Or.inl ⟨by rfl, ?_⟩) hHeld ?_
                rotate_left
                · (intro ww hSw; (try dsimp only at hSw); go_simp; try (with_reducible rfl))
                try simp only [Act.put, List.setIfInBounds_toArray, List.set_cons_zero, List.set_cons_succ]
                refine wpAnyH_take (i := 2) (v := ?_) (oper_at rfl) (by kernel_rfl) (by kernel_rfl) (by kernel_rfl) (fun _ _ _ h => h) (Or.inl ⟨by rfl, ?_⟩) hHeld ?_
                rotate_left
                · (intro ww hSw; (try dsimp only at hSw); go_simp; try (with_reducible rfl))
                try simp only [Act.put, List.setIfInBounds_toArray, List.set_cons_zero, List.set_cons_succ]
                refine wpAnyH_take (i := 3) (v := ?_) (oper_at rfl) (by kernel_rfl) (by kernel_rfl) (by kernel_rfl) (fun _ _ _ h => h) (Or.inl ⟨by rfl, ?_⟩) hHeld ?_
                rotate_left
                · (intro ww hSw; (try dsimp only at hSw); go_simp; try (with_reducible rfl))
                try simp only [Act.put, List.setIfInBounds_toArray, List.set_cons_zero, List.set_cons_succ]
                refine wpAnyH_take (i := 4) (v := ?_) (oper_at rfl) (by kernel_rfl) (by kernel_rfl) (by kernel_rfl) (fun _ _ _ h => h) (Or.inl ⟨by rfl, ?_⟩) hHeld ?_
                rotate_left
                · (intro ww hSw; (try dsimp only at hSw); go_simp; try (with_reducible rfl))
                try simp only [Act.put, List.setIfInBounds_toArray, List.set_cons_zero, List.set_cons_succ]
                refine wpAnyH_take (i := 5) (v := ?_) (oper_at rfl) (by kernel_rfl) (by kernel_rfl) (by kernel_rfl) (fun _ _ _ h => h) (Or.inl ⟨by rfl, ?_⟩) hHeld ?_
                rotate_left
                · (intro ww hSw; (try dsimp only at hSw); go_simp; try (with_reducible rfl))
                try simp only [Act.put, List.setIfInBounds_toArray, List.set_cons_zero, List.set_cons_succ]
                refine wpAnyH_take (i := 6) (v := ?_) (oper_at rfl) (by kernel_rfl) (by kernel_rfl) (by kernel_rfl) (fun _ _ _ h => h) (Or.inl ⟨by rfl, ?_⟩) hHeld ?_
                rotate_left
                · (intro ww hSw; (try dsimp only at hSw); go_simp; try (with_reducible rfl))
                try simp only [Act.put, List.setIfInBounds_toArray, List.set_cons_zero, List.set_cons_succ]
                refine wpAnyH_take (i := 7) (v := ?_) (oper_at rfl) (by kernel_rfl) (by kernel_rfl) (by kernel_rfl) (fun _ _ _ h => h) (Or.inl ⟨by rfl, ?_⟩) hHeld ?_
                rotate_left
                · (intro ww hSw; (try dsimp only at hSw); go_simp; try (with_reducible rfl))
                try simp only [Act.put, List.setIfInBounds_toArray, List.set_cons_zero, List.set_cons_succ]
                refine wpAnyH_take (i := 8) (v := ?_) (oper_at rfl) (by kernel_rfl) (by kernel_rfl) (by kernel_rfl) (fun _ _ _ h => h) (Or.inl ⟨by rfl, ?_⟩) hHeld ?_
                rotate_left
                · (intro ww hSw; (try dsimp only at hSw); go_simp; try (with_reducible rfl))
                try simp only [Act.put, List.setIfInBounds_toArray, List.set_cons_zero, List.set_cons_succ]
                refine wpAnyH_take (i := 9) (v := ?_) (oper_at rfl) (by kernel_rfl) (by kernel_rfl) (by kernel_rfl) (fun _ _ _ h => h) (Or.inl ⟨by rfl, ?_⟩) hHeld ?_
                rotate_left
                · (intro ww hSw; (try dsimp only at hSw); go_simp; try (with_reducible rfl))
                try simp only [Act.put, List.setIfInBounds_toArray, List.set_cons_zero, List.set_cons_succ]
                refine wpAnyH_ready (rs := [10]) (by kernel_rfl) (by simp) (AllReadyH.cons (oper_at rfl) (fun K hK => ?_) AllReadyH.nil)
                go_simp
                go_at_call 41
                refine (RL.out _).mono ?_
                rintro e2 w5 ⟨rfl, hE5⟩
                have HE45 := Ext.trans ((Ext.refl w4).drew) hE5
                try go_wp2_with fail
                refine hK.out _ _ ?_ (fun hHeld => ?_)
                · exact Ext.held (by repeat (first | assumption | exact Ext.refl _ | apply Ext.alloc | apply Ext.drew | apply Ext.drewN))
                clear hK K
                try simp only [Act.put, List.setIfInBounds_toArray, List.set_cons_zero, List.set_cons_succ]
                refine wpAnyH_take (i := 11) (v := ?_) (oper_at rfl) (by kernel_rfl) (by kernel_rfl) (by kernel_rfl) (fun _ _ _ h => h) (Or.inl ⟨by rfl, ?_⟩) hHeld ?_
                rotate_left
                · (intro ww hSw; (try dsimp only at hSw); go_simp; try (with_reducible rfl))
                try simp only [Act.put, List.setIfInBounds_toArray, List.set_cons_zero, List.set_cons_succ]
                refine wpAnyH_done (by kernel_rfl) ?_ _
                refine NoPanic.normal ?_
                cases hk : decide (klt (kk, ma, kb, mn) (y1, y2, y3, y4)) with
                | true =>
                  have HN : Hid (posC kx cs j = p) := by
                    have := HP.out
                    rw [HST.out, if_pos (by rw [← HKX.out]; exact of_decide_eq_true hk)] at this
                    exact Lib.hid this
                  clear hk HST HP RL cy0 cy1 cy2 cy3 ck0 ck1 ck2 ck3
                  go_wp2_with fail
                  exact ⟨⟨j, by omega, by go_num, HN.out, HEJ.out.trans HE45⟩, by simp [intOf]⟩
                | false =>
                  have HN : Hid (p = j + 1) := by
                    have := HP.out
                    rw [HST.out, if_neg (by rw [← HKX.out]; exact of_decide_eq_false hk)] at this
                    exact Lib.hid this.symm
                  clear hk HST HP RL cy0 cy1 cy2 cy3 ck0 ck1 ck2 ck3
                  go_wp2_with fail
                  go_meet
                  exact ⟨by rw [HN.out]; go_num, HEJ.out.trans HE45⟩
          case rest =>
            obtain ⟨rfl, hcx⟩ := hcut
            obtain ⟨w5, hw5⟩ : ∃ w5, w5 = wc := ⟨_, rfl⟩
            subst hw5
            have HE5 := Lib.hid hcx
            have ck0 := hcx.cell (HA.out 0 _ rfl)
            have ck1 := hcx.cell (HA.out 1 _ rfl)
            have ck2 := hcx.cell (HA.out 2 _ rfl)
            have ck3 := hcx.cell (HA.out 3 _ rfl)
            have bk := hcx.lt _ B0.out
            have cx0 := hcx.cell (HB.out 0 _ rfl)
            have cx1 := hcx.cell (HB.out 1 _ rfl)
            have cx2 := hcx.cell (HB.out 2 _ rfl)
            have cx3 := hcx.cell (HB.out 3 _ rfl)
            have cx4 := hcx.cell (HB.out 4 _ rfl)
            have cx5 := hcx.cell (HB.out 5 _ rfl)
            have cx6 := hcx.cell (HB.out 6 _ rfl)
            have bx := hcx.lt _ B1.out
            clear hcx
            rcases Nat.eq_zero_or_pos p with h0 | h0
            · have tg : decide ((0 : Int) < (p : Int)) = false := decide_eq_false (by omega)
              have tg' : decide (0 < p) = false := decide_eq_false (by omega)
              have HIN : Hid (insC cs (chF r) = cs.take p ++ ([(((kk, ma, kb, mn), dd) : Ch)] ++ cs.drop p)) := by
                have := HPO.out
                rw [← HKX.out] at this
                unfold insC
                rw [HCF.out]
                simp only []
                rw [this, if_neg (by omega)]
                exact Lib.hid rfl
              clear h0
              go_wp2_with fail
              refine wp_region_noPanic ?_
              refine wp_region_held_drew (S := (fun w' => Ext w5 w' ∧ ∀ b o, b < w5.heap.size → w'.cell? ⟨b, o, none⟩ = w5.cell? ⟨b, o, none⟩)) (by kernel_rfl) ?_ (fun hHeld => ?_)
              · exact Ext.held (by repeat (first | assumption | exact Ext.refl _ | apply Ext.alloc | apply Ext.drew | apply Ext.drewN))
              refine wpAnyH_take (i := 0) (v := ?_) (oper_at rfl) (by kernel_rfl) (by kernel_rfl) (by kernel_rfl) (fun _ _ _ h => h) (Or.inl ⟨by rfl, ?_⟩) hHeld ?_
              rotate_left
              · (intro ww hSw; (try dsimp only at hSw); go_simp; try (with_reducible rfl))
              try simp only [Act.put, List.setIfInBounds_toArray, List.set_cons_zero, List.set_cons_succ]
              refine wpAnyH_take (i := 1) (v := ?_) (oper_at rfl) (by kernel_rfl) (by kernel_rfl) (by kernel_rfl) (fun _ _ _ h => h) (Or.inl ⟨by rfl, ?_⟩) hHeld ?_
              rotate_left
              · (intro ww hSw; (try dsimp only at hSw); go_simp; try (with_reducible rfl))
              try simp only [Act.put, List.setIfInBounds_toArray, List.set_cons_zero, List.set_cons_succ]
              refine wpAnyH_take (i := 2) (v := ?_) (oper_at rfl) (by kernel_rfl) (by kernel_rfl) (by kernel_rfl) (fun _ _ _ h => h) (Or.inl ⟨by rfl, ?_⟩) hHeld ?_
              rotate_left
              · (intro ww hSw; (try dsimp only at hSw); go_simp; try (with_reducible rfl))
              try simp only [Act.put, List.setIfInBounds_toArray, List.set_cons_zero, List.set_cons_succ]
              refine wpAnyH_take (i := 3) (v := undef) (oper_at rfl) (by kernel_rfl) (by kernel_rfl) (by kernel_rfl) (fun _ _ _ h => h) (Or.inr ⟨by rfl, rfl⟩) hHeld ?_
              try simp only [Act.put, List.setIfInBounds_toArray, List.set_cons_zero, List.set_cons_succ]
              refine wpAnyH_take (i := 4) (v := undef) (oper_at rfl) (by kernel_rfl) (by kernel_rfl) (by kernel_rfl) (fun _ _ _ h => h) (Or.inr ⟨by rfl, rfl⟩) hHeld ?_
              try simp only [Act.put, List.setIfInBounds_toArray, List.set_cons_zero, List.set_cons_succ]
              refine wpAnyH_take (i := 5) (v := undef) (oper_at rfl) (by kernel_rfl) (by kernel_rfl) (by kernel_rfl) (fun _ _ _ h => h) (Or.inr ⟨by rfl, rfl⟩) hHeld ?_
              try simp only [Act.put, List.setIfInBounds_toArray, List.set_cons_zero, List.set_cons_succ]
              refine wpAnyH_take (i := 6) (v := undef) (oper_at rfl) (by kernel_rfl) (by kernel_rfl) (by kernel_rfl) (fun _ _ _ h => h) (Or.inr ⟨by rfl, rfl⟩) hHeld ?_
              try simp only [Act.put, List.setIfInBounds_toArray, List.set_cons_zero, List.set_cons_succ]
              refine wpAnyH_take (i := 7) (v := undef) (oper_at rfl) (by kernel_rfl) (by kernel_rfl) (by kernel_rfl) (fun _ _ _ h => h) (Or.inr ⟨by rfl, rfl⟩) hHeld ?_
              try simp only [Act.put, List.setIfInBounds_toArray, List.set_cons_zero, List.set_cons_succ]
              refine wpAnyH_take (i := 8) (v := undef) (oper_at rfl) (by kernel_rfl) (by kernel_rfl) (by kernel_rfl) (fun _ _ _ h => h) (Or.inr ⟨by rfl, rfl⟩) hHeld ?_
              try simp only [Act.put, List.setIfInBounds_toArray, List.set_cons_zero, List.set_cons_succ]
              refine wpAnyH_take (i := 9) (v := undef) (oper_at rfl) (by kernel_rfl) (by kernel_rfl) (by kernel_rfl) (fun _ _ _ h => h) (Or.inr ⟨by rfl, rfl⟩) hHeld ?_
              try simp only [Act.put, List.setIfInBounds_toArray, List.set_cons_zero, List.set_cons_succ]
              refine wpAnyH_take (i := 10) (v := undef) (oper_at rfl) (by kernel_rfl) (by kernel_rfl) (by kernel_rfl) (fun _ _ _ h => h) (Or.inr ⟨by rfl, rfl⟩) hHeld ?_
              try simp only [Act.put, List.setIfInBounds_toArray, List.set_cons_zero, List.set_cons_succ]
              refine wpAnyH_take (i := 11) (v := ?_) (oper_at rfl) (by kernel_rfl) (by kernel_rfl) (by kernel_rfl) (fun _ _ _ h => h) (Or.inl ⟨by rfl, ?_⟩) hHeld ?_
              rotate_left
              · (intro ww hSw; (try dsimp only at hSw); go_simp; try (with_reducible rfl))
              try simp only [Act.put, List.setIfInBounds_toArray, List.set_cons_zero, List.set_cons_succ]
              refine wpAnyH_done (by kernel_rfl) ?_ _
              refine NoPanic.normal ?_
              go_wp2_with fail
              have hsa := sliced_at (i := p) HRow.out.sl
              try simp only [Option.map_some, addE] at hsa
              have HSA := Lib.hid hsa
              have HSA5 := Lib.hid (HSA.out.ext ((HE13.out.trans HE5.out).drew))
              obtain ⟨S2, sc2, e6, -, -, hvs⟩ := HRow.out.sl.at_
              rw [List.length_map, Value.slice.injEq] at e6
              obtain ⟨rfl, -, rfl⟩ := e6
              have HTA := Lib.hid (take_at hvs HRow.out.sl.wide p)
              have HWD : Hid (Wide 7 ((cs.map encC).drop p)) := Lib.hid (fun x hx => HRow.out.1 x (List.mem_of_mem_drop hx))
              have HWT : Hid (Wide 7 ((cs.map encC).take p)) := Lib.hid (fun x hx => HRow.out.1 x (List.mem_of_mem_take hx))
              have HO : Hid (∀ u ∈ (cs.map encC).flatten, u.oneCell' = true) := Lib.hid (encC_one cs)
              have HOD : Hid (∀ u ∈ ((cs.map encC).drop p).flatten, u.oneCell' = true) := Lib.hid (fun u hu => HO.out u (mem_flat (fun x hx => List.mem_of_mem_drop hx) hu))
              have HOT : Hid (∀ u ∈ ((cs.map encC).take p).flatten, u.oneCell' = true) := Lib.hid (fun u hu => HO.out u (mem_flat (fun x hx => List.mem_of_mem_take hx) hu))
              have HW1 : Hid (Wide 7 [encC ((kk, ma, kb, mn), dd)]) := Lib.hid (Wide.one rfl)
              have HSD : Hid (((cs.map encC).drop p).length = cs.length - p) := Lib.hid (by rw [List.length_drop, List.length_map])
              have HST : Hid (((cs.map encC).take p).length = p) := Lib.hid (by rw [List.length_take, List.length_map]; omega)
              have qj1 : (p : Int) ≤ (cs.length : Int) := by omega
              have qj2 : (p : Int) ≤ (tc : Int) := by omega
              have qj0 : (0 : Int) ≤ (p : Int) := by omega
              generalize hw6 : w5.drew = w6 at *
              have h56 : Ext w5 w6 := by rw [← hw6]; exact (Ext.refl _).drew
              have HE6 := Lib.hid ((HE13.out.trans HE5.out).trans h56)
              have dx0 := h56.cell cx0
              have dx1 := h56.cell cx1
              have dx2 := h56.cell cx2
              have dx3 := h56.cell cx3
              have dx4 := h56.cell cx4
              have dx5 := h56.cell cx5
              have dx6 := h56.cell cx6
              have bx6 := h56.lt _ bx
              clear hvs hw6 h56
              refine wp_region_noPanic ?_
              refine wp_region_held_drew (S := (fun w' => Ext w6 w' ∧ ∀ b o, b < w6.heap.size → w'.cell? ⟨b, o, none⟩ = w6.cell? ⟨b, o, none⟩)) (by kernel_rfl) ?_ (fun hHeld => ?_)
              · exact Ext.held (by repeat (first | assumption | exact Ext.refl _ | apply Ext.alloc | apply Ext.drew | apply Ext.drewN))
              refine wpAnyH_take (i := 0) (v := ?_) (oper_at rfl) (by kernel_rfl) (by kernel_rfl) (by kernel_rfl) (fun _ _ _ h => h) (Or.inl ⟨by rfl, ?_⟩) hHeld ?_
              rotate_left
              · (intro ww hSw; (try dsimp only at hSw); go_simp; try (with_reducible rfl))
              try simp only [Act.put, List.setIfInBounds_toArray, List.set_cons_zero, List.set_cons_succ]
              refine wpAnyH_take (i := 2) (v := ?_) (oper_at rfl) (by kernel_rfl) (by kernel_rfl) (by kernel_rfl) (fun _ _ _ h => h) (Or.inl ⟨by rfl, ?_⟩) hHeld ?_
              rotate_left
              · (intro ww hSw; (try dsimp only at hSw); go_simp; try (with_reducible rfl))
              try simp only [Act.put, List.setIfInBounds_toArray, List.set_cons_zero, List.set_cons_succ]
              refine wpAnyH_take (i := 3) (v := ?_) (oper_at rfl) (by kernel_rfl) (by kernel_rfl) (by kernel_rfl) (fun _ _ _ h => h) (Or.inl ⟨by rfl, ?_⟩) hHeld ?_
              rotate_left
              · (intro ww hSw; (try dsimp only at hSw); go_simp; try (with_reducible rfl))
              try simp only [Act.put, List.setIfInBounds_toArray, List.set_cons_zero, List.set_cons_succ]
              refine wpAnyH_take (i := 4) (v := ?_) (oper_at rfl) (by kernel_rfl) (by kernel_rfl) (by kernel_rfl) (fun _ _ _ h => h) (Or.inl ⟨by rfl, ?_⟩) hHeld ?_
              rotate_left
              · (intro ww hSw; (try dsimp only at hSw); go_simp; try (with_reducible rfl))
              try simp only [Act.put, List.setIfInBounds_toArray, List.set_cons_zero, List.set_cons_succ]
              refine wpAnyH_ready (rs := [1]) (by kernel_rfl) (by simp) (AllReadyH.cons (oper_at rfl) (fun K hK => ?_) AllReadyH.nil)
              go_simp
              refine hK.out _ _ ?_ (fun hHeld => ?_)
              · exact Ext.held (by repeat (first | assumption | exact Ext.refl _ | apply Ext.alloc | apply Ext.drew | apply Ext.drewN))
              clear hK K
              try simp only [Act.put, List.setIfInBounds_toArray, List.set_cons_zero, List.set_cons_succ]
              refine wpAnyH_ready (rs := [5]) (by kernel_rfl) (by simp) (AllReadyH.cons (oper_at rfl) (fun K hK => ?_) AllReadyH.nil)
              refine sapp el22 (by rfl) (.tmp 128) (.tmp 131) (by rfl) (w5 := w6) (vs := [encC ((kk, ma, kb, mn), dd)]) (us := (cs.map encC).drop p) (by rfl) (((Ext.refl _).alloc _).drew) ((row_new (Nat.le_refl _) HW1.out rfl (by simp)).ext ((Ext.refl _).drew)) (by rfl) (by rw [HSD.out]) HWD.out ?hy HOD.out (by rw [HSD.out, List.length_singleton]; omega) (by rw [HSD.out, List.length_singleton]; omega) ?_
              case hy => exact HSA5.out.ext (((Ext.refl _).alloc _).drew)
              intro v7 w7 hr7 hE7 hg7 hb7
              refine hK.out _ _ ?_ (fun hHeld => ?_)
              · exact Ext.held (by repeat (first | assumption | exact Ext.refl _ | apply Ext.alloc | apply Ext.drew | apply Ext.drewN))
              clear hK K
              try simp only [Act.put, List.setIfInBounds_toArray, List.set_cons_zero, List.set_cons_succ]
              refine wpAnyH_take (i := 6) (v := ?_) (oper_at rfl) (by kernel_rfl) (by kernel_rfl) (by kernel_rfl) (fun _ _ _ h => h) (Or.inl ⟨by rfl, ?_⟩) hHeld ?_
              rotate_left
              · (intro ww hSw; (try dsimp only at hSw); go_simp; try (with_reducible rfl))
              try simp only [Act.put, List.setIfInBounds_toArray, List.set_cons_zero, List.set_cons_succ]
              refine wpAnyH_done (by kernel_rfl) ?_ _
              refine NoPanic.normal ?_
              obtain ⟨V, vc, e8, -, -, hv7⟩ := hr7.sl.at_
              rw [List.length_append, HSD.out, List.length_singleton] at e8
              subst e8
              have HV7 := Lib.hid hv7
              have HW7 := Lib.hid hr7.1
              have HE7 := Lib.hid hE7
              have HO7 : Hid (∀ u ∈ ([encC ((kk, ma, kb, mn), dd)] ++ (cs.map encC).drop p).flatten, u.oneCell' = true) := Lib.hid (fun u hu => by
                rw [List.flatten_append] at hu
                rcases List.mem_append.1 hu with h | h
                · exact encC_one [((kk, ma, kb, mn), dd)] u h
                · exact HOD.out u h)
              have HTA6 := Lib.hid (HTA.out.ext HE6.out)
              have HFM : Hid ([] ++ (cs.map encC).take p ++ ([encC ((kk, ma, kb, mn), dd)] ++ (cs.map encC).drop p) = (chsTo rs (k + 1)).map encC) := by
                rw [HTS.out, HIN.out]
                exact Lib.hid (by simp [List.map_take, List.map_drop])
              have hSD := HSD.out
              clear hv7 hr7 hE7 hg7 hb7 hHeld ck0 ck1 ck2 ck3 cx0 cx1 cx2 cx3 cx4 cx5 cx6 dx0 dx1 dx2 dx3 dx4 dx5 dx6
              go_wp2_with (first
                | (at_builtin; (refine wapp el22 rfl (.tmp 133) (.tmp 136) rfl (w5 := w7) (vs := []) (us := (cs.map encC).take p) rfl ((Ext.refl _).alloc _) (row_new (Nat.le_refl _) (Wide.nil 7) rfl (by simp)) rfl (by rw [HST.out]) HWT.out ((HTA6.out.ext HE7.out).ext ((Ext.refl _).alloc _)) HOT.out (by rw [HST.out, List.length_nil]; omega) (by rw [HST.out, List.length_nil]; omega) ?_; intro v8 w8 hr8 hE8 hg8 hb8; have HR8 := Lib.hid hr8; have HE8 := Lib.hid hE8; obtain ⟨V8, vc8, e9, -, -⟩ := hr8.form; rw [List.nil_append, HST.out] at e9; subst e9; clear hr8 hE8 hg8 hb8))
                | (at_builtin; (refine wapp el22 rfl (.tmp 137) (.tmp 138) rfl (w5 := w7) (us := [encC ((kk, ma, kb, mn), dd)] ++ (cs.map encC).drop p) rfl HE8.out HR8.out rfl (by rw [List.length_append, HSD.out, List.length_singleton]) HW7.out (HV7.out.ext HE8.out) HO7.out (by rw [List.length_append, List.length_append, HST.out, HSD.out, List.length_singleton, List.length_nil]; omega) (by rw [List.length_append, List.length_append, HST.out, HSD.out, List.length_singleton, List.length_nil]; omega) ?_; intro v9 w9 hr9 hE9 hg9 hb9; rw [HFM.out] at hr9; have HR9 := Lib.hid (hr9.base (HX.out.trans (HE6.out.trans HE7.out)).size); have HE9 := Lib.hid ((HX.out.trans (HE6.out.trans HE7.out)).trans hE9); clear hr9 hE9 hg9 hb9)))
              exact ⟨⟨k + 1, by omega, by omega, by go_num, HR9.out, HE9.out⟩, by simp [intOf]; omega⟩
            · obtain ⟨A1, c1, e1, -, -, RC⟩ := HRow.out.sl.read
              rw [List.length_map] at RC
              obtain ⟨bT, oT, rfl, hbT, cT⟩ := RC w5 (HE13.out.trans HE5.out) (p - 1) (by omega) (by omega)
              rw [List.length_map, Value.slice.injEq] at e1
              obtain ⟨rfl, -, -⟩ := e1
              obtain ⟨y, hy⟩ : ∃ y, cs.getD (p - 1) Ch0 = y := ⟨_, rfl⟩
              rw [encC_at (by omega) y hy] at cT
              obtain ⟨⟨y1, y2, y3, y4⟩, y5⟩ := y
              have cy0 := cT 0 _ (by omega) rfl
              have cy1 := cT 1 _ (by omega) rfl
              have cy2 := cT 2 _ (by omega) rfl
              have cy3 := cT 3 _ (by omega) rfl
              rw [Nat.add_zero] at cy0
              have HY := Lib.hid hy
              obtain ⟨q, hq⟩ : ∃ q, p - 1 = q := ⟨_, rfl⟩
              rw [hq] at cy0 cy1 cy2 cy3
              have wj : IntKind.i64.wrap ((p : Int) - 1) = (q : Int) := by rw [IntWalk.i64_in _ (by omega)]; omega
              have wj' : wrap64 ((p : Int) - 1) = (q : Int) := by rw [IntWalk.wrap64_in _ (by omega)]; omega
              have q2 : (0 : Int) ≤ (q : Int) := by omega
              have q3 : (q : Int) < (cs.length : Int) := by omega
              have tg : decide ((0 : Int) < (p : Int)) = true := decide_eq_true (by omega)
              have tg' : decide (0 < p) = true := decide_eq_true (by omega)
              clear cT RC hy
              have HQ := Lib.hid hq
              clear hq
              go_wp2_with fail
              refine wp_region_noPanic ?_
              refine wp_region_held_drew (S := (fun w' => Ext w5 w' ∧ ∀ b o, b < w5.heap.size → w'.cell? ⟨b, o, none⟩ = w5.cell? ⟨b, o, none⟩)) (by kernel_rfl) ?_ (fun hHeld => ?_)
              · exact Ext.held (by repeat (first | assumption | exact Ext.refl _ | apply Ext.alloc | apply Ext.drew | apply Ext.drewN))
              refine wpAnyH_take (i := 0) (v := ?_) (oper_at rfl) (by kernel_rfl) (by kernel_rfl) (by kernel_rfl) (fun _ _ _ h => h) (Or.inl ⟨by rfl, ?_⟩) hHeld ?_
              rotate_left
              · (intro ww hSw; (try dsimp only at hSw); go_simp; try (with_reducible rfl))
              try simp only [Act.put, List.setIfInBounds_toArray, List.set_cons_zero, List.set_cons_succ]
              refine wpAnyH_take (i := 1) (v := ?_) (oper_at rfl) (by kernel_rfl) (by kernel_rfl) (by kernel_rfl) (fun _ _ _ h => h) (Or.inl ⟨by rfl, ?_⟩) hHeld ?_
              rotate_left
              · (intro ww hSw; (try dsimp only at hSw); go_simp; try (with_reducible rfl))
              try simp only [Act.put, List.setIfInBounds_toArray, List.set_cons_zero, List.set_cons_succ]
              refine wpAnyH_take (i := 2) (v := ?_) (oper_at rfl) (by kernel_rfl) (by kernel_rfl) (by kernel_rfl) (fun _ _ _ h => h) (Or.inl ⟨by rfl, ?_⟩) hHeld ?_
              rotate_left
              · (intro ww hSw; (try dsimp only at hSw); go_simp; try (with_reducible rfl))
              try simp only [Act.put, List.setIfInBounds_toArray, List.set_cons_zero, List.set_cons_succ]
              refine wpAnyH_take (i := 3) (v := ?_) (oper_at rfl) (by kernel_rfl) (by kernel_rfl) (by kernel_rfl) (fun _ _ _ h => h) (Or.inl ⟨by rfl, ?_⟩) hHeld ?_
              rotate_left
              · (intro ww hSw; (try dsimp only at hSw); go_simp; try (with_reducible rfl))
              try simp only [Act.put, List.setIfInBounds_toArray, List.set_cons_zero, List.set_cons_succ]
              refine wpAnyH_take (i := 4) (v := ?_) (oper_at rfl) (by kernel_rfl) (by kernel_rfl) (by kernel_rfl) (fun _ _ _ h => h) (Or.inl ⟨by rfl, ?_⟩) hHeld ?_
              rotate_left
              · (intro ww hSw; (try dsimp only at hSw); go_simp; try (with_reducible rfl))
              try simp only [Act.put, List.setIfInBounds_toArray, List.set_cons_zero, List.set_cons_succ]
              refine wpAnyH_take (i := 5) (v := ?_) (oper_at rfl) (by kernel_rfl) (by kernel_rfl) (by kernel_rfl) (fun _ _ _ h => h) (Or.inl ⟨by rfl, ?_⟩) hHeld ?_
              rotate_left
              · (intro ww hSw; (try dsimp only at hSw); go_simp; try (with_reducible rfl))
              try simp only [Act.put, List.setIfInBounds_toArray, List.set_cons_zero, List.set_cons_succ]
              refine wpAnyH_take (i := 6) (v := ?_) (oper_at rfl) (by kernel_rfl) (by kernel_rfl) (by kernel_rfl) (fun _ _ _ h => h) (Or.inl ⟨by rfl, ?_⟩) hHeld ?_
              rotate_left
              · (intro ww hSw; (try dsimp only at hSw); go_simp; try (with_reducible rfl))
              try simp only [Act.put, List.setIfInBounds_toArray, List.set_cons_zero, List.set_cons_succ]
              refine wpAnyH_take (i := 7) (v := ?_) (oper_at rfl) (by kernel_rfl) (by kernel_rfl) (by kernel_rfl) (fun _ _ _ h => h) (Or.inl ⟨by rfl, ?_⟩) hHeld ?_
              rotate_left
              · (intro ww hSw; (try dsimp only at hSw); go_simp; try (with_reducible rfl))
              try simp only [Act.put, List.setIfInBounds_toArray, List.set_cons_zero, List.set_cons_succ]
              refine wpAnyH_take (i := 8) (v := ?_) (oper_at rfl) (by kernel_rfl) (by kernel_rfl) (by kernel_rfl) (fun _ _ _ h => h) (Or.inl ⟨by rfl, ?_⟩) hHeld ?_
              rotate_left
              · (intro ww hSw; (try dsimp only at hSw); go_simp; try (with_reducible rfl))
              try simp only [Act.put, List.setIfInBounds_toArray, List.set_cons_zero, List.set_cons_succ]
              refine wpAnyH_take (i := 9) (v := ?_) (oper_at rfl) (by kernel_rfl) (by kernel_rfl) (by kernel_rfl) (fun _ _ _ h => h) (Or.inl ⟨by rfl, ?_⟩) hHeld ?_
              rotate_left
              · (intro ww hSw; (try dsimp only at hSw); go_simp; try (with_reducible rfl))
              try simp only [Act.put, List.setIfInBounds_toArray, List.set_cons_zero, List.set_cons_succ]
              refine wpAnyH_take (i := 10) (v := ?_) (oper_at rfl) (by kernel_rfl) (by kernel_rfl) (by kernel_rfl) (fun _ _ _ h => h) (Or.inl ⟨by rfl, ?_⟩) hHeld ?_
              rotate_left
              · (intro ww hSw; (try dsimp only at hSw); go_simp; try (with_reducible rfl))
              try simp only [Act.put, List.setIfInBounds_toArray, List.set_cons_zero, List.set_cons_succ]
              refine wpAnyH_take (i := 11) (v := ?_) (oper_at rfl) (by kernel_rfl) (by kernel_rfl) (by kernel_rfl) (fun _ _ _ h => h) (Or.inl ⟨by rfl, ?_⟩) hHeld ?_
              rotate_left
              · (intro ww hSw; (try dsimp only at hSw); go_simp; try (with_reducible rfl))
              try simp only [Act.put, List.setIfInBounds_toArray, List.set_cons_zero, List.set_cons_succ]
              refine wpAnyH_done (by kernel_rfl) ?_ _
              refine NoPanic.normal ?_
              cases hk : eqB (y1, y2, y3, y4) (kk, ma, kb, mn) with
              | true =>
                have HIN : Hid (insC cs (chF r) = cs) := by
                  have := HPO.out
                  rw [← HKX.out] at this
                  unfold insC
                  rw [HCF.out]
                  simp only []
                  rw [this, if_pos ⟨h0, by rw [HY.out]; exact eqB_true hk⟩]
                  exact Lib.hid rfl
                clear hk cy0 cy1 cy2 cy3 ck0 ck1 ck2 ck3 cx0 cx1 cx2 cx3 cx4 cx5 cx6
                go_wp2_with fail
                exact ⟨⟨k + 1, by omega, by omega, by go_num, by rw [HTS.out, HIN.out]; exact (HRow.out.ext (HE13.out.trans HE5.out)).ext ((Ext.refl _).drew), (HX.out.trans (HE13.out.trans HE5.out)).drew⟩, by simp [intOf]; omega⟩
              | false =>
                have HIN : Hid (insC cs (chF r) = cs.take p ++ ([(((kk, ma, kb, mn), dd) : Ch)] ++ cs.drop p)) := by
                  have := HPO.out
                  rw [← HKX.out] at this
                  unfold insC
                  rw [HCF.out]
                  simp only []
                  rw [this, if_neg (fun h => eqB_false hk (by have := h.2; rw [HY.out] at this; exact this))]
                  exact Lib.hid rfl
                clear hk cy0 cy1 cy2 cy3
                go_wp2_with fail
                have hsa := sliced_at (i := p) HRow.out.sl
                try simp only [Option.map_some, addE] at hsa
                have HSA := Lib.hid hsa
                have HSA5 := Lib.hid (HSA.out.ext ((HE13.out.trans HE5.out).drew))
                obtain ⟨S2, sc2, e6, -, -, hvs⟩ := HRow.out.sl.at_
                rw [List.length_map, Value.slice.injEq] at e6
                obtain ⟨rfl, -, rfl⟩ := e6
                have HTA := Lib.hid (take_at hvs HRow.out.sl.wide p)
                have HWD : Hid (Wide 7 ((cs.map encC).drop p)) := Lib.hid (fun x hx => HRow.out.1 x (List.mem_of_mem_drop hx))
                have HWT : Hid (Wide 7 ((cs.map encC).take p)) := Lib.hid (fun x hx => HRow.out.1 x (List.mem_of_mem_take hx))
                have HO : Hid (∀ u ∈ (cs.map encC).flatten, u.oneCell' = true) := Lib.hid (encC_one cs)
                have HOD : Hid (∀ u ∈ ((cs.map encC).drop p).flatten, u.oneCell' = true) := Lib.hid (fun u hu => HO.out u (mem_flat (fun x hx => List.mem_of_mem_drop hx) hu))
                have HOT : Hid (∀ u ∈ ((cs.map encC).take p).flatten, u.oneCell' = true) := Lib.hid (fun u hu => HO.out u (mem_flat (fun x hx => List.mem_of_mem_take hx) hu))
                have HW1 : Hid (Wide 7 [encC ((kk, ma, kb, mn), dd)]) := Lib.hid (Wide.one rfl)
                have HSD : Hid (((cs.map encC).drop p).length = cs.length - p) := Lib.hid (by rw [List.length_drop, List.length_map])
                have HST : Hid (((cs.map encC).take p).length = p) := Lib.hid (by rw [List.length_take, List.length_map]; omega)
                have qj1 : (p : Int) ≤ (cs.length : Int) := by omega
                have qj2 : (p : Int) ≤ (tc : Int) := by omega
                have qj0 : (0 : Int) ≤ (p : Int) := by omega
                generalize hw6 : w5.drew = w6 at *
                have h56 : Ext w5 w6 := by rw [← hw6]; exact (Ext.refl _).drew
                have HE6 := Lib.hid ((HE13.out.trans HE5.out).trans h56)
                have dx0 := h56.cell cx0
                have dx1 := h56.cell cx1
                have dx2 := h56.cell cx2
                have dx3 := h56.cell cx3
                have dx4 := h56.cell cx4
                have dx5 := h56.cell cx5
                have dx6 := h56.cell cx6
                have bx6 := h56.lt _ bx
                clear hvs hw6 h56
                refine wp_region_noPanic ?_
                refine wp_region_held_drew (S := (fun w' => Ext w6 w' ∧ ∀ b o, b < w6.heap.size → w'.cell? ⟨b, o, none⟩ = w6.cell? ⟨b, o, none⟩)) (by kernel_rfl) ?_ (fun hHeld => ?_)
                · exact Ext.held (by repeat (first | assumption | exact Ext.refl _ | apply Ext.alloc | apply Ext.drew | apply Ext.drewN))
                refine wpAnyH_take (i := 0) (v := ?_) (oper_at rfl) (by kernel_rfl) (by kernel_rfl) (by kernel_rfl) (fun _ _ _ h => h) (Or.inl ⟨by rfl, ?_⟩) hHeld ?_
                rotate_left
                · (intro ww hSw; (try dsimp only at hSw); go_simp; try (with_reducible rfl))
                try simp only [Act.put, List.setIfInBounds_toArray, List.set_cons_zero, List.set_cons_succ]
                refine wpAnyH_take (i := 2) (v := ?_) (oper_at rfl) (by kernel_rfl) (by kernel_rfl) (by kernel_rfl) (fun _ _ _ h => h) (Or.inl ⟨by rfl, ?_⟩) hHeld ?_
                rotate_left
                · (intro ww hSw; (try dsimp only at hSw); go_simp; try (with_reducible rfl))
                try simp only [Act.put, List.setIfInBounds_toArray, List.set_cons_zero, List.set_cons_succ]
                refine wpAnyH_take (i := 3) (v := ?_) (oper_at rfl) (by kernel_rfl) (by kernel_rfl) (by kernel_rfl) (fun _ _ _ h => h) (Or.inl ⟨by rfl, ?_⟩) hHeld ?_
                rotate_left
                · (intro ww hSw; (try dsimp only at hSw); go_simp; try (with_reducible rfl))
                try simp only [Act.put, List.setIfInBounds_toArray, List.set_cons_zero, List.set_cons_succ]
                refine wpAnyH_take (i := 4) (v := ?_) (oper_at rfl) (by kernel_rfl) (by kernel_rfl) (by kernel_rfl) (fun _ _ _ h => h) (Or.inl ⟨by rfl, ?_⟩) hHeld ?_
                rotate_left
                · (intro ww hSw; (try dsimp only at hSw); go_simp; try (with_reducible rfl))
                try simp only [Act.put, List.setIfInBounds_toArray, List.set_cons_zero, List.set_cons_succ]
                refine wpAnyH_ready (rs := [1]) (by kernel_rfl) (by simp) (AllReadyH.cons (oper_at rfl) (fun K hK => ?_) AllReadyH.nil)
                go_simp
                refine hK.out _ _ ?_ (fun hHeld => ?_)
                · exact Ext.held (by repeat (first | assumption | exact Ext.refl _ | apply Ext.alloc | apply Ext.drew | apply Ext.drewN))
                clear hK K
                try simp only [Act.put, List.setIfInBounds_toArray, List.set_cons_zero, List.set_cons_succ]
                refine wpAnyH_ready (rs := [5]) (by kernel_rfl) (by simp) (AllReadyH.cons (oper_at rfl) (fun K hK => ?_) AllReadyH.nil)
                refine sapp el22 (by rfl) (.tmp 128) (.tmp 131) (by rfl) (w5 := w6) (vs := [encC ((kk, ma, kb, mn), dd)]) (us := (cs.map encC).drop p) (by rfl) (((Ext.refl _).alloc _).drew) ((row_new (Nat.le_refl _) HW1.out rfl (by simp)).ext ((Ext.refl _).drew)) (by rfl) (by rw [HSD.out]) HWD.out ?hy HOD.out (by rw [HSD.out, List.length_singleton]; omega) (by rw [HSD.out, List.length_singleton]; omega) ?_
                case hy => exact HSA5.out.ext (((Ext.refl _).alloc _).drew)
                intro v7 w7 hr7 hE7 hg7 hb7
                refine hK.out _ _ ?_ (fun hHeld => ?_)
                · exact Ext.held (by repeat (first | assumption | exact Ext.refl _ | apply Ext.alloc | apply Ext.drew | apply Ext.drewN))
                clear hK K
                try simp only [Act.put, List.setIfInBounds_toArray, List.set_cons_zero, List.set_cons_succ]
                refine wpAnyH_take (i := 6) (v := ?_) (oper_at rfl) (by kernel_rfl) (by kernel_rfl) (by kernel_rfl) (fun _ _ _ h => h) (Or.inl ⟨by rfl, ?_⟩) hHeld ?_
                rotate_left
                · (intro ww hSw; (try dsimp only at hSw); go_simp; try (with_reducible rfl))
                try simp only [Act.put, List.setIfInBounds_toArray, List.set_cons_zero, List.set_cons_succ]
                refine wpAnyH_done (by kernel_rfl) ?_ _
                refine NoPanic.normal ?_
                obtain ⟨V, vc, e8, -, -, hv7⟩ := hr7.sl.at_
                rw [List.length_append, HSD.out, List.length_singleton] at e8
                subst e8
                have HV7 := Lib.hid hv7
                have HW7 := Lib.hid hr7.1
                have HE7 := Lib.hid hE7
                have HO7 : Hid (∀ u ∈ ([encC ((kk, ma, kb, mn), dd)] ++ (cs.map encC).drop p).flatten, u.oneCell' = true) := Lib.hid (fun u hu => by
                  rw [List.flatten_append] at hu
                  rcases List.mem_append.1 hu with h | h
                  · exact encC_one [((kk, ma, kb, mn), dd)] u h
                  · exact HOD.out u h)
                have HTA6 := Lib.hid (HTA.out.ext HE6.out)
                have HFM : Hid ([] ++ (cs.map encC).take p ++ ([encC ((kk, ma, kb, mn), dd)] ++ (cs.map encC).drop p) = (chsTo rs (k + 1)).map encC) := by
                  rw [HTS.out, HIN.out]
                  exact Lib.hid (by simp [List.map_take, List.map_drop])
                have hSD := HSD.out
                clear hv7 hr7 hE7 hg7 hb7 hHeld ck0 ck1 ck2 ck3 cx0 cx1 cx2 cx3 cx4 cx5 cx6 dx0 dx1 dx2 dx3 dx4 dx5 dx6
                go_wp2_with (first
                  | (at_builtin; (refine wapp el22 rfl (.tmp 133) (.tmp 136) rfl (w5 := w7) (vs := []) (us := (cs.map encC).take p) rfl ((Ext.refl _).alloc _) (row_new (Nat.le_refl _) (Wide.nil 7) rfl (by simp)) rfl (by rw [HST.out]) HWT.out ((HTA6.out.ext HE7.out).ext ((Ext.refl _).alloc _)) HOT.out (by rw [HST.out, List.length_nil]; omega) (by rw [HST.out, List.length_nil]; omega) ?_; intro v8 w8 hr8 hE8 hg8 hb8; have HR8 := Lib.hid hr8; have HE8 := Lib.hid hE8; obtain ⟨V8, vc8, e9, -, -⟩ := hr8.form; rw [List.nil_append, HST.out] at e9; subst e9; clear hr8 hE8 hg8 hb8))
                  | (at_builtin; (refine wapp el22 rfl (.tmp 137) (.tmp 138) rfl (w5 := w7) (us := [encC ((kk, ma, kb, mn), dd)] ++ (cs.map encC).drop p) rfl HE8.out HR8.out rfl (by rw [List.length_append, HSD.out, List.length_singleton]) HW7.out (HV7.out.ext HE8.out) HO7.out (by rw [List.length_append, List.length_append, HST.out, HSD.out, List.length_singleton, List.length_nil]; omega) (by rw [List.length_append, List.length_append, HST.out, HSD.out, List.length_singleton, List.length_nil]; omega) ?_; intro v9 w9 hr9 hE9 hg9 hb9; rw [HFM.out] at hr9; have HR9 := Lib.hid (hr9.base (HX.out.trans (HE6.out.trans HE7.out)).size); have HE9 := Lib.hid ((HX.out.trans (HE6.out.trans HE7.out)).trans hE9); clear hr9 hE9 hg9 hb9)))
                exact ⟨⟨k + 1, by omega, by omega, by go_num, HR9.out, HE9.out⟩, by simp [intOf]; omega⟩
    · have HEND : Hid (chsTo rs k = chsF rs) := by
        rw [← chsTo_end]
        unfold chsTo
        rcases Nat.lt_or_ge k 12 with h | h
        · rw [List.take_of_length_le (by omega), List.take_of_length_le (by omega)]; exact Lib.hid rfl
        · rw [show k = 12 by omega]; exact Lib.hid rfl
      have hor : k = rs.length ∨ (k < rs.length ∧ k = 12) := by omega
      rcases hor with h1 | ⟨h1, h2⟩
      · subst h1
        go_wp2_with fail
        go_ret
        exact ⟨_, rfl, by rw [← HEND.out]; exact HRow.out, HX.out⟩
      · subst h2
        go_wp2_with fail
        go_ret
        exact ⟨_, rfl, by rw [← HEND.out]; exact HRow.out, HX.out⟩
end
end Go.Proofs.YtehmpbaiefbemaaGreat
