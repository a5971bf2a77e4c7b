/- The walk over ItcLeq. -/
import Derived.Test.YthnmhdabdiennaaDoorL4
namespace Go.Proofs.YthnmhdabdiennaaDoor
open Go.RowKit
attribute [local go_sem ↓] Go.wp_at_zero Go.wp_at_succ
attribute [local go_sem ↓] ld36 ld34 ld38 st36 st38 st32 al36 al38 bu36 bu32 bu38 bs23
attribute [local go_sem] run_ld36 run_st36 run_al36 blkOf_drew blkOf_setRow_same blkOf_setRow_other RV_size run_bu36 blkOf_new blkOf_old
attribute [local go_sem] cellRow run_bu38 run_al38 run_st38 run_ld38 blkOf_setRow_same8 PV_size blkOf_new2'
theorem leq_same {k k' : Nat} {x y : Pr} (hr : Rel k x) (hy : Rel k' y) : leqR x.s y.s 256 = leqF x.t y.t 0 0 := by
  have h := leq_on hr.ev hy.ev
  have h8 : (2 : Nat) ^ 8 = 256 := by decide
  rw [h8] at h
  simp only [Nat.zero_add] at h
  unfold leqR
  cases hb : leqF x.t y.t 0 0 with
  | true => exact decide_eq_true (h.1 hb)
  | false => exact decide_eq_false fun hk => by rw [h.2 hk] at hb; cases hb
theorem same_text (x y : Pr) : (x.i.same y.i && x.t.same y.t) = decide (stText x.i x.t = stText y.i y.t) := by
  cases hb : (x.i.same y.i && x.t.same y.t) with
  | true =>
    simp only [Bool.and_eq_true] at hb
    have h1 := (idsame_iff _ _).1 hb.1
    have h2 := (same_iff _ _).1 hb.2
    rw [h1, h2]; simp
  | false =>
    symm
    refine decide_eq_false fun h => ?_
    obtain ⟨h1, h2⟩ := stText_inj h
    rw [h1, h2, (idsame_iff _ _).2 rfl, (same_iff _ _).2 rfl] at hb
    cases hb
theorem merge_upper {k k' : Nat} {x y : Pr} (hr : Rel k x) (hy : Rel k' y) : leqF x.t (mergeF 16 x.t y.t) 0 0 = true ∧ leqF y.t (mergeF 16 x.t y.t) 0 0 = true := by
  obtain ⟨h1, _, h3⟩ := merge_facts 16 x.t y.t hr.ev.nf hy.ev.nf (by have := hr.depth.2.1; omega) (by have := hy.depth.2.1; omega)
  exact ⟨(leqF_iff _ _ _ _ h1).2 fun p => by rw [h3]; omega, (leqF_iff _ _ _ _ h1).2 fun p => by rw [h3]; omega⟩
theorem merge_least {k k' k'' : Nat} {x y z : Pr} (hr : Rel k x) (hy : Rel k' y) (hz : Rel k'' z) (h : leqF x.t z.t 0 0 = true) (h' : leqF y.t z.t 0 0 = true) : leqF (mergeF 16 x.t y.t) z.t 0 0 = true := by
  obtain ⟨_, _, h3⟩ := merge_facts 16 x.t y.t hr.ev.nf hy.ev.nf (by have := hr.depth.2.1; omega) (by have := hy.depth.2.1; omega)
  rw [leqF_iff _ _ _ _ hz.ev.nf] at h h' ⊢
  intro p
  have := h p
  have := h' p
  rw [h3]; omega
theorem zequal (x y : Pr) (p q p' q' : Option Addr) (w : World) (h : PpAt w p q x) (h' : PpAt w p' q' y) : Calls Tryd.prog 15 #[SV2 p q, SV2 p' q'] w (RetB (decide (stText x.i x.t = stText y.i y.t)) w) := by
  have := stequal_any x.i y.i x.t y.t _ _ w h.st h'.st
  rwa [same_text] at this
theorem zrleq (k k' : Nat) (x y : Pr) (w : World) (hr : Rel k x) (hr' : Rel k' y) (hk : k ≤ 90) (hk' : k' ≤ 90) : Calls Tryd.prog 21 #[.agg (RV x.o x.s), .agg (RV y.o y.s)] w (RetB (leqF x.t y.t 0 0) w) := by
  rw [← leq_same hr hr']
  exact rleq_any x.o y.o x.s y.s w (fun k h => by have := hr.small hk k h; omega) (fun k h => by have := hr'.small hk' k h; omega)
theorem box_any {wA w3 w4 : World} {x y : Value} {qa qb : Option Addr} {i : IdT} {t : EvT} (EA : Ext wA w3) (E0 : Ext (w3.alloc (.cells #[x, y] 31)) w4) (hp : IdAt w4 (.pointer qa) i ∧ SeenAt w4 (.pointer qb) t) :
    JBox wA w3.heap.size qa qb i t ((w4.setCell ⟨w3.heap.size, 0, none⟩ (.pointer qa)).setCell ⟨w3.heap.size, 1, none⟩ (.pointer qb)) := by
  have E : Ext wA w4 := EA.trans (Ext.trans ((Ext.refl w3).alloc _) E0)
  have T : typ w4 w3.heap.size = some 31 := E0.typ (typ_new w3 _ _)
  have c0 : w4.cell? ⟨w3.heap.size, 0, none⟩ = some x := E0.cell (new_at w3 _ _ _ _ rfl)
  have c1 : w4.cell? ⟨w3.heap.size, 1, none⟩ = some y := E0.cell (new_at w3 _ _ _ _ rfl)
  have ne : (⟨w3.heap.size, 0, none⟩ : Addr) ≠ ⟨w3.heap.size, 1, none⟩ := by simp
  have K := (Kp.far (a := ⟨w3.heap.size, 0, none⟩) (u := .pointer qa) T (by decide) (by decide)).trans (Kp.far (a := ⟨w3.heap.size, 1, none⟩) (u := .pointer qb) (by rw [typ_set]; exact T) (by decide) (by decide))
  exact ⟨(E.set EA.size _).set EA.size _, by rw [set_other (Ne.symm ne), set_same c0], by rw [set_same (by rw [set_other ne]; exact c1)], hp.1.kp K, hp.2.kp K⟩
theorem sleq (i j : IdT) (t u : EvT) (p q p' q' : Option Addr) (w : World) (h : IdAt w (.pointer p) i ∧ SeenAt w (.pointer q) t) (h' : IdAt w (.pointer p') j ∧ SeenAt w (.pointer q') u) (ht : t.top ≤ 90) (hu : u.top ≤ 90) : Calls Tryd.prog 20 #[SV2 p q, SV2 p' q'] w (RetB (leqF t u 0 0) w) :=
  stleq_any i j t u _ _ w ⟨p, q, rfl, h.1, h.2⟩ ⟨p', q', rfl, h'.1, h'.2⟩ (by omega) (by omega)
theorem pjoin {x y : Pr} (dx : x.t.depth ≤ 8) (dy : y.t.depth ≤ 8) (tx : x.t.top ≤ 14) (ty : y.t.top ≤ 14) (wa wb w : World) (p q p' q' : Option Addr) (h : IdAt wa (.pointer p) .zero ∧ SeenAt wa (.pointer q) x.t) (h' : IdAt wb (.pointer p') .zero ∧ SeenAt wb (.pointer q') y.t) (ea : Ext wa w) (eb : Ext wb w) : Calls Tryd.prog 14 #[SV2 p q, SV2 p' q'] w (RetP .zero (mergeF 16 x.t y.t) 0 w) :=
  sjoin .zero .zero .zero x.t y.t p q p' q' w ⟨h.1.ext ea, h.2.ext ea⟩ ⟨h'.1.ext eb, h'.2.ext eb⟩ rfl (by omega) (by omega) (by omega) (by omega)
set_option maxRecDepth 100000 in
set_option maxHeartbeats 16000000 in
theorem leq_law (A : Option Addr) (n c : Nat) (w : World) (hn : n ≤ 9223372036854775807) (hA : ActsAt w A n) : Calls Tryd.prog 8 #[.slice A n c] w (RetB true w) := by
  have PL := Lib.hid (play_any A n c w hn hA)
  clear hA
  go_enter Tryd.func8, Tryd.ntmps8
  go_wp2_with fail
  refine PL.out.mono ?_
  rintro e1 w1 ⟨v, zs, rfl, hP, hR, h0, hl, hE1⟩
  obtain ⟨g, cc, rfl, r1, r2, RD⟩ := hP.read h0
  have HRD := Lib.hid RD
  have HRL := Lib.hid hR
  clear hP RD hR PL
  unfold maxLen at r2
  go_wp2_with fail
  refine (awake_any w1).mono ?_
  rintro e2 w2 ⟨rfl, hE2⟩
  go_wp2_with fail
  go_loopw [26] (fun i wr => ∃ j : Nat, j ≤ zs.length ∧ i = .int .i64 (j : Int) ∧ Ext w2 wr) (fun i _ => zs.length - (intOf i).toNat)
  case atStart => exact ⟨0, by omega, rfl, Ext.refl _⟩
  case round =>
    obtain ⟨j, hj, rfl, hE⟩ := hrel
    have HE := Lib.hid hE
    clear hE
    by_cases hlt : j < zs.length
    · obtain ⟨⟨p, q, x⟩, hz⟩ : ∃ z, zs[j]? = some z := ⟨_, List.getElem?_eq_getElem hlt⟩
      have hr := Lib.hid (HRL.out _ (List.mem_of_getElem? hz))
      obtain ⟨hld, hpp⟩ := HRD.out wr (hE2.trans HE.out) j p q x hz
      have q1 : (0 : Int) ≤ (j : Int) := Int.natCast_nonneg _
      have q2 : (j : Int) < (zs.length : Int) := by omega
      clear hz
      simp only [] at hr
      go_upto_region 7 with (fail)
      generalize hW : (wr.alloc (.cells PV0 38)).setRow wr.heap.size (PV p q x.o x.s) = w3
      obtain ⟨E3, l3, -, -, hbx⟩ := letterP hW
      have HP := Lib.hid (hpp.ext E3)
      have HE3 := Lib.hid (HE.out.trans E3)
      clear hW hld hpp E3 HE
      generalize wr.heap.size = gx at hbx l3 ⊢
      have HBX := Lib.hid hbx
      clear hbx
      go_wp2_with fail
      go_loopw [32] (fun i wx => ∃ m : Nat, m ≤ zs.length ∧ i = .int .i64 (m : Int) ∧ Ext w3 wx) (fun i _ => zs.length - (intOf i).toNat)
      case atStart => exact ⟨0, by omega, rfl, Ext.refl _⟩
      case round =>
        obtain ⟨m, hm, rfl, hX⟩ := hrel
        have HX := Lib.hid hX
        clear hX
        by_cases hml : m < zs.length
        · obtain ⟨⟨p', q', y⟩, hz'⟩ : ∃ z, zs[m]? = some z := ⟨_, List.getElem?_eq_getElem hml⟩
          have hry := Lib.hid (HRL.out _ (List.mem_of_getElem? hz'))
          obtain ⟨hld', hpp'⟩ := HRD.out wr (hE2.trans (HE3.out.trans HX.out)) m p' q' y hz'
          have q3 : (0 : Int) ≤ (m : Int) := Int.natCast_nonneg _
          have q4 : (m : Int) < (zs.length : Int) := by omega
          clear hz'
          simp only [] at hry
          go_upto_region 10 with (fail)
          generalize hW : (wr.alloc (.cells PV0 38)).setRow wr.heap.size (PV p' q' y.o y.s) = w4
          obtain ⟨E4, l4, -, -, hby⟩ := letterP hW
          have HPY := Lib.hid (hpp'.ext E4)
          have X4 := Lib.hid (HX.out.trans E4)
          clear hW hld' hpp' E4 HX
          generalize wr.heap.size = gy at hby l4 ⊢
          have HBY := Lib.hid hby
          have lx : gx < w4.heap.size := Nat.lt_of_lt_of_le l3 X4.out.size
          have HBX4 := Lib.hid (show blkOf w4 gx = PV p q x.o x.s by rw [blkOf_ext X4.out l3]; exact HBX.out)
          clear hby
          have KQ := Lib.hid (fun w' (hx : Ext w4 w') => (⟨hx, (held_pair hx HBX4.out).2.1, (held_pair hx HBX4.out).2.2.1, (held_pair hx HBX4.out).2.2.2, (held_pair hx HBY.out).2.1, (held_pair hx HBY.out).2.2.1, (held_pair hx HBY.out).2.2.2⟩ : Ext w4 w' ∧ w'.cell? ⟨gx, 0, none⟩ = some (.pointer p) ∧ w'.cell? ⟨gx, 1, none⟩ = some (.pointer q) ∧ (ldS 36 (.pointer (some ⟨gx, 2, none⟩))).run Tryd.prog w' = .ok (.agg (RV x.o x.s)) w' ∧ w'.cell? ⟨gy, 0, none⟩ = some (.pointer p') ∧ w'.cell? ⟨gy, 1, none⟩ = some (.pointer q') ∧ (ldS 36 (.pointer (some ⟨gy, 2, none⟩))).run Tryd.prog w' = .ok (.agg (RV y.o y.s)) w'))
          have HPX4 := Lib.hid (fun w' (hx : Ext w4 w') => HP.out.ext (X4.out.trans hx))
          have QL := Lib.hid (fun w' (hx : Ext w4 w') => zleq 14 14 x y p q p' q' w' (HPX4.out w' hx) (HPY.out.ext hx) hr.out hry.out (by omega) (by omega))
          have QR := Lib.hid (fun w' => zrleq 14 14 x y w' hr.out hry.out (by omega) (by omega))
          have QE := Lib.hid (fun w' (hx : Ext w4 w') => zequal x y p q p' q' w' (HPX4.out w' hx) (HPY.out.ext hx))
          have TX := Lib.hid (fun w' => rtext_of 14 x w' hr.out (by omega))
          have TY := Lib.hid (fun w' => rtext_of 14 y w' hry.out (by omega))
          generalize leqF x.t y.t 0 0 = lq at QL QR
          generalize stText x.i x.t = sx at QE TX
          generalize stText y.i y.t = sy at QE TY
          generalize hq : decide (sx = sy) = dq at QE
          have HDQ := Lib.hid hq
          clear hq
          go_cut [61] (fun s61 wx => s61 = .bool false ∧ Ext w4 wx)
          case first =>
            as_aux_lemma =>
              go_region_held3 (fun w' => Ext w4 w' ∧ w'.cell? ⟨gx, 0, none⟩ = some (.pointer p) ∧ w'.cell? ⟨gx, 1, none⟩ = some (.pointer q) ∧ (ldS 36 (.pointer (some ⟨gx, 2, none⟩))).run Tryd.prog w' = .ok (.agg (RV x.o x.s)) w' ∧ w'.cell? ⟨gy, 0, none⟩ = some (.pointer p') ∧ w'.cell? ⟨gy, 1, none⟩ = some (.pointer q') ∧ (ldS 36 (.pointer (some ⟨gy, 2, none⟩))).run Tryd.prog w' = .ok (.agg (RV y.o y.s)) w')
                (refine KQ.out _ ?_ <;> repeat (first | assumption | exact Ext.refl _ | apply Ext.alloc | apply Ext.drew | apply Ext.drewN))
                (first
                  | (go_at_call 20; go_split_ands; (with_reducible refine (QL.out _ (by assumption)).mono ?_); rintro e5 w5 ⟨rfl, hb5⟩; have hE5 : Ext w4 w5 := Ext.trans (by assumption) hb5)
                  | (go_at_call 21; go_split_ands; (with_reducible refine (QR.out _).mono ?_); rintro e6 w6 ⟨rfl, hb6⟩; have hE6 : Ext w4 w6 := Ext.trans (by assumption) hb6)
                  | (go_at_call 15; go_split_ands; (with_reducible refine (QE.out _ (by assumption)).mono ?_); rintro e7 w7 ⟨rfl, hb7⟩; have hE7 : Ext w4 w7 := Ext.trans (by assumption) hb7)
                  | (go_at_call 22; go_split_ands; (with_reducible refine (TX.out _).mono ?_); rintro e8 w8 ⟨rfl, hb8⟩; have hE8 : Ext w4 w8 := Ext.trans (by assumption) hb8)
                  | (go_at_call 22; go_split_ands; (with_reducible refine (TY.out _).mono ?_); rintro e9 w9 ⟨rfl, hb9⟩; have hE9 : Ext w4 w9 := Ext.trans (by assumption) hb9))
              by_cases hst : sx = sy
              · have hd : dq = true := by rw [← HDQ.out]; exact decide_eq_true hst
                subst hst
                subst hd
                go_wp2_with fail
                go_meet
                exact ⟨by simp, hE9⟩
              · have hd : dq = false := by rw [← HDQ.out]; exact decide_eq_false hst
                subst hd
                go_wp2_with fail
                go_meet
                exact ⟨by simp [hst], hE9⟩
          case rest =>
            obtain ⟨rfl, hcx⟩ := hcut
            obtain ⟨w5, hw5⟩ : ∃ w5, w5 = wc := ⟨_, rfl⟩
            subst hw5
            have X5 := hcx
            clear hcx QL QR QE TX TY HDQ
            have HU := Lib.hid (merge_upper hr.out hry.out)
            have HL := Lib.hid (fun (z : Pr) (hz : Rel 14 z) => merge_least hr.out hry.out hz)
            have DX := hr.out.depth.2.1
            have DY := hry.out.depth.2.1
            have TPX := hr.out.top
            have TPY := hry.out.top
            have PX := Lib.hid (fun w' (hx : Ext w4 w') => zpeek x p q w' (HPX4.out w' hx))
            have PY := Lib.hid (fun w' (hx : Ext w4 w') => zpeek y p' q' w' (HPY.out.ext hx))
            obtain ⟨-, c0, c1, -, d0, d1, -⟩ := KQ.out w5 X5
            have KR := Lib.hid (fun w' (hx : Ext w5 w') => (⟨hx, hx.cell c0, hx.cell c1, hx.cell d0, hx.cell d1⟩ : Ext w5 w' ∧ w'.cell? ⟨gx, 0, none⟩ = some (.pointer p) ∧ w'.cell? ⟨gx, 1, none⟩ = some (.pointer q) ∧ w'.cell? ⟨gy, 0, none⟩ = some (.pointer p') ∧ w'.cell? ⟨gy, 1, none⟩ = some (.pointer q')))
            go_upto_region 12 with (fail)
            go_cut [9, 10] (fun s9 s10 wx => ∃ (h : Nat) (qa qb : Option Addr), s9 = .pointer (some ⟨h, 0, none⟩) ∧ s10 = .int .i64 0 ∧ JBox w5 h qa qb .zero (mergeF 16 x.t y.t) wx)
            case first =>
              go_region_held3 (fun w' => Ext w5 w' ∧ w'.cell? ⟨gx, 0, none⟩ = some (.pointer p) ∧ w'.cell? ⟨gx, 1, none⟩ = some (.pointer q) ∧ w'.cell? ⟨gy, 0, none⟩ = some (.pointer p') ∧ w'.cell? ⟨gy, 1, none⟩ = some (.pointer q'))
                (refine KR.out _ ?_ <;> repeat (first | assumption | exact Ext.refl _ | apply Ext.alloc | apply Ext.drew | apply Ext.drewN | (refine Ext.set ?_ (by first | exact Nat.le_refl _ | omega | (simp; done) | (simp; omega)) _)))
                (first
                  | (go_at_call 19; go_split_ands; (with_reducible refine (PX.out _ (X5.trans (by assumption))).mono ?_); rintro e6 w6 ⟨p1, q1, rfl, s1, hb6⟩; have S1 := Lib.hid s1; clear s1; have hE6 : Ext w5 w6 := Ext.trans (by assumption) hb6; have hz6 := hE6.size; obtain ⟨hca, hfa⟩ := hb6.both; (try (refine (fun (_ : w5.heap.size < w6.heap.size) => ?_) ?_; rotate_left; ((try have hzz := hb6.size); (try simp at hzz); omega))))
                  | (go_at_call 19; go_split_ands; (with_reducible refine (PY.out _ (X5.trans (by assumption))).mono ?_); rintro e7 w7 ⟨p2, q2, rfl, s2, hb7⟩; have S2 := Lib.hid s2; clear s2; have hE7 : Ext w5 w7 := Ext.trans (by assumption) hb7; have hz7 := hE7.size; have hX7 : Ext w6 w7 := Ext.trans (by (first | assumption | exact Ext.refl _ | (repeat (first | assumption | exact Ext.refl _ | apply Ext.alloc | apply Ext.drew | apply Ext.drewN)))) hb7; have hy7 := hX7.size; obtain ⟨hcb, hfb⟩ := hb7.both; (try (refine (fun (_ : w6.heap.size < w7.heap.size) => ?_) ?_; rotate_left; ((try have hzz := hb7.size); (try simp at hzz); omega))); (try (refine (fun (_ : w5.heap.size < w7.heap.size) => ?_) ?_; rotate_left; ((try have hzz := hb7.size); (try simp at hzz); omega))))
                  | (go_at_call 14; go_split_ands; (with_reducible refine (pjoin DX DY TPX TPY w6 w7 _ p1 q1 p2 q2 S1.out S2.out (hX7.trans (by (first | assumption | exact Ext.refl _ | (repeat (first | assumption | exact Ext.refl _ | apply Ext.alloc | apply Ext.drew | apply Ext.drewN))))) (by (first | assumption | exact Ext.refl _ | (repeat (first | assumption | exact Ext.refl _ | apply Ext.alloc | apply Ext.drew | apply Ext.drewN))))).mono ?_); rintro e8 w8 ⟨p3, q3, rfl, hp1, hb1⟩; have HP1 := Lib.hid hp1; clear hp1; have hE1 : Ext w5 w8 := Ext.trans (by assumption) hb1; have hX8 : Ext w7 w8 := Ext.trans (by (first | assumption | exact Ext.refl _ | (repeat (first | assumption | exact Ext.refl _ | apply Ext.alloc | apply Ext.drew | apply Ext.drewN)))) hb1; have hy8 := hX8.size; obtain ⟨hcc, hff⟩ := hb1.both; have hz1 := hE1.size; (try (refine (fun (_ : w7.heap.size < w8.heap.size) => ?_) ?_; rotate_left; ((try have hzz := hb1.size); (try simp at hzz); omega))); (try (refine (fun (_ : w6.heap.size < w8.heap.size) => ?_) ?_; rotate_left; ((try have hzz := hb1.size); (try simp at hzz); omega))); (try (refine (fun (_ : w5.heap.size < w8.heap.size) => ?_) ?_; rotate_left; ((try have hzz := hb1.size); (try simp at hzz); omega)))))
              all_goals go_wp2_with fail
              all_goals go_meet
              all_goals first
                | exact ⟨_, p3, q3, rfl, rfl, hE1.alloc _, new_at _ _ _ _ _ rfl, new_at _ _ _ _ _ rfl, HP1.out.1.ext ((Ext.refl _).alloc _), HP1.out.2.ext ((Ext.refl _).alloc _)⟩
                | exact ⟨_, p3, q3, rfl, rfl, box_any hE7 hb1 HP1.out⟩
                | exact ⟨_, p3, q3, rfl, rfl, box_any hE6 (hb7.trans hX8) HP1.out⟩
                | exact ⟨_, p3, q3, rfl, rfl, box_any (Ext.refl _) (((Ext.refl _).drew.trans hb6).trans (hX7.trans hX8)) HP1.out⟩
                | exact ⟨_, p3, q3, rfl, rfl, box_any ((Ext.refl _).drew) (hb6.trans (hX7.trans hX8)) HP1.out⟩
            case rest =>
              obtain ⟨gj, qa, qb, rfl, rfl, XJ, j0, j1, hjj⟩ := hcut
              obtain ⟨w6, hw6⟩ : ∃ w6, w6 = wc := ⟨_, rfl⟩
              subst hw6
              have HJ := Lib.hid (fun w' (hx : Ext w6 w') => (⟨hjj.1.ext hx, hjj.2.ext hx⟩ : IdAt w' (.pointer qa) .zero ∧ SeenAt w' (.pointer qb) (mergeF 16 x.t y.t)))
              clear hjj c0 c1 d0 d1 KR PX PY
              have X6 := X5.trans XJ
              have JT : (mergeF 16 x.t y.t).top ≤ 90 := by have := merge_top 16 x.t y.t; omega
              obtain ⟨-, c0, c1, -, d0, d1, -⟩ := KQ.out w6 X6
              have A1 := Lib.hid (fun w' (hx : Ext w6 w') => sleq x.i .zero x.t (mergeF 16 x.t y.t) p q qa qb w' (HPX4.out w' (X6.trans hx)) (HJ.out w' hx) (by omega) JT)
              have A2 := Lib.hid (fun w' (hx : Ext w6 w') => sleq y.i .zero y.t (mergeF 16 x.t y.t) p' q' qa qb w' (HPY.out.ext (X6.trans hx)) (HJ.out w' hx) (by omega) JT)
              rw [HU.out.1] at A1
              rw [HU.out.2] at A2
              go_wp2_with fail
              refine (A1.out _ (Ext.refl _)).mono ?_
              rintro e7 w7 ⟨rfl, hE7⟩
              replace c0 := hE7.cell c0
              replace c1 := hE7.cell c1
              replace d0 := hE7.cell d0
              replace d1 := hE7.cell d1
              replace j0 := hE7.cell j0
              replace j1 := hE7.cell j1
              go_wp2_with fail
              refine (A2.out _ hE7).mono ?_
              rintro e8 w8 ⟨rfl, hE8⟩
              replace c0 := hE8.cell c0
              replace c1 := hE8.cell c1
              replace d0 := hE8.cell d0
              replace d1 := hE8.cell d1
              replace j0 := hE8.cell j0
              replace j1 := hE8.cell j1
              have C0 := Lib.hid c0
              have C1 := Lib.hid c1
              have D0 := Lib.hid d0
              have D1 := Lib.hid d1
              have J0 := Lib.hid j0
              have J1 := Lib.hid j1
              have X68 := hE7.trans hE8
              have X8 := X6.trans X68
              clear c0 c1 d0 d1 j0 j1 hE7 hE8 A1 A2
              go_wp2_with fail
              go_loopw [90] (fun i wx => ∃ r : Nat, r ≤ zs.length ∧ i = .int .i64 (r : Int) ∧ Ext w8 wx) (fun i _ => zs.length - (intOf i).toNat)
              case atStart => exact ⟨0, by omega, rfl, Ext.refl _⟩
              case round =>
                obtain ⟨r, hrl, rfl, hY⟩ := hrel
                have HY := Lib.hid hY
                clear hY
                by_cases hrr : r < zs.length
                · obtain ⟨⟨p5, q5, z⟩, hz5⟩ : ∃ z, zs[r]? = some z := ⟨_, List.getElem?_eq_getElem hrr⟩
                  have hrz := Lib.hid (HRL.out _ (List.mem_of_getElem? hz5))
                  obtain ⟨hld5, hpp5⟩ := HRD.out wr (hE2.trans (HE3.out.trans (X4.out.trans (X8.trans HY.out)))) r p5 q5 z hz5
                  have q5' : (0 : Int) ≤ (r : Int) := Int.natCast_nonneg _
                  have q6' : (r : Int) < (zs.length : Int) := by omega
                  clear hz5
                  simp only [] at hrz
                  go_upto_region 18 with (fail)
                  generalize hW : (wr.alloc (.cells PV0 38)).setRow wr.heap.size (PV p5 q5 z.o z.s) = w9
                  obtain ⟨E9, l9, z0, z1, -⟩ := letterP hW
                  have HPZ := Lib.hid (hpp5.ext E9)
                  have X9 := HY.out.trans E9
                  clear hW hld5 hpp5 E9 HY
                  generalize wr.heap.size = gz at z0 z1 l9 ⊢
                  have c0 := X9.cell C0.out
                  have c1 := X9.cell C1.out
                  have d0 := X9.cell D0.out
                  have d1 := X9.cell D1.out
                  have j0 := X9.cell J0.out
                  have j1 := X9.cell J1.out
                  have TPZ := hrz.out.top
                  have B1 := Lib.hid (fun w' (hx : Ext w9 w') => sleq x.i z.i x.t z.t p q p5 q5 w' (HPX4.out w' (X8.trans (X9.trans hx))) (HPZ.out.ext hx) (by omega) (by omega))
                  have B2 := Lib.hid (fun w' (hx : Ext w9 w') => sleq y.i z.i y.t z.t p' q' p5 q5 w' (HPY.out.ext (X8.trans (X9.trans hx))) (HPZ.out.ext hx) (by omega) (by omega))
                  have B3 := Lib.hid (fun w' (hx : Ext w9 w') => sleq .zero z.i (mergeF 16 x.t y.t) z.t qa qb p5 q5 w' (HJ.out w' (X68.trans (X9.trans hx))) (HPZ.out.ext hx) JT (by omega))
                  cases h1 : leqF x.t z.t 0 0 with
                  | false =>
                    rw [h1] at B1
                    clear h1
                    go_wp2_with fail
                    refine (B1.out _ (Ext.refl _)).mono ?_
                    rintro e10 w10 ⟨rfl, hE10⟩
                    go_wp2_with fail
                    exact ⟨⟨r + 1, by omega, by go_num, X9.trans hE10⟩, by simp [intOf]; omega⟩
                  | true =>
                    cases h2 : leqF y.t z.t 0 0 with
                    | false =>
                      rw [h1] at B1
                      rw [h2] at B2
                      clear h1 h2
                      go_wp2_with fail
                      refine (B1.out _ (Ext.refl _)).mono ?_
                      rintro e10 w10 ⟨rfl, hE10⟩
                      replace d0 := hE10.cell d0
                      replace d1 := hE10.cell d1
                      replace z0 := hE10.cell z0
                      replace z1 := hE10.cell z1
                      go_wp2_with fail
                      refine (B2.out _ hE10).mono ?_
                      rintro e11 w11 ⟨rfl, hE11⟩
                      go_wp2_with fail
                      exact ⟨⟨r + 1, by omega, by go_num, X9.trans (hE10.trans hE11)⟩, by simp [intOf]; omega⟩
                    | true =>
                      have h3 := HL.out z hrz.out h1 h2
                      rw [h1] at B1
                      rw [h2] at B2
                      rw [h3] at B3
                      clear h1 h2 h3
                      go_wp2_with fail
                      refine (B1.out _ (Ext.refl _)).mono ?_
                      rintro e10 w10 ⟨rfl, hE10⟩
                      replace d0 := hE10.cell d0
                      replace d1 := hE10.cell d1
                      replace j0 := hE10.cell j0
                      replace j1 := hE10.cell j1
                      replace z0 := hE10.cell z0
                      replace z1 := hE10.cell z1
                      go_wp2_with fail
                      refine (B2.out _ hE10).mono ?_
                      rintro e11 w11 ⟨rfl, hE11⟩
                      replace j0 := hE11.cell j0
                      replace j1 := hE11.cell j1
                      replace z0 := hE11.cell z0
                      replace z1 := hE11.cell z1
                      go_wp2_with fail
                      refine (B3.out _ (hE10.trans hE11)).mono ?_
                      rintro e12 w12 ⟨rfl, hE12⟩
                      go_wp2_with fail
                      exact ⟨⟨r + 1, by omega, by go_num, X9.trans (hE10.trans (hE11.trans hE12))⟩, by simp [intOf]; omega⟩
                · obtain rfl : r = zs.length := by omega
                  go_wp2_with fail
                  exact ⟨⟨m + 1, by omega, by go_num, X4.out.trans (X8.trans HY.out)⟩, by simp [intOf]; omega⟩
        · obtain rfl : m = zs.length := by omega
          go_wp2_with fail
          exact ⟨⟨j + 1, by omega, by go_num, HE3.out.trans HX.out⟩, by simp [intOf]; omega⟩
    · obtain rfl : j = zs.length := by omega
      go_wp2_with fail
      go_ret
      exact ⟨rfl, hE1.trans (hE2.trans HE.out)⟩
end Go.Proofs.YthnmhdabdiennaaDoor
