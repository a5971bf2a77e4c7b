/- The walk over ItcForks. -/
import Derived.Test.YthnmhdabdiennaaDoorL7
namespace Go.Proofs.YthnmhdabdiennaaDoor
open Go.RowKit
attribute [local go_sem ↓] Go.wp_at_zero Go.wp_at_succ
attribute [local go_sem ↓] ld36 ld34 ld38 st36 st38 st32 al36 al38 bu36 bu32 bu38 bs23
attribute [local go_sem] run_ld36 run_st36 run_al36 blkOf_drew blkOf_setRow_same blkOf_setRow_other RV_size run_bu36 blkOf_new blkOf_old
attribute [local go_sem] cellRow run_bu38 run_al38 run_st38 run_ld38 blkOf_setRow_same8 PV_size blkOf_new2'
theorem joinF_node {l r : IdT} (h : (l.isZero && r.isZero) = false) (h' : (l.isOne && r.isOne) = false) : IdT.joinF l r = .node l r := by
  unfold IdT.joinF; rw [h, h']; rfl
/-- The two parts of an identity in normal form: their sum is the identity again. -/
theorem split_sum {o : Nat → Bool} : ∀ {i : IdT} {d low : Nat}, IdOn o i d low → i.split.1.sum i.split.2 = some i ∧ i.split.2.sum i.split.1 = some i := by
  intro i
  induction i with
  | zero => intro d low _; exact ⟨rfl, rfl⟩
  | node l r ihl ihr =>
    intro d low h
    cases h1 : IdT.isOne (.node l r) with
    | true => rw [isOne_eq h1]; exact ⟨rfl, rfl⟩
    | false =>
      obtain ⟨e, rfl, hl, hr, hne⟩ := h.of_node h1
      have hz : (l.isZero && r.isZero) = false := by rw [← one_of_zero]; exact h1
      cases lz : l.isZero with
      | true =>
        have rz : r.isZero = false := by rw [lz] at hz; simpa using hz
        have l0 : l = .zero := by cases l with
          | zero => rfl
          | node _ _ => simp [IdT.isZero] at lz
        subst l0
        obtain ⟨n1, n2⟩ := split_nonzero r rz
        obtain ⟨s1, s2⟩ := ihr hr
        rw [split_left r rz]
        refine ⟨?_, ?_⟩
        · rw [sum_node, if_neg (by rw [one_of_zero, one_of_zero, n1, n2]; decide), sum_zero_left]
          simp only [s1]
          rw [joinF_node hz hne]
        · rw [sum_node, if_neg (by rw [one_of_zero, one_of_zero, n1, n2]; decide), sum_zero_left]
          simp only [s2]
          rw [joinF_node hz hne]
      | false =>
        cases rz : r.isZero with
        | true =>
          have r0 : r = .zero := by cases r with
            | zero => rfl
            | node _ _ => simp [IdT.isZero] at rz
          subst r0
          obtain ⟨n1, n2⟩ := split_nonzero l lz
          obtain ⟨s1, s2⟩ := ihl hl
          rw [split_right l lz]
          refine ⟨?_, ?_⟩
          · rw [sum_node, if_neg (by rw [one_of_zero, one_of_zero, n1, n2]; decide), sum_zero_left]
            simp only [s1]
            rw [joinF_node hz hne]
          · rw [sum_node, if_neg (by rw [one_of_zero, one_of_zero, n1, n2]; decide), sum_zero_left]
            simp only [s2]
            rw [joinF_node hz hne]
        | false =>
          rw [split_both l r lz rz]
          refine ⟨?_, ?_⟩
          · rw [sum_node, if_neg (by rw [one_of_zero, one_of_zero, lz, rz]; decide), sum_zero_right, sum_zero_left]
            simp only []
            rw [joinF_node hz hne]
          · rw [sum_node, if_neg (by rw [one_of_zero, one_of_zero, lz, rz]; decide), sum_zero_left, sum_zero_right]
            simp only []
            rw [joinF_node hz hne]
theorem sum_overlap : ∀ (a b : IdT) (p : Pt), own a p = true → own b p = true → a.sum b = none
  | .zero, _, _, h, _ => by simp [own] at h
  | .node _ _, .zero, _, _, h => by simp [own] at h
  | .node l r, .node l' r', p, h, h' => by
    rw [sum_node]
    split
    · rfl
    · rename_i hn
      simp only [Bool.or_eq_true, not_or, Bool.not_eq_true] at hn
      rw [own_node _ _ hn.1] at h
      rw [own_node _ _ hn.2] at h'
      cases hp : p 0 with
      | true =>
        rw [hp] at h h'
        have := sum_overlap r r' (tl p) h h'
        rw [this]
        cases l.sum l' <;> rfl
      | false =>
        rw [hp] at h h'
        have := sum_overlap l l' (tl p) h h'
        rw [this]
theorem merge_self {t : EvT} (h : nf t) (hd : t.depth ≤ 16) : mergeF 16 t t = t := by
  obtain ⟨h1, _, h3⟩ := merge_facts 16 t t h h hd hd
  exact nf_ext _ _ h1 h fun p => by rw [h3]; omega
theorem part_overlap {i : IdT} (hz : i.isZero = false) : i.split.1.sum i = none := by
  obtain ⟨h1, _, h3, _⟩ := split_facts i hz
  obtain ⟨p, hp⟩ := own_some _ h1
  exact sum_overlap _ _ p hp (by rw [h3 p, hp]; rfl)
theorem part_zero {i : IdT} : i.split.1.isZero = i.isZero ∧ i.split.2.isZero = i.isZero := by
  cases hz : i.isZero with
  | false => obtain ⟨a, b⟩ := split_nonzero i hz; exact ⟨a, b⟩
  | true => cases i with
    | zero => exact ⟨rfl, rfl⟩
    | node _ _ => simp [IdT.isZero] at hz
/-- Join of stamps that are not too deep. -/
theorem sjoin (i j z : IdT) (t u : EvT) (p q p' q' : Option Addr) (w : World) (h : IdAt w (.pointer p) i ∧ SeenAt w (.pointer q) t) (h' : IdAt w (.pointer p') j ∧ SeenAt w (.pointer q') u) (hz : i.sum j = some z) (ht : t.top ≤ 90) (hu : u.top ≤ 90) (dt : t.depth ≤ 16) (du : u.depth ≤ 16) : Calls Tryd.prog 14 #[SV2 p q, SV2 p' q'] w (RetP z (mergeF 16 t u) 0 w) := by
  have hf : (mergeF 16 t u).fits = true := fits_of_top _ (by have := merge_top 16 t u; omega)
  exact (join_some 16 i j z t u _ _ w ⟨p, q, rfl, h.1, h.2⟩ ⟨p', q', rfl, h'.1, h'.2⟩ hz (by omega) (by omega) dt du true hf).mono fun _ _ h => RetStE.p h
theorem sjoin0 (i j : IdT) (t u : EvT) (p q p' q' : Option Addr) (w : World) (h : IdAt w (.pointer p) i ∧ SeenAt w (.pointer q) t) (h' : IdAt w (.pointer p') j ∧ SeenAt w (.pointer q') u) (hz : i.sum j = none) : Calls Tryd.prog 14 #[SV2 p q, SV2 p' q'] w (RetP .zero (.leaf 0) 11 w) :=
  (join_none i j t u _ _ w ⟨p, q, rfl, h.1, h.2⟩ ⟨p', q', rfl, h'.1, h'.2⟩ hz).mono fun _ _ h => RetStE.p h
theorem sequal (i : IdT) (t : EvT) (p q p' q' : Option Addr) (w : World) (h : IdAt w (.pointer p) i ∧ SeenAt w (.pointer q) t) (h' : IdAt w (.pointer p') i ∧ SeenAt w (.pointer q') t) : Calls Tryd.prog 15 #[SV2 p q, SV2 p' q'] w (RetB true w) := by
  have := stequal_any i i t t _ _ w ⟨p, q, rfl, h.1, h.2⟩ ⟨p', q', rfl, h'.1, h'.2⟩
  rwa [(idsame_iff i i).2 rfl, (same_iff t t).2 rfl] at this
theorem sanon (i : IdT) (t : EvT) (p q : Option Addr) (w : World) (h : IdAt w (.pointer p) i ∧ SeenAt w (.pointer q) t) : Calls Tryd.prog 16 #[SV2 p q] w (RetB i.isZero w) := anon_any i t _ w ⟨p, q, rfl, h.1, h.2⟩
set_option maxRecDepth 100000 in
set_option maxHeartbeats 16000000 in
theorem forks_law (A : Option Addr) (n c : Nat) (w : World) (hn : n ≤ 9223372036854775807) (hA : ActsAt w A n) : Calls Tryd.prog 4 #[.slice A n c] w (RetB true w) := by
  have PL := Lib.hid (play_any A n c w hn hA)
  clear hA
  go_enter Tryd.func4, Tryd.ntmps4
  go_wp2_with fail
  refine PL.out.mono ?_
  rintro e1 w1 ⟨v, zs, rfl, hP, hR, h0, hl, hE1⟩
  obtain ⟨g, cc, rfl, r1, r2, RD⟩ := hP.read h0
  have HRD := Lib.hid RD
  have HRL := Lib.hid hR
  clear hP RD hR PL
  unfold maxLen at r2
  go_wp2_with fail
  refine (awake_any w1).mono ?_
  rintro e2 w2 ⟨rfl, hE2⟩
  go_wp2_with fail
  go_loopw [27] (fun i wr => ∃ j : Nat, j ≤ zs.length ∧ i = .int .i64 (j : Int) ∧ Ext w2 wr) (fun i _ => zs.length - (intOf i).toNat)
  case atStart => exact ⟨0, by omega, rfl, Ext.refl _⟩
  case round =>
    obtain ⟨j, hj, rfl, hE⟩ := hrel
    have HE := Lib.hid hE
    clear hE
    by_cases hlt : j < zs.length
    · obtain ⟨⟨p, q, x⟩, hz⟩ : ∃ z, zs[j]? = some z := ⟨_, List.getElem?_eq_getElem hlt⟩
      have hr := Lib.hid (HRL.out _ (List.mem_of_getElem? hz))
      obtain ⟨hld, hpp⟩ := HRD.out wr (hE2.trans HE.out) j p q x hz
      have HP := Lib.hid hpp
      have q1 : (0 : Int) ≤ (j : Int) := Int.natCast_nonneg _
      have q2 : (j : Int) < (zs.length : Int) := by omega
      clear hz hpp
      simp only [] at hr
      have HTOP := hr.out.top
      have HD := hr.out.depth
      have SS := Lib.hid (split_sum hr.out.id)
      have MS := Lib.hid (merge_self hr.out.ev.nf (by omega))
      obtain ⟨i, t, o, s⟩ := x
      simp only [] at hr SS MS HTOP HD hld HP
      have HI := Lib.hid (show IdAt wr (.pointer p) i ∧ SeenAt wr (.pointer q) t from HP.out)
      go_upto_region 7 with (fail)
      generalize hW : (wr.alloc (.cells PV0 38)).setRow wr.heap.size (PV p q o s) = w3
      obtain ⟨E3, l3, c0, c1, -⟩ := letterP hW
      clear hW hld
      go_wp2_with fail
      refine (zfork 14 ⟨i, t, o, s⟩ p q w3 (HP.out.ext E3) hr.out).mono ?_
      rintro e4 w4 ⟨p1, q1, p2, q2', rfl, s1, s2, hE4⟩
      simp only [] at s1 s2
      have S1 := Lib.hid s1
      have S2 := Lib.hid s2
      clear s1 s2
      replace c0 := hE4.cell c0
      replace c1 := hE4.cell c1
      go_upto_region 9 with (fail)
      generalize hW : (w4.alloc (Obj.cells #[.pointer p1, .pointer q1] 31)).alloc (Obj.cells #[.pointer p2, .pointer q2'] 31) = w5
      obtain ⟨E5, a0, a1, b0, b1, z1, z0, -, -⟩ := letter22 hW
      clear hW
      replace c0 := E5.cell c0
      replace c1 := E5.cell c1
      have X5 := E3.trans (hE4.trans E5)
      have F1 := Lib.hid (fun w' (hx : Ext w5 w') => (⟨S1.out.1.ext (E5.trans hx), S1.out.2.ext (E5.trans hx)⟩ : IdAt w' (.pointer p1) i.split.1 ∧ SeenAt w' (.pointer q1) t))
      have F2 := Lib.hid (fun w' (hx : Ext w5 w') => (⟨S2.out.1.ext (E5.trans hx), S2.out.2.ext (E5.trans hx)⟩ : IdAt w' (.pointer p2) i.split.2 ∧ SeenAt w' (.pointer q2') t))
      have F0 := Lib.hid (fun w' (hx : Ext w5 w') => (⟨HI.out.1.ext (X5.trans hx), HI.out.2.ext (X5.trans hx)⟩ : IdAt w' (.pointer p) i ∧ SeenAt w' (.pointer q) t))
      go_wp2_with fail
      refine (sjoin _ _ i t t p1 q1 p2 q2' w5 (F1.out _ (Ext.refl _)) (F2.out _ (Ext.refl _)) SS.out.1 (by omega) (by omega) (by omega) (by omega)).mono ?_
      rintro e6 w6 ⟨p3, q3, rfl, s3, hE6⟩
      rw [MS.out] at s3
      have S3 := Lib.hid s3
      clear s3
      replace a0 := hE6.cell a0
      replace a1 := hE6.cell a1
      replace b0 := hE6.cell b0
      replace b1 := hE6.cell b1
      replace c0 := hE6.cell c0
      replace c1 := hE6.cell c1
      have y6 := hE6.size
      go_upto_region 10 with (fail)
      generalize hW : w6.alloc (Obj.cells #[.pointer p3, .pointer q3] 31) = w7
      have E7 : Ext w6 w7 := by rw [← hW]; simp
      have d0 : w7.cell? ⟨w6.heap.size, 0, none⟩ = some (.pointer p3) := by rw [← hW]; exact new_at _ _ _ _ _ rfl
      have d1 : w7.cell? ⟨w6.heap.size, 1, none⟩ = some (.pointer q3) := by rw [← hW]; exact new_at _ _ _ _ _ rfl
      clear hW
      replace a0 := E7.cell a0
      replace a1 := E7.cell a1
      replace b0 := E7.cell b0
      replace b1 := E7.cell b1
      replace c0 := E7.cell c0
      replace c1 := E7.cell c1
      have X7 := hE6.trans E7
      go_wp2_with fail
      refine (sjoin _ _ i t t p2 q2' p1 q1 w7 (F2.out _ X7) (F1.out _ X7) SS.out.2 (by omega) (by omega) (by omega) (by omega)).mono ?_
      rintro e8 w8 ⟨p4, q4, rfl, s4, hE8⟩
      rw [MS.out] at s4
      have S4 := Lib.hid s4
      clear s4
      replace a0 := hE8.cell a0
      replace a1 := hE8.cell a1
      replace b0 := hE8.cell b0
      replace b1 := hE8.cell b1
      replace c0 := hE8.cell c0
      replace c1 := hE8.cell c1
      replace d0 := hE8.cell d0
      replace d1 := hE8.cell d1
      go_upto_region 11 with (fail)
      generalize hW : w8.alloc (Obj.cells #[.pointer p4, .pointer q4] 31) = w9
      have E9 : Ext w8 w9 := by rw [← hW]; simp
      have f0 : w9.cell? ⟨w8.heap.size, 0, none⟩ = some (.pointer p4) := by rw [← hW]; exact new_at _ _ _ _ _ rfl
      have f1 : w9.cell? ⟨w8.heap.size, 1, none⟩ = some (.pointer q4) := by rw [← hW]; exact new_at _ _ _ _ _ rfl
      clear hW
      replace a0 := E9.cell a0
      replace a1 := E9.cell a1
      replace b0 := E9.cell b0
      replace b1 := E9.cell b1
      replace c0 := E9.cell c0
      replace c1 := E9.cell c1
      replace d0 := E9.cell d0
      replace d1 := E9.cell d1
      have X9 := X7.trans (hE8.trans E9)
      have la := World.block_lt_of_cell? w9 _ a0
      have lb := World.block_lt_of_cell? w9 _ b0
      have lc := World.block_lt_of_cell? w9 _ c0
      have ld := World.block_lt_of_cell? w9 _ d0
      have lf := World.block_lt_of_cell? w9 _ f0
      simp only [] at la lb lc ld lf
      have Y3 := Lib.hid (fun w' (hx : Ext w9 w') => sequal i t p3 q3 p q w' ⟨S3.out.1.ext (E7.trans (hE8.trans (E9.trans hx))), S3.out.2.ext (E7.trans (hE8.trans (E9.trans hx)))⟩ (F0.out w' (X9.trans hx)))
      have Y4 := Lib.hid (fun w' (hx : Ext w9 w') => sequal i t p4 q4 p q w' ⟨S4.out.1.ext (E9.trans hx), S4.out.2.ext (E9.trans hx)⟩ (F0.out w' (X9.trans hx)))
      have N0 := Lib.hid (fun w' (hx : Ext w9 w') => sanon i t p q w' (F0.out w' (X9.trans hx)))
      have N1 := Lib.hid (fun w' (hx : Ext w9 w') => sanon _ t p1 q1 w' (F1.out w' (X9.trans hx)))
      have N2 := Lib.hid (fun w' (hx : Ext w9 w') => sanon _ t p2 q2' w' (F2.out w' (X9.trans hx)))
      rw [part_zero.1] at N1
      rw [part_zero.2] at N2
      generalize hiz : i.isZero = iz at *
      have HIZ := Lib.hid hiz
      clear hiz
      go_wp2_with fail
      go_region_held3 (fun w' => Ext w9 w' ∧ ∀ b o, b < w9.heap.size → w'.cell? ⟨b, o, none⟩ = w9.cell? ⟨b, o, none⟩)
        (refine Ext.held ?_ <;> repeat (first | assumption | exact Ext.refl _ | apply Ext.alloc | apply Ext.drew | apply Ext.drewN))
        (first
          | (go_at_call 15; go_split_ands; (with_reducible refine (Y3.out _ (by assumption)).mono ?_); rintro e10 w10 ⟨rfl, hb10⟩; have hE10 : Ext w9 w10 := Ext.trans (by assumption) hb10)
          | (go_at_call 15; go_split_ands; (with_reducible refine (Y4.out _ (by assumption)).mono ?_); rintro e11 w11 ⟨rfl, hb11⟩; have hE11 : Ext w9 w11 := Ext.trans (by assumption) hb11)
          | (go_at_call 16; go_split_ands; (with_reducible refine (N1.out _ (by assumption)).mono ?_); rintro e12 w12 ⟨rfl, hb12⟩; have hE12 : Ext w9 w12 := Ext.trans (by assumption) hb12)
          | (go_at_call 16; go_split_ands; (with_reducible refine (N2.out _ (by assumption)).mono ?_); rintro e13 w13 ⟨rfl, hb13⟩; have hE13 : Ext w9 w13 := Ext.trans (by assumption) hb13)
          | (go_at_call 16; go_split_ands; (with_reducible refine (N0.out _ (by assumption)).mono ?_); rintro e14 w14 ⟨rfl, hb14⟩; have hE14 : Ext w9 w14 := Ext.trans (by assumption) hb14))
      have XE : Ext w9 w14 := hE14
      clear hE10 hE11 hE12 hE13 hb10 hb11 hb12 hb13 hb14 Y3 Y4 N1 N2 f0 f1 b0 b1 d0 d1
      have a0x := XE.cell a0
      have a1x := XE.cell a1
      have c0x := XE.cell c0
      have c1x := XE.cell c1
      have XF := X9.trans XE
      have G1 := F1.out _ XF
      have G0 := F0.out _ XF
      have HG1 := Lib.hid G1
      have HG0 := Lib.hid G0
      clear G1 G0
      cases iz with
      | true =>
        have hs : i.split.1.sum i = some i := by
          have := HIZ.out
          cases i with
          | zero => rfl
          | node _ _ => simp [IdT.isZero] at this
        have HS := Lib.hid hs
        clear hs
        go_wp2_with fail
        refine (sjoin _ _ i t t p1 q1 p q w14 HG1.out HG0.out HS.out (by omega) (by omega) (by omega) (by omega)).mono ?_
        rintro e15 w15 ⟨p5, q5, rfl, s5, hE15⟩
        clear s5
        have c0y := hE15.cell c0x
        have c1y := hE15.cell c1x
        go_wp2_with fail
        refine (N0.out _ (XE.trans hE15)).mono ?_
        rintro e16 w16 ⟨rfl, hE16⟩
        go_wp2_with fail
        exact ⟨⟨j + 1, by omega, by go_num, HE.out.trans (X5.trans (XF.trans (hE15.trans hE16)))⟩, by simp [intOf]; omega⟩
      | false =>
        have HS := Lib.hid (part_overlap HIZ.out)
        go_wp2_with fail
        refine (sjoin0 _ _ t t p1 q1 p q w14 HG1.out HG0.out HS.out).mono ?_
        rintro e15 w15 ⟨p5, q5, rfl, s5, hE15⟩
        clear s5
        have c0y := hE15.cell c0x
        have c1y := hE15.cell c1x
        go_wp2_with fail
        refine (N0.out _ (XE.trans hE15)).mono ?_
        rintro e16 w16 ⟨rfl, hE16⟩
        go_wp2_with fail
        exact ⟨⟨j + 1, by omega, by go_num, HE.out.trans (X5.trans (XF.trans (hE15.trans hE16)))⟩, by simp [intOf]; omega⟩
    · obtain rfl : j = zs.length := by omega
      go_wp2_with fail
      go_ret
      exact ⟨rfl, hE1.trans (hE2.trans HE.out)⟩
end Go.Proofs.YthnmhdabdiennaaDoor
