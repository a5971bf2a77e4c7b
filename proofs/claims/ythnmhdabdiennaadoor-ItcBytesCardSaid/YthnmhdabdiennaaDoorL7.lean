/- The walk over ItcEvents. -/
import Derived.Test.YthnmhdabdiennaaDoorR23
namespace Go.Proofs.YthnmhdabdiennaaDoor
open Go.RowKit
attribute [local go_sem ↓] Go.wp_at_zero Go.wp_at_succ
attribute [local go_sem ↓] ld36 ld34 ld38 st36 st38 st32 al36 al38 bu36 bu32 bu38 bs23
attribute [local go_sem] run_ld36 run_st36 run_al36 blkOf_drew blkOf_setRow_same blkOf_setRow_other RV_size run_bu36 blkOf_new blkOf_old
attribute [local go_sem] cellRow run_bu38 run_al38 run_st38 run_ld38 blkOf_setRow_same8 PV_size blkOf_new2'
theorem event_leq {k : Nat} {x : Pr} (hr : Rel k x) (hz : x.i.isZero = false) : leqF x.t (eventT x.i x.t) 0 0 = true := by
  have hf := event_facts x.i x.t hz hr.ev.nf
  rw [leqF_iff _ _ _ _ hf.1]
  intro p
  have := (hf.2.1 p).1
  omega
theorem event_trans {k k' : Nat} {x y : Pr} (hr : Rel k x) (hy : Rel k' y) (hz : x.i.isZero = false) (h : leqF (eventT x.i x.t) y.t 0 0 = true) : leqF x.t y.t 0 0 = true := by
  have hf := event_facts x.i x.t hz hr.ev.nf
  rw [leqF_iff _ _ _ _ hy.ev.nf] at h ⊢
  intro p
  have := (hf.2.1 p).1
  have := h p
  omega
/-- The pairs that play has returned, as a law reads them. -/
theorem PsAt.read {w : World} {v : Value} {zs : List Z} (h : PsAt w v zs) (h0 : 0 < zs.length) : ∃ g c, v = .slice (some ⟨g, 0, none⟩) zs.length c ∧ zs.length ≤ c ∧ c ≤ maxLen ∧ ∀ W, Ext w W → ∀ j p q x, zs[j]? = some (p, q, x) → (ldS 38 (.pointer (some ⟨g, j * 514, none⟩))).run Tryd.prog W = .ok (.agg (PV p q x.o x.s)) W ∧ PpAt W p q x := by
  obtain ⟨⟨A, c, rfl, h1, h2, h3⟩, hz⟩ := h
  obtain ⟨g, rfl, hg, hc⟩ := h3 h0
  refine ⟨g, c, rfl, h1, h2, fun W hW j p q x hj => ⟨?_, (hz _ (List.mem_of_getElem? hj)).ext hW⟩⟩
  have hR : RdP W (some ⟨g, 0, none⟩) zs := RdP.ext hW (fun _ => ⟨g, rfl, hg, hc⟩)
  exact run_ld38_at (w := W) (ad := ⟨g, j * 514, none⟩) (z := (p, q, x)) (fun k v hv => by rw [Addr.add_lit]; exact hR.at38 hj k v hv)
/-- A pair that was laid into a new block. -/
theorem letterP {w w0 : World} {p q : Option Addr} {o : Nat → Bool} {s : Nat → Nat} (h : (w.alloc (.cells PV0 38)).setRow w.heap.size (PV p q o s) = w0) : Ext w w0 ∧ w.heap.size < w0.heap.size ∧ w0.cell? ⟨w.heap.size, 0, none⟩ = some (.pointer p) ∧ w0.cell? ⟨w.heap.size, 1, none⟩ = some (.pointer q) ∧ blkOf w0 w.heap.size = PV p q o s := by
  subst h
  have hb : blkOf ((w.alloc (.cells PV0 38)).setRow w.heap.size (PV p q o s)) w.heap.size = PV p q o s := blkOf_setRow_same8 (by rw [blkOf_new, PV_size])
  have hi := pairIn hb
  exact ⟨((Ext.refl w).alloc _).setRow (Nat.le_refl _) _, by simp, hi.c0, hi.c1, hb⟩
theorem zleq (k k' : Nat) (x y : Pr) (p q p' q' : Option Addr) (w : World) (h : PpAt w p q x) (h' : PpAt w p' q' y) (hr : Rel k x) (hr' : Rel k' y) (hk : k ≤ 90) (hk' : k' ≤ 90) : Calls Tryd.prog 20 #[SV2 p q, SV2 p' q'] w (RetB (leqF x.t y.t 0 0) w) :=
  stleq_any x.i y.i x.t y.t _ _ w h.st h'.st (by have := hr.top; omega) (by have := hr'.top; omega)
set_option maxRecDepth 100000 in
set_option maxHeartbeats 8000000 in
theorem events_law (A : Option Addr) (n c : Nat) (w : World) (hn : n ≤ 9223372036854775807) (hA : ActsAt w A n) : Calls Tryd.prog 7 #[.slice A n c] w (RetB true w) := by
  have PL := Lib.hid (play_any A n c w hn hA)
  clear hA
  go_enter Tryd.func7, Tryd.ntmps7
  go_wp2_with fail
  refine PL.out.mono ?_
  rintro e1 w1 ⟨v, zs, rfl, hP, hR, h0, hl, hE1⟩
  obtain ⟨g, cc, rfl, r1, r2, RD⟩ := hP.read h0
  have HRD := Lib.hid RD
  have HRL := Lib.hid hR
  clear hP RD hR PL
  unfold maxLen at r2
  go_wp2_with fail
  refine (awake_any w1).mono ?_
  rintro e2 w2 ⟨rfl, hE2⟩
  go_wp2_with fail
  go_loopw [24] (fun i wr => ∃ j : Nat, j ≤ zs.length ∧ i = .int .i64 (j : Int) ∧ Ext w2 wr) (fun i _ => zs.length - (intOf i).toNat)
  case atStart => exact ⟨0, by omega, rfl, Ext.refl _⟩
  case round =>
    obtain ⟨j, hj, rfl, hE⟩ := hrel
    have HE := Lib.hid hE
    clear hE
    by_cases hlt : j < zs.length
    · obtain ⟨⟨p, q, x⟩, hz⟩ : ∃ z, zs[j]? = some z := ⟨_, List.getElem?_eq_getElem hlt⟩
      have hr := Lib.hid (HRL.out _ (List.mem_of_getElem? hz))
      obtain ⟨hld, hpp⟩ := HRD.out wr (hE2.trans HE.out) j p q x hz
      have HP := Lib.hid hpp
      have q1 : (0 : Int) ≤ (j : Int) := Int.natCast_nonneg _
      have q2 : (j : Int) < (zs.length : Int) := by omega
      clear hz hpp
      simp only [] at hr
      go_upto_region 7 with (fail)
      generalize hW : (wr.alloc (.cells PV0 38)).setRow wr.heap.size (PV p q x.o x.s) = w3
      obtain ⟨E3, l3, c0, c1, -⟩ := letterP hW
      clear hW hld
      cases hzz : x.i.isZero with
      | true =>
        have AN := Lib.hid (fun w' (hx : Ext w3 w') => zanon x p q w' (HP.out.ext (E3.trans hx)))
        rw [hzz] at AN
        go_wp2_with fail
        refine (zevent0 x p q w3 (HP.out.ext E3) hzz).mono ?_
        rintro e4 w4 ⟨p1, q1, rfl, s1, hE4⟩
        clear s1 hzz
        replace c0 := hE4.cell c0
        replace c1 := hE4.cell c1
        have l4 : wr.heap.size < w4.heap.size := World.block_lt_of_cell? w4 _ c0
        go_wp2_with fail
        refine (AN.out _ (hE4.trans ((Ext.refl _).alloc _))).mono ?_
        rintro e5 w5 ⟨rfl, hE5⟩
        go_wp2_with fail
        exact ⟨⟨j + 1, by omega, by go_num, HE.out.trans (E3.trans (hE4.trans (((Ext.refl _).alloc _).trans hE5)))⟩, by simp [intOf]; omega⟩
      | false =>
        have AN := Lib.hid (fun w' (hx : Ext w3 w') => zanon x p q w' (HP.out.ext (E3.trans hx)))
        rw [hzz] at AN
        have RE := Lib.hid (hr.out.event hzz)
        have L1 := event_leq hr.out hzz
        have L2 := event_more x.i x.t hzz hr.out.ev.nf
        have HZ := Lib.hid hzz
        have LT := Lib.hid (fun (y : Pr) (hy : Rel 14 y) h => event_trans hr.out hy hzz h)
        go_wp2_with fail
        refine (zevent 14 x p q w3 (HP.out.ext E3) hr.out (by omega) hzz).mono ?_
        rintro e4 w4 ⟨p1, q1, rfl, s1, hE4⟩
        have HT := Lib.hid (fun w' (hx : Ext w4 w') => show PpAt w' p1 q1 ⟨x.i, eventT x.i x.t, x.o, eventR x.o x.s⟩ from ⟨s1.1.ext hx, s1.2.ext hx⟩)
        clear s1 hzz
        replace c0 := hE4.cell c0
        replace c1 := hE4.cell c1
        have l4 : wr.heap.size < w4.heap.size := World.block_lt_of_cell? w4 _ c0
        go_upto_region 8 with (fail)
        generalize hW : w4.alloc (Obj.cells #[.pointer p1, .pointer q1] 31) = w5
        have E5 : Ext w4 w5 := by rw [← hW]; simp
        have a0 : w5.cell? ⟨w4.heap.size, 0, none⟩ = some (.pointer p1) := by rw [← hW]; exact new_at _ _ _ _ _ rfl
        have a1 : w5.cell? ⟨w4.heap.size, 1, none⟩ = some (.pointer q1) := by rw [← hW]; exact new_at _ _ _ _ _ rfl
        clear hW
        replace c0 := E5.cell c0
        replace c1 := E5.cell c1
        have X5 : Ext w3 w5 := hE4.trans E5
        have AX := Lib.hid (fun w' (hx : Ext w5 w') => zanon ⟨x.i, eventT x.i x.t, x.o, eventR x.o x.s⟩ p1 q1 w' (HT.out w' (E5.trans hx)))
        have HX := Lib.hid (fun w' (hx : Ext w5 w') => HP.out.ext (E3.trans (X5.trans hx)))
        have QA := Lib.hid (fun w' (hx : Ext w5 w') => zleq 14 15 x ⟨x.i, eventT x.i x.t, x.o, eventR x.o x.s⟩ p q p1 q1 w' (HX.out w' hx) (HT.out w' (E5.trans hx)) hr.out RE.out (by omega) (by omega))
        have QB := Lib.hid (fun w' (hx : Ext w5 w') => zleq 15 14 ⟨x.i, eventT x.i x.t, x.o, eventR x.o x.s⟩ x p1 q1 p q w' (HT.out w' (E5.trans hx)) (HX.out w' hx) RE.out hr.out (by omega) (by omega))
        simp only [] at QA QB AX
        rw [L1] at QA
        rw [L2] at QB
        clear L1 L2
        rw [HZ.out] at AX
        go_wp2_with fail
        refine (AN.out _ X5).mono ?_
        rintro e6 w6 ⟨rfl, hE6⟩
        replace a0 := hE6.cell a0
        replace a1 := hE6.cell a1
        replace c0 := hE6.cell c0
        replace c1 := hE6.cell c1
        go_wp2_with fail
        refine (QA.out _ hE6).mono ?_
        rintro e7 w7 ⟨rfl, hE7⟩
        replace a0 := hE7.cell a0
        replace a1 := hE7.cell a1
        replace c0 := hE7.cell c0
        replace c1 := hE7.cell c1
        go_wp2_with fail
        refine (QB.out _ (hE6.trans hE7)).mono ?_
        rintro e8 w8 ⟨rfl, hE8⟩
        replace a0 := hE8.cell a0
        replace a1 := hE8.cell a1
        replace c0 := hE8.cell c0
        replace c1 := hE8.cell c1
        have X8 := hE6.trans (hE7.trans hE8)
        go_wp2_with fail
        refine (AX.out _ X8).mono ?_
        rintro e9 w9 ⟨rfl, hE9⟩
        replace a0 := hE9.cell a0
        replace a1 := hE9.cell a1
        replace c0 := hE9.cell c0
        replace c1 := hE9.cell c1
        have X9 := X8.trans hE9
        have A0 := Lib.hid a0
        have A1 := Lib.hid a1
        have C0 := Lib.hid c0
        have C1 := Lib.hid c1
        clear a0 a1 c0 c1 hE6 hE7 hE8 hE9 X8 AN AX QA QB
        go_wp2_with fail
        go_loopw [60] (fun i wx => ∃ m : Nat, m ≤ zs.length ∧ i = .int .i64 (m : Int) ∧ Ext w9 wx) (fun i _ => zs.length - (intOf i).toNat)
        case atStart => exact ⟨0, by omega, rfl, Ext.refl _⟩
        case round =>
          obtain ⟨m, hm, rfl, hX⟩ := hrel
          have HX9 := Lib.hid hX
          clear hX
          by_cases hml : m < zs.length
          · obtain ⟨⟨p', q', y⟩, hz'⟩ : ∃ z, zs[m]? = some z := ⟨_, List.getElem?_eq_getElem hml⟩
            have hry := Lib.hid (HRL.out _ (List.mem_of_getElem? hz'))
            have Xr := Lib.hid (X9.trans HX9.out)
            have XX := Lib.hid (HE.out.trans (E3.trans (X5.trans Xr.out)))
            obtain ⟨hld', hpp'⟩ := HRD.out _ (hE2.trans XX.out) m p' q' y hz'
            have HPY := Lib.hid hpp'
            have q3 : (0 : Int) ≤ (m : Int) := Int.natCast_nonneg _
            have q4 : (m : Int) < (zs.length : Int) := by omega
            clear hz' hpp'
            simp only [] at hry
            go_upto_region 16 with (fail)
            generalize hW : (wr.alloc (.cells PV0 38)).setRow wr.heap.size (PV p' q' y.o y.s) = wz
            obtain ⟨EZ, lz, y0, y1, -⟩ := letterP hW
            clear hW hld'
            have X9z := HX9.out.trans EZ
            have a0 := X9z.cell A0.out
            have a1 := X9z.cell A1.out
            have c0 := X9z.cell C0.out
            have c1 := X9z.cell C1.out
            have QT := Lib.hid (fun w' (hx : Ext wz w') => zleq 15 14 ⟨x.i, eventT x.i x.t, x.o, eventR x.o x.s⟩ y p1 q1 p' q' w' (HT.out w' (E5.trans (Xr.out.trans (EZ.trans hx)))) (HPY.out.ext (EZ.trans hx)) RE.out hry.out (by omega) (by omega))
            have QX := Lib.hid (fun w' (hx : Ext wz w') => zleq 14 14 x y p q p' q' w' (HX.out w' (Xr.out.trans (EZ.trans hx))) (HPY.out.ext (EZ.trans hx)) hr.out hry.out (by omega) (by omega))
            simp only [] at QT QX
            cases hlq : leqF (eventT x.i x.t) y.t 0 0 with
            | false =>
              rw [hlq] at QT
              clear hlq
              go_wp2_with fail
              refine (QT.out _ (Ext.refl _)).mono ?_
              rintro e10 w10 ⟨rfl, hE10⟩
              go_wp2_with fail
              exact ⟨⟨m + 1, by omega, by go_num, X9z.trans hE10⟩, by simp [intOf]; omega⟩
            | true =>
              have L5 := LT.out y hry.out hlq
              rw [hlq] at QT
              rw [L5] at QX
              clear hlq L5
              go_wp2_with fail
              refine (QT.out _ (Ext.refl _)).mono ?_
              rintro e10 w10 ⟨rfl, hE10⟩
              replace y0 := hE10.cell y0
              replace y1 := hE10.cell y1
              replace c0 := hE10.cell c0
              replace c1 := hE10.cell c1
              go_wp2_with fail
              refine (QX.out _ hE10).mono ?_
              rintro e11 w11 ⟨rfl, hE11⟩
              go_wp2_with fail
              exact ⟨⟨m + 1, by omega, by go_num, X9z.trans (hE10.trans hE11)⟩, by simp [intOf]; omega⟩
          · obtain rfl : m = zs.length := by omega
            go_wp2_with fail
            exact ⟨⟨j + 1, by omega, by go_num, HE.out.trans (E3.trans (X5.trans (X9.trans HX9.out)))⟩, by simp [intOf]; omega⟩
    · obtain rfl : j = zs.length := by omega
      go_wp2_with fail
      go_ret
      exact ⟨rfl, hE1.trans (hE2.trans HE.out)⟩
end Go.Proofs.YthnmhdabdiennaaDoor
