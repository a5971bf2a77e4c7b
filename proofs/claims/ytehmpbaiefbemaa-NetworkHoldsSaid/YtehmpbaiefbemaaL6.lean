/- The walk over NetworkHolds. -/
import Derived.Test.YtehmpbaiefbemaaH5
import Derived.Test.YtehmpbaiefbemaaN54
import Derived.Deep.CutBlock
import Derived.Deep.Cut
namespace Go.Proofs.Ytehmpbaiefbemaa
open Go.RowKit
theorem sendF_td {cs : List Ch} {hs : List Jh} {f t k l : Int} {x : St} : (sendF cs hs f t k l x).1.t = x.t ∧ (sendF cs hs f t k l x).1.d = x.d := by
  unfold sendF
  split
  · split
    · exact ⟨rfl, rfl⟩
    · split
      · exact ⟨rfl, rfl⟩
      · split <;> exact ⟨rfl, rfl⟩
  · exact ⟨rfl, rfl⟩
theorem stH_td {cs : List Ch} {al : List (Ac × Value)} : ∀ i, (stH cs al i).t = Z ∧ (stH cs al i).d = Z
  | 0 => ⟨rfl, rfl⟩
  | i + 1 => ⟨sendF_td.1.trans (stH_td i).1, sendF_td.2.trans (stH_td i).2⟩
theorem st2_td {cs : List Ch} {os : List Jh} {al : List (Ac × Value)} : ∀ i, (st2 cs os al i).t = Z ∧ (st2 cs os al i).d = Z
  | 0 => ⟨rfl, rfl⟩
  | i + 1 => ⟨sendF_td.1.trans (st2_td i).1, sendF_td.2.trans (st2_td i).2⟩
theorem stH_bd {cs : List Ch} {al : List (Ac × Value)} {i : Nat} (hi : i ≤ 12) : Bd (stH cs al i) 100000 := fun k => by
  have h1 := stH_le (cs := cs) (al := al) (k := k) i
  rw [(stH_td i).1, (stH_td i).2]
  exact ⟨by omega, Nat.zero_le _, Nat.zero_le _⟩
theorem st2_bd {cs : List Ch} {os : List Jh} {al : List (Ac × Value)} {i : Nat} (hi : i ≤ 12) : Bd (st2 cs os al i) 100000 := fun k => by
  have h1 := stH_le (cs := cs) (al := al) (k := k) i
  rw [(st2_td i).1, (st2_td i).2, st2_s]
  exact ⟨by omega, Nat.zero_le _, Nat.zero_le _⟩
theorem HsOwn.exc {g r : Nat} {w w' : World} {B : Nat} {v : Value} {os : List Jh} (h : HsOwn w B v os) (k : Exc g r w w') (hg : g < B) (hr : r < B) : HsOwn w' B v os := h.kept fun i h1 h2 => k.block i h2 (by omega) (by omega)
def bitB (pk : Int) (i : Nat) : Bool := bits BinOp.and IntKind.u8 (pk / 2 ^ (i % 8)) 1 == 1
theorem cnt_le {cs : List Ch} (ho : OkL cs) {al : List (Ac × Value)} {p : Nat → Bool} {n : Nat} (hn : n ≤ 12) : cntP (heldH cs al p n) ≤ 24 := by
  have key : ∀ n, cntP (heldH cs al p n) ≤ 2 * n := by
    intro n
    induction n with
    | zero => exact Nat.le_refl _
    | succ n ih =>
      have h1 := (gotH_ok ho (al := al) (i := n)).1
      rw [heldH]
      unfold cntP at *
      rw [List.map_append, List.sum_append]
      split <;> simp <;> omega
  have := key n
  omega
theorem Exc.over2 {g r g' r' : Nat} {a b c : World} (h : Exc g r a b) (k : Exc g' r' b c) (hg : a.heap.size ≤ g') (hr : a.heap.size ≤ r') : Exc g r a c :=
  ⟨k.os.trans h.os, k.tape.trans h.tape, k.output.trans h.output, Nat.le_trans h.size k.size, fun i hi h1 h2 => (k.block i (Nat.lt_of_lt_of_le hi h.size) (by omega) (by omega)).trans (h.block i hi h1 h2)⟩
theorem Net.side {w w' : World} {g r : Nat} {cv hv : Value} {cs : List Ch} {hs : List Jh} {x : St} (h : Net w g r cv hv cs hs x) (hb : w'.heap[g]? = w.heap[g]?) (hm : w'.heap[r]? = w.heap[r]?) (hc : Stay g r (fun W => CsAt W cv cs) w') (hh : Stay g r (fun W => HsAt W hv hs) w') : Net w' g r cv hv cs hs x := by
  obtain ⟨us, m1, m2⟩ := h.map
  exact ⟨(blkOf_kept hb).trans h.blk, ⟨us, m1.kept hm, m2⟩, hc, hh, h.ne⟩
theorem heldH_at {cs : List Ch} {al : List (Ac × Value)} {p : Nat → Bool} {k : Nat} (hp : p k = true) : ∀ {n : Nat}, k < n → (heldH cs al p n)[(heldH cs al p k).length]? = some (msgH cs al k, gotH cs al k)
  | 0, h => by omega
  | n + 1, h => by
    rw [heldH]
    rcases Nat.lt_or_ge k n with h1 | h1
    · have ih := heldH_at (cs := cs) (al := al) hp h1
      have hl := (List.getElem?_eq_some_iff.1 ih).1
      rw [List.getElem?_append_left hl]
      exact ih
    · obtain rfl : k = n := by omega
      rw [if_pos hp, List.getElem?_append_right (Nat.le_refl _), Nat.sub_self]
      rfl
theorem hs_nil {w W : World} {v : Value} (h : HsAt w v []) : HsAt W v [] := by
  obtain ⟨⟨⟨A, c, e, h1, h2, -⟩, h4⟩, -⟩ := h
  exact ⟨⟨⟨A, c, e, h1, h2, VsAt.nil _ _⟩, h4⟩, by simp⟩
theorem valid_pl {os hs : List Jh} (h : os.map plH = hs.map plH) (hv : ∀ h ∈ hs, validF h = true) : ∀ h ∈ os, h.2.1.length ≤ 2 ∧ ∀ j ∈ h.2.1, j.1.2.2.length ≤ 4 := by
  intro o hm
  have h1 : plH o ∈ hs.map plH := by rw [← h]; exact List.mem_map.2 ⟨o, hm, rfl⟩
  obtain ⟨k, hk, e⟩ := List.mem_map.1 h1
  have e2 : k.2.1.map (·.1) = o.2.1.map (·.1) := congrArg Prod.snd e
  have ok := valid_len (hv k hk)
  refine ⟨by have h3 := congrArg List.length e2; simp only [List.length_map] at h3; omega, fun j hj => ?_⟩
  have h4 : j.1 ∈ k.2.1.map (·.1) := by rw [e2]; exact List.mem_map.2 ⟨j, hj, rfl⟩
  obtain ⟨i, hi, e3⟩ := List.mem_map.1 h4
  rw [← e3]
  exact ok.2 i hi
theorem acAt_args {w : World} {v : Value} {al : List (Ac × Value)} {i : Nat} (h : AsAt w v al) (hi : i < al.length) : ArgsAt w (al.getD i Ac0).2 (acAt al i).args := h.args _ (by rw [List.getD_eq_getElem?_getD, List.getElem?_eq_getElem hi]; exact List.getElem_mem hi)
attribute [local go_sem ↓] Go.wp_at_zero Go.wp_at_succ
attribute [local go_sem ↓] ld32 st32 al32
attribute [local go_sem] run_ld32 run_st32n run_al32 blkOf_drew blkOf_setRow_same blkOf_setRow_other NV_size blkOf_alloc blkOf_new
set_option maxRecDepth 100000 in
set_option maxHeartbeats 8000000 in
theorem holds_law (rs : List Raw) (al : List (Ac × Value)) (pk : Int) (cV hV lV : Value) (w : World) (hc : Raws w cV rs) (hk : ∀ r ∈ rs, r.kd < 256) (ha : AsAt w lV al) (p0 : 0 ≤ pk) (p1 : pk ≤ 255) : Calls Try.prog 3 #[.agg #[cV, hV], lV, .int .u8 pk] w (RetV (.bool true) w) := by
  have CB := Lib.hid (fun W (hW : Ext w W) => begin9_any rs [] cV nilS W (hc.ext hW) hk (hsNil W))
  have HA := Lib.hid ha
  obtain ⟨Ac', cc, rfl, -, -, -⟩ := hc.read
  obtain ⟨Aa, ca, rfl, -, -, RA⟩ := ha.sl.read
  rw [List.length_map] at *
  rw [List.length_map] at *
  have HR := Lib.hid RA
  clear hc ha RA
  go_enter Try.func3, Try.ntmps3
  go_upto_region 2 with fail
  generalize hwB : w.alloc _ = wB
  have hE : Ext w wB := by rw [← hwB]; exact (Ext.refl _).alloc _
  have b0 : wB.cell? ⟨w.heap.size, 0, none⟩ = some (.slice Ac' rs.length cc) := by rw [← hwB]; exact new_at _ _ _ 0 _ rfl
  have b1 : wB.cell? ⟨w.heap.size, 1, none⟩ = some nilS := by rw [← hwB]; exact new_at _ _ _ 1 _ rfl
  have HE := Lib.hid hE
  clear hwB hE
  go_wp2_with fail
  refine (CB.out _ HE.out).mono ?_
  rintro e2 w2 ⟨g, r, cv, hv, lv, kh, os, hs, rfl, hN, hrc, hrh, hpl, hok, hdis, hln, hg, hr, hE⟩
  obtain rfl : hs = [] := by
    have h1 : hs.length = 0 := by simpa using hln
    exact List.eq_nil_of_length_eq_zero h1
  obtain rfl : os = [] := by simpa using hpl
  obtain ⟨cs, hcs⟩ : ∃ cs, chsF rs = cs := ⟨_, rfl⟩
  have hokc := chsF_ok rs
  rw [hcs] at hokc hN hrc
  have HOKL := Lib.hid hokc.1
  have HASC := Lib.hid hokc.1.asc
  have HSM := Lib.hid hokc.1.sm
  have HCL : Hid (cs.length ≤ 1000) := Lib.hid (by have := hokc.2; omega)
  have HC50 : Hid (cs.length ≤ 50) := Lib.hid (by have := hokc.2; omega)
  have NGZ : Hid (w2.heap.size ≠ g ∧ w2.heap.size ≠ r) := Lib.hid (by have h1 := hN.lt; have h2 := hN.rlt; omega)
  have HN2 := Lib.hid hN
  have HRC2 := Lib.hid hrc
  obtain ⟨Al, cl, rfl, -, -, -⟩ := hrc.now.read
  obtain ⟨Ak, ck, rfl, -, -, -⟩ := hrh.now.sl.read
  have hgw : w.heap.size ≤ g := Nat.le_trans HE.out.size hg
  have hrw : w.heap.size ≤ r := Nat.le_trans HE.out.size hr
  have HE2 := Lib.hid (HE.out.trans hE)
  have HGL := Lib.hid hN.lt
  have HRL := Lib.hid hN.rlt
  rw [List.length_map] at *
  simp only [List.map_nil, List.length_nil] at *
  clear hN hrc hrh hpl hok hdis hln hE CB hcs hokc b0 b1
  go_upto_region 3 with fail
  generalize hw3 : (w2.alloc (.cells NV0 32)).setRow w2.heap.size _ = w3
  have hE3 : Ext w2 w3 := by rw [← hw3]; exact ((Ext.refl _).alloc _).setRow (Nat.le_refl _) _
  have d3 : blkOf w3 w2.heap.size = NV (.slice Al cs.length cl) (.slice Ak 0 ck) Z Z Z nilS := by rw [← hw3]; exact blkOf_setRow_same (by rw [blkOf_new, NV_size])
  have hz3 : w2.heap.size < w3.heap.size := blkOf_lt (by rw [d3, NV_size]; omega)
  have HE3 := Lib.hid hE3
  clear hw3 hE3
  go_wp2_with fail
  refine (awake10_any w3).mono ?_
  rintro e4 w4 ⟨rfl, hE4⟩
  have HZ4 : Hid (w2.heap.size < w4.heap.size) := Lib.hid (Nat.lt_of_lt_of_le hz3 hE4.size)
  have ND4 : Hid (w4.cell? ⟨w2.heap.size, 0, none⟩ = some (.slice Al cs.length cl)) := Lib.hid (hE4.cell (blkOf_cell (by rw [d3]; exact NV_0)))
  have N4 := Lib.hid (HN2.out.ext (HE3.out.trans hE4))
  have HRC4 := Lib.hid (HRC2.out.exc ((HE3.out.trans hE4).exc g r))
  have HE4 := Lib.hid (HE2.out.trans (HE3.out.trans hE4))
  have HN4 := Lib.hid N4.out
  have HG4 : Hid (g < w4.heap.size) := Lib.hid (Nat.lt_of_lt_of_le HGL.out (HE3.out.trans hE4).size)
  have HR4 : Hid (r < w4.heap.size) := Lib.hid (Nat.lt_of_lt_of_le HRL.out (HE3.out.trans hE4).size)
  clear hE4 d3 hz3 HN2 HRC2 HE3 HE2 HE HGL HRL
  obtain ⟨N, hN⟩ : ∃ N, min al.length 12 = N := ⟨_, rfl⟩
  have hNa : N ≤ al.length := by omega
  have hN12 : N ≤ 12 := by omega
  have hNN : N = al.length ∨ (N < al.length ∧ N = 12) := by omega
  have HNN := Lib.hid hNN
  clear hN hNN
  go_upto_block 0 with fail
  go_cut [9, 10] (fun t n wx => ∃ (os : List Jh) (v : Value), t = v ∧ n = iV (cntP (heldH cs al (bitB pk) N) : Int) ∧ os.map plH = heldH cs al (bitB pk) N ∧ HsOwn wx w4.heap.size v os ∧ Exc g r w4 wx)
  case first =>
   go_wp2_with fail
   go_loopw [9, 10, 11] (fun t n i wr => ∃ (k : Nat) (os : List Jh) (v : Value), k ≤ N ∧ t = v ∧ n = iV (cntP (heldH cs al (bitB pk) k) : Int) ∧ i = iV (k : Int) ∧ os.map plH = heldH cs al (bitB pk) k ∧ HsOwn wr w4.heap.size v os ∧ Net wr g r cv hv cs [] (stH cs al k) ∧ Exc g r w4 wr) (fun _ _ i _ => al.length - (intOf i).toNat)
   case atStart => exact ⟨0, [], _, by omega, rfl, rfl, rfl, rfl, HsOwn.nil _ _, N4.out, Exc.refl _ _ _⟩
   case round =>
     obtain ⟨k, os, v, hkN, rfl, rfl, rfl, hos, hO, hN, hX⟩ := hrel
     have hk12 : k ≤ 12 := by omega
     obtain ⟨wo, rfl⟩ : ∃ wo, wo = wr := ⟨_, rfl⟩
     have HOS := Lib.hid hos
     have HO := Lib.hid hO
     have HN := Lib.hid hN
     have HX := Lib.hid hX
     obtain ⟨At, ct, et, -, -⟩ := hO.row.form
     rw [List.length_map] at et
     subst et
     have hoc : cntP (heldH cs al (bitB pk) k) ≤ 24 := cnt_le HOKL.out hk12
     have hol : os.length ≤ 12 := by
       have h1 := congrArg List.length hos
       rw [List.length_map] at h1
       have h2 := heldH_len (cs := cs) (al := al) (p := bitB pk) k
       omega
     clear hos hO hN hX N4
     by_cases hlt : k < N
     · have hka : k < al.length := by omega
       have hk2 : k < 12 := by omega
       obtain ⟨b, o, rfl, hb, cR⟩ := HR.out wo (HX.out.ext HE4.out hgw hrw) k hka (by omega)
       have hag := acAt_args HA.out hka
       obtain ⟨x, hx⟩ : ∃ x, al.getD k Ac0 = x := ⟨_, rfl⟩
       rw [encA_at hka x hx] at cR
       have hac : acAt al k = x.1 := congrArg Prod.fst hx
       rw [hac, hx] at hag
       obtain ⟨⟨kd, aa, ab, an, act, args⟩, av⟩ := x
       simp only [] at hag hac
       have HAC := Lib.hid hac
       obtain ⟨A0, c0, e0, h0, -, -⟩ := hag.at_
       rw [List.length_map] at e0 h0
       subst e0
       have HAG := Lib.hid hag
       have r3a := modF_range (a := aa) (n := 3) (by omega)
       have r3b := modF_range (a := ab) (n := 3) (by omega)
       have r20 := modF_range (a := an) (n := 20) (by omega)
       have r5 := modF_range (a := act) (n := 5) (by omega)
       have M3a := Lib.hid (fun W => mod_any aa 3 W (by omega) (by omega))
       have M3b := Lib.hid (fun W => mod_any ab 3 W (by omega) (by omega))
       have M20 := Lib.hid (fun W => mod_any an 20 W (by omega) (by omega))
       have M5 := Lib.hid (fun W => mod_any act 5 W (by omega) (by omega))
       have M8 := Lib.hid (fun W => mod_any an 8 W (by omega) (by omega))
       have HST : Hid (sendF cs [] (modF aa 3) (modF ab 3) (modF an 20) (1 + modF act 5) (stH cs al k) = (stH cs al (k + 1), (resH cs al k).1, (resH cs al k).2)) := Lib.hid (by unfold resH; rw [stH, hac]; rfl)
       have HMS : Hid (msgH cs al k = (modF aa 3, modF ab 3, (resH cs al k).1)) := Lib.hid (by unfold msgH; rw [hac])
       obtain ⟨mm, hmm⟩ : ∃ mm, min args.length 4 = mm := ⟨_, rfl⟩
       have HGT : Hid (gotH cs al k = (resH cs al k).2.map fun t => (t, modF an 8, args.take mm)) := Lib.hid (by unfold gotH argH; rw [hac, ← hmm])
       obtain ⟨f, ef⟩ : ∃ m, modF aa 3 = m := ⟨_, rfl⟩
       obtain ⟨t, et⟩ : ∃ m, modF ab 3 = m := ⟨_, rfl⟩
       obtain ⟨tk, etk⟩ : ∃ m, modF an 20 = m := ⟨_, rfl⟩
       obtain ⟨m5, em5⟩ : ∃ m, modF act 5 = m := ⟨_, rfl⟩
       obtain ⟨h8, eh8⟩ : ∃ m, modF an 8 = m := ⟨_, rfl⟩
       rw [ef] at r3a M3a HST HMS
       rw [et] at r3b M3b HST HMS
       rw [etk] at r20 M20 HST
       rw [em5] at r5 M5 HST
       rw [eh8] at M8 HGT
       obtain ⟨la, hla⟩ : ∃ l, 1 + m5 = l := ⟨_, rfl⟩
       have hwl : IntKind.i64.wrap (1 + m5) = la := by rw [hla]; exact IntWalk.i64_in _ (by omega)
       have hwl' : wrap64 (1 + m5) = la := by rw [hla]; exact IntWalk.wrap64_in _ (by omega)
       rw [hla] at HST
       obtain ⟨r20a, r20b⟩ := r20
       have hlb : 1 ≤ la ∧ la ≤ 5 := by omega
       obtain ⟨lb1, lb2⟩ := hlb
       have hmin : min ((args.length : Nat) : Int) 4 = (mm : Int) := by omega
       have hm0 : 0 ≤ (mm : Int) := by omega
       have hml : mm ≤ args.length := by omega
       have hmc : (mm : Int) ≤ c0 := by omega
       have HTL : Hid ((args.take mm).length = mm) := Lib.hid (by rw [List.length_take]; omega)
       have HAT : Hid (∀ W, Ext w W → ArgsAt W (.slice A0 mm c0) (args.take mm)) := Lib.hid (fun W hW => argsTake (ArgsAt.ext HAG.out hW) hml)
       have a0 := cR 0 _ (by omega) rfl
       have a1 := cR 1 _ (by omega) rfl
       have a2 := cR 2 _ (by omega) rfl
       have a3 := cR 3 _ (by omega) rfl
       have a4 := cR 4 _ (by omega) rfl
       have a5 := cR 5 _ (by omega) rfl
       rw [Nat.add_zero] at a0
       clear cR hag hac hx ef et etk em5 eh8 hla hmm r3a r3b r5 h0
       go_upto_region 11 with fail
       generalize hwC : wo.alloc _ = wC
       have hEC : Ext wo wC := by rw [← hwC]; exact (Ext.refl _).alloc _
       have c1 : wC.cell? ⟨wo.heap.size, 1, none⟩ = some (iV aa) := by rw [← hwC]; exact new_at _ _ _ 1 _ rfl
       have c2 : wC.cell? ⟨wo.heap.size, 2, none⟩ = some (iV ab) := by rw [← hwC]; exact new_at _ _ _ 2 _ rfl
       have c3 : wC.cell? ⟨wo.heap.size, 3, none⟩ = some (iV an) := by rw [← hwC]; exact new_at _ _ _ 3 _ rfl
       have c4 : wC.cell? ⟨wo.heap.size, 4, none⟩ = some (iV act) := by rw [← hwC]; exact new_at _ _ _ 4 _ rfl
       have c5 : wC.cell? ⟨wo.heap.size, 5, none⟩ = some (.slice A0 args.length c0) := by rw [← hwC]; exact new_at _ _ _ 5 _ rfl
       have hzC : wo.heap.size < wC.heap.size := by rw [← hwC]; simp
       have HEC := Lib.hid hEC
       clear hwC hEC a0 a1 a2 a3 a4 a5
       refine wp_region_noPanic ?_
       refine wp_region_held_drew (S := (fun ww => ww = wC.drew)) (by kernel_rfl) ?_ (fun hHeld => ?_)
       · rfl
       refine wpAnyH_take (i := 0) (v := ?_) (oper_at rfl) (by kernel_rfl) (by kernel_rfl) (by kernel_rfl) (fun _ _ _ h => h) (Or.inl ⟨by rfl, ?_⟩) hHeld ?_
       rotate_left
       · (intro ww hSw; (try dsimp only at hSw); go_simp; try (with_reducible rfl))
       try simp only [Act.put, List.setIfInBounds_toArray, List.set_cons_zero, List.set_cons_succ]
       refine wpAnyH_take (i := 1) (v := ?_) (oper_at rfl) (by kernel_rfl) (by kernel_rfl) (by kernel_rfl) (fun _ _ _ h => h) (Or.inl ⟨by rfl, ?_⟩) hHeld ?_
       rotate_left
       · (intro ww hSw; (try dsimp only at hSw); go_simp; try (with_reducible rfl))
       try simp only [Act.put, List.setIfInBounds_toArray, List.set_cons_zero, List.set_cons_succ]
       refine wpAnyH_take (i := 3) (v := ?_) (oper_at rfl) (by kernel_rfl) (by kernel_rfl) (by kernel_rfl) (fun _ _ _ h => h) (Or.inl ⟨by rfl, ?_⟩) hHeld ?_
       rotate_left
       · (intro ww hSw; (try dsimp only at hSw); go_simp; try (with_reducible rfl))
       try simp only [Act.put, List.setIfInBounds_toArray, List.set_cons_zero, List.set_cons_succ]
       refine wpAnyH_take (i := 4) (v := ?_) (oper_at rfl) (by kernel_rfl) (by kernel_rfl) (by kernel_rfl) (fun _ _ _ h => h) (Or.inl ⟨by rfl, ?_⟩) hHeld ?_
       rotate_left
       · (intro ww hSw; (try dsimp only at hSw); go_simp; try (with_reducible rfl))
       try simp only [Act.put, List.setIfInBounds_toArray, List.set_cons_zero, List.set_cons_succ]
       refine wpAnyH_take (i := 6) (v := ?_) (oper_at rfl) (by kernel_rfl) (by kernel_rfl) (by kernel_rfl) (fun _ _ _ h => h) (Or.inl ⟨by rfl, ?_⟩) hHeld ?_
       rotate_left
       · (intro ww hSw; (try dsimp only at hSw); go_simp; try (with_reducible rfl))
       try simp only [Act.put, List.setIfInBounds_toArray, List.set_cons_zero, List.set_cons_succ]
       refine wpAnyH_take (i := 7) (v := ?_) (oper_at rfl) (by kernel_rfl) (by kernel_rfl) (by kernel_rfl) (fun _ _ _ h => h) (Or.inl ⟨by rfl, ?_⟩) hHeld ?_
       rotate_left
       · (intro ww hSw; (try dsimp only at hSw); go_simp; try (with_reducible rfl))
       try simp only [Act.put, List.setIfInBounds_toArray, List.set_cons_zero, List.set_cons_succ]
       refine wpAnyH_take (i := 9) (v := ?_) (oper_at rfl) (by kernel_rfl) (by kernel_rfl) (by kernel_rfl) (fun _ _ _ h => h) (Or.inl ⟨by rfl, ?_⟩) hHeld ?_
       rotate_left
       · (intro ww hSw; (try dsimp only at hSw); go_simp; try (with_reducible rfl))
       try simp only [Act.put, List.setIfInBounds_toArray, List.set_cons_zero, List.set_cons_succ]
       refine wpAnyH_take (i := 10) (v := ?_) (oper_at rfl) (by kernel_rfl) (by kernel_rfl) (by kernel_rfl) (fun _ _ _ h => h) (Or.inl ⟨by rfl, ?_⟩) hHeld ?_
       rotate_left
       · (intro ww hSw; (try dsimp only at hSw); go_simp; try (with_reducible rfl))
       try simp only [Act.put, List.setIfInBounds_toArray, List.set_cons_zero, List.set_cons_succ]
       refine wpAnyH_ready (rs := [2]) (by kernel_rfl) (by simp) (AllReadyH.cons (oper_at rfl) (fun K hK => ?_) AllReadyH.nil)
       go_simp
       go_at_call 11
       refine (M3a.out _).mono ?_
       rintro em wm ⟨rfl, rfl⟩
       refine hK.out _ _ ?_ (fun hHeld => ?_)
       · rfl
       clear hK K
       try simp only [Act.put, List.setIfInBounds_toArray, List.set_cons_zero, List.set_cons_succ]
       refine wpAnyH_ready (rs := [5]) (by kernel_rfl) (by simp) (AllReadyH.cons (oper_at rfl) (fun K hK => ?_) AllReadyH.nil)
       go_simp
       go_at_call 11
       refine (M3b.out _).mono ?_
       rintro em wm ⟨rfl, rfl⟩
       refine hK.out _ _ ?_ (fun hHeld => ?_)
       · rfl
       clear hK K
       try simp only [Act.put, List.setIfInBounds_toArray, List.set_cons_zero, List.set_cons_succ]
       refine wpAnyH_ready (rs := [8]) (by kernel_rfl) (by simp) (AllReadyH.cons (oper_at rfl) (fun K hK => ?_) AllReadyH.nil)
       go_simp
       go_at_call 11
       refine (M20.out _).mono ?_
       rintro em wm ⟨rfl, rfl⟩
       refine hK.out _ _ ?_ (fun hHeld => ?_)
       · rfl
       clear hK K
       try simp only [Act.put, List.setIfInBounds_toArray, List.set_cons_zero, List.set_cons_succ]
       refine wpAnyH_ready (rs := [11]) (by kernel_rfl) (by simp) (AllReadyH.cons (oper_at rfl) (fun K hK => ?_) AllReadyH.nil)
       go_simp
       go_at_call 11
       refine (M5.out _).mono ?_
       rintro em wm ⟨rfl, rfl⟩
       refine hK.out _ _ ?_ (fun hHeld => ?_)
       · rfl
       clear hK K
       try simp only [Act.put, List.setIfInBounds_toArray, List.set_cons_zero, List.set_cons_succ]
       refine wpAnyH_take (i := 12) (v := ?_) (oper_at rfl) (by kernel_rfl) (by kernel_rfl) (by kernel_rfl) (fun _ _ _ h => h) (Or.inl ⟨by rfl, ?_⟩) hHeld ?_
       rotate_left
       · (intro ww hSw; (try dsimp only at hSw); go_simp; try (with_reducible rfl))
       try simp only [Act.put, List.setIfInBounds_toArray, List.set_cons_zero, List.set_cons_succ]
       refine wpAnyH_take (i := 13) (v := ?_) (oper_at rfl) (by kernel_rfl) (by kernel_rfl) (by kernel_rfl) (fun _ _ _ h => h) (Or.inl ⟨by rfl, ?_⟩) hHeld ?_
       rotate_left
       · (intro ww hSw; (try dsimp only at hSw); go_simp; try (with_reducible rfl))
       try simp only [Act.put, List.setIfInBounds_toArray, List.set_cons_zero, List.set_cons_succ]
       refine wpAnyH_take (i := 14) (v := ?_) (oper_at rfl) (by kernel_rfl) (by kernel_rfl) (by kernel_rfl) (fun _ _ _ h => h) (Or.inl ⟨by rfl, ?_⟩) hHeld ?_
       rotate_left
       · (intro ww hSw; (try dsimp only at hSw); go_simp; try (with_reducible rfl))
       try simp only [Act.put, List.setIfInBounds_toArray, List.set_cons_zero, List.set_cons_succ]
       refine wpAnyH_take (i := 15) (v := ?_) (oper_at rfl) (by kernel_rfl) (by kernel_rfl) (by kernel_rfl) (fun _ _ _ h => h) (Or.inl ⟨by rfl, ?_⟩) hHeld ?_
       rotate_left
       · (intro ww hSw; (try dsimp only at hSw); go_simp; try (with_reducible rfl))
       try simp only [Act.put, List.setIfInBounds_toArray, List.set_cons_zero, List.set_cons_succ]
       refine wpAnyH_take (i := 16) (v := ?_) (oper_at rfl) (by kernel_rfl) (by kernel_rfl) (by kernel_rfl) (fun _ _ _ h => h) (Or.inl ⟨by rfl, ?_⟩) hHeld ?_
       rotate_left
       · (intro ww hSw; (try dsimp only at hSw); go_simp; try (with_reducible rfl))
       try simp only [Act.put, List.setIfInBounds_toArray, List.set_cons_zero, List.set_cons_succ]
       refine wpAnyH_done (by kernel_rfl) ?_ _
       refine NoPanic.normal ?_
       generalize hwD : wC.drew = wD
       have hED : Ext wC wD := by rw [← hwD]; exact (Ext.refl _).drew
       replace c3 := hED.cell c3
       replace c5 := hED.cell c5
       have HED := Lib.hid (HEC.out.trans hED)
       have HND := Lib.hid (HN.out.ext HED.out)
       have NG : Hid (wo.heap.size ≠ g ∧ wo.heap.size ≠ r) := Lib.hid (by have h1 := HN.out.lt; have h2 := HN.out.rlt; omega)
       have HXD := Lib.hid (HX.out.trans (HED.out.exc g r))
       have HZD : Hid (wo.heap.size < wD.heap.size) := Lib.hid (Nat.lt_of_lt_of_le hzC hED.size)
       clear hwD hED c1 c2 c4 hHeld HEC hzC
       have CS : Hid (∀ W, Ext wD W → Calls Try.prog 12 #[.pointer (some ⟨g, 0, none⟩), iV f, iV t, iV h8, .slice A0 mm c0, iV tk, iV la] W (RetSd g r cv hv cs [] (stH cs al (k + 1)) (resH cs al k).1 (resH cs al k).2 h8 (args.take mm) W)) := Lib.hid (fun W hW => by
         have h := send12_any g r cv hv cs [] (stH cs al k) f t h8 tk la (args.take mm) (.slice A0 mm c0) W (HND.out.ext hW) HASC.out HCL.out (stH_bd (by omega)) HSM.out (by omega) (by omega) (by omega) (by omega) (fun W2 hW2 => HAT.out W2 ((hW2.ext (HXD.out.ext HE4.out hgw hrw |>.trans hW) hgw hrw))) (by rw [HTL.out]; omega)
         rw [HST.out] at h
         exact h)
       have KB : Hid (∀ w', Exc g r wD w' → (fun w' => Exc g r wD w' ∧ w'.cell? ⟨wo.heap.size, 3, none⟩ = some (iV an) ∧ w'.cell? ⟨wo.heap.size, 5, none⟩ = some (.slice A0 args.length c0)) w') := Lib.hid fun W hW => ⟨hW, (cell_kept (hW.block _ HZD.out NG.out.1 NG.out.2)).trans c3, (cell_kept (hW.block _ HZD.out NG.out.1 NG.out.2)).trans c5⟩
       go_upto_region 12 with fail
       refine wp_region_noPanic ?_
       refine wp_region_held_drew (S := (fun w' => Exc g r wD w' ∧ w'.cell? ⟨wo.heap.size, 3, none⟩ = some (iV an) ∧ w'.cell? ⟨wo.heap.size, 5, none⟩ = some (.slice A0 args.length c0))) (by kernel_rfl) ?_ (fun hHeld => ?_)
       · exact KB.out _ (Ext.exc (by (repeat (first | with_reducible assumption | with_reducible exact Ext.refl _ | with_reducible apply Ext.alloc | with_reducible apply Ext.drew)); first | done | fail) g r)
       refine wpAnyH_take (i := 0) (v := ?_) (oper_at rfl) (by kernel_rfl) (by kernel_rfl) (by kernel_rfl) (fun _ _ _ h => h) (Or.inl ⟨by rfl, ?_⟩) hHeld ?_
       rotate_left
       · (intro ww hSw; (try dsimp only at hSw); go_simp; try (with_reducible rfl))
       try simp only [Act.put, List.setIfInBounds_toArray, List.set_cons_zero, List.set_cons_succ]
       refine wpAnyH_take (i := 1) (v := ?_) (oper_at rfl) (by kernel_rfl) (by kernel_rfl) (by kernel_rfl) (fun _ _ _ h => h) (Or.inl ⟨by rfl, ?_⟩) hHeld ?_
       rotate_left
       · (intro ww hSw; (try dsimp only at hSw); go_simp; try (with_reducible rfl))
       try simp only [Act.put, List.setIfInBounds_toArray, List.set_cons_zero, List.set_cons_succ]
       refine wpAnyH_take (i := 2) (v := ?_) (oper_at rfl) (by kernel_rfl) (by kernel_rfl) (by kernel_rfl) (fun _ _ _ h => h) (Or.inl ⟨by rfl, ?_⟩) hHeld ?_
       rotate_left
       · (intro ww hSw; (try dsimp only at hSw); go_simp; try (with_reducible rfl))
       try simp only [Act.put, List.setIfInBounds_toArray, List.set_cons_zero, List.set_cons_succ]
       refine wpAnyH_take (i := 3) (v := ?_) (oper_at rfl) (by kernel_rfl) (by kernel_rfl) (by kernel_rfl) (fun _ _ _ h => h) (Or.inl ⟨by rfl, ?_⟩) hHeld ?_
       rotate_left
       · (intro ww hSw; (try dsimp only at hSw); go_simp; try (with_reducible rfl))
       try simp only [Act.put, List.setIfInBounds_toArray, List.set_cons_zero, List.set_cons_succ]
       refine wpAnyH_take (i := 4) (v := ?_) (oper_at rfl) (by kernel_rfl) (by kernel_rfl) (by kernel_rfl) (fun _ _ _ h => h) (Or.inl ⟨by rfl, ?_⟩) hHeld ?_
       rotate_left
       · (intro ww hSw; (try dsimp only at hSw); go_simp; try (with_reducible rfl))
       try simp only [Act.put, List.setIfInBounds_toArray, List.set_cons_zero, List.set_cons_succ]
       refine wpAnyH_take (i := 6) (v := ?_) (oper_at rfl) (by kernel_rfl) (by kernel_rfl) (by kernel_rfl) (fun _ _ _ h => h) (Or.inl ⟨by rfl, ?_⟩) hHeld ?_
       rotate_left
       · (intro ww hSw; (try dsimp only at hSw); go_simp; try (with_reducible rfl))
       try simp only [Act.put, List.setIfInBounds_toArray, List.set_cons_zero, List.set_cons_succ]
       refine wpAnyH_take (i := 7) (v := ?_) (oper_at rfl) (by kernel_rfl) (by kernel_rfl) (by kernel_rfl) (fun _ _ _ h => h) (Or.inl ⟨by rfl, ?_⟩) hHeld ?_
       rotate_left
       · (intro ww hSw; (try dsimp only at hSw); go_simp; try (with_reducible rfl))
       try simp only [Act.put, List.setIfInBounds_toArray, List.set_cons_zero, List.set_cons_succ]
       refine wpAnyH_take (i := 8) (v := ?_) (oper_at rfl) (by kernel_rfl) (by kernel_rfl) (by kernel_rfl) (fun _ _ _ h => h) (Or.inl ⟨by rfl, ?_⟩) hHeld ?_
       rotate_left
       · (intro ww hSw; (try dsimp only at hSw); go_simp; try (with_reducible rfl))
       try simp only [Act.put, List.setIfInBounds_toArray, List.set_cons_zero, List.set_cons_succ]
       refine wpAnyH_take (i := 9) (v := ?_) (oper_at rfl) (by kernel_rfl) (by kernel_rfl) (by kernel_rfl) (fun _ _ _ h => h) (Or.inl ⟨by rfl, ?_⟩) hHeld ?_
       rotate_left
       · (intro ww hSw; (try dsimp only at hSw); go_simp; try (with_reducible rfl))
       try simp only [Act.put, List.setIfInBounds_toArray, List.set_cons_zero, List.set_cons_succ]
       refine wpAnyH_take (i := 10) (v := ?_) (oper_at rfl) (by kernel_rfl) (by kernel_rfl) (by kernel_rfl) (fun _ _ _ h => h) (Or.inl ⟨by rfl, ?_⟩) hHeld ?_
       rotate_left
       · (intro ww hSw; (try dsimp only at hSw); go_simp; try (with_reducible rfl))
       try simp only [Act.put, List.setIfInBounds_toArray, List.set_cons_zero, List.set_cons_succ]
       refine wpAnyH_take (i := 11) (v := ?_) (oper_at rfl) (by kernel_rfl) (by kernel_rfl) (by kernel_rfl) (fun _ _ _ h => h) (Or.inl ⟨by rfl, ?_⟩) hHeld ?_
       rotate_left
       · (intro ww hSw; (try dsimp only at hSw); go_simp; try (with_reducible rfl))
       try simp only [Act.put, List.setIfInBounds_toArray, List.set_cons_zero, List.set_cons_succ]
       refine wpAnyH_take (i := 12) (v := ?_) (oper_at rfl) (by kernel_rfl) (by kernel_rfl) (by kernel_rfl) (fun _ _ _ h => h) (Or.inl ⟨by rfl, ?_⟩) hHeld ?_
       rotate_left
       · (intro ww hSw; (try dsimp only at hSw); go_simp; try (with_reducible rfl))
       try simp only [Act.put, List.setIfInBounds_toArray, List.set_cons_zero, List.set_cons_succ]
       refine wpAnyH_take (i := 13) (v := ?_) (oper_at rfl) (by kernel_rfl) (by kernel_rfl) (by kernel_rfl) (fun _ _ _ h => h) (Or.inl ⟨by rfl, ?_⟩) hHeld ?_
       rotate_left
       · (intro ww hSw; (try dsimp only at hSw); go_simp; try (with_reducible rfl))
       try simp only [Act.put, List.setIfInBounds_toArray, List.set_cons_zero, List.set_cons_succ]
       refine wpAnyH_take (i := 14) (v := ?_) (oper_at rfl) (by kernel_rfl) (by kernel_rfl) (by kernel_rfl) (fun _ _ _ h => h) (Or.inl ⟨by rfl, ?_⟩) hHeld ?_
       rotate_left
       · (intro ww hSw; (try dsimp only at hSw); go_simp; try (with_reducible rfl))
       try simp only [Act.put, List.setIfInBounds_toArray, List.set_cons_zero, List.set_cons_succ]
       refine wpAnyH_ready (rs := [5]) (by kernel_rfl) (by simp) (AllReadyH.cons (oper_at rfl) (fun K hK => ?_) AllReadyH.nil)
       go_simp
       go_at_call 11
       refine (M8.out _).mono ?_
       rintro em wm ⟨rfl, rfl⟩
       refine hK.out _ _ ?_ (fun hHeld => ?_)
       · exact KB.out _ (Ext.exc (by (repeat (first | with_reducible assumption | with_reducible exact Ext.refl _ | with_reducible apply Ext.alloc | with_reducible apply Ext.drew)); first | done | fail) g r)
       clear hK K
       try simp only [Act.put, List.setIfInBounds_toArray, List.set_cons_zero, List.set_cons_succ]
       refine wpAnyH_ready (rs := [15]) (by kernel_rfl) (by simp) (AllReadyH.cons (oper_at rfl) (fun K hK => ?_) AllReadyH.nil)
       go_simp
       go_at_call 12
       refine (CS.out _ (by (repeat (first | with_reducible assumption | with_reducible exact Ext.refl _ | with_reducible apply Ext.alloc | with_reducible apply Ext.drew)); first | done | fail)).mono ?_
       rintro e5 w5 ⟨v5, js5, rfl, hj5, ha5, hN5, hE5⟩
       have hX5 : Exc g r wD w5 := Exc.trans (Ext.exc (by (repeat (first | with_reducible assumption | with_reducible exact Ext.refl _ | with_reducible apply Ext.alloc | with_reducible apply Ext.drew)); first | done | fail) g r) hE5
       obtain ⟨A5, cz5, e5, -, -⟩ := ha5.row.form
       rw [List.length_map] at e5
       subst e5
       refine hK.out _ _ ?_ (fun hHeld => ?_)
       · exact KB.out _ hX5
       clear hK K
       try simp only [Act.put, List.setIfInBounds_toArray, List.set_cons_zero, List.set_cons_succ]
       refine wpAnyH_take (i := 16) (v := ?_) (oper_at rfl) (by kernel_rfl) (by kernel_rfl) (by kernel_rfl) (fun _ _ _ h => h) (Or.inl ⟨by rfl, ?_⟩) hHeld ?_
       rotate_left
       · (intro ww hSw; (try dsimp only at hSw); go_simp; try (with_reducible rfl))
       try simp only [Act.put, List.setIfInBounds_toArray, List.set_cons_zero, List.set_cons_succ]
       refine wpAnyH_take (i := 17) (v := ?_) (oper_at rfl) (by kernel_rfl) (by kernel_rfl) (by kernel_rfl) (fun _ _ _ h => h) (Or.inl ⟨by rfl, ?_⟩) hHeld ?_
       rotate_left
       · (intro ww hSw; (try dsimp only at hSw); go_simp; try (with_reducible rfl))
       try simp only [Act.put, List.setIfInBounds_toArray, List.set_cons_zero, List.set_cons_succ]
       refine wpAnyH_take (i := 18) (v := ?_) (oper_at rfl) (by kernel_rfl) (by kernel_rfl) (by kernel_rfl) (fun _ _ _ h => h) (Or.inl ⟨by rfl, ?_⟩) hHeld ?_
       rotate_left
       · (intro ww hSw; (try dsimp only at hSw); go_simp; try (with_reducible rfl))
       try simp only [Act.put, List.setIfInBounds_toArray, List.set_cons_zero, List.set_cons_succ]
       refine wpAnyH_take (i := 19) (v := ?_) (oper_at rfl) (by kernel_rfl) (by kernel_rfl) (by kernel_rfl) (fun _ _ _ h => h) (Or.inl ⟨by rfl, ?_⟩) hHeld ?_
       rotate_left
       · (intro ww hSw; (try dsimp only at hSw); go_simp; try (with_reducible rfl))
       try simp only [Act.put, List.setIfInBounds_toArray, List.set_cons_zero, List.set_cons_succ]
       refine wpAnyH_take (i := 20) (v := ?_) (oper_at rfl) (by kernel_rfl) (by kernel_rfl) (by kernel_rfl) (fun _ _ _ h => h) (Or.inl ⟨by rfl, ?_⟩) hHeld ?_
       rotate_left
       · (intro ww hSw; (try dsimp only at hSw); go_simp; try (with_reducible rfl))
       try simp only [Act.put, List.setIfInBounds_toArray, List.set_cons_zero, List.set_cons_succ]
       refine wpAnyH_done (by kernel_rfl) ?_ _
       refine NoPanic.normal ?_
       have hjl : js5.length = (resH cs al k).2.length := by have := congrArg List.length hj5; simpa using this
       have hjl2 : js5.length ≤ 2 := by
         rw [hjl]
         have h1 := (gotH_ok HOKL.out (al := al) (i := k)).1
         unfold gotH at h1
         rwa [List.length_map] at h1
       have HJG : Hid (js5.map (·.1) = gotH cs al k) := by rw [HGT.out]; exact Lib.hid hj5
       have HO5 := Lib.hid ((HO.out.ext HED.out).exc hX5 HG4.out HR4.out)
       have HA5 := Lib.hid (ha5.base (B' := w4.heap.size) (Nat.le_trans HXD.out.size (Ext.size (by (repeat (first | with_reducible assumption | with_reducible exact Ext.refl _ | with_reducible apply Ext.alloc | with_reducible apply Ext.drew)); first | done | fail))))
       have HN5 := Lib.hid hN5
       have HX5 := Lib.hid (HXD.out.trans hX5)
       have HMS5 := Lib.hid HMS.out
       obtain ⟨od, hod⟩ : ∃ o, (resH cs al k).1 = o := ⟨_, rfl⟩
       rw [hod] at HMS5 ⊢
       obtain ⟨n0, hn0⟩ : ∃ n, cntP (heldH cs al (bitB pk) k) = n := ⟨_, rfl⟩
       rw [hn0] at hoc ⊢
       have HN0 := Lib.hid hn0
       iterate 6 (try clear hHeld)
       clear hj5 ha5 hN5 hE5 hX5 hod hn0 HND HXD HST HMS HGT c3 c5 KB CS hjl
       cases hbb : bitB pk k with
       | true =>
         as_aux_lemma =>
         have hbt : (bits BinOp.and IntKind.u8 (pk / 2 ^ (k % 8)) 1 == 1) = true := hbb
         have HHD : Hid (heldH cs al (bitB pk) (k + 1) = heldH cs al (bitB pk) k ++ [(msgH cs al k, gotH cs al k)]) := Lib.hid (by rw [heldH, if_pos hbb])
         have HNN2 : Hid (cntP (heldH cs al (bitB pk) (k + 1)) = n0 + js5.length) := Lib.hid (by
           rw [HHD.out, ← HN0.out]
           unfold cntP
           rw [List.map_append, List.sum_append, ← HJG.out]
           simp)
         have hcw : IntKind.i64.wrap ((n0 : Int) + (js5.length : Int)) = ((n0 + js5.length : Nat) : Int) := by rw [IntWalk.i64_in _ (by omega)]; omega
         have hcw' : wrap64 ((n0 : Int) + (js5.length : Int)) = ((n0 + js5.length : Nat) : Int) := by rw [IntWalk.wrap64_in _ (by omega)]; omega
         clear hbb
         go_wp2_with (at_builtin; go_loud (refine wappB el23 rfl (.tmp 102) (.tmp 109) rfl (B := w4.heap.size) (vs := os.map encH) (us := [encH ((f, t, od), js5, .slice A5 js5.length cz5)]) rfl (Nat.le_trans HX5.out.size ((Ext.refl w5).alloc _).size) (HO5.out.row.ext ((Ext.refl _).alloc _)) rfl rfl (Wide.one rfl) (vs1n (by simp)) one_encH (by rw [List.length_map, List.length_singleton]; omega) (by rw [List.length_map, List.length_singleton]; omega) ?_; intro v6 w6 hr6 hg6 hb6; have HQ := Lib.hid (HsOwn.app (m := (f, t, od)) (qs := js5) (av := .slice A5 js5.length cz5) HO5.out ((Ext.refl _).alloc _) HX5.out.size (HA5.out.row.ext ((Ext.refl _).alloc _)) (fun j hj => (HA5.out.args j hj).ext ((Ext.refl _).alloc _)) hr6 hg6 hb6).1; have HNX := Lib.hid (Net.grown HN4.out (HN5.out.ext ((Ext.refl w5).alloc _)) (HX5.out.trans (((Ext.refl w5).alloc _).exc g r)) hg6 (fun i hi => (HO5.out.row.lt i hi).1)); clear hr6 hg6 hb6))
         exact ⟨⟨k + 1, os ++ [((f, t, od), js5, .slice A5 js5.length cz5)], _, by omega, rfl, by rw [HNN2.out, Int.natCast_add], by go_num, by rw [List.map_append, HOS.out, HHD.out, HMS5.out, ← HJG.out]; rfl, HQ.out, HNX.out.1, HNX.out.2⟩, by simp [intOf]; omega⟩
       | false =>
         as_aux_lemma =>
         have hbt : (bits BinOp.and IntKind.u8 (pk / 2 ^ (k % 8)) 1 == 1) = false := hbb
         have HHD : Hid (heldH cs al (bitB pk) (k + 1) = heldH cs al (bitB pk) k) := Lib.hid (by rw [heldH, if_neg (by rw [hbb]; decide), List.append_nil])
         clear hbb
         go_wp2_with fail
         exact ⟨⟨k + 1, os, _, by omega, rfl, by rw [HHD.out, HN0.out], by go_num, by rw [HHD.out]; exact HOS.out, HO5.out, HN5.out, HX5.out⟩, by simp [intOf]; omega⟩
     · obtain rfl : k = N := by omega
       rcases HNN.out with h1 | ⟨h1, h2⟩
       · subst h1
         go_wp2_with fail
         go_meet
         exact ⟨os, _, rfl, rfl, HOS.out, HO.out, HX.out⟩
       · subst h2
         go_wp2_with fail
         go_meet
         exact ⟨os, _, rfl, rfl, HOS.out, HO.out, HX.out⟩
  case rest =>
    obtain ⟨os, v, rfl, rfl, hos, hO, hX⟩ := hcut
    have HOS := Lib.hid hos
    have HO := Lib.hid hO
    have HX := Lib.hid hX
    have HER := Lib.hid (held_errF HOKL.out hN12 hos)
    have HLO : Hid (os.length = (heldH cs al (bitB pk) N).length) := Lib.hid (by rw [← hos, List.length_map])
    have hol : os.length ≤ 12 := by rw [HLO.out]; exact Nat.le_trans (heldH_len N) hN12
    obtain ⟨At, ct, et, -, -⟩ := hO.row.form
    rw [List.length_map] at et
    subst et
    obtain ⟨n0, hn0⟩ : ∃ n, cntP (heldH cs al (bitB pk) N) = n := ⟨_, rfl⟩
    rw [hn0]
    have HN0 := Lib.hid hn0
    have n0c : wc.cell? ⟨w2.heap.size, 0, none⟩ = some (.slice Al cs.length cl) := (cell_kept (HX.out.block _ HZ4.out NGZ.out.1 NGZ.out.2)).trans ND4.out
    have CN := Lib.hid (newSet_any cs (.slice Al cs.length cl) wc (HRC4.out.exc HX.out).now HOKL.out HC50.out)
    have HXE := Lib.hid (HX.out.ext HE4.out hgw hrw)
    clear hos hO hX hn0 N4 HN4
    go_wp2_with fail
    refine CN.out.mono ?_
    rintro e7 w7 ⟨t7, rfl, hr7, hE7⟩
    obtain ⟨A7, c7, e7, -, -⟩ := hr7.form
    rw [List.length_map] at e7
    subst e7
    have HR7 := Lib.hid hr7
    have HE7 := Lib.hid hE7
    clear hr7 hE7 CN n0c
    go_upto_region 17 with fail
    generalize hw8 : w7.alloc _ = w8
    have hE8 : Ext w7 w8 := by rw [← hw8]; exact (Ext.refl _).alloc _
    have t0 : w8.cell? ⟨w7.heap.size, 0, none⟩ = some (.slice A7 cs.length c7) := by rw [← hw8]; exact new_at _ _ _ 0 _ rfl
    have HE8 := Lib.hid (HE7.out.trans hE8)
    have HR8 := Lib.hid (HR7.out.ext hE8)
    have HO8 := Lib.hid (HsOwn.ext HO.out (HE7.out.trans hE8))
    have HX8 := Lib.hid (HXE.out.trans (HE7.out.trans hE8))
    have HT0 := Lib.hid t0
    have CM := Lib.hid (new14_any A7 cs.length c7 os (.slice At os.length ct) w8 HO8.out.hs)
    clear hw8 hE8 HR7
    go_wp2_with fail
    refine CM.out.mono ?_
    rintro e9 w9 (⟨g2, r2, nv, os2, rfl, -, hg2, hr2, hgr2, hblk, hmk, hos2, hpl2, hE9⟩ | ⟨rfl, hne, -⟩)
    · have HPL := Lib.hid (hpl2.trans HOS.out)
      have HVO := Lib.hid (valid_pl hpl2 HER.out.2)
      have HL2 : Hid (os2.length ≤ 16) := Lib.hid (by have h1 := congrArg List.length hpl2; simp only [List.length_map] at h1; omega)
      have N9 := Lib.hid (show Net w9 g2 r2 (.slice A7 cs.length c7) nv cs os2 St0 from ⟨hblk, ⟨[], hmk, by simp⟩, fun W hW => (HR8.out.ext (hW.ext hE9 hg2 hr2)).sl, fun W hW => (hos2.kept fun i hi1 hi2 => hW.block i hi2 (by omega) (by omega)).hs, by omega⟩)
      have HG2 : Hid (w8.heap.size ≤ g2 ∧ w8.heap.size ≤ r2 ∧ g2 < w9.heap.size ∧ r2 < w9.heap.size) := Lib.hid ⟨hg2, hr2, N9.out.lt, N9.out.rlt⟩
      have HE9 := Lib.hid hE9
      have t9 := hE9.cell t0
      have CH := Lib.hid (held15_any g2 nv os2 w9 (blkOf_cell (by rw [N9.out.blk]; exact NV_1)) N9.out.ho.now HL2.out HVO.out)
      clear hg2 hr2 hgr2 hblk hmk hos2 hpl2 hE9 CM t0
      go_wp2_with fail
      refine CH.out.mono ?_
      rintro e10 w10 ⟨v10, l, rfl, hT10, hp10, -, hE10⟩
      have hll : l.length = n0 := by
        have h1 := hp10.length_eq
        rw [List.length_map, List.length_map, timS_cnt, HPL.out, HN0.out] at h1
        exact h1
      obtain ⟨A10, c10, e10, -, -⟩ := hT10.row.form
      rw [List.length_map, hll] at e10
      subst e10
      have HE10 := Lib.hid hE10
      have t10 := hE10.cell t9
      have CM2 := Lib.hid (new14_any A7 cs.length c7 [] nilS w10 (hsNil _))
      have te : (n0 != n0) = false := by simp
      clear hT10 hp10 hll hE10 CH t9
      go_wp2_with fail
      refine CM2.out.mono ?_
      rintro e11 w11 (⟨g3, r3, nv3, os3, rfl, -, hg3, hr3, hgr3, hblk3, hmk3, hos3, hpl3, hE11⟩ | ⟨rfl, hne, -⟩)
      · obtain rfl : os3 = [] := by simpa using hpl3
        have HH3 := Lib.hid (fun W => hs_nil (W := W) hos3.hs)
        have HB8 : Hid (w8.heap.size ≤ g3 ∧ w8.heap.size ≤ r3 ∧ w9.heap.size ≤ g3 ∧ w9.heap.size ≤ r3) := Lib.hid (by have h1 := HE9.out.size; have h2 := HE10.out.size; omega)
        have HCV := Lib.hid (fun W (hW : Ext w8 W) => (HR8.out.ext hW).sl)
        have N3 := Lib.hid (show Net w11 g3 r3 (.slice A7 cs.length c7) nv3 cs [] St0 from ⟨hblk3, ⟨[], hmk3, by simp⟩, fun W hW => HCV.out W (hW.ext (HE9.out.trans (HE10.out.trans hE11)) HB8.out.1 HB8.out.2.1), fun W hW => HH3.out W, by omega⟩)
        have N2 := Lib.hid (N9.out.ext (HE10.out.trans hE11))
        have HE11 := Lib.hid (HE10.out.trans hE11)
        have NE : Hid (g2 ≠ g3 ∧ g2 ≠ r3 ∧ r2 ≠ g3 ∧ r2 ≠ r3) := Lib.hid (by have h1 := HG2.out; have h2 := HB8.out; omega)
        have HW9 := Lib.hid (HX8.out.trans HE9.out)
        have hw2 : w.heap.size ≤ g2 ∧ w.heap.size ≤ r2 := by have h1 := HG2.out; have h2 := HX8.out.size; omega
        obtain ⟨hw2g, hw2r⟩ := hw2
        clear hg3 hr3 hgr3 hblk3 hmk3 hos3 hpl3 hE11 CM2 t10
        go_wp2_with fail
        go_loopw [25, 26] (fun h i wr => ∃ j : Nat, j ≤ N ∧ h = iV ((heldH cs al (bitB pk) j).length : Int) ∧ i = iV (j : Int) ∧ Net wr g2 r2 (.slice A7 cs.length c7) nv cs os2 (st2 cs os2 al j) ∧ Net wr g3 r3 (.slice A7 cs.length c7) nv3 cs [] (stH cs al j) ∧ Exc g2 r2 w9 wr) (fun _ i _ => al.length - (intOf i).toNat)
        case atStart => exact ⟨0, by omega, rfl, rfl, N2.out, N3.out, HE11.out.exc _ _⟩
        case round =>
          obtain ⟨k, hkN, rfl, rfl, hN2, hN3, hX⟩ := hrel
          obtain ⟨wo, rfl⟩ : ∃ wo, wo = wr := ⟨_, rfl⟩
          have HN2 := Lib.hid hN2
          have HN3 := Lib.hid hN3
          have HX := Lib.hid hX
          have hk12 : k ≤ 12 := by omega
          clear hN2 hN3 hX N2 N3
          by_cases hlt : k < N
          · have hka : k < al.length := by omega
            have hk2 : k < 12 := by omega
            obtain ⟨b, o, rfl, hb, cR⟩ := HR.out wo (HX.out.ext HW9.out hw2g hw2r) k hka (by omega)
            have hag := acAt_args HA.out hka
            obtain ⟨x, hx⟩ : ∃ x, al.getD k Ac0 = x := ⟨_, rfl⟩
            rw [encA_at hka x hx] at cR
            have hac : acAt al k = x.1 := congrArg Prod.fst hx
            rw [hac, hx] at hag
            obtain ⟨⟨kd, aa, ab, an, act, args⟩, av⟩ := x
            simp only [] at hag hac
            have HAC := Lib.hid hac
            obtain ⟨A0, c0, e0, h0, -, -⟩ := hag.at_
            rw [List.length_map] at e0 h0
            subst e0
            have HAG := Lib.hid hag
            have r3a := modF_range (a := aa) (n := 3) (by omega)
            have r3b := modF_range (a := ab) (n := 3) (by omega)
            have r20 := modF_range (a := an) (n := 20) (by omega)
            have r5 := modF_range (a := act) (n := 5) (by omega)
            have M3a := Lib.hid (fun W => mod_any aa 3 W (by omega) (by omega))
            have M3b := Lib.hid (fun W => mod_any ab 3 W (by omega) (by omega))
            have M20 := Lib.hid (fun W => mod_any an 20 W (by omega) (by omega))
            have M5 := Lib.hid (fun W => mod_any act 5 W (by omega) (by omega))
            have M8 := Lib.hid (fun W => mod_any an 8 W (by omega) (by omega))
            have HST3 : Hid (sendF cs [] (modF aa 3) (modF ab 3) (modF an 20) (1 + modF act 5) (stH cs al k) = (stH cs al (k + 1), (resH cs al k).1, (resH cs al k).2)) := Lib.hid (by unfold resH; rw [stH, hac]; rfl)
            have HST2 : Hid (sendF cs os2 (modF aa 3) (modF ab 3) (modF an 20) (1 + modF act 5) (st2 cs os2 al k) = (st2 cs os2 al (k + 1), (resH cs al k).1, if bitB pk k then [] else (resH cs al k).2)) := Lib.hid (by
              have h := st2_res HPL.out hlt
              have h0 : sendF cs os2 (modF aa 3) (modF ab 3) (modF an 20) (1 + modF act 5) (st2 cs os2 al k) = sendH cs os2 (acAt al k) (st2 cs os2 al k) := by rw [hac]; rfl
              rw [h0]
              refine Prod.ext rfl ?_
              rw [h]
              cases bitB pk k <;> rfl)
            obtain ⟨mm, hmm⟩ : ∃ mm, min args.length 4 = mm := ⟨_, rfl⟩
            have HGT : Hid (gotH cs al k = (resH cs al k).2.map fun t => (t, modF an 8, args.take mm)) := Lib.hid (by unfold gotH argH; rw [hac, ← hmm])
            obtain ⟨f, ef⟩ : ∃ m, modF aa 3 = m := ⟨_, rfl⟩
            obtain ⟨t, et⟩ : ∃ m, modF ab 3 = m := ⟨_, rfl⟩
            obtain ⟨tk, etk⟩ : ∃ m, modF an 20 = m := ⟨_, rfl⟩
            obtain ⟨m5, em5⟩ : ∃ m, modF act 5 = m := ⟨_, rfl⟩
            obtain ⟨h8, eh8⟩ : ∃ m, modF an 8 = m := ⟨_, rfl⟩
            rw [ef] at r3a M3a HST2 HST3
            rw [et] at r3b M3b HST2 HST3
            rw [etk] at r20 M20 HST2 HST3
            rw [em5] at r5 M5 HST2 HST3
            rw [eh8] at M8 HGT
            obtain ⟨la, hla⟩ : ∃ l, 1 + m5 = l := ⟨_, rfl⟩
            have hwl : IntKind.i64.wrap (1 + m5) = la := by rw [hla]; exact IntWalk.i64_in _ (by omega)
            have hwl' : wrap64 (1 + m5) = la := by rw [hla]; exact IntWalk.wrap64_in _ (by omega)
            rw [hla] at HST2 HST3
            obtain ⟨r20a, r20b⟩ := r20
            have hlb : 1 ≤ la ∧ la ≤ 5 := by omega
            obtain ⟨lb1, lb2⟩ := hlb
            have hmin : min ((args.length : Nat) : Int) 4 = (mm : Int) := by omega
            have hm0 : 0 ≤ (mm : Int) := by omega
            have hml : mm ≤ args.length := by omega
            have hmc : (mm : Int) ≤ c0 := by omega
            have HTL : Hid ((args.take mm).length = mm) := Lib.hid (by rw [List.length_take]; omega)
            have HAT : Hid (∀ W, Ext w W → ArgsAt W (.slice A0 mm c0) (args.take mm)) := Lib.hid (fun W hW => argsTake (ArgsAt.ext HAG.out hW) hml)
            have a0 := cR 0 _ (by omega) rfl
            have a1 := cR 1 _ (by omega) rfl
            have a2 := cR 2 _ (by omega) rfl
            have a3 := cR 3 _ (by omega) rfl
            have a4 := cR 4 _ (by omega) rfl
            have a5 := cR 5 _ (by omega) rfl
            rw [Nat.add_zero] at a0
            clear cR hag hac hx ef et etk em5 eh8 hla hmm r3a r3b r5 h0
            go_upto_region 26 with fail
            generalize hwC : wo.alloc _ = wC
            have hEC : Ext wo wC := by rw [← hwC]; exact (Ext.refl _).alloc _
            have c1 : wC.cell? ⟨wo.heap.size, 1, none⟩ = some (iV aa) := by rw [← hwC]; exact new_at _ _ _ 1 _ rfl
            have c2 : wC.cell? ⟨wo.heap.size, 2, none⟩ = some (iV ab) := by rw [← hwC]; exact new_at _ _ _ 2 _ rfl
            have c3 : wC.cell? ⟨wo.heap.size, 3, none⟩ = some (iV an) := by rw [← hwC]; exact new_at _ _ _ 3 _ rfl
            have c4 : wC.cell? ⟨wo.heap.size, 4, none⟩ = some (iV act) := by rw [← hwC]; exact new_at _ _ _ 4 _ rfl
            have c5 : wC.cell? ⟨wo.heap.size, 5, none⟩ = some (.slice A0 args.length c0) := by rw [← hwC]; exact new_at _ _ _ 5 _ rfl
            have hzC : wo.heap.size < wC.heap.size := by rw [← hwC]; simp
            have HEC := Lib.hid hEC
            clear hwC hEC a0 a1 a2 a3 a4 a5
            refine wp_region_noPanic ?_
            refine wp_region_held_drew (S := (fun ww => ww = wC.drew)) (by kernel_rfl) ?_ (fun hHeld => ?_)
            · rfl
            refine wpAnyH_take (i := 0) (v := ?_) (oper_at rfl) (by kernel_rfl) (by kernel_rfl) (by kernel_rfl) (fun _ _ _ h => h) (Or.inl ⟨by rfl, ?_⟩) hHeld ?_
            rotate_left
            · (intro ww hSw; (try dsimp only at hSw); go_simp; try (with_reducible rfl))
            try simp only [Act.put, List.setIfInBounds_toArray, List.set_cons_zero, List.set_cons_succ]
            refine wpAnyH_take (i := 1) (v := ?_) (oper_at rfl) (by kernel_rfl) (by kernel_rfl) (by kernel_rfl) (fun _ _ _ h => h) (Or.inl ⟨by rfl, ?_⟩) hHeld ?_
            rotate_left
            · (intro ww hSw; (try dsimp only at hSw); go_simp; try (with_reducible rfl))
            try simp only [Act.put, List.setIfInBounds_toArray, List.set_cons_zero, List.set_cons_succ]
            refine wpAnyH_take (i := 3) (v := ?_) (oper_at rfl) (by kernel_rfl) (by kernel_rfl) (by kernel_rfl) (fun _ _ _ h => h) (Or.inl ⟨by rfl, ?_⟩) hHeld ?_
            rotate_left
            · (intro ww hSw; (try dsimp only at hSw); go_simp; try (with_reducible rfl))
            try simp only [Act.put, List.setIfInBounds_toArray, List.set_cons_zero, List.set_cons_succ]
            refine wpAnyH_take (i := 4) (v := ?_) (oper_at rfl) (by kernel_rfl) (by kernel_rfl) (by kernel_rfl) (fun _ _ _ h => h) (Or.inl ⟨by rfl, ?_⟩) hHeld ?_
            rotate_left
            · (intro ww hSw; (try dsimp only at hSw); go_simp; try (with_reducible rfl))
            try simp only [Act.put, List.setIfInBounds_toArray, List.set_cons_zero, List.set_cons_succ]
            refine wpAnyH_take (i := 6) (v := ?_) (oper_at rfl) (by kernel_rfl) (by kernel_rfl) (by kernel_rfl) (fun _ _ _ h => h) (Or.inl ⟨by rfl, ?_⟩) hHeld ?_
            rotate_left
            · (intro ww hSw; (try dsimp only at hSw); go_simp; try (with_reducible rfl))
            try simp only [Act.put, List.setIfInBounds_toArray, List.set_cons_zero, List.set_cons_succ]
            refine wpAnyH_take (i := 7) (v := ?_) (oper_at rfl) (by kernel_rfl) (by kernel_rfl) (by kernel_rfl) (fun _ _ _ h => h) (Or.inl ⟨by rfl, ?_⟩) hHeld ?_
            rotate_left
            · (intro ww hSw; (try dsimp only at hSw); go_simp; try (with_reducible rfl))
            try simp only [Act.put, List.setIfInBounds_toArray, List.set_cons_zero, List.set_cons_succ]
            refine wpAnyH_take (i := 9) (v := ?_) (oper_at rfl) (by kernel_rfl) (by kernel_rfl) (by kernel_rfl) (fun _ _ _ h => h) (Or.inl ⟨by rfl, ?_⟩) hHeld ?_
            rotate_left
            · (intro ww hSw; (try dsimp only at hSw); go_simp; try (with_reducible rfl))
            try simp only [Act.put, List.setIfInBounds_toArray, List.set_cons_zero, List.set_cons_succ]
            refine wpAnyH_take (i := 10) (v := ?_) (oper_at rfl) (by kernel_rfl) (by kernel_rfl) (by kernel_rfl) (fun _ _ _ h => h) (Or.inl ⟨by rfl, ?_⟩) hHeld ?_
            rotate_left
            · (intro ww hSw; (try dsimp only at hSw); go_simp; try (with_reducible rfl))
            try simp only [Act.put, List.setIfInBounds_toArray, List.set_cons_zero, List.set_cons_succ]
            refine wpAnyH_ready (rs := [2]) (by kernel_rfl) (by simp) (AllReadyH.cons (oper_at rfl) (fun K hK => ?_) AllReadyH.nil)
            go_simp
            go_at_call 11
            refine (M3a.out _).mono ?_
            rintro em wm ⟨rfl, rfl⟩
            refine hK.out _ _ ?_ (fun hHeld => ?_)
            · rfl
            clear hK K
            try simp only [Act.put, List.setIfInBounds_toArray, List.set_cons_zero, List.set_cons_succ]
            refine wpAnyH_ready (rs := [5]) (by kernel_rfl) (by simp) (AllReadyH.cons (oper_at rfl) (fun K hK => ?_) AllReadyH.nil)
            go_simp
            go_at_call 11
            refine (M3b.out _).mono ?_
            rintro em wm ⟨rfl, rfl⟩
            refine hK.out _ _ ?_ (fun hHeld => ?_)
            · rfl
            clear hK K
            try simp only [Act.put, List.setIfInBounds_toArray, List.set_cons_zero, List.set_cons_succ]
            refine wpAnyH_ready (rs := [8]) (by kernel_rfl) (by simp) (AllReadyH.cons (oper_at rfl) (fun K hK => ?_) AllReadyH.nil)
            go_simp
            go_at_call 11
            refine (M20.out _).mono ?_
            rintro em wm ⟨rfl, rfl⟩
            refine hK.out _ _ ?_ (fun hHeld => ?_)
            · rfl
            clear hK K
            try simp only [Act.put, List.setIfInBounds_toArray, List.set_cons_zero, List.set_cons_succ]
            refine wpAnyH_ready (rs := [11]) (by kernel_rfl) (by simp) (AllReadyH.cons (oper_at rfl) (fun K hK => ?_) AllReadyH.nil)
            go_simp
            go_at_call 11
            refine (M5.out _).mono ?_
            rintro em wm ⟨rfl, rfl⟩
            refine hK.out _ _ ?_ (fun hHeld => ?_)
            · rfl
            clear hK K
            try simp only [Act.put, List.setIfInBounds_toArray, List.set_cons_zero, List.set_cons_succ]
            refine wpAnyH_take (i := 12) (v := ?_) (oper_at rfl) (by kernel_rfl) (by kernel_rfl) (by kernel_rfl) (fun _ _ _ h => h) (Or.inl ⟨by rfl, ?_⟩) hHeld ?_
            rotate_left
            · (intro ww hSw; (try dsimp only at hSw); go_simp; try (with_reducible rfl))
            try simp only [Act.put, List.setIfInBounds_toArray, List.set_cons_zero, List.set_cons_succ]
            refine wpAnyH_take (i := 13) (v := ?_) (oper_at rfl) (by kernel_rfl) (by kernel_rfl) (by kernel_rfl) (fun _ _ _ h => h) (Or.inl ⟨by rfl, ?_⟩) hHeld ?_
            rotate_left
            · (intro ww hSw; (try dsimp only at hSw); go_simp; try (with_reducible rfl))
            try simp only [Act.put, List.setIfInBounds_toArray, List.set_cons_zero, List.set_cons_succ]
            refine wpAnyH_take (i := 14) (v := ?_) (oper_at rfl) (by kernel_rfl) (by kernel_rfl) (by kernel_rfl) (fun _ _ _ h => h) (Or.inl ⟨by rfl, ?_⟩) hHeld ?_
            rotate_left
            · (intro ww hSw; (try dsimp only at hSw); go_simp; try (with_reducible rfl))
            try simp only [Act.put, List.setIfInBounds_toArray, List.set_cons_zero, List.set_cons_succ]
            refine wpAnyH_take (i := 15) (v := ?_) (oper_at rfl) (by kernel_rfl) (by kernel_rfl) (by kernel_rfl) (fun _ _ _ h => h) (Or.inl ⟨by rfl, ?_⟩) hHeld ?_
            rotate_left
            · (intro ww hSw; (try dsimp only at hSw); go_simp; try (with_reducible rfl))
            try simp only [Act.put, List.setIfInBounds_toArray, List.set_cons_zero, List.set_cons_succ]
            refine wpAnyH_take (i := 16) (v := ?_) (oper_at rfl) (by kernel_rfl) (by kernel_rfl) (by kernel_rfl) (fun _ _ _ h => h) (Or.inl ⟨by rfl, ?_⟩) hHeld ?_
            rotate_left
            · (intro ww hSw; (try dsimp only at hSw); go_simp; try (with_reducible rfl))
            try simp only [Act.put, List.setIfInBounds_toArray, List.set_cons_zero, List.set_cons_succ]
            refine wpAnyH_done (by kernel_rfl) ?_ _
            refine NoPanic.normal ?_
            generalize hwD : wC.drew = wD
            have hED : Ext wC wD := by rw [← hwD]; exact (Ext.refl _).drew
            replace c3 := hED.cell c3
            replace c5 := hED.cell c5
            have HED := Lib.hid (HEC.out.trans hED)
            have HND2 := Lib.hid (HN2.out.ext HED.out)
            have HND3 := Lib.hid (HN3.out.ext HED.out)
            have NG : Hid (wo.heap.size ≠ g2 ∧ wo.heap.size ≠ r2) := Lib.hid (by have h1 := HN2.out.lt; have h2 := HN2.out.rlt; omega)
            have HXD := Lib.hid (HX.out.trans (HED.out.exc g2 r2))
            have HZD : Hid (wo.heap.size < wD.heap.size) := Lib.hid (Nat.lt_of_lt_of_le hzC hED.size)
            clear hwD hED c1 c2 c4 HEC hzC
            iterate 6 (try clear hHeld)
            obtain ⟨od, hod⟩ : ∃ o, (resH cs al k).1 = o := ⟨_, rfl⟩
            obtain ⟨ts, hts⟩ : ∃ o, (resH cs al k).2 = o := ⟨_, rfl⟩
            rw [hod, hts] at HST2 HST3
            rw [hts] at HGT
            have CS2 : Hid (Calls Try.prog 12 #[.pointer (some ⟨g2, 0, none⟩), iV f, iV t, iV h8, .slice A0 mm c0, iV tk, iV la] wD (RetSd g2 r2 (.slice A7 cs.length c7) nv cs os2 (st2 cs os2 al (k + 1)) od (if bitB pk k then [] else ts) h8 (args.take mm) wD)) := Lib.hid (by
              have h := send12_any g2 r2 (.slice A7 cs.length c7) nv cs os2 (st2 cs os2 al k) f t h8 tk la (args.take mm) (.slice A0 mm c0) wD HND2.out HASC.out HCL.out (st2_bd (by omega)) HSM.out (by omega) (by omega) (by omega) (by omega) (fun W2 hW2 => HAT.out W2 (hW2.ext (HXD.out.ext HW9.out hw2g hw2r) hw2g hw2r)) (by rw [HTL.out]; omega)
              rw [HST2.out] at h
              exact h)
            clear hod hts
            go_wp2_with fail
            refine (M8.out _).mono ?_
            rintro em wm ⟨rfl, rfl⟩
            go_wp2_with fail
            refine CS2.out.mono ?_
            rintro e5 w5 ⟨v5, js5, rfl, hj5, ha5, hN5, hE5⟩
            obtain ⟨A5, cz5, e5, -, -⟩ := ha5.row.form
            rw [List.length_map] at e5
            subst e5
            have d3 : w5.cell? ⟨wo.heap.size, 3, none⟩ = some (iV an) := (cell_kept (hE5.block _ HZD.out NG.out.1 NG.out.2)).trans c3
            have HX5 := Lib.hid (HXD.out.trans hE5)
            have hw5 : Ext w8 w5 := HX5.out.ext HE9.out HG2.out.1 HG2.out.2.1
            have hwb := HB8.out
            have N35 := Lib.hid (Net.side HND3.out (hE5.block _ HND3.out.lt (fun e => NE.out.1 e.symm) (fun e => NE.out.2.2.1 e.symm)) (hE5.block _ HND3.out.rlt (fun e => NE.out.2.1 e.symm) (fun e => NE.out.2.2.2 e.symm)) (fun W hW => HCV.out W (hW.ext hw5 hwb.1 hwb.2.1)) (fun W hW => HH3.out W))
            have CS3 : Hid (Calls Try.prog 12 #[.pointer (some ⟨g3, 0, none⟩), iV f, iV t, iV h8, .slice A0 mm c0, iV tk, iV la] w5 (RetSd g3 r3 (.slice A7 cs.length c7) nv3 cs [] (stH cs al (k + 1)) od ts h8 (args.take mm) w5)) := Lib.hid (by
              have hwa : Ext w w5 := HX5.out.ext HW9.out hw2g hw2r
              have h := send12_any g3 r3 (.slice A7 cs.length c7) nv3 cs [] (stH cs al k) f t h8 tk la (args.take mm) (.slice A0 mm c0) w5 N35.out HASC.out HCL.out (stH_bd (by omega)) HSM.out (by omega) (by omega) (by omega) (by omega) (fun W2 hW2 => HAT.out W2 (hW2.ext hwa (by have := HX8.out.size; omega) (by have := HX8.out.size; omega))) (by rw [HTL.out]; omega)
              rw [HST3.out] at h
              exact h)
            have HJ5 := Lib.hid hj5
            have HA5 := Lib.hid ha5
            have HN5 := Lib.hid hN5
            clear hj5 ha5 hN5 hE5 CS2 c3 c5 hw5 hwb
            go_wp2_with fail
            refine (M8.out _).mono ?_
            rintro em wm ⟨rfl, rfl⟩
            go_wp2_with fail
            refine CS3.out.mono ?_
            rintro e6 w6 ⟨v6, js6, rfl, hj6, ha6, hN6, hE6⟩
            obtain ⟨A6, cz6, e6, -, -⟩ := ha6.row.form
            rw [List.length_map] at e6
            subst e6
            have HX6 := Lib.hid (Exc.over2 HX5.out hE6 HB8.out.2.2.1 HB8.out.2.2.2)
            have N26 := Lib.hid (Net.side HN5.out (hE6.block _ HN5.out.lt NE.out.1 NE.out.2.1) (hE6.block _ HN5.out.rlt NE.out.2.2.1 NE.out.2.2.2) (N9.out.ch.exc HX6.out) (N9.out.ho.exc HX6.out))
            have N36 := Lib.hid hN6
            have HA56 := Lib.hid (HA5.out.exc hE6 HND3.out.lt HND3.out.rlt)
            have HA6 := Lib.hid ha6
            have HE86 := Lib.hid (HX6.out.ext HE9.out HG2.out.1 HG2.out.2.1)
            have HJ6 : Hid (js6.map (·.1) = gotH cs al k) := by rw [HGT.out]; exact Lib.hid hj6
            have hl6 : js6.length ≤ 2 := by
              have h1 := (gotH_ok HOKL.out (al := al) (i := k)).1
              rw [← HJ6.out, List.length_map] at h1
              exact h1
            clear hj6 ha6 hN6 hE6 CS3 d3
            obtain ⟨h0, hh0⟩ : ∃ h, (heldH cs al (bitB pk) k).length = h := ⟨_, rfl⟩
            have HH0 := Lib.hid hh0
            rw [hh0]
            clear hh0
            go_upto_if 210 with fail
            go_cut [25, 34] (fun h gt wx => ∃ (qs : List Ja) (v : Value), h = iV ((heldH cs al (bitB pk) (k + 1)).length : Int) ∧ gt = v ∧ qs.map (·.1) = gotH cs al k ∧ (∀ W, Ext w6 W → JaAt W v qs) ∧ wx = w6)
            case first =>
              cases hbb : bitB pk k with
              | true =>
                as_aux_lemma =>
                have hbt : (bits BinOp.and IntKind.u8 (pk / 2 ^ (k % 8)) 1 == 1) = true := hbb
                obtain rfl : js5 = [] := by
                  have h := HJ5.out
                  rw [hbb] at h
                  simpa using h
                have hat := heldH_at (cs := cs) (al := al) hbb hlt
                rw [HH0.out, ← HOS.out] at hat
                obtain ⟨hho, hpx⟩ := List.getElem?_eq_some_iff.1 hat
                rw [List.length_map] at hho
                rw [List.getElem_map] at hpx
                have HO6 := Lib.hid (HsOwn.ext HO8.out HE86.out)
                obtain ⟨Ao, co, eo, o1, o2, RO⟩ := HO6.out.row.sl.read
                rw [List.length_map, Value.slice.injEq] at eo
                obtain ⟨rfl, -, rfl⟩ := eo
                rw [List.length_map] at RO
                obtain ⟨bo, oo, rfl, hbo, cO⟩ := RO w6 (Ext.refl _) h0 hho (by omega)
                obtain ⟨x, hx⟩ : ∃ x, os.getD h0 Jh0 = x := ⟨_, rfl⟩
                rw [encH_at hho x hx] at cO
                have hxe : os[h0] = x := by rw [← hx, List.getD_eq_getElem?_getD, List.getElem?_eq_getElem hho]; rfl
                have hxm : x ∈ os := by rw [← hx]; exact getD_memH hho
                rw [hxe] at hpx
                have hjx := (HO6.out.hs.arr x hxm)
                obtain ⟨⟨x1, x2, x3⟩, qs, qv⟩ := x
                simp only [] at hjx
                have hq : qs.map (·.1) = gotH cs al k := congrArg Prod.snd hpx
                have hql : qs.length = js6.length := by have h1 := congrArg List.length (hq.trans HJ6.out.symm); simp only [List.length_map] at h1; exact h1
                obtain ⟨Aq, cq, eq, -, -, -⟩ := hjx.sl.read
                rw [List.length_map, hql] at eq
                subst eq
                have HJX := Lib.hid hjx
                have HQ := Lib.hid hq
                have HHL : Hid ((heldH cs al (bitB pk) (k + 1)).length = h0 + 1) := Lib.hid (by rw [heldH, if_pos hbb, List.length_append, HH0.out]; rfl)
                have p3 := cO 3 _ (by omega) rfl
                have i0 : (0 : Int) ≤ (h0 : Int) := by omega
                have i1 : (h0 : Int) < (os.length : Int) := by omega
                have te6 : (js6.length != js6.length) = false := by simp
                clear hbb hat hpx RO cO hx hxe hxm hjx hq hql o1 o2
                go_wp2_with fail
                go_meet
                exact ⟨qs, _, by rw [HHL.out]; go_num, rfl, HQ.out, fun W hW => HJX.out.ext hW, rfl⟩
              | false =>
                as_aux_lemma =>
                have hbt : (bits BinOp.and IntKind.u8 (pk / 2 ^ (k % 8)) 1 == 1) = false := hbb
                have HHL : Hid ((heldH cs al (bitB pk) (k + 1)).length = h0) := Lib.hid (by rw [heldH, if_neg (by rw [hbb]; decide), List.append_nil, HH0.out])
                have HQ : Hid (js5.map (·.1) = gotH cs al k) := Lib.hid (by
                  have h := HJ5.out
                  rw [hbb, if_neg (by decide)] at h
                  rw [HGT.out]
                  exact h)
                clear hbb
                go_wp2_with fail
                go_meet
                exact ⟨js5, _, by rw [HHL.out], rfl, HQ.out, fun W hW => HA56.out.ja.ext hW, rfl⟩
            case rest =>
              obtain ⟨qs, v, rfl, rfl, hqs, hja, rfl⟩ := hcut
              have hql : qs.length = js6.length := by have h1 := congrArg List.length (hqs.trans HJ6.out.symm); simp only [List.length_map] at h1; exact h1
              have HQJ : Hid (qs.map (·.1) = js6.map (·.1)) := Lib.hid (hqs.trans HJ6.out.symm)
              have HJA := Lib.hid hja
              obtain ⟨Aq, cq, eq, -, -, RQ⟩ := (hja wc (Ext.refl _)).sl.read
              rw [List.length_map, hql] at eq
              subst eq
              rw [List.length_map, hql] at RQ
              obtain ⟨Ar, cr, er, -, -, RR⟩ := HA6.out.row.sl.read
              rw [List.length_map, Value.slice.injEq] at er
              obtain ⟨rfl, -, rfl⟩ := er
              rw [List.length_map] at RR
              have HRQ := Lib.hid RQ
              have HRR := Lib.hid RR
              have HQL := Lib.hid hql
              have te6 : (js6.length != js6.length) = false := by simp
              have teo : (od != od) = false := by simp
              clear hqs hja RQ RR hql
              go_wp2_with fail
              go_loopw [244] (fun i wr => ∃ q : Nat, q ≤ js6.length ∧ i = iV (q : Int) ∧ Ext wc wr) (fun i _ => js6.length - (intOf i).toNat)
              case atStart => exact ⟨0, by omega, rfl, Ext.refl _⟩
              case round =>
                as_aux_lemma =>
                obtain ⟨q, hq, rfl, hXq⟩ := hrel
                obtain ⟨wx, rfl⟩ : ∃ wx, wx = wr := ⟨_, rfl⟩
                have HXq := Lib.hid hXq
                clear hXq
                by_cases hlt' : q < js6.length
                · obtain ⟨bL, oL, rfl, hbL, cL⟩ := HRQ.out wx HXq.out q hlt' (by omega)
                  obtain ⟨bR, oR, rfl, hbR, cR⟩ := HRR.out wx HXq.out q hlt' (by omega)
                  obtain ⟨x, hx⟩ : ∃ x, qs.getD q Ja0 = x := ⟨_, rfl⟩
                  obtain ⟨y, hy⟩ : ∃ y, js6.getD q Ja0 = y := ⟨_, rfl⟩
                  have hq' : q < qs.length := by rw [HQL.out]; exact hlt'
                  rw [encJ_at hq' x hx] at cL
                  rw [encJ_at hlt' y hy] at cR
                  have gx := (HJA.out wx HXq.out).args x (by rw [← hx]; exact getD_memJ hq')
                  have gy := (HA6.out.args y (by rw [← hy]; exact getD_memJ hlt')).sl
                  have hxy : x.1 = y.1 := by
                    have h1 := congrArg (fun l => l.getD q (0, 0, [])) HQJ.out
                    simp only [List.getD_eq_getElem?_getD, List.getElem?_map, List.getElem?_eq_getElem hq', List.getElem?_eq_getElem hlt', Option.map_some, Option.getD_some] at h1
                    rw [← hx, ← hy, List.getD_eq_getElem?_getD, List.getElem?_eq_getElem hq', List.getD_eq_getElem?_getD, List.getElem?_eq_getElem hlt']
                    exact h1
                  have ly : x.1.2.2.length ≤ 4 := by
                    have hm : x.1 ∈ gotH cs al k := by
                      rw [← HJ6.out, hxy]
                      exact List.mem_map.2 ⟨y, by rw [← hy]; exact getD_memJ hlt', rfl⟩
                    exact ((gotH_ok HOKL.out (al := al) (i := k)).2.1 _ hm).2.2.2
                  obtain ⟨⟨x1, x2, x3⟩, xv⟩ := x
                  obtain ⟨⟨y1, y2, y3⟩, yv⟩ := y
                  simp only [Prod.mk.injEq] at hxy gx gy ly
                  obtain ⟨rfl, rfl, rfl⟩ := hxy
                  obtain ⟨Bx, dx, ex, -, -, -⟩ := gx.at_
                  obtain ⟨By, dy, ey, -, -, -⟩ := gy.read
                  rw [List.length_map] at ex ey
                  subst ex
                  subst ey
                  have CA := Lib.hid (fun W (hW : Ext wx W) => sameArgs_ok _ _ _ W (ArgsAt.ext gx hW) (SlAt.ext gy (HXq.out.trans hW)) ly)
                  have a0 := cL 0 _ (by omega) rfl
                  have a1 := cL 1 _ (by omega) rfl
                  have a2 := cL 2 _ (by omega) rfl
                  have b0 := cR 0 _ (by omega) rfl
                  have b1 := cR 1 _ (by omega) rfl
                  have b2 := cR 2 _ (by omega) rfl
                  rw [Nat.add_zero] at a0 b0
                  have i0 : (0 : Int) ≤ (q : Int) := by omega
                  have i1 : (q : Int) < (js6.length : Int) := by omega
                  clear cL cR hx hy gx gy ly hq'
                  go_upto_region 40 with fail
                  refine wp_region_noPanic ?_
                  refine wp_region_held_drew (S := (fun w' => Ext wx w' ∧ ∀ b o, b < wx.heap.size → w'.cell? ⟨b, o, none⟩ = wx.cell? ⟨b, o, none⟩)) (by kernel_rfl) ?_ (fun hHeld => ?_)
                  · exact Ext.held (by repeat (first | assumption | exact Ext.refl _ | apply Ext.alloc | apply Ext.drew | apply Ext.drewN))
                  refine wpAnyH_take (i := 0) (v := ?_) (oper_at rfl) (by kernel_rfl) (by kernel_rfl) (by kernel_rfl) (fun _ _ _ h => h) (Or.inl ⟨by rfl, ?_⟩) hHeld ?_
                  rotate_left
                  · (intro ww hSw; (try dsimp only at hSw); go_simp; try (with_reducible rfl))
                  try simp only [Act.put, List.setIfInBounds_toArray, List.set_cons_zero, List.set_cons_succ]
                  refine wpAnyH_take (i := 1) (v := ?_) (oper_at rfl) (by kernel_rfl) (by kernel_rfl) (by kernel_rfl) (fun _ _ _ h => h) (Or.inl ⟨by rfl, ?_⟩) hHeld ?_
                  rotate_left
                  · (intro ww hSw; (try dsimp only at hSw); go_simp; try (with_reducible rfl))
                  try simp only [Act.put, List.setIfInBounds_toArray, List.set_cons_zero, List.set_cons_succ]
                  refine wpAnyH_take (i := 2) (v := ?_) (oper_at rfl) (by kernel_rfl) (by kernel_rfl) (by kernel_rfl) (fun _ _ _ h => h) (Or.inl ⟨by rfl, ?_⟩) hHeld ?_
                  rotate_left
                  · (intro ww hSw; (try dsimp only at hSw); go_simp; try (with_reducible rfl))
                  try simp only [Act.put, List.setIfInBounds_toArray, List.set_cons_zero, List.set_cons_succ]
                  refine wpAnyH_take (i := 3) (v := ?_) (oper_at rfl) (by kernel_rfl) (by kernel_rfl) (by kernel_rfl) (fun _ _ _ h => h) (Or.inl ⟨by rfl, ?_⟩) hHeld ?_
                  rotate_left
                  · (intro ww hSw; (try dsimp only at hSw); go_simp; try (with_reducible rfl))
                  try simp only [Act.put, List.setIfInBounds_toArray, List.set_cons_zero, List.set_cons_succ]
                  refine wpAnyH_take (i := 4) (v := ?_) (oper_at rfl) (by kernel_rfl) (by kernel_rfl) (by kernel_rfl) (fun _ _ _ h => h) (Or.inl ⟨by rfl, ?_⟩) hHeld ?_
                  rotate_left
                  · (intro ww hSw; (try dsimp only at hSw); go_simp; try (with_reducible rfl))
                  try simp only [Act.put, List.setIfInBounds_toArray, List.set_cons_zero, List.set_cons_succ]
                  refine wpAnyH_take (i := 5) (v := ?_) (oper_at rfl) (by kernel_rfl) (by kernel_rfl) (by kernel_rfl) (fun _ _ _ h => h) (Or.inl ⟨by rfl, ?_⟩) hHeld ?_
                  rotate_left
                  · (intro ww hSw; (try dsimp only at hSw); go_simp; try (with_reducible rfl))
                  try simp only [Act.put, List.setIfInBounds_toArray, List.set_cons_zero, List.set_cons_succ]
                  refine wpAnyH_take (i := 6) (v := ?_) (oper_at rfl) (by kernel_rfl) (by kernel_rfl) (by kernel_rfl) (fun _ _ _ h => h) (Or.inl ⟨by rfl, ?_⟩) hHeld ?_
                  rotate_left
                  · (intro ww hSw; (try dsimp only at hSw); go_simp; try (with_reducible rfl))
                  try simp only [Act.put, List.setIfInBounds_toArray, List.set_cons_zero, List.set_cons_succ]
                  refine wpAnyH_take (i := 7) (v := ?_) (oper_at rfl) (by kernel_rfl) (by kernel_rfl) (by kernel_rfl) (fun _ _ _ h => h) (Or.inl ⟨by rfl, ?_⟩) hHeld ?_
                  rotate_left
                  · (intro ww hSw; (try dsimp only at hSw); go_simp; try (with_reducible rfl))
                  try simp only [Act.put, List.setIfInBounds_toArray, List.set_cons_zero, List.set_cons_succ]
                  refine wpAnyH_take (i := 8) (v := ?_) (oper_at rfl) (by kernel_rfl) (by kernel_rfl) (by kernel_rfl) (fun _ _ _ h => h) (Or.inl ⟨by rfl, ?_⟩) hHeld ?_
                  rotate_left
                  · (intro ww hSw; (try dsimp only at hSw); go_simp; try (with_reducible rfl))
                  try simp only [Act.put, List.setIfInBounds_toArray, List.set_cons_zero, List.set_cons_succ]
                  refine wpAnyH_take (i := 9) (v := ?_) (oper_at rfl) (by kernel_rfl) (by kernel_rfl) (by kernel_rfl) (fun _ _ _ h => h) (Or.inl ⟨by rfl, ?_⟩) hHeld ?_
                  rotate_left
                  · (intro ww hSw; (try dsimp only at hSw); go_simp; try (with_reducible rfl))
                  try simp only [Act.put, List.setIfInBounds_toArray, List.set_cons_zero, List.set_cons_succ]
                  refine wpAnyH_take (i := 10) (v := ?_) (oper_at rfl) (by kernel_rfl) (by kernel_rfl) (by kernel_rfl) (fun _ _ _ h => h) (Or.inl ⟨by rfl, ?_⟩) hHeld ?_
                  rotate_left
                  · (intro ww hSw; (try dsimp only at hSw); go_simp; try (with_reducible rfl))
                  try simp only [Act.put, List.setIfInBounds_toArray, List.set_cons_zero, List.set_cons_succ]
                  refine wpAnyH_take (i := 11) (v := ?_) (oper_at rfl) (by kernel_rfl) (by kernel_rfl) (by kernel_rfl) (fun _ _ _ h => h) (Or.inl ⟨by rfl, ?_⟩) hHeld ?_
                  rotate_left
                  · (intro ww hSw; (try dsimp only at hSw); go_simp; try (with_reducible rfl))
                  try simp only [Act.put, List.setIfInBounds_toArray, List.set_cons_zero, List.set_cons_succ]
                  refine wpAnyH_take (i := 12) (v := ?_) (oper_at rfl) (by kernel_rfl) (by kernel_rfl) (by kernel_rfl) (fun _ _ _ h => h) (Or.inl ⟨by rfl, ?_⟩) hHeld ?_
                  rotate_left
                  · (intro ww hSw; (try dsimp only at hSw); go_simp; try (with_reducible rfl))
                  try simp only [Act.put, List.setIfInBounds_toArray, List.set_cons_zero, List.set_cons_succ]
                  refine wpAnyH_take (i := 13) (v := ?_) (oper_at rfl) (by kernel_rfl) (by kernel_rfl) (by kernel_rfl) (fun _ _ _ h => h) (Or.inl ⟨by rfl, ?_⟩) hHeld ?_
                  rotate_left
                  · (intro ww hSw; (try dsimp only at hSw); go_simp; try (with_reducible rfl))
                  try simp only [Act.put, List.setIfInBounds_toArray, List.set_cons_zero, List.set_cons_succ]
                  refine wpAnyH_take (i := 14) (v := ?_) (oper_at rfl) (by kernel_rfl) (by kernel_rfl) (by kernel_rfl) (fun _ _ _ h => h) (Or.inl ⟨by rfl, ?_⟩) hHeld ?_
                  rotate_left
                  · (intro ww hSw; (try dsimp only at hSw); go_simp; try (with_reducible rfl))
                  try simp only [Act.put, List.setIfInBounds_toArray, List.set_cons_zero, List.set_cons_succ]
                  refine wpAnyH_take (i := 15) (v := ?_) (oper_at rfl) (by kernel_rfl) (by kernel_rfl) (by kernel_rfl) (fun _ _ _ h => h) (Or.inl ⟨by rfl, ?_⟩) hHeld ?_
                  rotate_left
                  · (intro ww hSw; (try dsimp only at hSw); go_simp; try (with_reducible rfl))
                  try simp only [Act.put, List.setIfInBounds_toArray, List.set_cons_zero, List.set_cons_succ]
                  refine wpAnyH_take (i := 16) (v := ?_) (oper_at rfl) (by kernel_rfl) (by kernel_rfl) (by kernel_rfl) (fun _ _ _ h => h) (Or.inl ⟨by rfl, ?_⟩) hHeld ?_
                  rotate_left
                  · (intro ww hSw; (try dsimp only at hSw); go_simp; try (with_reducible rfl))
                  try simp only [Act.put, List.setIfInBounds_toArray, List.set_cons_zero, List.set_cons_succ]
                  refine wpAnyH_take (i := 17) (v := ?_) (oper_at rfl) (by kernel_rfl) (by kernel_rfl) (by kernel_rfl) (fun _ _ _ h => h) (Or.inl ⟨by rfl, ?_⟩) hHeld ?_
                  rotate_left
                  · (intro ww hSw; (try dsimp only at hSw); go_simp; try (with_reducible rfl))
                  try simp only [Act.put, List.setIfInBounds_toArray, List.set_cons_zero, List.set_cons_succ]
                  refine wpAnyH_take (i := 18) (v := ?_) (oper_at rfl) (by kernel_rfl) (by kernel_rfl) (by kernel_rfl) (fun _ _ _ h => h) (Or.inl ⟨by rfl, ?_⟩) hHeld ?_
                  rotate_left
                  · (intro ww hSw; (try dsimp only at hSw); go_simp; try (with_reducible rfl))
                  try simp only [Act.put, List.setIfInBounds_toArray, List.set_cons_zero, List.set_cons_succ]
                  refine wpAnyH_take (i := 19) (v := ?_) (oper_at rfl) (by kernel_rfl) (by kernel_rfl) (by kernel_rfl) (fun _ _ _ h => h) (Or.inl ⟨by rfl, ?_⟩) hHeld ?_
                  rotate_left
                  · (intro ww hSw; (try dsimp only at hSw); go_simp; try (with_reducible rfl))
                  try simp only [Act.put, List.setIfInBounds_toArray, List.set_cons_zero, List.set_cons_succ]
                  refine wpAnyH_take (i := 20) (v := ?_) (oper_at rfl) (by kernel_rfl) (by kernel_rfl) (by kernel_rfl) (fun _ _ _ h => h) (Or.inl ⟨by rfl, ?_⟩) hHeld ?_
                  rotate_left
                  · (intro ww hSw; (try dsimp only at hSw); go_simp; try (with_reducible rfl))
                  try simp only [Act.put, List.setIfInBounds_toArray, List.set_cons_zero, List.set_cons_succ]
                  refine wpAnyH_take (i := 21) (v := ?_) (oper_at rfl) (by kernel_rfl) (by kernel_rfl) (by kernel_rfl) (fun _ _ _ h => h) (Or.inl ⟨by rfl, ?_⟩) hHeld ?_
                  rotate_left
                  · (intro ww hSw; (try dsimp only at hSw); go_simp; try (with_reducible rfl))
                  try simp only [Act.put, List.setIfInBounds_toArray, List.set_cons_zero, List.set_cons_succ]
                  refine wpAnyH_take (i := 22) (v := ?_) (oper_at rfl) (by kernel_rfl) (by kernel_rfl) (by kernel_rfl) (fun _ _ _ h => h) (Or.inl ⟨by rfl, ?_⟩) hHeld ?_
                  rotate_left
                  · (intro ww hSw; (try dsimp only at hSw); go_simp; try (with_reducible rfl))
                  try simp only [Act.put, List.setIfInBounds_toArray, List.set_cons_zero, List.set_cons_succ]
                  refine wpAnyH_take (i := 23) (v := ?_) (oper_at rfl) (by kernel_rfl) (by kernel_rfl) (by kernel_rfl) (fun _ _ _ h => h) (Or.inl ⟨by rfl, ?_⟩) hHeld ?_
                  rotate_left
                  · (intro ww hSw; (try dsimp only at hSw); go_simp; try (with_reducible rfl))
                  try simp only [Act.put, List.setIfInBounds_toArray, List.set_cons_zero, List.set_cons_succ]
                  refine wpAnyH_take (i := 24) (v := ?_) (oper_at rfl) (by kernel_rfl) (by kernel_rfl) (by kernel_rfl) (fun _ _ _ h => h) (Or.inl ⟨by rfl, ?_⟩) hHeld ?_
                  rotate_left
                  · (intro ww hSw; (try dsimp only at hSw); go_simp; try (with_reducible rfl))
                  try simp only [Act.put, List.setIfInBounds_toArray, List.set_cons_zero, List.set_cons_succ]
                  refine wpAnyH_take (i := 25) (v := ?_) (oper_at rfl) (by kernel_rfl) (by kernel_rfl) (by kernel_rfl) (fun _ _ _ h => h) (Or.inl ⟨by rfl, ?_⟩) hHeld ?_
                  rotate_left
                  · (intro ww hSw; (try dsimp only at hSw); go_simp; try (with_reducible rfl))
                  try simp only [Act.put, List.setIfInBounds_toArray, List.set_cons_zero, List.set_cons_succ]
                  refine wpAnyH_take (i := 26) (v := ?_) (oper_at rfl) (by kernel_rfl) (by kernel_rfl) (by kernel_rfl) (fun _ _ _ h => h) (Or.inl ⟨by rfl, ?_⟩) hHeld ?_
                  rotate_left
                  · (intro ww hSw; (try dsimp only at hSw); go_simp; try (with_reducible rfl))
                  try simp only [Act.put, List.setIfInBounds_toArray, List.set_cons_zero, List.set_cons_succ]
                  refine wpAnyH_take (i := 27) (v := ?_) (oper_at rfl) (by kernel_rfl) (by kernel_rfl) (by kernel_rfl) (fun _ _ _ h => h) (Or.inl ⟨by rfl, ?_⟩) hHeld ?_
                  rotate_left
                  · (intro ww hSw; (try dsimp only at hSw); go_simp; try (with_reducible rfl))
                  try simp only [Act.put, List.setIfInBounds_toArray, List.set_cons_zero, List.set_cons_succ]
                  refine wpAnyH_take (i := 28) (v := ?_) (oper_at rfl) (by kernel_rfl) (by kernel_rfl) (by kernel_rfl) (fun _ _ _ h => h) (Or.inl ⟨by rfl, ?_⟩) hHeld ?_
                  rotate_left
                  · (intro ww hSw; (try dsimp only at hSw); go_simp; try (with_reducible rfl))
                  try simp only [Act.put, List.setIfInBounds_toArray, List.set_cons_zero, List.set_cons_succ]
                  refine wpAnyH_take (i := 29) (v := ?_) (oper_at rfl) (by kernel_rfl) (by kernel_rfl) (by kernel_rfl) (fun _ _ _ h => h) (Or.inl ⟨by rfl, ?_⟩) hHeld ?_
                  rotate_left
                  · (intro ww hSw; (try dsimp only at hSw); go_simp; try (with_reducible rfl))
                  try simp only [Act.put, List.setIfInBounds_toArray, List.set_cons_zero, List.set_cons_succ]
                  refine wpAnyH_take (i := 30) (v := ?_) (oper_at rfl) (by kernel_rfl) (by kernel_rfl) (by kernel_rfl) (fun _ _ _ h => h) (Or.inl ⟨by rfl, ?_⟩) hHeld ?_
                  rotate_left
                  · (intro ww hSw; (try dsimp only at hSw); go_simp; try (with_reducible rfl))
                  try simp only [Act.put, List.setIfInBounds_toArray, List.set_cons_zero, List.set_cons_succ]
                  refine wpAnyH_take (i := 31) (v := ?_) (oper_at rfl) (by kernel_rfl) (by kernel_rfl) (by kernel_rfl) (fun _ _ _ h => h) (Or.inl ⟨by rfl, ?_⟩) hHeld ?_
                  rotate_left
                  · (intro ww hSw; (try dsimp only at hSw); go_simp; try (with_reducible rfl))
                  try simp only [Act.put, List.setIfInBounds_toArray, List.set_cons_zero, List.set_cons_succ]
                  refine wpAnyH_take (i := 32) (v := ?_) (oper_at rfl) (by kernel_rfl) (by kernel_rfl) (by kernel_rfl) (fun _ _ _ h => h) (Or.inl ⟨by rfl, ?_⟩) hHeld ?_
                  rotate_left
                  · (intro ww hSw; (try dsimp only at hSw); go_simp; try (with_reducible rfl))
                  try simp only [Act.put, List.setIfInBounds_toArray, List.set_cons_zero, List.set_cons_succ]
                  refine wpAnyH_take (i := 33) (v := ?_) (oper_at rfl) (by kernel_rfl) (by kernel_rfl) (by kernel_rfl) (fun _ _ _ h => h) (Or.inl ⟨by rfl, ?_⟩) hHeld ?_
                  rotate_left
                  · (intro ww hSw; (try dsimp only at hSw); go_simp; try (with_reducible rfl))
                  try simp only [Act.put, List.setIfInBounds_toArray, List.set_cons_zero, List.set_cons_succ]
                  refine wpAnyH_take (i := 34) (v := ?_) (oper_at rfl) (by kernel_rfl) (by kernel_rfl) (by kernel_rfl) (fun _ _ _ h => h) (Or.inl ⟨by rfl, ?_⟩) hHeld ?_
                  rotate_left
                  · (intro ww hSw; (try dsimp only at hSw); go_simp; try (with_reducible rfl))
                  try simp only [Act.put, List.setIfInBounds_toArray, List.set_cons_zero, List.set_cons_succ]
                  refine wpAnyH_ready (rs := [35]) (by kernel_rfl) (by simp) (AllReadyH.cons (oper_at rfl) (fun K hK => ?_) AllReadyH.nil)
                  go_simp
                  go_at_call 16
                  refine (CA.out _ (by (repeat (first | with_reducible assumption | with_reducible exact Ext.refl _ | with_reducible apply Ext.alloc | with_reducible apply Ext.drew)); first | done | fail)).mono ?_
                  rintro e8 w8' ⟨rfl, hE8⟩
                  have hX8 : Ext wx w8' := Ext.trans (by (repeat (first | with_reducible assumption | with_reducible exact Ext.refl _ | with_reducible apply Ext.alloc | with_reducible apply Ext.drew)); first | done | fail) hE8
                  clear hE8
                  refine hK.out _ _ ?_ (fun hHeld => ?_)
                  · exact Ext.held (by repeat (first | assumption | exact Ext.refl _ | apply Ext.alloc | apply Ext.drew | apply Ext.drewN))
                  clear hK K
                  try simp only [Act.put, List.setIfInBounds_toArray, List.set_cons_zero, List.set_cons_succ]
                  refine wpAnyH_take (i := 36) (v := ?_) (oper_at rfl) (by kernel_rfl) (by kernel_rfl) (by kernel_rfl) (fun _ _ _ h => h) (Or.inl ⟨by rfl, ?_⟩) hHeld ?_
                  rotate_left
                  · (intro ww hSw; (try dsimp only at hSw); go_simp; try (with_reducible rfl))
                  try simp only [Act.put, List.setIfInBounds_toArray, List.set_cons_zero, List.set_cons_succ]
                  refine wpAnyH_take (i := 37) (v := ?_) (oper_at rfl) (by kernel_rfl) (by kernel_rfl) (by kernel_rfl) (fun _ _ _ h => h) (Or.inl ⟨by rfl, ?_⟩) hHeld ?_
                  rotate_left
                  · (intro ww hSw; (try dsimp only at hSw); go_simp; try (with_reducible rfl))
                  try simp only [Act.put, List.setIfInBounds_toArray, List.set_cons_zero, List.set_cons_succ]
                  refine wpAnyH_done (by kernel_rfl) ?_ _
                  refine NoPanic.normal ?_
                  clear a0 a1 a2 b0 b1 b2
                  iterate 6 (try clear hHeld)
                  go_wp2_with fail
                  exact ⟨⟨q + 1, by omega, by go_num, HXq.out.trans hX8⟩, by simp [intOf]; omega⟩
                · obtain rfl : q = js6.length := by omega
                  go_wp2_with fail
                  exact ⟨⟨k + 1, by omega, rfl, by go_num, N26.out.ext HXq.out, N36.out.ext HXq.out, HX6.out.trans (HXq.out.exc _ _)⟩, by simp [intOf]; omega⟩
          · obtain rfl : k = N := by omega
            have HF := Lib.hid (HX.out.ext HW9.out hw2g hw2r)
            rcases HNN.out with h1 | ⟨h1, h2⟩
            · subst h1
              go_wp2_with fail
              go_ret
              exact ⟨rfl, HF.out⟩
            · subst h2
              go_wp2_with fail
              go_ret
              exact ⟨rfl, HF.out⟩
      · exact absurd rfl hne
    · exact absurd HER.out.1 hne
end Go.Proofs.Ytehmpbaiefbemaa
