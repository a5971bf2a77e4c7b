/- The walk over NetworkLoads. -/
import Derived.Test.YtehmpbaiefbemaaGreatH6
import Derived.Test.YtehmpbaiefbemaaGreatB8
import Derived.Deep.Cut
namespace Go.Proofs.YtehmpbaiefbemaaGreat
open Go.RowKit
attribute [local go_sem ↓] Go.wp_at_zero Go.wp_at_succ
attribute [local go_sem ↓] ld32 st32 al32
attribute [local go_sem] run_ld32 run_st32n run_al32 blkOf_drew blkOf_setRow_same blkOf_setRow_other NV_size blkOf_alloc blkOf_new
theorem keys_small {cs : List Ch} (ho : OkL cs) {ks : List Ky} (hm : ∀ k ∈ ks, k ∈ cs.map (·.1)) : (∀ k ∈ ks, 1 ≤ k.1) ∧ SmK ks := by
  have key : ∀ k ∈ ks, OkK k := fun k hk => by
    obtain ⟨c, hc, e⟩ := List.mem_map.1 (hm k hk)
    rw [← e]
    exact (ho.ok c hc).key
  refine ⟨fun k hk => (key k hk).kind.1, fun k hk => ?_⟩
  obtain ⟨h1, h2, h3, -, h5⟩ := key k hk
  refine ⟨by omega, h2.1, by omega, h3.1, by omega, h5.1, by omega⟩
theorem netB_le {y : St} (hb : Bd y 100000) (hs : SmK y.ks) (hl : y.ks.length ≤ 50) : (netB y).length ≤ 800 := by
  unfold netB
  rw [List.length_append, List.length_append]
  have h1 := flat_le (f := rowB y) (fun i => rowB_le hb i) 8
  have h2 := keys_le hs y.ks.length
  rw [List.take_length] at h2
  have h3 : (putU y.ks.length).length ≤ 3 := putU_short (by omega)
  omega
theorem putU_pos (v : Nat) : 0 < (putU v).length := by
  unfold putU
  split <;> simp
theorem netB_pos (y : St) : 0 < (netB y).length := by
  unfold netB
  rw [List.length_append, List.length_append]
  have := putU_pos y.ks.length
  omega
theorem Row.full {w : World} {B : Nat} {v : Value} {xs : List UInt8} (h : Row 1 w B 5 v (bv xs)) (h0 : 0 < xs.length) : ∃ b c, v = .slice (some ⟨b, 0, none⟩) xs.length c ∧ xs.length ≤ c ∧ B ≤ b ∧ b < w.heap.size ∧ BytesAt w (some ⟨b, 0, none⟩) xs := by
  obtain ⟨A, c, e, h1, h2, -, h4⟩ := h.bytes
  have h' := h.2
  rcases h'.2 with ⟨rfl, k⟩ | ⟨b, cap, cur, rfl, hb, -⟩
  · rw [bv_len] at k; omega
  · rw [Value.slice.injEq] at e
    obtain ⟨rfl, e2, rfl⟩ := e
    obtain ⟨k1, k2, -⟩ := h4 _ rfl
    exact ⟨b, cap, by rw [e2], h2, k1, k2, h1⟩
theorem BytesAt.tail {w : World} {b o : Nat} {x : UInt8} {xs : List UInt8} (h : BytesAt w (some ⟨b, o, none⟩) (x :: xs)) : BytesAt w (some ⟨b, o + 1, none⟩) xs := fun h0 => by
  obtain ⟨ad, e, hb, hc⟩ := h (by simp)
  cases e
  refine ⟨_, rfl, hb, fun j u hj => ?_⟩
  have k := hc (j + 1) u hj
  rw [addE] at k ⊢
  rw [show o + 1 + j = o + (j + 1) by omega]
  exact k
/-- An append of bytes onto a slice that has no room. -/
theorem app_full {ops : Array Oper} {rest : List Oper} {o : Oper} {a : Act} {Q : Exit → Act → World → Prop} {w : World} (hgd : o.guard = none) (p x : Operand) (ho : o.op = .call { callee := .builtin .append, args := #[p, x], argTypes := #[43, 43] })
    {b d : Nat} {n c m : Nat} {xs ys : List UInt8} (hs : a.eval p = .slice (some ⟨b, d, none⟩) n n) (hn : n = xs.length) (hb : BytesAt w (some ⟨b, d, none⟩) xs) {ad : Addr} (hx : a.eval x = .slice (some ad) m c) (hm : m = ys.length) (hy : BytesAt w (some ad) ys) (hp : 0 < ys.length) (hl : xs.length + ys.length ≤ 1000000)
    (h : ∀ v' w', Row 1 w' w.heap.size 5 v' (bv (xs ++ ys)) → Ext w w' → wpList Tryz.prog ops Q rest (a.put o.dst v') w') : wpList Tryz.prog ops Q (o :: rest) a w := by
  subst hn
  subst hm
  obtain ⟨i, hi, h1, h2, h3⟩ := info_parts el43.info
  have cells : ∀ {A : Option Addr} {zs : List UInt8}, BytesAt w A zs → ∀ q, A = some q → ∀ j u, (bv zs).flatten[j]? = some u → w.cell? (q.add j) = some u := fun {A zs} hA q e j u hj => by
    have hlen : 0 < zs.length := by
      rcases zs with _ | ⟨z, zs⟩
      · simp [bv] at hj
      · simp
    obtain ⟨q', e', -, hc⟩ := hA hlen
    obtain rfl : q = q' := by rw [e] at e'; exact Option.some.inj e'
    rw [bv_flat] at hj
    unfold bytesV at hj
    rw [List.getElem?_map] at hj
    obtain ⟨z, hz, rfl⟩ := Option.map_eq_some_iff.1 hj
    exact hc j z hz
  have fl : ∀ zs : List UInt8, (bv zs).flatten.length = zs.length * 1 := fun zs => by rw [(bv_wide zs).flat, bv_len]
  refine wpList_append_grows w hgd p x 43 ho 5 i (.int .u8 0) 1 1 Tryz.underlying43 hi h1 h2 h3 rfl (by omega) (some ⟨b, d, none⟩) xs.length xs.length (bv xs).flatten hs (fun e => by cases e) (fl xs) (fun q e => cells hb q e) ad ys.length c (bv ys).flatten hx (fl ys) (cells hy ad rfl) (bv_one ys) (by omega) (by unfold maxLen; omega) (by omega) fun v' w' k1 k2 => h v' w' ⟨bv_wide _, ?_⟩ ⟨k2.os, k2.tape, k2.output, k2.size, fun k hk => k2.block k hk (by simp)⟩
  rw [bv_app, List.flatten_append, List.length_append, bv_len, bv_len]
  exact k1
set_option maxRecDepth 100000 in
set_option maxHeartbeats 8000000 in
theorem loads_law (rs : List Raw) (ds : List Jh) (al ml : List (Ac × Value)) (cV hV lV mV : Value) (w : World) (hc : Raws w cV rs) (hk : ∀ r ∈ rs, r.kd < 256) (hh : HsAt w hV ds) (ha : AsAt w lV al) (hm : AsAt w mV ml) : Calls Tryz.prog 4 #[.agg #[cV, hV], lV, mV] w (RetV (.bool true) w) := by
  have CB := Lib.hid (fun W (hW : Ext w W) => begin9_det rs ds cV hV W (hc.ext hW) hk (hh.ext hW))
  have HA := Lib.hid ha
  have HM := Lib.hid hm
  obtain ⟨Ac', cc, rfl, -, -, -⟩ := hc.read
  obtain ⟨Ah', ch, rfl, -, -, -⟩ := hh.sl.read
  obtain ⟨Aa, ca, rfl, -, -, -⟩ := ha.sl.read
  obtain ⟨Am, cm, rfl, -, -, -⟩ := hm.sl.read
  rw [List.length_map] at *
  rw [List.length_map] at *
  rw [List.length_map] at *
  rw [List.length_map] at *
  clear hc hh ha hm
  go_enter Tryz.func4, Tryz.ntmps4
  go_wp2_with fail
  generalize hwB : w.alloc _ = wB
  have hE : Ext w wB := by rw [← hwB]; exact (Ext.refl _).alloc _
  have s0 : wB.cell? ⟨w.heap.size, 0, none⟩ = some (.slice Ac' rs.length cc) := by rw [← hwB]; exact new_at _ _ _ 0 _ rfl
  have s1 : wB.cell? ⟨w.heap.size, 1, none⟩ = some (.slice Ah' ds.length ch) := by rw [← hwB]; exact new_at _ _ _ 1 _ rfl
  have HS0 := Lib.hid s0
  have HS1 := Lib.hid s1
  have HE := Lib.hid hE
  clear hwB hE s0 s1
  refine (CB.out _ HE.out).mono ?_
  rintro e2 w2 ⟨g, r, cv, hv, lv, kh, os, hs, rfl, hN, hrc, hrh, hpl, hok, hdis, hln, hdt, hg, hr, hE⟩
  obtain ⟨cs, hcs⟩ : ∃ cs, chsF rs = cs := ⟨_, rfl⟩
  have hokc := chsF_ok rs
  rw [hcs] at hokc hN hrc
  have HOKC := Lib.hid hokc.1
  have HST := Lib.hid (hokc.1.sta (by have := hokc.2; omega))
  have HCL : Hid (cs.length ≤ 1000) := Lib.hid (by have := hokc.2; omega)
  have HC50 : Hid (cs.length ≤ 12) := Lib.hid hokc.2
  have HCS := Lib.hid hcs
  have HSO := Lib.hid (os_small hpl hok)
  have HPL := Lib.hid hpl
  have HDT := Lib.hid hdt
  have HOL : Hid (os.length ≤ 1000) := Lib.hid (by have h1 := congrArg List.length hpl; simp only [List.length_map] at h1; omega)
  have HN2 := Lib.hid hN
  have HRC2 := Lib.hid hrc
  have HRH2 := Lib.hid hrh
  obtain ⟨Al, cl, rfl, -, -, -⟩ := hrc.now.read
  obtain ⟨Ak, ck, rfl, -, -, -⟩ := hrh.now.sl.read
  have hgw : w.heap.size ≤ g := Nat.le_trans HE.out.size hg
  have hrw : w.heap.size ≤ r := Nat.le_trans HE.out.size hr
  have hgB : wB.heap.size ≤ g ∧ wB.heap.size ≤ r := ⟨hg, hr⟩
  have HGB := Lib.hid hgB
  have HEB2 := Lib.hid hE
  have HE2 := Lib.hid (HE.out.trans hE)
  rw [List.length_map, List.length_map] at *
  clear hN hrc hrh hpl hok hdis hln hdt hgB hE hcs hokc hg hr
  go_upto_region 2 with fail
  generalize hw3 : (w2.alloc (.cells NV0 32)).setRow w2.heap.size _ = w3
  have hE3 : Ext w2 w3 := by rw [← hw3]; exact ((Ext.refl _).alloc _).setRow (Nat.le_refl _) _
  have d3 : blkOf w3 w2.heap.size = NV (.slice Al cs.length cl) (.slice Ak hs.length ck) Z Z Z nilS := by rw [← hw3]; exact blkOf_setRow_same (by rw [blkOf_new, NV_size])
  have hz3 : w2.heap.size < w3.heap.size := blkOf_lt (by rw [d3, NV_size]; omega)
  have HE3 := Lib.hid hE3
  clear hw3 hE3
  go_wp2_with fail
  refine (awake10_any w3).mono ?_
  rintro e4 w4 ⟨rfl, hE4⟩
  have d4 := (blkOf_ext hE4 hz3).trans d3
  have HE24 := Lib.hid (HE3.out.trans hE4)
  have HE4 := Lib.hid (HE2.out.trans HE24.out)
  have HEB4 := Lib.hid (HEB2.out.trans HE24.out)
  have HN4 := Lib.hid (HN2.out.ext HE24.out)
  have HRC4 := Lib.hid (HRC2.out.exc (HE24.out.exc g r))
  have HRH4 := Lib.hid (HRH2.out.exc (HE24.out.exc g r))
  have HZ4 : Hid (w2.heap.size < w4.heap.size) := Lib.hid (Nat.lt_of_lt_of_le hz3 hE4.size)
  have HB4 := Lib.hid (show Both w4 g r w2.heap.size cv hv (.slice Al cs.length cl) (.slice Ak hs.length ck) nilS cs cs os hs St0 from ⟨HN4.out, HRC4.out, HRH4.out, Row.nil _ _ _ _, HN4.out.lt, HN4.out.rlt, Nat.le_of_lt HZ4.out⟩)
  have CP := Lib.hid (play20_any g r w2.heap.size cv hv (.slice Al cs.length cl) (.slice Ak hs.length ck) nilS (.slice Aa al.length ca) cs cs os hs St0 0 al w4 HB4.out HST.out (inv0 cs) (by omega) (fun W hW => HA.out.ext (hW.ext HE4.out hgw hrw)) (fun i _ _ => agrF_same HPL.out _ _))
  have HI5 := Lib.hid (stF_inv (hs := hs) (al := al) (inv0 cs) (min al.length 30) (Nat.min_le_left _ _))
  clear hE4 d3 hz3 HB4 HE3 HN2 HRC2 HRH2
  go_wp2_with fail
  refine CP.out.mono ?_
  rintro e5 w5 ⟨kv5, rfl, hB5, hE5⟩
  obtain ⟨A5, c5, e5, -, -⟩ := hB5.rk.form
  rw [List.length_map] at e5
  subst e5
  have HB5 := Lib.hid hB5
  have HX5 := Lib.hid (hE5.ext HE4.out hgw hrw)
  have HXB5 := Lib.hid (hE5.ext HEB4.out HGB.out.1 HGB.out.2)
  generalize hy : stF cs hs al St0 (min al.length 30) = y at *
  have HKL : Hid (y.ks.length ≤ 50) := Lib.hid (Nat.le_trans HI5.out.len (by have := HC50.out; omega))
  have HBD : Hid (Bd y 100000) := Lib.hid (HI5.out.bd.mono (by omega))
  have HKS := Lib.hid (keys_small HOKC.out HI5.out.mem)
  clear hB5 hE5 CP d4 hy
  go_upto_region 5 with fail
  generalize hw6 : (w5.alloc (.cells NV0 32)).setRow w5.heap.size _ = w6
  have hE6 : Ext w5 w6 := by rw [← hw6]; exact ((Ext.refl _).alloc _).setRow (Nat.le_refl _) _
  have d6 : blkOf w6 w5.heap.size = NV (.slice Al cs.length cl) (.slice Ak hs.length ck) y.s y.t y.d (.slice A5 y.ks.length c5) := by rw [← hw6]; exact blkOf_setRow_same (by rw [blkOf_new, NV_size])
  have hz6 : w5.heap.size < w6.heap.size := blkOf_lt (by rw [d6, NV_size]; omega)
  have HB6 := Lib.hid (HB5.out.ext hE6)
  have HX6 := Lib.hid (HX5.out.trans hE6)
  have HXB6 := Lib.hid (HXB5.out.trans hE6)
  have HN6 := Lib.hid HB6.out.net
  have D6 := Lib.hid d6
  have HZ6 := Lib.hid hz6
  clear hw6 hE6 d6 hz6 HB5 HX5 HXB5
  go_wp2_with fail
  have C7 : Hid (∀ W, Ext w6 W → W.cell? ⟨w6.heap.size, 0, none⟩ = some (.int .u8 7) → w6.heap.size < W.heap.size → Calls Tryz.prog 12 #[.pointer (some ⟨g, 0, none⟩), .slice (some ⟨w6.heap.size, 0, none⟩) 1 1] W (RetBy ([7] ++ netB y) W)) := Lib.hid (fun W hW h7 hz => bytes12_ok g r cv hv cs os y [7] ⟨w6.heap.size, 0, none⟩ 1 W (HN6.out.ext hW) HI5.out.asc HKL.out HBD.out HKS.out.2 (fun _ => ⟨_, rfl, hz, fun j u hj => by
    match j, hj with
    | 0, hj => cases hj; exact h7⟩) (by decide) (by decide))
  refine (C7.out _ (by (repeat (first | with_reducible assumption | with_reducible exact Ext.refl _ | with_reducible apply Ext.alloc | with_reducible apply Ext.drew)); first | done | fail) (new_at _ _ _ 0 _ rfl) (by simp)).mono ?_
  rintro e7 w7 ⟨v7, rfl, hr7, hE7⟩
  have hNB := netB_le HBD.out HKS.out.2 HKL.out
  have hNP := netB_pos y
  obtain ⟨nb, hnb⟩ : ∃ nb, netB y = nb := ⟨_, rfl⟩
  rw [hnb] at hr7 hNB hNP
  obtain ⟨b7, c7, rfl, hc7, hb7, hz7, hy7⟩ := Row.full hr7 (by simp)
  obtain ⟨n7, hn7⟩ : ∃ n, nb.length = n := ⟨_, rfl⟩
  have hlen : ([7] ++ nb).length = n7 + 1 := by simp [hn7]
  rw [hlen] at hc7 ⊢
  have HN7 := Lib.hid hn7
  have HNBL : Hid (n7 ≤ 1000) := Lib.hid (by omega)
  have HN0 : Hid (n7 ≠ 0) := Lib.hid (by omega)
  have HNB := Lib.hid hnb
  have HC7 := Lib.hid hc7
  have HY7 := Lib.hid hy7
  have HE67 : Hid (Ext w6 w7) := Lib.hid (Ext.trans (by (repeat (first | with_reducible assumption | with_reducible exact Ext.refl _ | with_reducible apply Ext.alloc | with_reducible apply Ext.drew)); first | done | fail) hE7)
  have s0 := Ext.cell (HXB6.out.trans HE67.out) HS0.out
  have s1 := Ext.cell (HXB6.out.trans HE67.out) HS1.out
  clear hr7 hE7 hNB hNP hn7 hnb hlen hc7 hb7 hz7 hy7 C7
  go_wp2_with fail
  refine (CB.out _ (HX6.out.trans HE67.out)).mono ?_
  rintro e8 w8 ⟨g2, r2, cv2, hv2, lv2, kh2, os2, hs2, rfl, hN8, hrc2, hrh2, hpl2, hok2, -, -, hdt2, hg2, hr2, hE8⟩
  rw [HCS.out] at hN8
  have HQ : Hid (os2.map plH = os.map plH) := Lib.hid (hpl2.trans (hdt2.trans (HDT.out.symm.trans HPL.out.symm)))
  have HSO2 := Lib.hid (os_small hpl2 hok2)
  have HOL2 : Hid (os2.length ≤ 1000) := Lib.hid (by have h1 := congrArg List.length HQ.out; simp only [List.length_map] at h1; have := HOL.out; omega)
  have HN8 := Lib.hid hN8
  obtain ⟨Al2, cl2, rfl, -, -, -⟩ := hrc2.now.read
  obtain ⟨Ak2, ck2, rfl, -, -, -⟩ := hrh2.now.sl.read
  rw [List.length_map, List.length_map] at *
  have HE78 := Lib.hid hE8
  clear hN8 hrc2 hrh2 hpl2 hok2 hdt2 hg2 hr2 hE8 s0 s1
  go_upto_region 9 with fail
  generalize hw9 : (w8.alloc (.cells NV0 32)).setRow w8.heap.size _ = w9
  have hE9 : Ext w8 w9 := by rw [← hw9]; exact ((Ext.refl _).alloc _).setRow (Nat.le_refl _) _
  have HE79 := Lib.hid (HE78.out.trans hE9)
  have HN9 := Lib.hid (HN8.out.ext hE9)
  have HY9 := Lib.hid (HY7.out.ext HE79.out)
  have hcl : w9.cell? ⟨b7, 0, none⟩ = some (.int .u8 7) := by
    obtain ⟨ad, e, -, hh⟩ := HY9.out (by simp)
    cases e
    exact hh 0 7 rfl
  have q1 : (1 : Int) ≤ (n7 : Int) + 1 := by omega
  have HE69 := Lib.hid (HE67.out.trans HE79.out)
  clear hw9 hE9 HE78
  have HCELL := Lib.hid hcl
  have HYT := Lib.hid (BytesAt.tail HY9.out)
  have q0 := HN0.out
  have q3 : (n7 : Int) + 1 ≤ (c7 : Int) := by have := HC7.out; omega
  go_wp2_with (at_builtin; refine app_full rfl (.tmp 65) (.tmp 66) rfl (b := b7) (d := 1) (n := n7) (c := 3) (m := 3) (xs := nb) (ys := [1, 2, 3]) rfl HN7.out.symm (HYT.out.ext ((Ext.refl _).alloc _)) rfl rfl (fun _ => ⟨_, rfl, by simp, fun j u hj => by
    match j, hj with
    | 0, hj => cases hj; exact new_at _ _ _ 0 _ rfl
    | 1, hj => cases hj; exact new_at _ _ _ 1 _ rfl
    | 2, hj => cases hj; exact new_at _ _ _ 2 _ rfl⟩) (by decide) (by rw [HN7.out, List.length_cons, List.length_cons, List.length_singleton]; have := HNBL.out; omega) ?_; intro v11 w11 hr11 hE11; have HE11 := Lib.hid (Ext.trans ((Ext.refl _).alloc _) hE11); have HR11 := Lib.hid hr11; clear hr11 hE11)
  obtain ⟨bs, hbs⟩ : ∃ b, nb ++ [1, 2, 3] = b := ⟨_, rfl⟩
  have hr11 := HR11.out
  rw [hbs] at hr11
  clear HR11
  obtain ⟨A11, c11, rfl, hb11, -, -, -⟩ := hr11.bytes
  have hlb : bs.length = n7 + 3 := by rw [← hbs, List.length_append, HN7.out]; rfl
  have C13 := Lib.hid (load13_ok g2 r2 cv2 hv2 cs os2 St0 y A11 c11 n7 bs [1, 2, 3] w11 (HN9.out.ext HE11.out) hb11 (by rw [HNB.out]; exact hbs) (by rw [hlb]; rfl) (by rw [hlb]; have := HNBL.out; omega) HOKC.out.asc (by have := HCL.out; omega) HI5.out.asc HI5.out.mem HKS.out.1 HKL.out HBD.out HKS.out.2)
  clear hr11 hb11 hbs hlb hcl HYT HY9 HCELL HNB
  go_wp2_with fail
  refine C13.out.mono ?_
  rintro e12 w12 ⟨g3, r3, rfl, hg3, hr3, hN12, hE12⟩
  have HE912 := Lib.hid (HE11.out.trans hE12)
  have HE612 := Lib.hid (HE69.out.trans HE912.out)
  have HM12 := Lib.hid hN12
  have HN12 := Lib.hid (HN6.out.ext HE612.out)
  have HG3 : Hid (w6.heap.size ≤ g3 ∧ w6.heap.size ≤ r3) := Lib.hid (by have h1 := (HE69.out.trans HE11.out).size; omega)
  have EQ : Hid (∀ W, Ext w12 W → Calls Tryz.prog 9 #[.pointer (some ⟨g3, 0, none⟩), .pointer (some ⟨g, 0, none⟩)] W (RetV (.bool true) W)) := Lib.hid (fun W hW => equal26_two g3 r3 g r cv2 hv2 cv hv cs os2 os HQ.out y W (HM12.out.ext hW) (HN12.out.ext hW) HI5.out.asc (by have := HKL.out; omega) HCL.out HOL2.out HSO2.out)
  clear hg3 hr3 hN12 hE12 C13 HE11 q0 q1 q3
  obtain ⟨m7, hm7⟩ : ∃ m, n7 + 1 = m := ⟨_, rfl⟩
  rw [hm7]
  have wm : IntKind.i64.wrap ((m7 : Int) - 1) = (n7 : Int) := by rw [show (m7 : Int) - 1 = n7 by omega]; exact IntWalk.i64_in _ (by have := HNBL.out; omega)
  clear hm7
  go_wp2_with fail
  refine (EQ.out _ (by (repeat (first | with_reducible assumption | with_reducible exact Ext.refl _ | with_reducible apply Ext.alloc | with_reducible apply Ext.drew)); first | done | fail)).mono ?_
  rintro e13 w13 ⟨rfl, hE13⟩
  have HE913 := Lib.hid (HE912.out.trans (Ext.trans (by (repeat (first | with_reducible assumption | with_reducible exact Ext.refl _ | with_reducible apply Ext.alloc | with_reducible apply Ext.drew)); first | done | fail) hE13))
  have HE613 := Lib.hid (HE612.out.trans (Ext.trans (by (repeat (first | with_reducible assumption | with_reducible exact Ext.refl _ | with_reducible apply Ext.alloc | with_reducible apply Ext.drew)); first | done | fail) hE13))
  have HM13 := Lib.hid (HM12.out.ext (Ext.trans (by (repeat (first | with_reducible assumption | with_reducible exact Ext.refl _ | with_reducible apply Ext.alloc | with_reducible apply Ext.drew)); first | done | fail) hE13))
  have CN := Lib.hid (fun W (hW : Ext w13 W) => consumed19_any g2 r2 cv2 hv2 cs os2 St0 W (HN9.out.ext (HE913.out.trans hW)) (inv0 cs).asc (by decide))
  clear hE13 EQ
  go_wp2_with fail
  refine (CN.out _ (by (repeat (first | with_reducible assumption | with_reducible exact Ext.refl _ | with_reducible apply Ext.alloc | with_reducible apply Ext.drew)); first | done | fail)).mono ?_
  rintro e14 w14 ⟨t14, rfl, hr14, hE14⟩
  obtain ⟨A14, c14, e14, -, -⟩ := hr14.form
  rw [show (St0.ks.map encK).length = 0 from rfl] at e14
  subst e14
  have HE614 := Lib.hid (HE613.out.trans (Ext.trans (by (repeat (first | with_reducible assumption | with_reducible exact Ext.refl _ | with_reducible apply Ext.alloc | with_reducible apply Ext.drew)); first | done | fail) hE14))
  have HM14 := Lib.hid (HM13.out.ext (Ext.trans (by (repeat (first | with_reducible assumption | with_reducible exact Ext.refl _ | with_reducible apply Ext.alloc | with_reducible apply Ext.drew)); first | done | fail) hE14))
  have d14 : blkOf w14 w5.heap.size = NV (.slice Al cs.length cl) (.slice Ak hs.length ck) y.s y.t y.d (.slice A5 y.ks.length c5) := (blkOf_ext HE614.out HZ6.out).trans D6.out
  have HX14 := Lib.hid (HX6.out.trans HE614.out)
  have hgw' : w.heap.size ≤ g3 ∧ w.heap.size ≤ r3 := by have h1 := HX6.out.size; have h2 := HG3.out; omega
  obtain ⟨hgp, hrp⟩ := hgw'
  have HB14 := Lib.hid (show Both w14 g3 r3 w2.heap.size cv2 hv2 (.slice Al cs.length cl) (.slice Ak hs.length ck) (.slice A5 y.ks.length c5) cs cs os2 hs y from ⟨HM14.out, fun W hW => HB6.out.rc W ((hW.ext HE614.out HG3.out.1 HG3.out.2).exc g r), fun W hW => HB6.out.rh W ((hW.ext HE614.out HG3.out.1 HG3.out.2).exc g r), HB6.out.rk.ext HE614.out, HM14.out.lt, HM14.out.rlt, Nat.le_trans HB6.out.Bw HE614.out.size⟩)
  have CP := Lib.hid (play20_any g3 r3 w2.heap.size cv2 hv2 (.slice Al cs.length cl) (.slice Ak hs.length ck) (.slice A5 y.ks.length c5) (.slice Am ml.length cm) cs cs os2 hs y _ ml w14 HB14.out HST.out HI5.out (by omega) (fun W hW => HM.out.ext (hW.ext HX14.out hgp hrp)) (fun i _ _ => agrF_same (HQ.out.trans HPL.out) _ _))
  clear hE14 hr14 CN
  go_wp2_with fail
  refine CP.out.mono ?_
  rintro e15 w15 ⟨kv15, rfl, hB15, hE15⟩
  have HF := Lib.hid (hE15.ext HX14.out hgp hrp)
  clear hB15 hE15 CP
  go_wp2_with fail
  go_ret
  exact ⟨rfl, HF.out⟩
end Go.Proofs.YtehmpbaiefbemaaGreat
