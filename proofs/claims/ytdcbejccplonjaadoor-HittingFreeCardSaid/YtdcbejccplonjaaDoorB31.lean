/- The walk over the reference's Greedy. -/
import Derived.Test.YtdcbejccplonjaaDoorB25
import Derived.Test.YtdcbejccplonjaaDoorB18
import Derived.Test.YtdcbejccplonjaaDoorH12
namespace Go.Proofs.YtdcbejccplonjaaDoor
open Go.RowKit
attribute [local go_sem ↓] Go.wp_at_zero Go.wp_at_succ
theorem sliced_at {w : World} {A : Option Addr} {n c i : Nat} {vs : List Value} (h : SlAt w (.slice A n c) vs) : VsAt w (if c = i then A else A.map (fun x => x.add i)) (vs.drop i) := fun h0 => by
  obtain ⟨A', c', h1, h2, h3, h4⟩ := h.at_
  simp only [Value.slice.injEq] at h1
  obtain ⟨rfl, rfl, rfl⟩ := h1
  rw [List.length_drop] at h0
  obtain ⟨ad, rfl, hb, hc⟩ := h4 (by omega)
  rw [if_neg (by omega)]
  exact VsAt.drop (ad := ad) (fun _ => ⟨ad, rfl, hb, hc⟩) i (by rw [List.length_drop]; exact h0)
theorem row_new {w : World} {B e : Nat} {cs : Array Value} {us : List Value} (hB : B ≤ w.heap.size) (hc : cs.toList = us) (hl : us.length ≤ 1000) : Row (w.alloc (.cells cs e)) B e (.slice (some ⟨w.heap.size, 0, none⟩) us.length us.length) us := by
  have hs : cs.size = us.length := by rw [← hc]; simp
  refine ⟨by simp, .inr ⟨w.heap.size, us.length, cs, rfl, hB, heap_alloc_new w _, Nat.le_refl _, by unfold maxLen; omega, by rw [hs]; omega, ?_⟩⟩
  rw [hc, Nat.mul_one, List.take_length]
def RetG2 (r : List Int × Bool) (w : World) (e : Ending) (w' : World) : Prop := ∃ v, e = .returned (.tuple #[v, .bool r.2]) ∧ Is w' v r.1 ∧ Ext w w'
theorem getD_map_mask {fam : List (List Int)} {j : Nat} (h : j < fam.length) : (fam.map maskI).getD j 0 = maskI (fam.getD j []) := by
  rw [List.getD_eq_getElem?_getD, List.getElem?_map, List.getElem?_eq_getElem h, List.getD_eq_getElem?_getD, List.getElem?_eq_getElem h]
  rfl
def lenS : Value → Nat
  | .slice _ n _ => n
  | _ => 0
theorem card_nI (H : Nat) : (nI (elems H)).length = card H := nI_len _
set_option maxRecDepth 100000 in
set_option maxHeartbeats 16000000 in
theorem rgreedy_any (fam : List (List Int)) (vf : Value) (w : World) (h : Rs w vf fam) (hv : Fam fam) (hb : fam.length ≤ 100000) : Calls Tryd.prog 21 #[vf] w (RetG2 (rgreR (fam.map maskI)) w) := by
  have HF := Lib.hid h
  have HV := Lib.hid hv
  have HU := Lib.hid (fam_u64 hv)
  obtain ⟨A, c, rfl, a1, a2, RA⟩ := h.read
  have HR := Lib.hid RA
  have GM : ∀ j, j < fam.length → (fam.map maskI).getD j 0 = maskI (fam.getD j []) := fun j hj => getD_map_mask hj
  have HGM := Lib.hid GM
  obtain ⟨ms, hms⟩ : ∃ ms, fam.map maskI = ms := ⟨_, rfl⟩
  have hml : ms.length = fam.length := by rw [← hms, List.length_map]
  have HH := Lib.hid (fun (H : Nat) (v : Value) (W : World) (hE : Ext w W) (hi : Is W v (nI (elems H))) (hH : H < 2 ^ 64) => by
    have := rhits_any (nI (elems H)) fam v (.slice A fam.length c) W hi (HF.out.ext hE)
    rw [hits_hitF hH hv, hms] at this
    exact this)
  have HD := Lib.hid (fun (H x i : Nat) (v : Value) (W : World) (hE : Ext w W) (hi : Is W v (dropR (nI (elems H)) i)) (hH : H < 2 ^ 64) (hl : i < (elems H).length) (hx : (elems H)[i] = x) => by
    have := rhits_any (dropR (nI (elems H)) i) fam v (.slice A fam.length c) W hi (HF.out.ext hE)
    rw [drop_hitF hH hv hl hx, hms] at this
    exact this)
  have HMS := Lib.hid hms
  have HML := Lib.hid hml
  rw [hms] at HU HGM ⊢
  clear RA h hv GM hms hml a1 a2
  go_enter Tryd.func21, Tryd.ntmps21
  go_wp2_with fail
  go_loopw [4] (fun v wr => ∃ H : Nat, Row wr w.heap.size 3 v ((nI (elems H)).map iV) ∧ H < 2 ^ 64 ∧ (0 ∉ ms → ∃ n, 64 ≤ card H + n ∧ growG ms n H = growG ms 64 0) ∧ Ext w wr) (fun v _ => 65 - lenS v)
  case atStart => exact ⟨0, Row.nil _ _ _, by decide, fun _ => ⟨64, by omega, rfl⟩, Ext.refl _⟩
  case round =>
    obtain ⟨H, hrow, hH, hg, hE⟩ := hrel
    have HRow := Lib.hid hrow
    have HE := Lib.hid hE
    have HG := Lib.hid hg
    obtain ⟨S, sc, e1, s1, s2⟩ := hrow.form
    rw [List.length_map, card_nI] at e1 s1 s2
    subst e1
    have h64 := card_le64 H
    have HP := Lib.hid (HH.out H _ wr hE hrow.sl hH)
    clear hrow hE hg
    go_wp2_with fail
    refine HP.out.mono ?_
    rintro e2 w2 ⟨rfl, rfl⟩
    cases hh : hitF ms H with
    | true =>
      have hn0 : 0 ∉ ms := fun h0 => by
        obtain ⟨x, _, hx⟩ := hitF_iff.1 hh 0 h0
        rw [Nat.zero_testBit] at hx
        cases hx
      have hgh : growG ms 64 0 = H := by
        obtain ⟨n, -, g2⟩ := HG.out hn0
        rw [← g2]
        exact grow_hit hh
      have HRES := Lib.hid (rgre_ok hn0)
      have HTR0 := Lib.hid (Trm.start hgh hH)
      have hcl : (elems H).length = card H := rfl
      rw [hcl] at HTR0
      clear hh HP hn0 hgh HG hcl
      go_wp2_with fail
      go_loopw [4, 13] (fun v i wq => ∃ H' k i' : Nat, Is wq v (nI (elems H')) ∧ i = iV ((i' : Int) - 1) ∧ Trm ms H' k i' ∧ Ext w wq) (fun _ i _ => (intOf i + 1).toNat)
      case atStart => exact ⟨H, 64, card H, HRow.out.sl, by go_num, HTR0.out, HE.out⟩
      case round =>
        obtain ⟨H', k, i', hi, rfl, ht, hE⟩ := hrel
        have HEq := Lib.hid hE
        have hH' := ht.lt
        have hlv : (nI (elems H')).length ≤ 64 := by rw [card_nI]; exact card_le64 H'
        have hnl : (nI (elems H')).length = (elems H').length := nI_len _
        obtain ⟨s, hs⟩ : ∃ s, nI (elems H') = s := ⟨_, rfl⟩
        rw [hs] at hi hlv hnl
        have HSN := Lib.hid hs
        have HI := Lib.hid hi
        obtain ⟨V, vc, rfl, -, v2, -⟩ := hi.read
        cases i' with
        | zero =>
          have HD0 : Hid (nI (elems (greedyF ms)) = s) := by rw [ht.done]; exact HSN
          clear ht hi hE hs hnl
          rw [show ((0 : Nat) : Int) - 1 = -1 by omega]
          go_wp2_with fail
          go_ret2
          rw [HRES.out]
          exact ⟨_, rfl, by rw [HD0.out]; exact HI.out, HEq.out⟩
        | succ j =>
          rw [show ((j + 1 : Nat) : Int) - 1 = (j : Int) by omega]
          obtain ⟨x, hj, hx, hx64, htx⟩ := ht.step
          have hjn : j < s.length := by omega
          have q1 : (0 : Int) ≤ (j : Int) := by omega
          have hj64 : j < 64 := by omega
          have WO := Lib.hid (fun W (hW : Ext wr W) => without_any s j _ W (hi.ext hW) hjn (by omega))
          have HDM : Hid (dropR s j = nI (elems (dif H' (2 ^ x)))) := by rw [← hs]; exact Lib.hid (drop_mask hH' hj hx)
          have HHD : Hid (∀ (v : Value) (W : World), Ext w W → Is W v (dropR s j) → Calls Tryd.prog 26 #[v, .slice A fam.length c] W fun e w' => e = .returned (.bool (hitF ms (dif H' (2 ^ x)))) ∧ W = w') := Lib.hid (fun v W h1 h2 => HD.out H' x j v W h1 (by rw [hs]; exact h2) hH' hj hx)
          have HKP : Hid (hitF ms (dif H' (2 ^ x)) = false → Trm ms H' x j) := Lib.hid (fun hd => ht.keep hj hx (by rw [hd, if_neg (by simp)] at htx; exact htx))
          have HCT : Hid (hitF ms (dif H' (2 ^ x)) = true → Trm ms (dif H' (2 ^ x)) x j) := Lib.hid (fun hd => ht.cut hj hx (by rw [hd, if_pos rfl] at htx; exact htx))
          obtain ⟨D, hD⟩ : ∃ D, dif H' (2 ^ x) = D := ⟨_, rfl⟩
          rw [hD] at HDM HHD HKP HCT
          obtain ⟨dl, hdl⟩ : ∃ dl, dropR s j = dl := ⟨_, rfl⟩
          rw [hdl] at HDM HHD WO
          clear ht htx hx hj hi hE hs hnl hD hdl hx64 hH'
          go_wp2_with fail
          refine (WO.out _ (Ext.refl _)).mono ?_
          rintro e2 w2 ⟨v2, rfl, hr2, hE2⟩
          have HE22 := Lib.hid hE2
          have HE2 := Lib.hid (HEq.out.trans hE2)
          have HHD := Lib.hid (HHD.out v2 w2 HE2.out hr2.sl)
          obtain ⟨V2, vc2, e3, -, -⟩ := hr2.form
          rw [List.length_map] at e3
          subst e3
          clear hr2 hE2
          go_wp2_with fail
          refine HHD.out.mono ?_
          rintro e3 w3 ⟨rfl, rfl⟩
          clear HHD
          cases hd : hitF ms D with
          | true =>
            have HC := Lib.hid (HCT.out hd)
            clear hd HKP HCT
            go_wp2_with fail
            refine (WO.out _ HE22.out).mono ?_
            rintro e4 w4 ⟨v4, rfl, hr4, hE4⟩
            have HE4 := Lib.hid (HE2.out.trans hE4)
            have HR4 : Hid (Is w4 v4 dl) := Lib.hid hr4.sl
            clear hr4 hE4 WO
            go_wp2_with fail
            exact ⟨⟨D, x, j, by rw [← HDM.out]; exact HR4.out, by go_num, HC.out, HE4.out⟩, by simp [intOf]⟩
          | false =>
            have HC := Lib.hid (HKP.out hd)
            clear hd HKP HCT
            go_wp2_with fail
            exact ⟨⟨H', x, j, by rw [HSN.out]; exact HI.out.ext HE22.out, by go_num, HC.out, HE2.out⟩, by simp [intOf]⟩
    | false =>
      have HHF := Lib.hid hh
      clear hh HP
      go_wp2_with fail
      generalize hw0 : wr = w0 at *
      go_loopw [5, 6, 7] (fun b m x wq => ∃ k : Nat, k ≤ 64 ∧ x = iV (k : Int) ∧ b = iV (bestI (bestF ms H (List.range k))) ∧ m = iV ((bestF ms H (List.range k)).2 : Nat) ∧ Ext w0 wq) (fun _ _ x _ => 64 - (intOf x).toNat)
      case atStart => exact ⟨0, by omega, rfl, rfl, rfl, Ext.refl _⟩
      case round =>
        obtain ⟨k, hk, rfl, rfl, rfl, hEk⟩ := hrel
        generalize hw1 : wr = w1 at *
        have HEk := Lib.hid hEk
        clear hEk
        by_cases hk64 : k < 64
        · have hk64' : (k : Int) < 64 := by omega
          have HBS := Lib.hid (bestTo_succ ms H k)
          have HCE := Lib.hid (cntTo_end ms H k)
          have HCS := Lib.hid (fun i hi => cntTo_succ ms H k (i := i) hi)
          have HCL := Lib.hid (fun i => cntTo_le ms H k i)
          have hb2 := bestTo_le ms H k
          obtain ⟨bb, hbb⟩ : ∃ bb, bestF ms H (List.range k) = bb := ⟨_, rfl⟩
          rw [hbb] at HBS hb2 ⊢
          clear hbb
          obtain ⟨b0, c0⟩ := bb
          simp only [] at hb2 ⊢
          obtain ⟨bi, hbi⟩ : ∃ bi, bestI (b0, c0) = bi := ⟨_, rfl⟩
          have HBI := Lib.hid hbi
          rw [hbi]
          clear hbi
          have HEw := Lib.hid (HE.out.trans HEk.out)
          go_wp2_with fail
          go_loopw [8, 24] (fun c i wq => ∃ j : Nat, j ≤ fam.length ∧ i = iV (j : Int) ∧ c = iV (cntTo ms H k j : Nat) ∧ Ext w1 wq) (fun _ i _ => fam.length - (intOf i).toNat)
          case atStart => exact ⟨0, by omega, rfl, rfl, Ext.refl _⟩
          case round =>
            obtain ⟨j, hj, rfl, rfl, hEj⟩ := hrel
            have HEj := Lib.hid (HEw.out.trans hEj)
            have HEj0 := Lib.hid hEj
            clear hEj
            by_cases hjl : j < fam.length
            · obtain ⟨ad, u, rfl, c1, hu⟩ := HR.out wr HEj.out j hjl
              have hgm := HGM.out j hjl
              have hcs := HCS.out j (by have := HML.out; omega)
              have hcl := HCL.out j
              have hok := HV.out (fam.getD j []) (getD_mem' hjl)
              rw [hgm] at hcs
              obtain ⟨s, hs⟩ : ∃ s, fam.getD j [] = s := ⟨_, rfl⟩
              rw [hs] at hu hcs hok
              clear hs hgm
              have HA := Lib.hid (has_any s (k : Int) u wr hu)
              rw [has_bit hok k] at HA
              have HU1 := Lib.hid hu
              have HSR : Hid (Row wr w.heap.size 3 (Value.slice S (card H) sc) ((nI (elems H)).map iV)) := Lib.hid (HRow.out.ext (HEk.out.trans HEj0.out))
              have HIT := Lib.hid (fun W (hE : Ext wr W) v (hv : Rs W v [s]) => rhits_any (nI (elems H)) [s] (Value.slice S (card H) sc) v W (SlAt.ext HSR.out.sl hE) hv)
              rw [hits_one hH hok] at HIT
              obtain ⟨m, hm⟩ : ∃ m, maskI s = m := ⟨_, rfl⟩
              rw [hm] at hcs HA HIT
              clear hm hok
              obtain ⟨U, uc, rfl, -, -, -⟩ := hu.read
              clear hu
              have hml := HML.out
              obtain ⟨cn, hcn⟩ : ∃ cn, cntTo ms H k j = cn := ⟨_, rfl⟩
              rw [hcn] at hcs hcl ⊢
              clear hcn
              cases hbit : m.testBit k with
              | false =>
                rw [hbit] at HA
                rw [hbit, Bool.and_false, if_neg (by simp), Nat.add_zero] at hcs
                have HCn := Lib.hid hcs
                clear hcs hbit HIT
                go_wp2_with fail
                refine HA.out.mono ?_
                rintro e3 w3 ⟨rfl, rfl⟩
                go_wp2_with fail
                exact ⟨⟨j + 1, by omega, by go_num, by rw [HCn.out]; exact congrArg (Value.int .i64) (by omega), HEj0.out⟩, by simp [intOf]; omega⟩
              | true =>
                rw [hbit] at HA
                rw [hbit, Bool.and_true] at hcs
                clear hbit
                by_cases hs0 : m &&& H = 0
                · rw [decide_eq_true hs0, if_pos rfl] at hcs
                  have HCn := Lib.hid hcs
                  have HI2 := Lib.hid (fun v hv => HIT.out (wr.alloc (.cells #[.slice U s.length uc] 35)) ((Ext.refl _).alloc _) v hv)
                  rw [decide_eq_true hs0] at HI2
                  clear hcs hs0 HIT
                  go_wp2_with fail
                  refine HA.out.mono ?_
                  rintro e3 w3 ⟨rfl, rfl⟩
                  go_wp2_with fail
                  refine (HI2.out _ (rsC rfl rfl rfl (by simp) (cont1 HU1.out))).mono ?_
                  rintro e3 w3 ⟨rfl, rfl⟩
                  clear HI2 HA
                  go_wp2_with fail
                  exact ⟨⟨j + 1, by omega, by go_num, by rw [HCn.out]; exact congrArg (Value.int .i64) (by omega), HEj0.out.alloc _⟩, by simp [intOf]; omega⟩
                · rw [decide_eq_false hs0, if_neg (by simp), Nat.add_zero] at hcs
                  have HCn := Lib.hid hcs
                  have HI2 := Lib.hid (fun v hv => HIT.out (wr.alloc (.cells #[.slice U s.length uc] 35)) ((Ext.refl _).alloc _) v hv)
                  rw [decide_eq_false hs0] at HI2
                  clear hcs hs0 HIT
                  go_wp2_with fail
                  refine HA.out.mono ?_
                  rintro e3 w3 ⟨rfl, rfl⟩
                  go_wp2_with fail
                  refine (HI2.out _ (rsC rfl rfl rfl (by simp) (cont1 HU1.out))).mono ?_
                  rintro e3 w3 ⟨rfl, rfl⟩
                  clear HI2 HA
                  go_wp2_with fail
                  exact ⟨⟨j + 1, by omega, by go_num, by rw [HCn.out]; exact congrArg (Value.int .i64) (by omega), HEj0.out.alloc _⟩, by simp [intOf]; omega⟩
            · obtain rfl : j = fam.length := by omega
              have hce := HCE.out
              rw [HML.out] at hce
              rw [hce]
              have HBS' : Hid (bestF ms H (List.range (k + 1)) = if c0 < cntF ms H k then (k, cntF ms H k) else (b0, c0)) := HBS
              have hcf := HCL.out fam.length
              rw [hce] at hcf
              have hml := HML.out
              obtain ⟨cn, hcn⟩ : ∃ cn, cntF ms H k = cn := ⟨_, rfl⟩
              rw [hcn] at HBS' hcf ⊢
              have HE2 := Lib.hid (HEk.out.trans HEj0.out)
              clear hcn hce HBS HCE HCS HCL
              by_cases hlt : c0 < cn
              · have HB2 : Hid (bestF ms H (List.range (k + 1)) = (k, cn)) := by rw [HBS'.out, if_pos hlt]; exact Lib.hid rfl
                have HB3 := Lib.hid (bestI_hit (x := k) (c := cn) (by omega))
                clear HBS'
                go_wp2_with fail
                exact ⟨⟨k + 1, by omega, by go_num, by rw [HB2.out, HB3.out], by rw [HB2.out], HE2.out⟩, by simp [intOf]; omega⟩
              · have HB2 : Hid (bestF ms H (List.range (k + 1)) = (b0, c0)) := by rw [HBS'.out, if_neg hlt]; exact Lib.hid rfl
                clear HBS'
                go_wp2_with fail
                exact ⟨⟨k + 1, by omega, by go_num, by rw [HB2.out, HBI.out], by rw [HB2.out], HE2.out⟩, by simp [intOf]; omega⟩
        · obtain rfl : k = 64 := by omega
          have HBN := Lib.hid (fun hp => best_new (sets := ms) (H := H) hp)
          have HBO := Lib.hid (fun h0 => best_ok h0 HU.out HHF.out)
          have HGS := Lib.hid (fun n => (show growG ms (n + 1) H = growG ms n (H ||| 2 ^ (bestF ms H (List.range 64)).1) by rw [growG, if_neg (by rw [HHF.out]; simp)]))
          obtain ⟨bb, hbb⟩ : ∃ bb, bestF ms H (List.range 64) = bb := ⟨_, rfl⟩
          rw [hbb] at HBN HBO HGS ⊢
          clear hbb
          obtain ⟨b, c0⟩ := bb
          simp only [] at HBN HBO HGS ⊢
          rcases Nat.eq_zero_or_pos c0 with h0 | h0
          · subst h0
            have HZ : Hid (rgreR ms = ([], false)) := Lib.hid (rgre_zero (Classical.byContradiction fun hn => absurd (HBO.out hn) (by omega)))
            rw [bestI_zero]
            clear HBN HBO HGS
            go_wp2_with fail
            go_ret2
            rw [HZ.out]
            exact ⟨_, rfl, Is.nil _, HE.out.trans HEk.out⟩
          · obtain ⟨hb64, hbn⟩ := HBN.out h0
            rw [bestI_hit h0]
            have HIL := Lib.hid (fun i (h1 : ∀ j, j < i → j < (nI (elems H)).length → (nI (elems H)).getD j 0 < (b : Int)) h2 => insert_list hb64 hbn h1 h2)
            have HCA := Lib.hid (card_add hb64 hbn)
            have HLO := Lib.hid (or_pow_lt hH hb64)
            have HGN : Hid (0 ∉ ms → ∃ n, 64 ≤ card (H ||| 2 ^ b) + n ∧ growG ms n (H ||| 2 ^ b) = growG ms 64 0) := Lib.hid (fun hn => by
              obtain ⟨n, g1, g2⟩ := HG.out hn
              cases n with
              | zero =>
                have := hitF_iff.2 (full_hits hn HU.out (by omega : 64 ≤ card H))
                rw [HHF.out] at this; cases this
              | succ n => exact ⟨n, by rw [HCA.out]; omega, by rw [← HGS.out, g2]⟩)
            have hc64 := card_le64 (H ||| 2 ^ b)
            rw [HCA.out] at hc64
            have HEw := Lib.hid (HE.out.trans HEk.out)
            have HRw := Lib.hid (HRow.out.ext HEk.out)
            obtain ⟨S', sc', e5, -, -, RS⟩ := Is.read (zs := nI (elems H)) HRw.out.sl
            rw [card_nI, Value.slice.injEq] at e5
            obtain ⟨rfl, -, rfl⟩ := e5
            have HRS := Lib.hid RS
            have hsl := card_nI H
            obtain ⟨s, hs⟩ : ∃ s, nI (elems H) = s := ⟨_, rfl⟩
            rw [hs] at HRS HIL hsl HRw
            have HSQ := Lib.hid hs
            have q0 : (0 : Int) ≤ (b : Int) := by omega
            clear HBN HBO HGS RS hs hbn
            go_wp2_with fail
            go_loop [11] (fun i => ∃ j : Nat, j ≤ card H ∧ i = iV (j : Int) ∧ ∀ q, q < j → q < s.length → s.getD q 0 < (b : Int)) (fun i => card H - (intOf i).toNat)
            case atStart => exact ⟨0, by omega, rfl, fun q hq => by omega⟩
            case round =>
              obtain ⟨j, hj, rfl, hlow⟩ := hrel
              have HLOW := Lib.hid hlow
              clear hlow
              by_cases hgo : j < card H ∧ s.getD j 0 < (b : Int)
              · obtain ⟨hjc, hjb⟩ := hgo
                obtain ⟨ad, rfl, c1⟩ := HRS.out w1 (Ext.refl _) j (by omega)
                have HL2 : Hid (∀ q, q < j + 1 → q < s.length → s.getD q 0 < (b : Int)) := Lib.hid (fun q hq hl => by
                  rcases Nat.lt_or_ge q j with h | h
                  · exact HLOW.out q h hl
                  · rw [show q = j by omega]; exact hjb)
                obtain ⟨x, hx⟩ : ∃ x, s.getD j 0 = x := ⟨_, rfl⟩
                rw [hx] at c1 hjb
                clear hx
                go_wp2_with fail
                exact ⟨⟨j + 1, by omega, by go_num, HL2.out⟩, by simp [intOf]; omega⟩
              · have HFIN := Lib.hid (HIL.out j HLOW.out (fun hl => by omega))
                have hsd : ((s.map iV).drop j).length = card H - j := by rw [List.length_drop, List.length_map, hsl]
                have hst : ((s.map iV).take j).length = j := by rw [List.length_take, List.length_map, hsl]; omega
                have HSA := Lib.hid (sliced_at (i := j) HRw.out.sl)
                obtain ⟨S2, sc2, e6, -, -, hvs⟩ := SlAt.at_ HRw.out.sl
                rw [List.length_map, hsl, Value.slice.injEq] at e6
                obtain ⟨rfl, -, rfl⟩ := e6
                have HTA := Lib.hid (hvs.take j)
                have one : ∀ x ∈ s.map iV, x.oneCell' = true := fun x hx => by obtain ⟨y, _, rfl⟩ := List.mem_map.1 hx; rfl
                have HO1 := Lib.hid (fun x hx => one x (List.mem_of_mem_drop hx) : ∀ x ∈ (s.map iV).drop j, x.oneCell' = true)
                have HO2 := Lib.hid (fun x hx => one x (List.mem_of_mem_take hx) : ∀ x ∈ (s.map iV).take j, x.oneCell' = true)
                have qj1 : (j : Int) ≤ ((card H : Nat) : Int) := by omega
                have qj2 : (j : Int) ≤ (sc : Int) := by omega
                have HSD := Lib.hid hsd
                have HST := Lib.hid hst
                have HQ := Lib.hid hgo
                have HO3 : Hid (∀ x ∈ [iV b] ++ (s.map iV).drop j, x.oneCell' = true) := Lib.hid (fun x hx => by
                  rcases List.mem_append.1 hx with h | h
                  · exact one1 rfl x h
                  · exact HO1.out x h)
                have HFM : Hid ([] ++ (s.map iV).take j ++ ([iV b] ++ (s.map iV).drop j) = (nI (elems (H ||| 2 ^ b))).map iV) := by
                  rw [← HFIN.out]
                  exact Lib.hid (by simp [List.map_take, List.map_drop])
                clear hvs one hsd hst hgo
                by_cases hjc : j < card H
                · obtain ⟨ad, e7, c1⟩ := HRS.out w1 (Ext.refl _) j (by omega)
                  have hnb : ¬ s.getD j 0 < (b : Int) := fun h => HQ.out ⟨hjc, h⟩
                  obtain ⟨x, hx⟩ : ∃ x, s.getD j 0 = x := ⟨_, rfl⟩
                  rw [hx] at c1 hnb
                  subst e7
                  rw [if_neg (by omega)] at HSA
                  have HSA : Hid (VsAt w1 (some (ad.add j)) ((s.map iV).drop j)) := HSA
                  clear hx
                  go_wp2_with (first
                    | (at_builtin; refine wapp el35 rfl (.tmp 63) (.tmp 66) rfl (w5 := w1) (vs := [iV b]) (us := (s.map iV).drop j) rfl ((Ext.refl _).alloc _) (row_new (Nat.le_refl _) rfl (by simp)) rfl (by rw [HSD.out]) (HSA.out.ext ((Ext.refl _).alloc _)) HO1.out (by rw [HSD.out, List.length_singleton]; omega) ?_; intro v3 w3 hr3 hE3 hg3 hb3; obtain ⟨V, vc, e8, -, -, hv3⟩ := SlAt.at_ hr3.sl; rw [List.length_append, HSD.out, List.length_singleton] at e8; subst e8; have HV3 := Lib.hid hv3; have HE3 := Lib.hid hE3; clear hr3 hE3 hg3 hb3 hv3)
                    | (at_builtin; refine wapp el35 rfl (.tmp 68) (.tmp 71) rfl (w5 := w3) (vs := []) (us := (s.map iV).take j) rfl ((Ext.refl _).alloc _) (row_new (Nat.le_refl _) rfl (by simp)) rfl (by rw [HST.out]) ((HTA.out.ext HE3.out).ext ((Ext.refl _).alloc _)) HO2.out (by rw [HST.out, List.length_nil]; omega) ?_; intro v4 w4 hr4 hE4 hg4 hb4; have HR4 := Lib.hid hr4; have HE4 := Lib.hid hE4; obtain ⟨V4, vc4, e9, -, -⟩ := hr4.form; rw [List.nil_append, HST.out] at e9; subst e9; clear hr4 hE4 hg4 hb4)
                    | (at_builtin; (refine wapp el35 rfl (.tmp 72) (.tmp 73) rfl (w5 := w3) (us := [iV b] ++ (s.map iV).drop j) rfl HE4.out HR4.out rfl (by rw [List.length_append, HSD.out, List.length_singleton]) (HV3.out.ext HE4.out) HO3.out (by rw [List.length_append, List.length_append, HST.out, HSD.out, List.length_singleton, List.length_nil]; omega) ?_; intro v5 w5 hr5 hE5 hg5 hb5; rw [HFM.out] at hr5; have HR5 := Lib.hid (hr5.base (HEw.out.trans HE3.out).size); have HE5 := Lib.hid ((HEw.out.trans HE3.out).trans hE5); obtain ⟨V5, vc5, e10, -, -⟩ := hr5.form; rw [List.length_map, card_nI, HCA.out] at e10; subst e10; clear hr5 hE5 hg5 hb5)))
                  refine ⟨⟨H ||| 2 ^ b, HR5.out, HLO.out, HGN.out, HE5.out⟩, ?_⟩
                  simp only [lenS]
                  omega
                · obtain rfl : j = card H := by omega
                  rw [Nat.sub_self] at HSD
                  go_wp2_with (first
                    | (at_builtin; refine wapp el35 rfl (.tmp 63) (.tmp 66) rfl (w5 := w1) (vs := [iV b]) (us := (s.map iV).drop (card H)) rfl ((Ext.refl _).alloc _) (row_new (Nat.le_refl _) rfl (by simp)) rfl (by rw [HSD.out]) (HSA.out.ext ((Ext.refl _).alloc _)) HO1.out (by rw [HSD.out, List.length_singleton]; omega) ?_; intro v3 w3 hr3 hE3 hg3 hb3; obtain ⟨V, vc, e8, -, -, hv3⟩ := SlAt.at_ hr3.sl; rw [List.length_append, HSD.out, List.length_singleton] at e8; subst e8; have HV3 := Lib.hid hv3; have HE3 := Lib.hid hE3; clear hr3 hE3 hg3 hb3 hv3)
                    | (at_builtin; refine wapp el35 rfl (.tmp 68) (.tmp 71) rfl (w5 := w3) (vs := []) (us := (s.map iV).take (card H)) rfl ((Ext.refl _).alloc _) (row_new (Nat.le_refl _) rfl (by simp)) rfl (by rw [HST.out]) ((HTA.out.ext HE3.out).ext ((Ext.refl _).alloc _)) HO2.out (by rw [HST.out, List.length_nil]; omega) ?_; intro v4 w4 hr4 hE4 hg4 hb4; have HR4 := Lib.hid hr4; have HE4 := Lib.hid hE4; obtain ⟨V4, vc4, e9, -, -⟩ := hr4.form; rw [List.nil_append, HST.out] at e9; subst e9; clear hr4 hE4 hg4 hb4)
                    | (at_builtin; (refine wapp el35 rfl (.tmp 72) (.tmp 73) rfl (w5 := w3) (us := [iV b] ++ (s.map iV).drop (card H)) rfl HE4.out HR4.out rfl (by rw [List.length_append, HSD.out, List.length_singleton]) (HV3.out.ext HE4.out) HO3.out (by rw [List.length_append, List.length_append, HST.out, HSD.out, List.length_singleton, List.length_nil]; omega) ?_; intro v5 w5 hr5 hE5 hg5 hb5; rw [HFM.out] at hr5; have HR5 := Lib.hid (hr5.base (HEw.out.trans HE3.out).size); have HE5 := Lib.hid ((HEw.out.trans HE3.out).trans hE5); obtain ⟨V5, vc5, e10, -, -⟩ := hr5.form; rw [List.length_map, card_nI, HCA.out] at e10; subst e10; clear hr5 hE5 hg5 hb5)))
                  refine ⟨⟨H ||| 2 ^ b, HR5.out, HLO.out, HGN.out, HE5.out⟩, ?_⟩
                  simp only [lenS]
                  omega
end Go.Proofs.YtdcbejccplonjaaDoor
