/- The walk over Minimal. -/
import Derived.Test.YtdcbejccplonjaaDoorB15
namespace Go.Proofs.YtdcbejccplonjaaDoor
open Go.RowKit
attribute [local go_sem ↓] Go.wp_at_zero Go.wp_at_succ
set_option maxRecDepth 100000 in
set_option maxHeartbeats 16000000 in
theorem minimal_any (ls : List (List Int)) (v : Value) (most : Int) (w : World) (h : Rs w v ls) (hb : ls.length ≤ 100000) (hM : most ≤ 9223372036854775807) (hT : Tab w) : Calls Tryd.prog 11 #[v, .int .i64 most] w (RetL (minRes ls most) w) := by
  have RD := Lib.hid (read_any ls v w h hb)
  have HT := Lib.hid hT
  clear h hT
  go_enter Tryd.func11, Tryd.ntmps11
  go_wp2_with fail
  refine RD.out.mono ?_
  intro e1 w1 h1
  cases hr : readF ls with
  | none =>
    rw [hr] at h1
    obtain ⟨rfl, hE⟩ := h1
    have HX := Lib.hid hE
    have HR := Lib.hid (minRes_none (most := most) hr)
    clear hE hr RD
    go_wp2_with fail
    go_ret2
    rw [HR.out]
    exact ⟨_, rfl, Rs.nil _, HX.out⟩
  | some ms =>
    rw [hr] at h1
    obtain ⟨vr, rfl, hrow, hE⟩ := h1
    have HN := Lib.hid (fun most => minRes_neg (most := most) hr)
    have HP := Lib.hid (fun m => minRes_pos m hr)
    have HX := Lib.hid hE
    have HRow := Lib.hid hrow
    obtain ⟨-, -, hml, hmu⟩ := readF_facts hr
    have HU := Lib.hid hmu
    clear hE hr RD hrow hmu
    by_cases hm : most < 0
    · have HR' := Lib.hid (HN.out most hm)
      go_wp2_with fail
      go_ret2
      rw [HR'.out]
      exact ⟨_, rfl, Rs.nil _, HX.out⟩
    · obtain ⟨m, rfl⟩ := Int.eq_ofNat_of_zero_le (show 0 ≤ most by omega)
      have HR' := Lib.hid (HP.out m)
      have hm' : ¬ ((m : Int) < 0) := by omega
      have LE := Lib.hid (least_any ms vr w1 HRow.out.sl HU.out (by omega))
      go_wp2_with fail
      refine LE.out.mono ?_
      rintro e2 w2 ⟨v2, rfl, hr2, hE2⟩
      have HX2 := Lib.hid (HX.out.trans hE2)
      have HR2 := Lib.hid hr2
      have HI : Is w2 (.slice none 0 0) [] := SlAt.nil _
      have hus : Us w2 v2 (leastF ms) := hr2.sl
      obtain ⟨L, c2, rfl, -, -, RL⟩ := hus.read
      have hll := least_length ms
      have HL0 := Lib.hid (RL w2 (Ext.refl _) 0)
      have PA := Lib.hid (parts_any (leastF ms) (.slice L (leastF ms).length c2) w2 hr2.sl (least_u64 HU.out) (by omega))
      have ME := Lib.hid (minF_eq ms m)
      have HH := Lib.hid (head_zero ms)
      have PO := Lib.hid (ps_ok hml HU.out)
      have PM := Lib.hid (fun p (hp : p ∈ psF ms) => ps_mem hp)
      have PSF : Hid (psF ms = (partsF (leastF ms)).map (·.1)) := Lib.hid rfl
      clear hE2 hr2 hus RL LE HI
      by_cases hz : (leastF ms).getD 0 1 = 0
      · have hlen : 0 < (leastF ms).length := by
          refine Nat.pos_of_ne_zero fun e => ?_
          have := List.eq_nil_of_length_eq_zero e
          rw [this] at hz
          simp at hz
        obtain ⟨ad, rfl, c0⟩ := HL0.out hlen
        have hz0 : (leastF ms).getD 0 0 = 0 := by
          rw [List.getD_eq_getElem?_getD, List.getElem?_eq_getElem hlen] at hz ⊢
          exact hz
        rw [hz0] at c0
        have c1 : w2.cell? ad = some (uV 0) := by simpa [Addr.add] using c0
        have HR'' : Hid (minRes ls (m : Int) = (lsF [], 0)) := by
          rw [HR'.out, ME.out, if_pos hz]; exact Lib.hid rfl
        have q1 : 0 < (((leastF ms).length : Nat) : Int) := by omega
        clear HR' ME PA HH hz hz0 HL0
        go_wp2_with fail
        go_ret2
        rw [HR''.out]
        exact ⟨_, rfl, Rs.nil _, HX2.out⟩
      · have h0 : 0 ∉ ms := fun hm => hz (HH.out.2 hm)
        have HM : Hid (minF ms m = if m < needF m (psF ms) then some [] else combF m (needF m (psF ms)) (psF ms) (needF m (psF ms)) [0]) := by
          rw [ME.out, if_neg hz]; exact Lib.hid rfl
        have SM := Lib.hid (fun p (hp : p ∈ psF ms) => small64 (most := m) (PO.out p hp) fun h => h0 (mem_least.1 (PM.out p hp 0 h)).1)
        have h1 : (leastF ms).length = 0 ∨ ∃ (ad : Addr) (y : Nat), L = some ad ∧ 0 < (leastF ms).length ∧ w2.cell? ad = some (uV y) ∧ ((y : Int) == 0) = false := by
          rcases Nat.eq_zero_or_pos (leastF ms).length with h1 | h1
          · exact .inl h1
          · obtain ⟨ad, e, c0⟩ := HL0.out h1
            refine .inr ⟨ad, (leastF ms).getD 0 0, e, h1, by simpa [Addr.add] using c0, ?_⟩
            rw [beq0, decide_eq_false_iff_not]
            have hg : ∀ d, (leastF ms).getD 0 d = (leastF ms)[0] := fun d => by rw [List.getD_eq_getElem?_getD, List.getElem?_eq_getElem h1]; rfl
            rw [hg] at hz ⊢
            exact hz
        go_upto_region 5 with fail
        go_cut [6, 45] (fun s b wx => s = Value.slice L (leastF ms).length c2 ∧ b = .bool false ∧ wx = w2)
        case first =>
          rcases h1 with h1 | ⟨ad, y, rfl, h1, c1, h2⟩
          · have q1 : (((leastF ms).length : Nat) : Int) = 0 := by omega
            go_wp2_with fail
            go_meet
            exact ⟨rfl, rfl, rfl⟩
          · have q1 : 0 < (((leastF ms).length : Nat) : Int) := by omega
            go_wp2_with fail
            go_meet
            exact ⟨rfl, rfl, rfl⟩
        case rest =>
          obtain ⟨rfl, rfl, rfl⟩ := hcut
          go_wp2_with fail
          clear h1 HL0 HR'
          refine PA.out.mono ?_
          rintro e3 w3 ⟨v3, ps, rfl, hr3, his, hps, hE3⟩
          have HX3 := Lib.hid (HX2.out.trans hE3)
          have HPA : Hid (PsAt wc w3 v3 ps) := Lib.hid ⟨hr3, his⟩
          obtain ⟨P, pc, rfl, -, RP⟩ := HPA.out.read
          have HRP := Lib.hid RP
          have HPS : Hid (psF ms = ps.map (·.2.1)) := Lib.hid (by rw [PSF.out, ← hps, List.map_map]; rfl)
          have hpn : ps.length ≤ 64 := by
            have := partsF_len (leastF ms)
            rw [← hps, List.length_map] at this
            omega
          have hdp : ∀ j (hj : j < ps.length), ps[j].2.1 ∈ psF ms := fun j hj => by rw [HPS.out]; exact List.mem_map.2 ⟨_, List.getElem_mem hj, rfl⟩
          have HGD : Hid (∀ j (hj : j < ps.length), (psF ms).getD j [] = ps[j].2.1) := Lib.hid (fun j hj => by rw [HPS.out, List.getD_eq_getElem?_getD, List.getElem?_map, List.getElem?_eq_getElem hj]; rfl)
          have hlp : (psF ms).length = ps.length := by rw [HPS.out, List.length_map]
          have HPO := Lib.hid (fun j hj => PO.out _ (hdp j hj))
          have HSM := Lib.hid (fun j hj => SM.out _ (hdp j hj))
          have HNS := Lib.hid (fun k hk => need_snoc m (psF ms) (k := k) hk)
          have HND := Lib.hid (fun k hk => need_drop m (psF ms) (k := k) hk)
          have HNP := Lib.hid (fun k => need_split m (psF ms) k)
          have N64 : needF m (psF ms) ≤ 4096 := by
            have := need_le64 SM.out
            omega
          have HCS := Lib.hid (fun k hk => comb_step m (needF m (psF ms)) (psF ms) (k := k) hk)
          clear hr3 his hps hE3 RP PSF PO SM PM hdp PA HX2 HR2 HH
          go_wp2_with fail
          go_loopw [9, 10, 50] (fun n t i wr => ∃ (k : Nat), k ≤ ps.length ∧ i = iV (k : Int) ∧ n = iV (needF m ((psF ms).take k) : Nat) ∧ needF m ((psF ms).take k) ≤ m ∧ Row wr w3.heap.size 3 t ((nI (((psF ms).take k).map fun p => smallF p m)).map iV) ∧ Ext w3 wr) (fun _ _ i _ => ps.length - (intOf i).toNat)
          case atStart => exact ⟨0, by omega, rfl, by simp [needF], by simp [needF], Row.nil _ _ _, Ext.refl _⟩
          case round =>
            obtain ⟨k, hk, rfl, rfl, hnm, hrz, hE⟩ := hrel
            have HE := Lib.hid hE
            have HRZ := Lib.hid hrz
            clear hE hrz
            by_cases hlt : k < ps.length
            · obtain ⟨ad, rfl, c1, hup⟩ := HRP.out wr HE.out k hlt
              have hpo := HPO.out k hlt
              have hsm := HSM.out k hlt
              have hns := HNS.out k (by omega)
              rw [HGD.out k hlt] at hns
              have HTK : Hid (((psF ms).take (k + 1)).map (fun p => smallF p m) = ((psF ms).take k).map (fun p => smallF p m) ++ [smallF ps[k].2.1 m]) := by
                rw [take_snoc (by omega), List.map_append]
                have := HGD.out k hlt
                rw [List.getD_eq_getElem?_getD, List.getElem?_eq_getElem (by omega)] at this
                have e : (psF ms)[k] = ps[k].2.1 := this
                rw [List.map_singleton, e]
                exact Lib.hid rfl
              have SMA := Lib.hid (smallest_any ps[k].2.1 ps[k].1 m wr hup hpo.u64 hpo.len (HT.out.ext (HX3.out.trans HE.out)) hsm (by omega))
              have HN1 : Hid (needF m ((psF ms).take (k + 1)) = needF m ((psF ms).take k) + smallF ps[k].2.1 m) := Lib.hid hns
              have hle := HNP.out (k + 1)
              rw [HN1.out] at hle
              obtain ⟨n1, hn1⟩ : ∃ n1, smallF ps[k].2.1 m = n1 := ⟨_, rfl⟩
              obtain ⟨n0, hn0⟩ : ∃ n0, needF m ((psF ms).take k) = n0 := ⟨_, rfl⟩
              have HN0 := Lib.hid hn0
              rw [hn1, hn0] at hle HN1
              rw [hn1] at HTK hsm SMA
              rw [hn0] at hnm ⊢
              have hll : (((psF ms).take k).map fun p => smallF p m).length ≤ 64 := by rw [List.length_map, List.length_take]; omega
              clear hn1 hn0 hns hup hpo
              generalize ps[k].1 = pv at *
              have wq : IntKind.i64.wrap ((n0 : Int) + (n1 : Int)) = ((n0 + n1 : Nat) : Int) := by rw [IntWalk.i64_in _ (by omega)]; omega
              go_wp2_with fail
              refine SMA.out.mono ?_
              rintro e4 w4 ⟨rfl, hE4⟩
              have HE4 := Lib.hid (HE.out.trans hE4)
              have HX4 := Lib.hid ((HX3.out.trans HE.out).trans hE4)
              have HRZ4 := Lib.hid (HRZ.out.ext hE4)
              clear hE4 SMA c1
              have HZN : Hid ((nI (((psF ms).take (k + 1)).map fun p => smallF p m)).map iV = (nI (((psF ms).take k).map fun p => smallF p m)).map iV ++ [iV (n1 : Int)]) := by
                rw [HTK.out]; exact Lib.hid (by simp [nI])
              have hzl : ((nI (((psF ms).take k).map fun p => smallF p m)).map iV).length ≤ 64 := by simpa [nI] using hll
              obtain ⟨zs, hzs⟩ : ∃ zs, (nI (((psF ms).take k).map fun p => smallF p m)).map iV = zs := ⟨_, rfl⟩
              rw [hzs] at HZN hzl HRZ4 HRZ
              clear hzs HTK hll
              obtain ⟨Z, zc, e5, -, -⟩ := HRZ4.out.form
              subst e5
              by_cases hbig : m < n0 + n1
              · have HF : Hid (minRes ls (m : Int) = (lsF [], 0)) := by
                  rw [HP.out, HM.out, if_pos (by omega)]; exact Lib.hid rfl
                have q1 : (m : Int) < ((n0 + n1 : Nat) : Int) := by omega
                go_wp2_with (at_builtin; go_loud (refine wapp el35 rfl (.tmp 57) (.tmp 59) rfl (w5 := w3) rfl (HE4.out.alloc _) (HRZ4.out.ext ((Ext.refl _).alloc _)) rfl rfl (vs1 _ _ _) (one1 rfl) ?hm ?_; (case hm => (rw [List.length_singleton]; omega)); intro v6 w6 hr6 hE6 hg6 hb6))
                go_ret2
                rw [HF.out]
                exact ⟨_, rfl, Rs.nil _, HX3.out.trans hE6⟩
              · have q1 : ((n0 + n1 : Nat) : Int) ≤ (m : Int) := by omega
                go_wp2_with (at_builtin; go_loud (refine wapp el35 rfl (.tmp 57) (.tmp 59) rfl (w5 := w3) rfl (HE4.out.alloc _) (HRZ4.out.ext ((Ext.refl _).alloc _)) rfl rfl (vs1 _ _ _) (one1 rfl) ?hm ?_; (case hm => (rw [List.length_singleton]; omega)); intro v6 w6 hr6 hE6 hg6 hb6))
                exact ⟨⟨k + 1, by omega, by go_num, by rw [HN1.out]; exact congrArg (Value.int .i64) (by omega), by rw [HN1.out]; omega, by rw [HZN.out]; exact hr6, hE6⟩, by simp [intOf]; omega⟩
            · obtain rfl : k = ps.length := by omega
              have htl : (psF ms).take ps.length = psF ms := by rw [← hlp, List.take_length]
              rw [htl] at hnm HRZ ⊢
              clear htl
              obtain ⟨n, hn⟩ : ∃ n, needF m (psF ms) = n := ⟨_, rfl⟩
              rw [hn] at hnm HM N64 HCS HNP ⊢
              have HMC : Hid (minF ms m = combF m n (psF ms) n [0]) := by rw [HM.out, if_neg (by omega)]; exact Lib.hid rfl
              have HZS : Hid (∀ W, Ext wr W → ∀ j (hj : j < ps.length), ∃ ad : Addr, (∃ c, u10 = .slice (some ad) ps.length c) ∧ W.cell? (ad.add j) = some (iV (smallF ps[j].2.1 m : Nat))) := Lib.hid (fun W hW j hj => by
                have hI : Is wr u10 (nI ((psF ms).map fun p => smallF p m)) := HRZ.out.sl
                obtain ⟨A, c, e, _, _, R⟩ := hI.read
                have hl : (nI ((psF ms).map fun p => smallF p m)).length = ps.length := by rw [nI_len, List.length_map, hlp]
                rw [hl] at e R
                obtain ⟨ad, e2, hc⟩ := R W hW j hj
                refine ⟨ad, ⟨c, by rw [e, e2]⟩, ?_⟩
                have := HGD.out j hj
                rw [List.getD_eq_getElem?_getD, List.getElem?_eq_getElem (by omega)] at this
                have e3 : (psF ms)[j] = ps[j].2.1 := this
                rw [hc, List.getD_eq_getElem?_getD, nI, List.getElem?_map, List.getElem?_map, List.getElem?_eq_getElem (by omega), e3]
                rfl)
              clear HM HNS HRZ
              have HXw := Lib.hid (HX3.out.trans HE.out)
              go_wp2_with fail
              generalize hwf : wr.alloc (.cells #[uV 0] 52) = wf
              have XF : Ext wr wf := by rw [← hwf]; exact (Ext.refl _).alloc _
              have RF : Row wf w.heap.size 52 (.slice (some ⟨wr.heap.size, 0, none⟩) 1 1) ([0].map uV) := by
                rw [← hwf]; exact World.ownsRow_lit wr #[uV 0] 1 HXw.out.size (by unfold maxLen; omega) (by simp)
              have HXF := Lib.hid XF
              clear hwf
              go_loopw [14, 15, 72] (fun f r i wq => ∃ (k : Nat) (fd : List Nat), k ≤ ps.length ∧ i = iV (k : Int) ∧ r = iV (needF m ((psF ms).drop k) : Nat) ∧ U64 fd ∧ fd.length ≤ 4096 ∧ combF m n (psF ms) n [0] = combF m n ((psF ms).drop k) (needF m ((psF ms).drop k)) fd ∧ Row wq w.heap.size 52 f (fd.map uV) ∧ Ext wf wq) (fun _ _ i _ => ps.length - (intOf i).toNat)
              case atStart => exact ⟨0, [0], by omega, rfl, by rw [List.drop_zero, hn], by simp [U64], by simp, by rw [List.drop_zero, hn], RF, Ext.refl _⟩
              case round =>
                obtain ⟨k, fd, hk, rfl, rfl, hfu, hfl, hc, hrf, hE5⟩ := hrel
                have HFU := Lib.hid hfu
                have HC := Lib.hid hc
                have HRF := Lib.hid hrf
                have HE5 := Lib.hid hE5
                have HXr := Lib.hid ((HXw.out.trans HXF.out).trans hE5)
                clear hfu hc hrf hE5
                obtain ⟨F, fc, e6, -, -⟩ := HRF.out.form
                rw [List.length_map] at e6
                subst e6
                by_cases hlt : k < ps.length
                · obtain ⟨ad, rfl, c1, hup⟩ := HRP.out wr ((HE.out.trans HXF.out).trans HE5.out) k hlt
                  obtain ⟨zd, ⟨zc, rfl⟩, cz⟩ := HZS.out wr (HXF.out.trans HE5.out) k hlt
                  have hpo := HPO.out k hlt
                  have hnd := HND.out k (by omega)
                  have hsp := HNP.out k
                  have HCK := Lib.hid (HCS.out k (by omega) (needF m ((psF ms).drop k)) fd)
                  rw [HGD.out k hlt] at hnd HCK
                  have HSU := Lib.hid (search_u64 (most := m - n + smallF ps[k].2.1 m) (limit := 4096) hpo)
                  have NS := Lib.hid (newSearch_any ps[k].2.1 ps[k].1 (m - n + smallF ps[k].2.1 m) 4096 wr hup hpo.u64 hpo.len (HT.out.ext HXr.out))
                  have c4 : ((4096 : Nat) : Int) = 4096 := rfl
                  rw [c4] at NS
                  clear c4
                  have HUP := Lib.hid hup
                  have HPK := Lib.hid hpo
                  obtain ⟨n1, hn1⟩ : ∃ n1, smallF ps[k].2.1 m = n1 := ⟨_, rfl⟩
                  obtain ⟨r1, hr1⟩ : ∃ r1, needF m ((psF ms).drop (k + 1)) = r1 := ⟨_, rfl⟩
                  have HR1 := Lib.hid hr1
                  rw [hn1] at hnd HCK HSU NS cz
                  rw [hr1] at hnd
                  rw [hnd] at hsp HCK HC ⊢
                  rw [Nat.add_sub_cancel_left] at HCK
                  have hle1 : n1 + r1 ≤ n := by omega
                  have e1q : ((m - n + n1 : Nat) : Int) = (m : Int) - (n : Int) + (n1 : Int) := by omega
                  rw [e1q] at NS
                  clear hn1 hr1 hnd hup hpo hsp e1q
                  generalize ps[k].1 = pv at *
                  go_wp2_with fail
                  refine NS.out.mono ?_
                  rintro e7 w7 ⟨g, rfl, hg, hS, hE7⟩
                  have SR := Lib.hid (search_any (wB := wr) hE7 hg hS HUP.out HPK.out.u64 HPK.out.len (HT.out.ext HXr.out) (by omega))
                  clear hS NS
                  go_wp2_with fail
                  refine SR.out.mono ?_
                  rintro e8 w8 ⟨rfl, hE8, vf, d67, hr8⟩
                  have HE8 := Lib.hid hE8
                  have H67 := Lib.hid d67
                  have HR8 := Lib.hid hr8
                  obtain ⟨sf, hsf⟩ : ∃ sf, searchF ps[k].2.1 (m - n + n1) 4096 = sf := ⟨_, rfl⟩
                  rw [hsf] at HR8 HCK HSU
                  obtain ⟨S, sc, e9, -, -⟩ := HR8.out.form
                  rw [List.length_map] at e9
                  subst e9
                  have hIs : Us w8 (.slice S sf.length sc) sf := HR8.out.sl
                  obtain ⟨S', sc', e10, hs1, hs2, RS⟩ := hIs.read
                  have hsl : sf.length ≤ 9223372036854775807 := by unfold maxLen at hs2; omega
                  clear hs1 hs2
                  simp only [Value.slice.injEq] at e10
                  obtain ⟨rfl, -, rfl⟩ := e10
                  have HRS := Lib.hid RS
                  have hIf : Us wr (.slice F fd.length fc) fd := HRF.out.sl
                  obtain ⟨F', fc', e11, _, _, RFd⟩ := hIf.read
                  simp only [Value.slice.injEq] at e11
                  obtain ⟨rfl, -, rfl⟩ := e11
                  have HRFd := Lib.hid RFd
                  have hX8 := HXr.out.trans hE8
                  have HX8 := Lib.hid hX8
                  clear SR hE8 d67 hr8 hsf hIs hIf RS RFd hE7 hg hX8 cz c1
                  go_wp2_with fail
                  go_loopw [19, 97] (fun t i wx => ∃ ja : Nat, ja ≤ fd.length ∧ i = iV (ja : Int) ∧ Row wx w8.heap.size 52 t ((crossF m r1 (fd.take ja) sf).map uV) ∧ (crossF m r1 (fd.take ja) sf).length ≤ 4096 ∧ Ext w8 wx) (fun _ i _ => fd.length - (intOf i).toNat)
                  case atStart => exact ⟨0, by omega, rfl, Row.nil _ _ _, by simp [crossF], Ext.refl _⟩
                  case round =>
                    obtain ⟨ja, hja, rfl, hrx, hlx, hEx⟩ := hrel
                    have HRX := Lib.hid hrx
                    have HEX := Lib.hid hEx
                    clear hrx hEx
                    by_cases hjl : ja < fd.length
                    · obtain ⟨fd0, rfl, ca⟩ := HRFd.out wr (HE8.out.trans HEX.out) ja hjl
                      have la := getD_lt HFU.out ja
                      have c67 := HEX.out.cell H67.out
                      have HCZ := Lib.hid (crossTo_zero m r1 fd sf ja)
                      have HCE := Lib.hid (crossTo_end m r1 fd sf hjl)
                      have HCL := Lib.hid (fun jb => crossTo_len m r1 fd sf hjl jb)
                      have HCSc := Lib.hid (fun jb hb => crossTo_succ m r1 fd sf ja (k := jb) hb)
                      have HRX0 : Hid (Row wr w8.heap.size 52 u19 ((crossTo m r1 fd sf ja 0).map uV)) := by rw [HCZ.out]; exact HRX
                      have hlx0 : (crossTo m r1 fd sf ja 0).length ≤ 4096 := by rw [HCZ.out]; exact hlx
                      obtain ⟨a, ha⟩ : ∃ a, fd.getD ja 0 = a := ⟨_, rfl⟩
                      rw [ha] at ca la HCSc
                      clear ha HRX HCZ
                      go_wp2_with fail
                      go_loopw [19, 106] (fun t i wy => ∃ jb : Nat, jb ≤ sf.length ∧ i = iV (jb : Int) ∧ Row wy w8.heap.size 52 t ((crossTo m r1 fd sf ja jb).map uV) ∧ (crossTo m r1 fd sf ja jb).length ≤ 4096 ∧ Ext w8 wy) (fun _ i _ => sf.length - (intOf i).toNat)
                      case atStart => exact ⟨0, by omega, rfl, HRX0.out, hlx0, HEX.out⟩
                      case round =>
                        obtain ⟨jb, hjb, rfl, hry, hly, hEy⟩ := hrel
                        have HRY := Lib.hid hry
                        have HEY := Lib.hid hEy
                        clear hry hEy
                        by_cases hbl : jb < sf.length
                        · obtain ⟨sd, e12, cb⟩ := HRS.out wr HEY.out jb hbl
                          subst e12
                          have lb := getD_lt HSU.out jb
                          have hcs := HCSc.out jb hbl
                          have hcl := HCL.out (jb + 1)
                          obtain ⟨b, hb'⟩ : ∃ b, sf.getD jb 0 = b := ⟨_, rfl⟩
                          rw [hb'] at cb lb hcs
                          clear hb'
                          have eo := u64_or_nat a b la lb
                          have lo : a ||| b < 18446744073709551616 := orL la lb
                          have ON := Lib.hid (ones_any (a ||| b) wr lo)
                          have hc64 := card_le64 (a ||| b)
                          obtain ⟨cd, hcd⟩ : ∃ cd, card (a ||| b) = cd := ⟨_, rfl⟩
                          rw [hcd] at hcs ON hc64
                          clear hcd
                          obtain ⟨T, tc, e13, -, -⟩ := HRY.out.form
                          rw [List.length_map] at e13
                          subst e13
                          by_cases hfit : cd + r1 ≤ m
                          · rw [if_pos hfit] at hcs
                            have HCSn := Lib.hid hcs
                            have hln : (crossTo m r1 fd sf ja (jb + 1)).length = (crossTo m r1 fd sf ja jb).length + 1 := by rw [hcs]; simp
                            clear hcs
                            generalize hob : a ||| b = ob at *
                            go_wp2_with fail
                            refine ON.out.mono ?_
                            rintro e14 w14 ⟨rfl, rfl⟩
                            have hlq : ((crossTo m r1 fd sf ja jb).map uV ++ [uV ob]).length = (crossTo m r1 fd sf ja jb).length + 1 := by simp
                            have HRn : Hid (∀ W t, Row W w8.heap.size 52 t ((crossTo m r1 fd sf ja jb).map uV ++ [uV ob]) → Row W w8.heap.size 52 t ((crossTo m r1 fd sf ja (jb + 1)).map uV)) := Lib.hid (fun W t h => by rw [HCSn.out, List.map_append]; exact h)
                            have HBIG : Hid (4096 < (crossTo m r1 fd sf ja jb).length + 1 → minRes ls (m : Int) = ([], 3)) := Lib.hid (fun hq => by
                              rw [HP.out, HMC.out, HC.out, HCK.out, if_pos (by omega)]; rfl)
                            obtain ⟨nl, hnl⟩ : ∃ nl, (crossTo m r1 fd sf ja jb).length = nl := ⟨_, rfl⟩
                            rw [hnl] at hlq hly hln HBIG HRY
                            rw [hnl]
                            by_cases hbig : 4096 < nl + 1
                            · have HF := Lib.hid (HBIG.out hbig)
                              have q1 : (4096 : Int) < ((nl + 1 : Nat) : Int) := by omega
                              go_wp2_with (at_builtin; go_loud (refine wapp el48 rfl (.tmp 118) (.tmp 122) rfl (w5 := w8) rfl (HEY.out.alloc _) (HRY.out.ext ((Ext.refl _).alloc _)) rfl (List.length_singleton ..).symm (vs1 _ _ _) (one1 rfl) ?hm ?_; (case hm => (rw [List.length_map, List.length_singleton, hnl]; omega)); intro v15 w15 hr15 hE15 hg15 hb15; obtain ⟨N15, nc, e15, -, -⟩ := hr15.form; rw [hlq] at e15; subst e15))
                              go_ret2
                              rw [HF.out]
                              exact ⟨_, rfl, Rs.nil _, HX8.out.trans hE15⟩
                            · have q1 : ((nl + 1 : Nat) : Int) ≤ (4096 : Int) := by omega
                              go_wp2_with (at_builtin; go_loud (refine wapp el48 rfl (.tmp 118) (.tmp 122) rfl (w5 := w8) rfl (HEY.out.alloc _) (HRY.out.ext ((Ext.refl _).alloc _)) rfl (List.length_singleton ..).symm (vs1 _ _ _) (one1 rfl) ?hm ?_; (case hm => (rw [List.length_map, List.length_singleton, hnl]; omega)); intro v15 w15 hr15 hE15 hg15 hb15; obtain ⟨N15, nc, e15, -, -⟩ := hr15.form; rw [hlq] at e15; subst e15))
                              exact ⟨⟨jb + 1, by omega, by go_num, HRn.out _ _ hr15, by omega, hE15⟩, by simp [intOf]; omega⟩
                          · rw [if_neg hfit, List.append_nil] at hcs
                            have HCSn := Lib.hid hcs
                            clear hcs
                            generalize hob : a ||| b = ob at *
                            obtain ⟨nl, hnl⟩ : ∃ nl, (crossTo m r1 fd sf ja jb).length = nl := ⟨_, rfl⟩
                            rw [hnl] at hly
                            rw [hnl]
                            go_wp2_with fail
                            refine ON.out.mono ?_
                            rintro e14 w14 ⟨rfl, rfl⟩
                            go_wp2_with fail
                            exact ⟨⟨jb + 1, by omega, by go_num, by rw [HCSn.out]; rw [← hnl] at *; exact HRY.out, by rw [HCSn.out]; omega, HEY.out⟩, by simp [intOf]; omega⟩
                        · obtain rfl : jb = sf.length := by omega
                          rw [HCE.out] at HRY hly
                          go_wp2_with fail
                          exact ⟨⟨ja + 1, by omega, by go_num, HRY.out, hly, HEY.out⟩, by simp [intOf]; omega⟩
                    · obtain rfl : ja = fd.length := by omega
                      rw [List.take_length] at HRX hlx
                      have HCN : Hid (combF m n (psF ms) n [0] = combF m n ((psF ms).drop (k + 1)) r1 (crossF m r1 fd sf)) := by
                        rw [HC.out, HCK.out, if_neg (by omega)]; exact Lib.hid rfl
                      have HCU := Lib.hid (cross_u64 (most := m) (rest := r1) HFU.out HSU.out)
                      go_wp2_with fail
                      exact ⟨⟨k + 1, crossF m r1 fd sf, by omega, by go_num, by rw [HR1.out]; exact congrArg (Value.int .i64) (by omega), HCU.out, hlx, by rw [HR1.out]; exact HCN.out, HRX.out.base (HX8.out.size), (HE5.out.trans HE8.out).trans HEX.out⟩, by simp [intOf]; omega⟩
                · obtain rfl : k = ps.length := by omega
                  have hmin : minF ms m = some fd := by
                    have := HC.out
                    rw [List.drop_eq_nil_of_le (by omega), combF] at this
                    rw [HMC.out, this]
                  have HF : Hid (minRes ls (m : Int) = (lsF fd, 0)) := by rw [HP.out, hmin]; exact Lib.hid rfl
                  have LS := Lib.hid (lists_any fd (.slice F fd.length fc) wr HRF.out.sl HFU.out (by omega) (min_sound hml HU.out hmin).1 (HT.out.ext HXr.out))
                  clear hmin HC
                  go_wp2_with fail
                  refine LS.out.mono ?_
                  rintro e7 w7 ⟨v7, rfl, hrs, hE7⟩
                  have HRS := Lib.hid hrs
                  have HE7 := Lib.hid (HXr.out.trans hE7)
                  clear hrs hE7 LS
                  go_wp2_with fail
                  go_ret2
                  rw [HF.out]
                  exact ⟨_, rfl, HRS.out, HE7.out⟩
end Go.Proofs.YtdcbejccplonjaaDoor
