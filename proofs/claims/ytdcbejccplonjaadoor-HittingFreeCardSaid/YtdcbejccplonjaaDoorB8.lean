/- The walk over run, given choose. -/
import Derived.Test.YtdcbejccplonjaaDoorB7
namespace Go.Proofs.YtdcbejccplonjaaDoor
open Go.RowKit
attribute [local go_sem ↓] Go.wp_at_zero Go.wp_at_succ
/-- The contract of choose, at the chosen elements els. -/
def ChOk (wB : World) (g : Nat) (sets els : List Nat) (vs vc : Value) (most limit n : Nat) : Prop :=
  ∀ (x A : Nat) (found : List Nat) (w : World) (vf ve : Value), St wB w g sets els vs vf ve vc most limit A found → x < 64 → ElsOk (els ++ [x]) A → A < 18446744073709551616 → found.length ≤ limit → card (opnF sets (els ++ [x])) < n → els.length < most → critF sets (els ++ [x]) x ≠ 0 →
    Calls Tryd.prog 47 #[.pointer (some ⟨g, 0, none⟩), .int .i64 (x : Int)] w (RetCh wB g sets els vs vf ve vc most limit A (chF sets most limit n els x A found) w)
theorem loopF_cons (f : Nat → Nat → List Nat → List Nat) (limit x : Nat) (xs : List Nat) (A : Nat) (found : List Nat) : loopF f limit (x :: xs) A found = if limit < (f x A found).length then f x A found else loopF f limit xs (A ||| 2 ^ x) (f x A found) := by rw [loopF]
/-- The head of run's loop over the choices l, at place j. -/
structure RunL (wB w w4 wr : World) (g : Nat) (sets els : List Nat) (vs vf ve vc vl : Value) (most limit n : Nat) (l : List Nat) (D : Nat) (found : List Nat) (j A : Nat) (fd : List Nat) (vf' ve' : Value) : Prop where
  st : St wB wr g sets els vs vf' ve' vc most limit A fd
  al : A < 18446744073709551616
  out : ∀ e ∈ els, A.testBit e = false
  rest : ∀ x ∈ l.drop j, A.testBit x = false
  loop : loopF (chF sets most limit n els) limit l D found = loopF (chF sets most limit n els) limit (l.drop j) A fd
  fr : Fr w wr g vf ve
  mf : Mv w vf vf'
  me : Mv w ve ve'
  row : Row wr w4.heap.size 3 vl ((nI l).map iV)
  lf : ∀ k, vl.ownBlock = some k → vf'.ownBlock ≠ some k
  le : ∀ k, vl.ownBlock = some k → ve'.ownBlock ≠ some k
set_option maxRecDepth 100000 in
set_option maxHeartbeats 8000000 in
theorem run_step {wB w : World} {g n : Nat} {sets els : List Nat} {vs vf ve vc : Value} {most limit A : Nat} {found : List Nat} (h : St wB w g sets els vs vf ve vc most limit A found) (hk : ElsOk els A) (h0 : opnF sets els ≠ 0) (hf : found.length ≤ limit)
    (hs : Us wB vs sets) (hu : U64 sets) (hl : sets.length ≤ 64) (hT : Tab wB) (hA : A < 18446744073709551616) (hn : card (opnF sets els) ≤ n) (hch : ChOk wB g sets els vs vc most limit n) :
    Calls Tryd.prog 34 #[.pointer (some ⟨g, 0, none⟩)] w (RetRun wB g sets els vs vf ve vc most limit (runF sets most limit (n + 1) els A found) w) := by
  have HS := Lib.hid h
  have HK := Lib.hid hk
  have HC := Lib.hid hch
  have HT := Lib.hid hT
  have HU := Lib.hid hu
  have c0 : w.cell? ⟨g, 0, none⟩ = some vs := h.s.cell 0 (by omega)
  have d70 : w.cell? ⟨g, 70, none⟩ = some (uV (opnF sets els)) := h.s.cell 70 (by omega)
  have d71 : w.cell? ⟨g, 71, none⟩ = some (uV A) := h.s.cell 71 (by omega)
  have lO : opnF sets els < 18446744073709551616 := opn_lt hl
  have LK := Lib.hid (look_any sets A (opnF sets els) g vs w c0 d70 d71 (hs.ext h.ext) hu (fun i hi => (opn_bit.1 hi).1) lO hA (hT.ext h.ext))
  obtain ⟨l1, -, l3, l4, -, -, -, -⟩ := look_facts (sets := sets) hA (elems (opnF sets els))
  have hne : elems (opnF sets els) ≠ [] := fun e => by
    obtain ⟨i, hi⟩ := ne_zero_bit.1 h0
    have := (mem_elems' lO).2 hi
    rw [e] at this; cases this
  have l1 := l1 hne
  have l3 := l3 hne
  have hq1 := Lib.hid l3
  have l4' : (look sets A (elems (opnF sets els))).2.2.2 ≤ 64 := Nat.le_trans l4 (card_le64 _)
  have HP := Lib.hid ((mem_elems' lO).1 l1)
  have HPl : (look sets A (elems (opnF sets els))).1 < sets.length := (opn_bit.1 HP.out).1
  have HRF : Hid (runF sets most limit (n + 1) els A found = if most < els.length + (look sets A (elems (opnF sets els))).2.2.2 then found else
      loopF (chF sets most limit n els) limit (elems (sets.getD (look sets A (elems (opnF sets els))).1 0 &&& A)) (dif A (sets.getD (look sets A (elems (opnF sets els))).1 0 &&& A)) found) := by
    rw [runF, if_neg h0]
    exact Lib.hid rfl
  have HCARD := Lib.hid (fun x (hx : (sets.getD (look sets A (elems (opnF sets els))).1 0).testBit x = true) => (show card (opnF sets (els ++ [x])) < n from Nat.lt_of_lt_of_le (opn_less hl HP.out hx) hn))
  have HCRIT := Lib.hid (fun x (hx : (sets.getD (look sets A (elems (opnF sets els))).1 0).testBit x = true) (hm : x ∉ els) => (show critF sets (els ++ [x]) x ≠ 0 by
    rw [← crit_new hm]
    exact ne_zero_bit.2 ⟨_, by rw [Nat.testBit_and, HP.out, hav_bit.2 ⟨HPl, hx⟩]; rfl⟩))
  generalize (look sets A (elems (opnF sets els))).2.2.2 = q at *
  generalize (look sets A (elems (opnF sets els))).1 = p at *
  have d68 : w.cell? ⟨g, 68, none⟩ = some ve := h.s.cell 68 (by omega)
  have d65 : w.cell? ⟨g, 65, none⟩ = some (iV (most : Int)) := h.s.cell 65 (by omega)
  obtain ⟨L, c, e1, -, -⟩ := h.re.form
  have hln : ((nI els).map iV).length = els.length := by simp [nI]
  rw [hln] at e1
  have HE := Lib.hid e1
  rw [e1] at d68
  have hlen := hk.len
  have t0 : (((opnF sets els : Nat) : Int) == 0) = false := by rw [beq0]; exact decide_eq_false h0
  have hO := Lib.hid h0
  obtain ⟨S, cs, rfl, -, -, RS⟩ := hs.read
  have HR := Lib.hid RS
  clear h hk hch h0 hln e1 hT hu l1 l4 hne c0 d71 RS hs
  generalize opnF sets els = o at *
  go_enter Tryd.func34, Tryd.ntmps34
  go_wp2_with fail
  refine LK.out.mono ?_
  rintro ea w1 ⟨rfl, hE1⟩
  replace d68 := hE1.cell d68
  replace d65 := hE1.cell d65
  have X1 := Lib.hid hE1
  have wq : IntKind.i64.wrap ((els.length : Int) + (q : Int)) = (els.length : Int) + (q : Int) := IntWalk.i64_in _ (by omega)
  clear hE1 d70
  go_wp2_with fail
  go_quiet (fail)
  generalize hW2 : w1.drewN nq = w2
  have X2 : Hid (Ext w w2) := by rw [← hW2]; exact Lib.hid (X1.out.drewN _)
  clear hW2 X1 d68 d65 wq
  by_cases hp : most < els.length + q
  · have hp' : (most : Int) < (els.length : Int) + (q : Int) := by omega
    have HF : Hid (runF sets most limit (n + 1) els A found = found) := by rw [HRF.out, if_pos hp]; exact Lib.hid rfl
    clear hp
    go_wp2_with fail
    go_end0
    rw [HF.out]
    exact ⟨rfl, vf, ve, A, HS.out.ext_r X2.out, Fr.of_ext X2.out, Mv.refl _ _, Mv.refl _ _⟩
  · have hp' : (els.length : Int) + (q : Int) ≤ (most : Int) := by omega
    have hml : els.length < most := by have := hq1.out; omega
    have HS2 := Lib.hid (HS.out.ext_r X2.out)
    have c0 : w2.cell? ⟨g, 0, none⟩ = some (Value.slice S sets.length cs) := HS2.out.s.cell 0 (by omega)
    have d71 : w2.cell? ⟨g, 71, none⟩ = some (uV A) := HS2.out.s.cell 71 (by omega)
    have f71 := HS2.out.s.free 71 (by omega)
    obtain ⟨ad, rfl, c1⟩ := HR.out w2 HS2.out.ext p HPl
    have sl := getD_lt HU.out p
    have HRF' : Hid (runF sets most limit (n + 1) els A found = loopF (chF sets most limit n els) limit (elems (sets.getD p 0 &&& A)) (dif A (sets.getD p 0 &&& A)) found) := by rw [HRF.out, if_neg hp]; exact Lib.hid rfl
    obtain ⟨s, hs⟩ : ∃ s, sets.getD p 0 = s := ⟨_, rfl⟩
    have HSP := Lib.hid hs
    rw [hs] at c1 sl HRF' HCARD HCRIT
    clear hs hp HRF
    have eC := and_u64 (a := s) (b := A) sl hA
    have Cl : s &&& A < 18446744073709551616 := andL sl
    have HCb : Hid (∀ x, (s &&& A).testBit x = true → s.testBit x = true ∧ A.testBit x = true) := Lib.hid (fun x hx => by rw [Nat.testBit_and, Bool.and_eq_true] at hx; exact hx)
    generalize s &&& A = C at *
    have eD := andNot_dif hA Cl
    have Dl : dif A C < 18446744073709551616 := dif_lt hA
    have q1 : (0 : Int) ≤ (p : Int) := by omega
    have q2 : (p : Int) < (sets.length : Int) := by omega
    go_wp2_with fail
    go_quiet (fail)
    generalize hW3 : w2.drewN nq = w3
    have X3 : Ext w2 w3 := by rw [← hW3]; exact (Ext.refl _).drewN _
    have HS3 := Lib.hid (HS2.out.ext_r X3)
    replace d71 := X3.cell d71
    have f71' : w3.frozen? ⟨g, 71, none⟩ = false := HS3.out.s.free 71 (by omega)
    clear hW3 f71 c0 c1
    go_wp2_with fail
    have T4 := HS3.out.allow (dif A C)
    have F4 : Fr w (w3.setCell ⟨g, 71, none⟩ (uV (dif A C))) g vf ve := (Fr.of_ext (X2.out.trans X3)).set 71 _
    generalize hW4 : w3.setCell ⟨g, 71, none⟩ (Value.int IntKind.u64 ((dif A C : Nat) : Int)) = w4 at T4 F4 ⊢
    clear hW4 d71 f71'
    have HT4 := Lib.hid T4
    have HF4 := Lib.hid F4
    refine (list_any C w4 Cl (HT.out.ext T4.ext)).mono ?_
    rintro e5 w5 ⟨v5, rfl, hr5, hE5⟩
    obtain ⟨M, cm, e6, -, -⟩ := hr5.form
    have hln : ((nI (elems C)).map iV).length = (elems C).length := by simp [nI]
    rw [hln] at e6
    subst e6
    have cle : (elems C).length ≤ 64 := card_le64 C
    have HI := Lib.hid hr5
    have hX5 := Lib.hid hE5
    clear hr5 hE5 hln T4 F4
    go_wp2_with fail
    have g4 : g < w4.heap.size := HT4.out.s.lt
    go_loopw [79] (fun i wr => ∃ (j A' : Nat) (fd : List Nat) (vf' ve' : Value), j ≤ (elems C).length ∧ i = iV (j : Int) ∧ fd.length ≤ limit ∧ RunL wB w w4 wr g sets els (Value.slice (some ad) sets.length cs) vf ve vc (Value.slice M (elems C).length cm) most limit n (elems C) (dif A C) found j A' fd vf' ve') (fun i _ => (elems C).length - (intOf i).toNat)
    case atStart =>
      refine ⟨0, dif A C, found, vf, ve, by omega, rfl, hf, ⟨HT4.out.ext_r hX5.out, Dl, fun e he => ?_, fun x hx => ?_, rfl, HF4.out.ext_r hX5.out, Mv.refl _ _, Mv.refl _ _, HI.out, fun k hk e => ?_, fun k hk e => ?_⟩⟩
      · rw [dif_bit, HK.out.out e he]; rfl
      · have := (mem_elems.1 (List.mem_of_mem_drop hx)).2
        rw [dif_bit, this]; simp
      · have h1 := own_lt HT4.out.rf e
        have h2 := (HI.out.lt k hk).1
        omega
      · have h1 := own_lt HT4.out.re e
        have h2 := (HI.out.lt k hk).1
        omega
    case round =>
      obtain ⟨j, A', fd, vf', ve', hj, rfl, hfd, hR⟩ := hrel
      have HRL := Lib.hid hR
      clear hR
      by_cases hlt : j < (elems C).length
      · have hIx : Is wr (Value.slice M (elems C).length cm) (nI (elems C)) := HRL.out.row.sl
        obtain ⟨M', cm', e', _, _, RL⟩ := hIx.read
        simp only [Value.slice.injEq] at e'
        obtain ⟨rfl, -, rfl⟩ := e'
        obtain ⟨bd, rfl, c2⟩ := RL wr (Ext.refl _) j (by simp [nI]; exact hlt)
        have ex : (nI (elems C)).getD j 0 = (((elems C)[j] : Nat) : Int) := by
          rw [List.getD_eq_getElem?_getD, nI, List.getElem?_map, List.getElem?_eq_getElem hlt]; rfl
        rw [ex] at c2
        have HXm := Lib.hid (List.getElem_mem hlt)
        have HDR := Lib.hid (List.drop_eq_getElem_cons hlt)
        have HND := Lib.hid (show (elems C)[j] ∉ (elems C).drop (j + 1) from fun hm => by
          have hn := (elems_nodup C).sublist (List.drop_sublist j (elems C))
          rw [List.drop_eq_getElem_cons hlt, List.nodup_cons] at hn
          exact hn.1 hm)
        obtain ⟨x, hx⟩ : ∃ x, (elems C)[j] = x := ⟨_, rfl⟩
        rw [hx] at c2 HXm HDR HND
        clear hx ex RL hIx
        obtain ⟨x64, hxC⟩ := mem_elems.1 HXm.out
        obtain ⟨hxs, hxA⟩ := HCb.out x hxC
        have hxe : x ∉ els := fun hm => by rw [HK.out.out x hm] at hxA; cases hxA
        have hxA' : A'.testBit x = false := HRL.out.rest x (by rw [HDR.out]; simp)
        have EO : Hid (ElsOk (els ++ [x]) A') := Lib.hid ⟨by
            rw [List.nodup_append]
            refine ⟨HK.out.nodup, by simp, fun a ha b hb e => ?_⟩
            have : b = x := by simpa using hb
            rw [← this, ← e] at hxe
            exact hxe ha, fun e he => by
            rcases List.mem_append.1 he with h | h
            · exact HK.out.lt e h
            · have : e = x := by simpa using h
              omega, fun e he => by
            rcases List.mem_append.1 he with h | h
            · exact HRL.out.out e h
            · have : e = x := by simpa using h
              rw [this]; exact hxA'⟩
        have CH := Lib.hid (HC.out x A' fd wr vf' ve' HRL.out.st x64 EO.out HRL.out.al hfd (HCARD.out x hxs) hml (HCRIT.out x hxs hxe))
        have HLP : Hid (loopF (chF sets most limit n els) limit (elems C) (dif A C) found = if limit < (chF sets most limit n els x A' fd).length then chF sets most limit n els x A' fd else loopF (chF sets most limit n els) limit ((elems C).drop (j + 1)) (A' ||| 2 ^ x) (chF sets most limit n els x A' fd)) := by
          rw [HRL.out.loop, HDR.out, loopF_cons]; exact Lib.hid rfl
        generalize chF sets most limit n els x A' fd = fd' at *
        clear hxs hxC hxA
        go_wp2_with fail
        refine CH.out.mono ?_
        rintro e6 w6 ⟨rfl, vf6, ve6, S6, F6, mf6, me6⟩
        have HS6 := Lib.hid S6
        have HF6 := Lib.hid (HRL.out.fr.trans F6 HRL.out.mf HRL.out.me)
        have MF6 := Lib.hid (HRL.out.mf.trans HRL.out.fr.size mf6)
        have ME6 := Lib.hid (HRL.out.me.trans HRL.out.fr.size me6)
        obtain ⟨N, cn, e7, -, -⟩ := S6.rf.form
        rw [List.length_map] at e7
        have d67 : w6.cell? ⟨g, 67, none⟩ = some (Value.slice N fd'.length cn) := by rw [← e7]; exact S6.s.cell 67 (by omega)
        have d66 : w6.cell? ⟨g, 66, none⟩ = some (iV (limit : Int)) := S6.s.cell 66 (by omega)
        have HRow : Hid (Row w6 w4.heap.size 3 (Value.slice (some bd) (elems C).length cm) ((nI (elems C)).map iV)) := Lib.hid (HRL.out.row.kept fun k hk => F6.block k (own_lt HRL.out.row hk) (fun e => by have := (HRL.out.row.lt k hk).1; omega) (HRL.out.lf k hk) (HRL.out.le k hk))
        have HLF : Hid (∀ k, (Value.slice (some bd) (elems C).length cm).ownBlock = some k → vf6.ownBlock ≠ some k) := Lib.hid (fun k hk => mf6.ne (own_lt HRL.out.row hk) (HRL.out.lf k hk))
        have HLE : Hid (∀ k, (Value.slice (some bd) (elems C).length cm).ownBlock = some k → ve6.ownBlock ≠ some k) := Lib.hid (fun k hk => me6.ne (own_lt HRL.out.row hk) (HRL.out.le k hk))
        clear S6 F6 mf6 me6 e7
        go_wp2_with fail
        go_quiet (fail)
        generalize hW7 : w6.drewN nq = w7
        have X7 : Ext w6 w7 := by rw [← hW7]; exact (Ext.refl _).drewN _
        clear hW7 d66 d67
        have HS7 := Lib.hid (HS6.out.ext_r X7)
        by_cases hbig : limit < fd'.length
        · have HF : Hid (runF sets most limit (n + 1) els A found = fd') := by rw [HRF'.out, HLP.out, if_pos hbig]; exact Lib.hid rfl
          go_wp2_with fail
          go_end0
          rw [HF.out]
          exact ⟨rfl, vf6, ve6, A', HS7.out, HF6.out.ext_r X7, MF6.out, ME6.out⟩
        · have d71 : w7.cell? ⟨g, 71, none⟩ = some (uV A') := HS7.out.s.cell 71 (by omega)
          have f71 := HS7.out.s.free 71 (by omega)
          have sh := powW x64
          have eo := orP HRL.out.al x64
          have qx : (0 : Int) ≤ (x : Int) := by omega
          go_wp2_with fail
          go_region
          go_wp2_with fail
          have hfd' : fd'.length ≤ limit := by omega
          refine ⟨⟨j + 1, A' ||| 2 ^ x, fd', vf6, ve6, by omega, by go_num, hfd', ⟨(HS7.out.allow (A' ||| 2 ^ x)).ext_r (Ext.refl _).drew, orL HRL.out.al (pow64 x64), fun e he => ?_, fun y hy => ?_, ?_, ((HF6.out.ext_r X7).set 71 _).ext_r (Ext.refl _).drew, MF6.out, ME6.out, ?_, HLF.out, HLE.out⟩⟩, by simp [intOf]; omega⟩
          · cases hb : (A' ||| 2 ^ x).testBit e with
            | false => rfl
            | true =>
              rcases or_pow_bit.1 hb with h | h
              · rw [HRL.out.out e he] at h; cases h
              · rw [h] at he; exact absurd he hxe
          · cases hb : (A' ||| 2 ^ x).testBit y with
            | false => rfl
            | true =>
              rcases or_pow_bit.1 hb with h | h
              · rw [HRL.out.rest y (by rw [HDR.out]; exact List.mem_cons_of_mem _ hy)] at h; cases h
              · rw [h] at hy; exact absurd hy HND.out
          · rw [HLP.out, if_neg hbig]
          · exact ((HRow.out.ext X7).kept fun k hk => heap_set (fun e => by
              have h1 := (HRow.out.lt k hk).1
              have h2 : g = k := e
              omega)).drew
      · obtain rfl : j = (elems C).length := by omega
        have HF : Hid (runF sets most limit (n + 1) els A found = fd) := by
          rw [HRF'.out, HRL.out.loop, List.drop_length]
          exact Lib.hid (by rw [loopF])
        go_wp2_with fail
        go_end0
        rw [HF.out]
        exact ⟨rfl, vf', ve', A', HRL.out.st, HRL.out.fr, HRL.out.mf, HRL.out.me⟩
end Go.Proofs.YtdcbejccplonjaaDoor
