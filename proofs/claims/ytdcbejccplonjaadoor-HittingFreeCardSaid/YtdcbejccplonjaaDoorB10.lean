/- The walk over choose, given run one element deeper; and run and choose in all. -/
import Derived.Test.YtdcbejccplonjaaDoorB9
namespace Go.Proofs.YtdcbejccplonjaaDoor
open Go.RowKit
attribute [local go_sem ↓] Go.wp_at_zero Go.wp_at_succ
/-- The contract of run, at the chosen elements els. -/
def RunOk (wB : World) (g : Nat) (sets els : List Nat) (vs : Value) (most limit n : Nat) : Prop :=
  ∀ (A : Nat) (found : List Nat) (w : World) (vf ve vc : Value), St wB w g sets els vs vf ve vc most limit A found → ElsOk els A → A < 18446744073709551616 → found.length ≤ limit → card (opnF sets els) ≤ n →
    Calls Tryd.prog 34 #[.pointer (some ⟨g, 0, none⟩)] w (RetRun wB g sets els vs vf ve vc most limit (runF sets most limit (n + 1) els A found) w)
theorem chF_cut {sets els : List Nat} {most limit n x A : Nat} {fd : List Nat} {k : Nat} (hk : k < els.length) (h : critF sets (els ++ [x]) els[k] = 0) : chF sets most limit n els x A fd = fd := by
  unfold chF
  rw [if_pos]
  exact List.any_eq_true.2 ⟨_, List.getElem_mem hk, by simp [h]⟩
theorem chF_go {sets els : List Nat} {most limit n x A : Nat} {fd : List Nat} (h : ∀ j (hj : j < els.length), critF sets (els ++ [x]) els[j] ≠ 0) : chF sets most limit n els x A fd = runF sets most limit n (els ++ [x]) A fd := by
  unfold chF
  rw [if_neg]
  intro hh
  obtain ⟨e, he, hd⟩ := List.any_eq_true.1 hh
  obtain ⟨j, hj, rfl⟩ := List.mem_iff_getElem.1 he
  exact h j hj (of_decide_eq_true hd)
theorem map_getD {f : Nat → Nat} {l : List Nat} {k : Nat} (h : k < l.length) : (l.map f).getD k 0 = f l[k] := by
  rw [List.getD_eq_getElem?_getD, List.getElem?_map, List.getElem?_eq_getElem h]; rfl
theorem SAt.hav {w : World} {g x : Nat} {vs vf ve vc : Value} {hv : Nat → Nat} {most limit o A : Nat} (h : SAt w g (srcF vs hv most limit vf ve vc o A)) (hx : x < 64) : w.cell? ⟨g, 1 + x, none⟩ = some (uV (hv x)) := by
  rw [h.cell (1 + x) (by omega)]
  unfold srcF
  rw [if_neg (by omega), if_pos (by omega), show 1 + x - 1 = x by omega]
theorem vs1' {w : World} {u : Value} {e k : Nat} (h : k = w.heap.size) : VsAt (w.alloc (.cells #[u] e)) (some ⟨k, 0, none⟩) [u] := by
  subst h; exact vs1 _ _ _
set_option maxRecDepth 100000 in
set_option maxHeartbeats 8000000 in
theorem choose_any {wB : World} {g m : Nat} {sets els : List Nat} {vs vc : Value} {most limit : Nat} (hl : sets.length ≤ 64) (hrun : ∀ x, RunOk wB g sets (els ++ [x]) vs most limit m) (hlim : limit ≤ 99999) : ChOk wB g sets els vs vc most limit (m + 1) := by
  intro x A found w vf ve h hx hk hA hf hcard hmost hcrit
  have HK := Lib.hid hk
  have HR := Lib.hid (hrun x)
  have HC := Lib.hid hcard
  have d69 : w.cell? ⟨g, 69, none⟩ = some vc := h.s.cell 69 (by omega)
  have d70 : w.cell? ⟨g, 70, none⟩ = some (uV (opnF sets els)) := h.s.cell 70 (by omega)
  have lO : opnF sets els < 18446744073709551616 := opn_lt hl
  have lV : hav sets x < 18446744073709551616 := hav_lt hl
  have lC := Lib.hid (fun e => (show critF sets els e < 18446744073709551616 from crit_lt hl))
  obtain ⟨C, cc, rfl, -, -, RC⟩ := h.rc.read
  rw [List.length_map] at d69 RC h
  obtain ⟨N, cn, e0, -, -⟩ := h.re.form
  have hln : ((nI els).map iV).length = els.length := by simp [nI]
  rw [hln] at e0
  subst e0
  clear hln
  have HS := Lib.hid h
  have HRC := Lib.hid RC
  have hlen := hk.len
  rw [List.length_append, List.length_singleton] at hlen
  have HX : Hid (x ∉ els) := Lib.hid (fun hm => by
    have := hk.nodup
    rw [List.nodup_append] at this
    exact this.2.2 x hm x (by simp) rfl)
  have NEW := Lib.hid (crit_new (sets := sets) HX.out)
  have OPN := Lib.hid (opn_step (sets := sets) (els := els) (x := x))
  have eN : bits .and .u64 ((opnF sets els : Nat) : Int) ((hav sets x : Nat) : Int) = ((critF sets (els ++ [x]) x : Nat) : Int) := by rw [← NEW.out]; exact and_u64 lO lV
  have eO : bits .andNot .u64 ((opnF sets els : Nat) : Int) ((hav sets x : Nat) : Int) = ((opnF sets (els ++ [x]) : Nat) : Int) := by rw [← OPN.out]; exact andNot_dif lO lV
  have HL0 := Lib.hid hlim
  clear h hk hrun RC hcard NEW OPN hcrit hlim
  rw [List.length_map]
  have q1 : (0 : Int) ≤ (x : Int) := by omega
  have q2 : (x : Int) < 64 := by omega
  have HQ := Lib.hid hx
  go_enter Tryd.func47, Tryd.ntmps47
  go_wp2_with fail
  go_quiet (fail)
  generalize hW0 : w.drewN nq = w0
  have X0 : Hid (Ext w w0) := by rw [← hW0]; exact Lib.hid ((Ext.refl _).drewN _)
  clear hW0 d69 d70
  have wq : IntKind.i64.wrap ((els.length : Int) + 1) = ((els.length + 1 : Nat) : Int) := by rw [IntWalk.i64_in _ (by omega)]; omega
  obtain ⟨i0, hi0, hz0, hz1, hz2⟩ := info_parts el48.info
  have I0 := Lib.hid hi0
  have Z0 := Lib.hid hz0
  have Z1 := Lib.hid hz1
  have Z2 := Lib.hid hz2
  clear hi0 hz0 hz1 hz2
  have hsz := X0.out.size
  go_wp2_with (at_make; refine wpList_make_own _ rfl _ _ 48 rfl w.heap.size 52 i0 _ 1 Tryd.underlying48 I0.out Z0.out Z1.out .i64 .i64 _ (els.length + 1) rfl rfl (by simp) (by rw [Z2.out]; omega) (by unfold maxLen; omega) hsz ?_; intro w1 hown1 hgrow1)
  have X1 : Hid (Ext w w1) := Lib.hid (X0.out.trans (ext_of_grown hgrow1))
  have HN1 : Hid (Row w1 w.heap.size 52 (Value.slice (some ⟨w0.heap.size, 0, none⟩) 0 (els.length + 1)) []) := Lib.hid hown1
  clear hown1 hgrow1 I0 Z0 Z1 Z2 i0 hsz wq X0
  go_loopw [6, 24] (fun t i wr => ∃ k : Nat, k ≤ els.length ∧ i = iV (k : Int) ∧ (∀ j (hj : j < els.length), j < k → critF sets (els ++ [x]) els[j] ≠ 0) ∧ Row wr w.heap.size 52 t (((els.take k).map (critF sets (els ++ [x]))).map uV) ∧ Ext w wr) (fun _ i _ => els.length - (intOf i).toNat)
  case atStart => exact ⟨0, by omega, rfl, fun j _ hj => by omega, HN1.out, X1.out⟩
  case round =>
    obtain ⟨k, hkl, rfl, hnz, hr, hE⟩ := hrel
    have HNZ := Lib.hid hnz
    have HRo := Lib.hid hr
    have HE := Lib.hid hE
    clear hnz hr hE
    by_cases hlt : k < els.length
    · obtain ⟨ad, rfl, c1⟩ := HRC.out wr HE.out k hlt
      rw [map_getD hlt] at c1
      have hne : x ≠ els[k] := fun e => HX.out (e ▸ List.getElem_mem hlt)
      have eD := andNot_dif (lC.out els[k]) lV
      rw [crit_step hne] at eD
      have eZ := beq0 (critF sets (els ++ [x]) els[k])
      have HTK : Hid ((els.take (k + 1)).map (critF sets (els ++ [x])) = (els.take k).map (critF sets (els ++ [x])) ++ [critF sets (els ++ [x]) els[k]]) := by
        rw [List.take_succ_eq_append_getElem hlt, List.map_append]; exact Lib.hid rfl
      have HCUT := Lib.hid (chF_cut (sets := sets) (most := most) (limit := limit) (n := m + 1) (x := x) (A := A) (fd := found) hlt)
      have HNX : Hid (critF sets (els ++ [x]) els[k] ≠ 0 → ∀ j (hj : j < els.length), j < k + 1 → critF sets (els ++ [x]) els[j] ≠ 0) := Lib.hid (fun h0 j hj hjk => by
        rcases Nat.lt_or_ge j k with h1 | h1
        · exact HNZ.out j hj h1
        · have : j = k := by omega
          subst this
          exact h0)
      have d1 := (HS.out.s.ext HE.out).hav HQ.out
      have hll : ((els.take k).map (critF sets (els ++ [x]))).length ≤ 64 := by rw [List.length_map, List.length_take]; omega
      generalize critF sets els els[k] = c at *
      generalize critF sets (els ++ [x]) els[k] = c' at *
      generalize hav sets x = v at *
      by_cases h0 : c' = 0
      · have HCH := Lib.hid (HCUT.out h0)
        subst h0
        go_wp2_with fail
        go_end0
        rw [HCH.out]
        exact ⟨rfl, vf, _, HS.out.ext_r HE.out, Fr.of_ext HE.out, Mv.refl _ _, Mv.refl _ _⟩
      · have HNX' := Lib.hid (HNX.out h0)
        have t0 : ((c' : Int) == 0) = false := by rw [eZ]; exact decide_eq_false h0
        clear h0 HNX HCUT eZ
        go_wp2_with (at_builtin; refine wapp el48 rfl (.tmp 38) (.tmp 40) rfl (w5 := w) rfl (HE.out.alloc _) (HRo.out.ext ((Ext.refl _).alloc _)) rfl rfl (vs1 _ _ _) (one1 rfl) (by rw [List.length_map]; simp at hll ⊢; omega) ?_; intro v1 w1 hr1 hE1 hg1 hb1)
        exact ⟨⟨k + 1, by omega, by go_num, HNX'.out, by rw [HTK.out, List.map_append]; exact hr1, hE1⟩, by simp [intOf]; omega⟩
    · obtain rfl : k = els.length := by omega
      have HNZ' := Lib.hid (fun j hj => HNZ.out j hj hj)
      have HGO := Lib.hid (chF_go (most := most) (limit := limit) (n := m + 1) (A := A) (fd := found) HNZ'.out)
      rw [List.take_length] at HRo
      have d1 := (HS.out.s.ext HE.out).hav HQ.out
      have hl1 : ((els.map (critF sets (els ++ [x]))).map uV ++ [uV (critF sets (els ++ [x]) x)]).length = els.length + 1 := by simp
      have hl2 : ((nI els).map iV ++ [iV (x : Int)]).length = els.length + 1 := by simp [nI]
      go_wp2_with (first
        | (at_builtin; refine wapp el48 rfl (.tmp 44) (.tmp 53) rfl (w5 := w) rfl (HE.out.alloc _) (HRo.out.ext ((Ext.refl _).alloc _)) rfl rfl (vs1 _ _ _) (one1 rfl) (by simp; omega) ?_; intro t2 wa hra hEa hga hba; obtain ⟨T, tc, e1, -, -⟩ := hra.form; rw [hl1] at e1; subst e1; obtain ⟨S1, S2, E2, R2⟩ := HS.out.d69 (t2 := Value.slice T (els.length + 1) tc) hEa; have d69 := S1.cell 69 (by omega); have f69 := S1.free 69 (by omega); have d68 : (wa.setCell ⟨g, 69, none⟩ (Value.slice T (els.length + 1) tc)).cell? ⟨g, 68, none⟩ = some (Value.slice N els.length cn) := S2.cell 68 (by omega); clear hga hba)
        | (at_builtin; refine wapp el35 rfl (.tmp 61) (.tmp 63) rfl (w5 := wB) rfl (E2.alloc _) (R2.ext ((Ext.refl _).alloc _)) rfl rfl (vs1' (by simp)) (one1 rfl) (by simp [nI]; omega) ?_; intro ve2 wd hrd hEd hgd hbd; obtain ⟨L2, lc, e2, -, -⟩ := hrd.form; rw [hl2] at e2; subst e2; have SD := HS.out.d68 (t2 := Value.slice T (els.length + 1) tc) hEa ((Ext.refl _).alloc _) hgd; have d68' := SD.cell 68 (by omega); have f68' := SD.free 68 (by omega); have S3 := SD.set (by omega) (Value.slice L2 (els.length + 1) lc) srcF_set68; have dV := S3.hav HQ.out; have d70 := S3.cell 70 (by omega); have f70 := S3.free 70 (by omega); have S4 := S3.set (by omega) (uV (opnF sets (els ++ [x]))) srcF_set70; have d71 : ((wd.setCell ⟨g, 68, none⟩ (Value.slice L2 (els.length + 1) lc)).setCell ⟨g, 70, none⟩ (uV (opnF sets (els ++ [x])))).cell? ⟨g, 71, none⟩ = some (uV A) := S4.cell 71 (by omega)))
      have ht : Row wa w.heap.size 52 (Value.slice T (els.length + 1) tc) (((els ++ [x]).map (critF sets (els ++ [x]))).map uV) := by
        rw [List.map_append, List.map_append]; exact hra
      obtain ⟨D1, D2, D3⟩ := HS.out.down (x := x) hEa ht ((Ext.refl _).alloc _) hgd hEd hrd hbd
      have HD1 := Lib.hid D1
      have HD2 := Lib.hid D2
      have HD3 := Lib.hid D3
      have HRun := Lib.hid (HR.out A found _ vf _ _ D1 HK.out hA hf (by have := HC.out; omega))
      clear d1 hra hEa E2 S1 S2 R2 d69 f69 d68 hgd hbd SD d68' f68' S3 dV d70 f70 S4 d71 hEd hrd ht D1 D2 D3 eN eO
      generalize ((wd.setCell ⟨g, 68, none⟩ (Value.slice L2 (els.length + 1) lc)).setCell ⟨g, 70, none⟩ (Value.int IntKind.u64 ((opnF sets (els ++ [x]) : Nat) : Int))) = w5 at *
      refine HRun.out.mono ?_
      rintro e w6 ⟨rfl, vf6, ve6, A6, h6, hF, mf, me⟩
      have H6 := Lib.hid h6
      have HF := Lib.hid hF
      have HMF := Lib.hid mf
      have HME := Lib.hid me
      have f71 := h6.s.free 71 (by omega)
      have d71 := h6.s.cell 71 (by omega)
      have S7 := h6.s.set (by omega) (uV A) srcF_set71
      obtain ⟨N6, c6, e6, hc6, hN6⟩ := h6.re.form
      have hl6 : ((nI (els ++ [x])).map iV).length = els.length + 1 := by simp [nI]
      rw [hl6] at e6 hc6 hN6
      subst e6
      obtain ⟨ad, rfl⟩ : ∃ ad, N6 = some ad := by
        cases N6 with
        | none => exact absurd (hN6 rfl) (by omega)
        | some ad => exact ⟨ad, rfl⟩
      have d68 : (w6.setCell ⟨g, 71, none⟩ (uV A)).cell? ⟨g, 68, none⟩ = some (Value.slice (some ad) (els.length + 1) c6) := S7.cell 68 (by omega)
      have f68 := S7.free 68 (by omega)
      have S8 := S7.set (by omega) (Value.slice (some ad) els.length c6) srcF_set68
      have d69 := S8.cell 69 (by omega)
      have f69 := S8.free 69 (by omega)
      have S9 := S8.set (by omega) (Value.slice C els.length cc) srcF_set69
      have d70 := S9.cell 70 (by omega)
      have f70 := S9.free 70 (by omega)
      have S10 := S9.set (by omega) (uV (opnF sets els)) srcF_set70
      have HS10 := Lib.hid S10
      have wq : IntKind.i64.wrap (((els.length + 1 : Nat) : Int) - 1) = (els.length : Int) := by rw [IntWalk.i64_in _ (by omega)]; omega
      clear h6 hF mf me hN6 hl6 S7 S8 S9 S10
      go_wp2_with fail
      go_region
      go_wp2_with fail
      go_end0
      rw [HGO.out]
      generalize hW7 : (((w6.setCell ⟨g, 71, none⟩ (Value.int IntKind.u64 (A : Int))).setCell ⟨g, 68, none⟩ (Value.slice (some ad) els.length c6)).setCell ⟨g, 69, none⟩ (Value.slice C els.length cc)).setCell ⟨g, 70, none⟩ (Value.int IntKind.u64 ((opnF sets els : Nat) : Int)) = w7 at HS10 ⊢
      have K7 : ∀ k, k ≠ g → w7.heap[k]? = w6.heap[k]? := fun k hk => by
        rw [← hW7, heap_set (Ne.symm hk), heap_set (Ne.symm hk), heap_set (Ne.symm hk), heap_set (Ne.symm hk)]
      have F7 : Fr w6 w7 g vf6 (Value.slice (some ad) (els.length + 1) c6) := by
        rw [← hW7]
        exact ((((Fr.of_ext (Ext.refl _)).set _ _).set _ _).set _ _).set _ _
      have R7 : Row w6 wB.heap.size 3 (Value.slice (some ad) els.length c6) ((nI els).map iV) := by
        have hr := H6.out.re
        rw [nI_snoc] at hr
        have hlx : ((nI els).map iV ++ [iV (x : Int)]).length = els.length + 1 := hl2
        refine Row.init (us := [iV (x : Int)]) (by rw [hlx]; exact hr) (by simp [nI])
      have := HS.out.up HD2.out HD3.out H6.out HF.out HMF.out HME.out R7 rfl HS10.out F7 K7
      exact ⟨rfl, vf6, _, this.1.ext_r (Ext.refl _).drew, this.2.1.ext_r (Ext.refl _).drew, this.2.2.1, this.2.2.2⟩
/-- run and choose, by the number of sets that are not hit. -/
theorem run_any {wB : World} {g : Nat} {sets : List Nat} {vs : Value} {most limit : Nat} (hs : Us wB vs sets) (hu : U64 sets) (hl : sets.length ≤ 64) (hT : Tab wB) (hlim : limit ≤ 99999) : ∀ n els, RunOk wB g sets els vs most limit n := by
  intro n
  induction n with
  | zero =>
    intro els A found w vf ve vc h hk hA hf hc
    have h0 : opnF sets els = 0 := Classical.byContradiction fun hne => by
      obtain ⟨i, hi⟩ := ne_zero_bit.1 hne
      have := card_pos (bit_lt (opn_lt hl) hi) hi
      omega
    have e : runF sets most limit (0 + 1) els A found = found ++ [maskOf els] := by rw [runF, if_pos h0]
    rw [e]
    exact run_leaf h hk h0 (by omega)
  | succ n ih =>
    intro els A found w vf ve vc h hk hA hf hc
    by_cases h0 : opnF sets els = 0
    · have e : runF sets most limit (n + 1 + 1) els A found = found ++ [maskOf els] := by rw [runF, if_pos h0]
      rw [e]
      exact run_leaf h hk h0 (by omega)
    · exact run_step h hk h0 hf hs hu hl hT hA hc (choose_any hl (fun x => ih (els ++ [x])) hlim)
/-- A search, from its beginning. -/
theorem search_any {wB w : World} {g : Nat} {sets : List Nat} {vs : Value} {most limit : Nat} (hE : Ext wB w) (hg : wB.heap.size ≤ g) (hS : SAt w g (srcF vs (hav sets) most limit (.slice none 0 0) (.slice none 0 0) (.slice none 0 0) (opnF sets []) (orAll sets)))
    (hs : Us wB vs sets) (hu : U64 sets) (hl : sets.length ≤ 64) (hT : Tab wB) (hlim : limit ≤ 99999) :
    Calls Tryd.prog 34 #[.pointer (some ⟨g, 0, none⟩)] w fun e w' => e = .returned (.tuple #[]) ∧ Ext wB w' ∧ ∃ vf, w'.cell? ⟨g, 67, none⟩ = some vf ∧ Row w' wB.heap.size 52 vf ((searchF sets most limit).map uV) := by
  have h : St wB w g sets [] vs (.slice none 0 0) (.slice none 0 0) (.slice none 0 0) most limit (orAll sets) [] :=
    ⟨hE, hg, hS, Row.nil _ _ _, Row.nil _ _ _, SlAt.nil _, by simp [Value.ownBlock], by simp [Value.ownBlock], fun k hk => by simp [Value.ownBlock] at hk, by simp [Value.ownBlock], fun k hk => by simp [Value.ownBlock] at hk, fun k hk => by simp [Value.ownBlock] at hk, fun k hk => by simp [Value.ownBlock] at hk⟩
  refine (run_any (g := g) (most := most) hs hu hl hT hlim 65 [] (orAll sets) [] w _ _ _ h ⟨List.nodup_nil, by simp, by simp⟩ (orAll_lt hu) (Nat.zero_le _) (by have := card_le64 (opnF sets []); omega)).mono ?_
  rintro e w' ⟨rfl, vf, ve, A, h', hF, mf, me⟩
  exact ⟨rfl, h'.ext, vf, h'.s.cell 67 (by omega), h'.rf⟩
end Go.Proofs.YtdcbejccplonjaaDoor
