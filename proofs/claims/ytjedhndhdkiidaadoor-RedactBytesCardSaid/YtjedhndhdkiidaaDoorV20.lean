/- The law's valid fields; names. -/
import Derived.Test.YtjedhndhdkiidaaDoorV19
namespace Go.Proofs.YtjedhndhdkiidaaDoor
open Go.RowKit
attribute [local go_sem ↓] Go.wp_at_zero Go.wp_at_succ
attribute [local go_sem] baSize baList
abbrev PR := Rw × (Option Addr × Nat) × (Option Addr × Nat)
def encR (p : PR) : List Value := [sV p.1.nm, .slice p.2.1.1 p.1.vl.length p.2.1.2, .slice p.2.2.1 p.1.sl.length p.2.2.2, .bool p.1.pl]
def RpAt (w : World) (ps : List PR) : Prop := ∀ p ∈ ps, SlB w (.slice p.2.1.1 p.1.vl.length p.2.1.2) p.1.vl ∧ SlB w (.slice p.2.2.1 p.1.sl.length p.2.2.2) p.1.sl
theorem RpAt.ext {w w' : World} {ps : List PR} (h : RpAt w ps) (k : Ext w w') : RpAt w' ps := fun p hp => ⟨(h p hp).1.ext k, (h p hp).2.ext k⟩
theorem RsAt.of_row {w : World} {v : Value} {ps : List PR} (h : SlAt 4 w v (ps.map encR)) (hp : RpAt w ps) : RsAt w v (ps.map (·.1)) := by
  refine ⟨ps.map encR, h, by simp, fun j hj => ?_⟩
  rw [List.length_map] at hj
  have e1 : (ps.map encR).getD j [] = encR ps[j] := by rw [List.getD_eq_getElem?_getD, List.getElem?_map, List.getElem?_eq_getElem hj]; rfl
  have e2 : (ps.map (·.1)).getD j Rw0 = ps[j].1 := by rw [List.getD_eq_getElem?_getD, List.getElem?_map, List.getElem?_eq_getElem hj]; rfl
  rw [e1, e2]
  exact ⟨_, _, rfl, (hp _ (List.getElem_mem hj)).1, (hp _ (List.getElem_mem hj)).2⟩
theorem encR_one (ps : List PR) : ∀ u ∈ (ps.map encR).flatten, u.oneCell' = true := by
  intro u hu
  obtain ⟨l, hl, hu2⟩ := List.mem_flatten.1 hu
  obtain ⟨p, -, rfl⟩ := List.mem_map.1 hl
  unfold encR at hu2
  simp only [List.mem_cons, List.not_mem_nil, or_false] at hu2
  rcases hu2 with rfl | rfl | rfl | rfl <;> rfl
/-- Four cells. -/
def f4 (a b c d : Value) : Nat → Value := fun i => if i = 0 then a else if i = 1 then b else if i = 2 then c else d
theorem el22 : El 22 69 (.agg #[.string ⟨#[]⟩, .slice none 0 0, .slice none 0 0, .bool false]) 4 72 := ⟨Tryd.underlying22, by kernel_rfl, rfl, by decide, by decide⟩
/-- An entry, plain. -/
def plF (r : Rw) : Rw := ⟨r.nm, r.vl, r.sl, true⟩
/-- The first k entries, plain. -/
def vrK (rs : List Rw) (k : Nat) : List Rw := (List.range k).map fun i => plF (rs.getD i Rw0)
theorem vrK_succ (rs : List Rw) (k : Nat) : vrK rs (k + 1) = vrK rs k ++ [plF (rs.getD k Rw0)] := by unfold vrK; rw [List.range_succ, List.map_append]; rfl
theorem vrK_len (rs : List Rw) (k : Nat) : (vrK rs k).length = k := by unfold vrK; simp
/-- The entries that valid makes. -/
def vrF (rs : List Rw) : List Rw := if rs.length = 0 then [⟨[], [], [], true⟩] else vrK rs (min rs.length 12)
theorem vrF_len (rs : List Rw) : 0 < (vrF rs).length ∧ (vrF rs).length ≤ 12 := by
  unfold vrF
  split
  · simp
  · rw [vrK_len]; omega
theorem vrF_pl (rs : List Rw) : ∀ i, i < (vrF rs).length → ((vrF rs).getD i Rw0).pl = true := by
  intro i hi
  unfold vrF at hi ⊢
  split at hi
  · rename_i h0
    rw [if_pos h0]
    have : i = 0 := by simpa using hi
    subst this
    rfl
  · rename_i h0
    rw [if_neg h0]
    rw [vrK_len] at hi
    unfold vrK
    rw [List.getD_eq_getElem?_getD, List.getElem?_map, List.getElem?_range hi]
    rfl
/-- The fields that valid makes. -/
def vfF (rs : List Rw) : List Fd := fsF (vrF rs) (vrF rs).length
set_option maxRecDepth 100000 in
set_option maxHeartbeats 1000000 in
theorem valid10_ok (rs : List Rw) (v : Value) (w : World) (h : RsAt w v rs) : Calls Tryd.prog 10 #[v] w (RetFF (vfF rs) w) := by
  obtain ⟨A, c, rfl, h1, h2, h3⟩ := h.read
  have HR := Lib.hid h3
  have HL : Hid (rs.length ≤ 9223372036854775807) := Lib.hid (by unfold maxLen at h2; omega)
  clear h h3 h2 h1
  go_enter Tryd.func10, Tryd.ntmps10
  go_wp2_with fail
  go_loopw [4, 5] (fun t i wr => ∃ (k : Nat) (ps : List PR) (v1 : Value), k ≤ rs.length ∧ k ≤ 12 ∧ i = iV (k : Int) ∧ t = v1 ∧ ps.map (·.1) = vrK rs k ∧ Row 4 wr w.heap.size 69 v1 (ps.map encR) ∧ RpAt w ps ∧ Ext w wr) (fun _ i _ => 12 - (intOf i).toNat)
  case atStart => exact ⟨0, [], nilV, by omega, by omega, rfl, rfl, rfl, Row.nil _ _ _ _, (fun p hp => by cases hp), Ext.refl _⟩
  case round =>
    obtain ⟨k, ps, v1, hk, hk7, rfl, rfl, hps, hr1, hpn, hX⟩ := hrel
    have HPS := Lib.hid hps
    have HR1 := Lib.hid hr1
    have HPN := Lib.hid hpn
    have HX := Lib.hid hX
    have HPL : Hid (ps.length = k) := Lib.hid (by have := congrArg List.length hps; simpa [vrK] using this)
    clear hps hr1 hpn hX
    by_cases hlt : k < rs.length ∧ k < 12
    · obtain ⟨hlt, hlt7⟩ := hlt
      have q1 : (k : Int) < (rs.length : Int) := by omega
      have q0 : (0 : Int) ≤ (k : Int) := by omega
      have q7 : (k : Int) < 12 := by omega
      obtain ⟨b, o, A1, c1, A2, c2, rfl, hb, hn, hv, hs, hp, hsv, hss⟩ := HR.out wr HX.out k hlt
      obtain ⟨r, hr⟩ : ∃ r, rs.getD k Rw0 = r := ⟨_, rfl⟩
      rw [hr] at hn hv hs hp hsv hss
      have HRK := Lib.hid hr
      have HSV := Lib.hid hsv
      have HSS := Lib.hid hss
      clear hr hsv hss
      go_upto_region 6 with fail
      generalize hw5 : World.alloc _ _ = w5
      have HB5 : Hid (Bk w5 wr.heap.size 4 (f4 (sV r.nm) (.slice A1 r.vl.length c1) (.slice A2 r.sl.length c2) (.bool r.pl))) := Lib.hid (by rw [← hw5]; exact ⟨by decide, by rw [blkOf_new]; exact arV_ext rfl (fun i hi => by match i, hi with | 0, _ => rfl | 1, _ => rfl | 2, _ => rfl | 3, _ => rfl)⟩)
      have HE5 : Hid (Ext wr w5) := Lib.hid (by rw [← hw5]; exact (Ext.refl _).alloc _)
      clear hw5 hn hv hs hp
      have n3 := HB5.out.cell (k := 3) (by decide)
      have n3f := HB5.out.frozen 3
      go_upto_region 7 with fail
      generalize hw6 : World.setCell _ _ _ = w6
      have HB6 : Hid (Bk w6 wr.heap.size 4 (f4 (sV r.nm) (.slice A1 r.vl.length c1) (.slice A2 r.sl.length c2) (.bool true))) := Lib.hid (by rw [← hw6]; exact (HB5.out.set 3 _).congr (fun i hi => by match i, hi with | 0, _ => rfl | 1, _ => rfl | 2, _ => rfl | 3, _ => rfl))
      have HE6 : Hid (Ext wr w6) := Lib.hid (by rw [← hw6]; exact HE5.out.set (Nat.le_refl _) _)
      clear hw6 n3 n3f
      have c0 : w6.cell? ⟨wr.heap.size, 0, none⟩ = some (sV r.nm) := HB6.out.cell (by decide)
      have c1' : w6.cell? ⟨wr.heap.size, 1, none⟩ = some (.slice A1 r.vl.length c1) := HB6.out.cell (by decide)
      have c2' : w6.cell? ⟨wr.heap.size, 2, none⟩ = some (.slice A2 r.sl.length c2) := HB6.out.cell (by decide)
      have c3 : w6.cell? ⟨wr.heap.size, 3, none⟩ = some (.bool true) := HB6.out.cell (by decide)
      go_wp2_with (at_builtin; go_loud (refine wapp el22 rfl (.tmp 22) (.tmp 24) rfl (w5 := w) (vs := ps.map encR) (us := [encR (plF r, (A1, c1), (A2, c2))]) rfl ((HX.out.trans HE6.out).alloc _) (HR1.out.ext (HE6.out.alloc _)) rfl rfl (Wide.one rfl) (vs1 _ _ _) (encR_one [(plF r, (A1, c1), (A2, c2))]) (by rw [List.length_map, HPL.out]; simp; omega) (by rw [List.length_map, HPL.out]; simp; omega) ?_; intro v7 w7 hr7 hE7 hg7 hb7; rw [← List.map_singleton (f := encR), ← List.map_append] at hr7; have HR7 := Lib.hid hr7; have HE7 := Lib.hid hE7; clear hr7 hE7 hg7 hb7 c0 c1' c2' c3))
      refine ⟨⟨k + 1, ps ++ [(plF r, (A1, c1), (A2, c2))], _, by omega, by omega, by go_num, rfl, ?_, HR7.out, fun p hp => ?_, HE7.out⟩, by simp [intOf]; omega⟩
      · rw [List.map_append, HPS.out, vrK_succ, HRK.out]
        rfl
      · rcases List.mem_append.1 hp with h5 | h5
        · exact HPN.out p h5
        · rw [List.mem_singleton] at h5
          subst h5
          exact ⟨HSV.out, HSS.out⟩
    · have hend : k = min rs.length 12 := by omega
      obtain ⟨Av, cv, hv, -, -⟩ := HR1.out.form
      rw [List.length_map, HPL.out] at hv
      subst hv
      have HRS : Hid (RsAt wr (.slice Av k cv) (vrK rs k)) := Lib.hid (by rw [← HPS.out]; exact RsAt.of_row HR1.out.sl (HPN.out.ext HX.out))
      have fin : ∀ (l : List Rw) (u : Value) (W : World), 0 < l.length → l.length ≤ 12 → RsAt W u l → Ext w W → l = vrF rs → Calls Tryd.prog 16 #[u] W (RetFF (vfF rs) w) := fun l u W h0 h12 hu hW e => by
        refine (fields16_ok l u W hu).mono ?_
        rintro _ w9 ⟨a, b, rfl, h1, h2, h3⟩
        have e9 : fsF l (min l.length 70) = vfF rs := by
          unfold vfF
          rw [e, show min (vrF rs).length 70 = (vrF rs).length by rw [← e]; omega]
        rw [e9] at h1 h2
        exact ⟨a, b, rfl, h1, h2, hW.trans h3⟩
      have FIN := Lib.hid fin
      clear fin
      by_cases h0 : k = 0
      · subst h0
        have hrl : rs.length = 0 := by omega
        have q1 : ¬ ((0 : Nat) : Int) < (rs.length : Int) := by omega
        clear hend HRS
        have hnew : RsAt (wr.alloc (.cells #[.string ⟨#[]⟩, .slice none 0 0, .slice none 0 0, .bool true] 69)) (.slice (some ⟨wr.heap.size, 0, none⟩) 1 1) [⟨[], [], [], true⟩] := RsAt.of_row (ps := [(⟨[], [], [], true⟩, (none, 0), (none, 0))]) (row_new (s := 4) (B := wr.heap.size) (us := [encR (⟨[], [], [], true⟩, (none, 0), (none, 0))]) (Nat.le_refl _) (Wide.one rfl) rfl (by decide)).sl (fun p hp => by rw [List.mem_singleton] at hp; subst hp; exact ⟨SlB.nil _, SlB.nil _⟩)
        have CAL : Hid (Calls Tryd.prog 16 #[.slice (some ⟨wr.heap.size, 0, none⟩) 1 1] (wr.alloc (.cells #[.string ⟨#[]⟩, .slice none 0 0, .slice none 0 0, .bool true] 69)) (RetFF (vfF rs) w)) := Lib.hid (FIN.out [⟨[], [], [], true⟩] _ _ (by decide) (by decide) hnew (HX.out.alloc _) (by unfold vrF; rw [if_pos hrl]))
        clear FIN hnew
        go_wp2_with fail
        refine CAL.out.mono ?_
        rintro _ w9 ⟨a, b, rfl, h1, h2, h3⟩
        go_wp2_with fail
        go_ret2
        exact ⟨_, _, rfl, h1, h2, h3⟩
      · have hp0 : (0 : Int) < (k : Int) := by omega
        have hk0 : ¬ (k : Int) = 0 := by omega
        have e0 : vrK rs k = vrF rs := by unfold vrF; rw [if_neg (by omega), hend]
        have z1 : 0 < (vrK rs k).length := by rw [vrK_len]; omega
        have z2 : (vrK rs k).length ≤ 12 := by rw [vrK_len]; omega
        have CAL : Hid (Calls Tryd.prog 16 #[.slice Av k cv] wr (RetFF (vfF rs) w)) := Lib.hid (FIN.out (vrK rs k) _ _ z1 z2 HRS.out HX.out e0)
        clear FIN z1 z2 e0 HRS
        have q77 : k < rs.length → ¬ (k : Int) < 12 := by omega
        clear hend
        by_cases h5 : k < rs.length
        · have q1 : (k : Int) < (rs.length : Int) := by omega
          have q7 : ¬ (k : Int) < 12 := q77 h5
          clear q77 hk hk7 h5 h0 hlt
          have q8 : decide ((k : Int) < 12) = false := by simp [q7]
          go_wp2_with fail
          refine CAL.out.mono ?_
          rintro _ w9 ⟨a, b, rfl, h1, h2, h3⟩
          go_wp2_with fail
          go_ret2
          exact ⟨_, _, rfl, h1, h2, h3⟩
        · have q1 : ¬ (k : Int) < (rs.length : Int) := by omega
          clear q77 hk hk7 h5 h0 hlt
          go_wp2_with fail
          refine CAL.out.mono ?_
          rintro _ w9 ⟨a, b, rfl, h1, h2, h3⟩
          go_wp2_with fail
          go_ret2
          exact ⟨_, _, rfl, h1, h2, h3⟩
end Go.Proofs.YtjedhndhdkiidaaDoor
