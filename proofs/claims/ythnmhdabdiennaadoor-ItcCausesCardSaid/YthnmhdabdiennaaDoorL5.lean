/- The walk over the law ItcCauses. -/
import Derived.Test.YthnmhdabdiennaaDoorK16
import Derived.Test.YthnmhdabdiennaaDoorK18
import Derived.Test.YthnmhdabdiennaaDoorM4
import Derived.Deep.DeepCutAuto
import Derived.Deep.CutBlock
import Derived.Outline
namespace Go.Proofs.YthnmhdabdiennaaDoor
open Go.RowKit
attribute [local go_sem ↓] Go.wp_at_zero Go.wp_at_succ
theorem block_of_add (a : Addr) (n : Nat) : (a.add n).block = a.block := by unfold Addr.add; split <;> rfl
theorem add_field (a : Addr) (n f : Nat) (hf : 0 < f) : a.add (n + f) = ⟨(a.add n).block, (a.add n).off + f, none⟩ := by
  unfold Addr.add
  by_cases hn : n = 0
  · subst hn; simp; omega
  · simp [hn]; omega
def ids (L : List Live) : List StT := L.map fun a => (a.1, a.2.1)
def pasts (L : List Live) : List Nat := L.map fun a => a.2.2
def seens (R : List (EvT × Nat)) : List StT := R.map fun r => (.zero, r.1)
def knows (R : List (EvT × Nat)) : List Nat := R.map fun r => r.2
/-- What holds at the head of the loop. -/
def CauAt (w : World) (vs ve va vp : Value) (k : Nat) (wr : World) : Prop :=
  ∃ (L : List Live) (R : List (EvT × Nat)) (S : EvT → Nat → Prop), Cau L S k ∧ (∀ r ∈ R, S r.1 r.2) ∧ 0 < L.length ∧ L.length ≤ k + 1 ∧ R.length ≤ k ∧
    StRow wr w.heap.size vs (ids L) ∧ NumRow wr w.heap.size ve (pasts L) ∧ StRow wr w.heap.size va (seens R) ∧ NumRow wr w.heap.size vp (knows R) ∧ Apart va vs ∧ Apart vp ve ∧ Below w.heap.size w wr
/-- What holds behind the switch: the stamp in use is at place a. -/
def CauMid (w : World) (va vp : Value) (k : Nat) (vs ve v8 : Value) (wr : World) : Prop :=
  ∃ (L : List Live) (R : List (EvT × Nat)) (S : EvT → Nat → Prop) (a : Nat), Cau L S (k + 1) ∧ (∀ r ∈ R, S r.1 r.2) ∧ a < L.length ∧ L.length ≤ k + 2 ∧ R.length ≤ k ∧ v8 = .int .i64 a ∧
    StRow wr w.heap.size vs (ids L) ∧ NumRow wr w.heap.size ve (pasts L) ∧ StRow wr w.heap.size va (seens R) ∧ NumRow wr w.heap.size vp (knows R) ∧ Apart va vs ∧ Apart vp ve ∧ Below w.heap.size w wr
theorem Tryd.info31 : (Tryd.prog.info? 31).map (fun i => (i.zero, i.size, i.bytes)) = some (some (.agg #[.pointer none, .pointer none]), 2, 16) := by kernel_rfl
theorem Tryd.info33 : (Tryd.prog.info? 33).map (fun i => (i.zero, i.size, i.bytes)) = some (some (.int .u64 0), 1, 8) := by kernel_rfl
theorem news2 {w : World} {B T : Nat} {x y : Value} {fr : Nat × Nat} (h : w.heap[B]? = some (.cells #[x, y] T fr)) : ∀ j u, [x, y][j]? = some u → w.cell? ((⟨B, 0, none⟩ : Addr).add j) = some u := World.news_of_block (cs := #[x, y]) h
theorem news1 {w : World} {B T : Nat} {x : Value} {fr : Nat × Nat} (h : w.heap[B]? = some (.cells #[x] T fr)) : ∀ j u, [x][j]? = some u → w.cell? ((⟨B, 0, none⟩ : Addr).add j) = some u := World.news_of_block (cs := #[x]) h
theorem below_grown {w w5 w6 : World} {B e size n : Nat} {v : Value} {xs : List Value} (hb : Below B w w5) (hB : B ≤ w5.heap.size) (hown : w5.ownsRow B e size v n xs) (hg : w5.grownBy w6 v.ownBlock) : Below B w w6 :=
  hb.grown hg hB fun k hk => (hown.lt k hk).1
theorem ids_set (L : List Live) (a : Nat) (x : Live) : ids (L.set a x) = (ids L).set a (x.1, x.2.1) := by unfold ids; rw [List.map_set]
theorem pasts_set (L : List Live) (a : Nat) (x : Live) : pasts (L.set a x) = (pasts L).set a x.2.2 := by unfold pasts; rw [List.map_set]
theorem NumRow.own {w : World} {B n : Nat} {v : Value} {ns : List Nat} (hn : n = ns.length) (h : NumRow w B v ns) : w.ownsRow B 33 1 v n (nums ns) := by subst hn; exact h
theorem pasts_same (L : List Live) (a : Nat) (i : IdT) (t : EvT) (s : Nat) (j : IdT) (u : EvT) (h : L[a]? = some (i, t, s)) : pasts (L.set a (j, u, s)) = pasts L := by
  refine List.ext_getElem? fun k => ?_
  rw [pasts_set, List.getElem?_set]
  split
  · rename_i e
    subst e
    have hl : a < (pasts L).length := by simpa [pasts] using (List.getElem?_eq_some_iff.1 h).1
    rw [if_pos hl]
    simp [pasts, h]
  · rfl
theorem two_pow_small (k : Nat) (hk : k < 20) : (2 ^ k : Nat) < 1048576 := by
  have : 2 ^ k < 2 ^ 20 := Nat.pow_lt_pow_right (by omega) hk
  simpa using this
/-- A box of two cells that was made ahead of a call, and is written behind it. -/
theorem box_late {w3 w4 : World} {x y : Value} {qa qb : Option Addr} {s : StT} (hbb : Ext (w3.alloc (.cells #[x, y] 31)).drew w4) (hp : PtAt w4 (qa, qb) s) :
    Ext w3 ((w4.setCell ⟨w3.heap.size, 0, none⟩ (.pointer qa)).setCell ⟨w3.heap.size, 1, none⟩ (.pointer qb)) ∧
    ((w4.setCell ⟨w3.heap.size, 0, none⟩ (.pointer qa)).setCell ⟨w3.heap.size, 1, none⟩ (.pointer qb)).cell? ⟨w3.heap.size, 0, none⟩ = some (.pointer qa) ∧
    ((w4.setCell ⟨w3.heap.size, 0, none⟩ (.pointer qa)).setCell ⟨w3.heap.size, 1, none⟩ (.pointer qb)).cell? ⟨w3.heap.size, 1, none⟩ = some (.pointer qb) ∧
    PtAt ((w4.setCell ⟨w3.heap.size, 0, none⟩ (.pointer qa)).setCell ⟨w3.heap.size, 1, none⟩ (.pointer qb)) (qa, qb) s := by
  have E : Ext w3 w4 := Ext.trans (((Ext.refl w3).alloc _).drew) hbb
  have T : typ w4 w3.heap.size = some 31 := hbb.typ (typ_new w3 _ _)
  have c0 : w4.cell? ⟨w3.heap.size, 0, none⟩ = some x := hbb.cell (new_at w3 _ _ _ _ rfl)
  have c1 : w4.cell? ⟨w3.heap.size, 1, none⟩ = some y := hbb.cell (new_at w3 _ _ _ _ rfl)
  have ne : (⟨w3.heap.size, 0, none⟩ : Addr) ≠ ⟨w3.heap.size, 1, none⟩ := by simp
  refine ⟨(E.set (Nat.le_refl _) _).set (Nat.le_refl _) _, by rw [set_other (Ne.symm ne), set_same c0], by rw [set_same (by rw [set_other ne]; exact c1)], ?_⟩
  exact hp.kp ((Kp.far (a := ⟨w3.heap.size, 0, none⟩) T (by decide) (by decide)).trans (Kp.far (a := ⟨w3.heap.size, 1, none⟩) (by rw [typ_set]; exact T) (by decide) (by decide)))
theorem bits_or20 (s s' k : Nat) (hk : k < 20) (hs : s < 2 ^ k) (hs' : s' < 2 ^ k) : bits .or .u64 (s : Int) (s' : Int) = ((s ||| s' : Nat) : Int) := by
  have h1 := two_pow_small k hk
  exact u64_or_nat _ _ (by omega) (by omega)
theorem get_set_parts (L : List Live) (a j : Nat) (X : Live) (h : j < L.length) : ∃ i t s, (L.set a X)[j]? = some (i, t, s) := ⟨_, _, _, List.getElem?_eq_getElem (by rw [List.length_set]; exact h)⟩
theorem get_parts (L : List Live) (j : Nat) (h : j < L.length) : ∃ i t s, L[j]? = some (i, t, s) := ⟨_, _, _, List.getElem?_eq_getElem h⟩
theorem CauAt.mk {w : World} {va vp vs ve : Value} {k : Nat} {wr : World} {L : List Live} {R : List (EvT × Nat)} {S : EvT → Nat → Prop} (hc : Cau L S k) (hr : ∀ r ∈ R, S r.1 r.2) (h0 : 0 < L.length) (hl : L.length ≤ k + 1) (hR : R.length ≤ k)
    (h : Rows4 wr w.heap.size vs ve va vp (ids L) (pasts L) (seens R) (knows R)) (hb : Below w.heap.size w wr) : CauAt w vs ve va vp k wr :=
  ⟨L, R, S, hc, hr, h0, hl, hR, h.s, h.e, h.a, h.p, h.sa, h.ep, hb⟩
theorem CauMid.mk {w : World} {va vp vs ve : Value} {k a : Nat} {wr : World} {L : List Live} {R : List (EvT × Nat)} {S : EvT → Nat → Prop} (hc : Cau L S (k + 1)) (hr : ∀ r ∈ R, S r.1 r.2) (ha : a < L.length) (hl : L.length ≤ k + 2) (hR : R.length ≤ k)
    (h : Rows4 wr w.heap.size vs ve va vp (ids L) (pasts L) (seens R) (knows R)) (hb : Below w.heap.size w wr) : CauMid w va vp k vs ve (.int .i64 a) wr :=
  ⟨L, R, S, a, hc, hr, ha, hl, hR, rfl, h.s, h.e, h.a, h.p, h.sa, h.ep, hb⟩
theorem mid_join {w : World} {va vp : Value} {k a b a' g cap g' cap' : Nat} {w7 : World} {L : List Live} {R : List (EvT × Nat)} {S : EvT → Nat → Prop} {X Y : Live}
    (hc : Cau (joined L a b X) (Add S X.2.1 X.2.2) (k + 1)) (hr : ∀ r ∈ R, S r.1 r.2) (ha : a' < L.length - 1) (hl : L.length ≤ k + 1) (hR : R.length ≤ k) (hY : (L.set a X)[L.length - 1]? = some Y)
    (h : Rows4 w7 w.heap.size (.slice (some ⟨g, 0, none⟩) L.length cap) (.slice (some ⟨g', 0, none⟩) L.length cap') va vp (ids ((L.set a X).set b Y)) (pasts ((L.set a X).set b Y)) (seens R) (knows R)) (hb : Below w.heap.size w w7) :
    CauMid w va vp k (.slice (some ⟨g, 0, none⟩) (L.length - 1) cap) (.slice (some ⟨g', 0, none⟩) (L.length - 1) cap') (.int .i64 a') w7 := by
  have e : joined L a b X = ((L.set a X).set b Y).take (L.length - 1) := by
    unfold joined
    rw [List.getD_eq_getElem?_getD, hY]; rfl
  have hlen : (joined L a b X).length = L.length - 1 := by rw [e]; simp
  refine CauMid.mk hc (fun r h => .inl (hr r h)) (by rw [hlen]; exact ha) (by rw [hlen]; omega) hR ?_ hb
  have := h.cut (m := L.length - 1) (by simp [ids]) (by simp [pasts]) (by omega) (by omega)
  rw [e]
  unfold ids pasts at this ⊢
  rw [List.map_take, List.map_take]
  exact this
theorem own_shape {w : World} {B e size n : Nat} {v : Value} {xs : List Value} (h : w.ownsRow B e size v n xs) : ∃ A cap, v = .slice A n cap ∧ (0 < n → ∃ g, A = some ⟨g, 0, none⟩) := by
  rcases h.2 with ⟨rfl, rfl⟩ | ⟨g, cap, cur, rfl, _⟩
  · exact ⟨none, 0, rfl, fun h => absurd h (by omega)⟩
  · exact ⟨_, cap, rfl, fun _ => ⟨g, rfl⟩⟩
theorem bits_leq {L : List Live} {S : EvT → Nat → Prop} {k : Nat} (hk : k ≤ 20) (h : Cau L S k) {t t' : EvT} {s s' : Nat} (hs : S t s) (hs' : S t' s') : (bits .andNot .u64 (s : Int) (s' : Int) == 0) = leqF t t' 0 0 := by
  have l1 := (h.seen hs).2.2.2
  have l2 := (h.seen hs').2.2.2
  have l3 : 2 ^ k ≤ 2 ^ 20 := Nat.pow_le_pow_right (by omega) hk
  rw [u64_andNot_nat _ _ (by omega) (by omega), Bool.eq_iff_iff, h.leq hs hs']
  have e : (((s &&& (18446744073709551615 - s') : Nat) : Int) == 0) = true ↔ s &&& (18446744073709551615 - s') = 0 := by simp
  rw [e]
  have tb : ∀ i, (18446744073709551615 - s').testBit i = (decide (i < 64) && !s'.testBit i) := fun i => by
    have := Nat.testBit_two_pow_sub_succ (x := s') (n := 64) (by omega) i
    rw [← this]; congr 1; omega
  constructor
  · intro h0 i hi
    have hb : (s &&& (18446744073709551615 - s')).testBit i = false := by rw [h0]; simp
    rw [Nat.testBit_and, hi, tb] at hb
    have h64 : i < 64 := by
      have := bit_lt (n := 64) (by omega) hi
      exact this
    simpa [h64] using hb
  · intro hi
    refine Nat.eq_of_testBit_eq fun i => ?_
    rw [Nat.testBit_and, tb, Nat.zero_testBit]
    cases hs : s.testBit i with
    | false => rfl
    | true => rw [hi i hs]; simp
theorem bits_event (s k : Nat) (hk : k < 20) (hs : s < 2 ^ k) : bits .or .u64 (s : Int) (IntKind.u64.wrap (2 ^ k)) = ((s ||| 2 ^ k : Nat) : Int) := by
  have h1 := two_pow_small k hk
  have h2 : (2 ^ k : Int) = ((2 ^ k : Nat) : Int) := by simp
  rw [h2, IntKind.wrap_u64, show ((2 ^ k : Nat) : Int) % 18446744073709551616 = ((2 ^ k : Nat) : Int) from by omega]
  exact u64_or_nat _ _ (by omega) (by omega)
theorem cast_mod (a b : Nat) : (a : Int) % (b : Int) = ((a % b : Nat) : Int) := rfl
set_option maxRecDepth 100000 in
set_option maxHeartbeats 40000000 in
theorem causes_law (A : Option Addr) (n c : Nat) (w : World) (hn : n ≤ 9223372036854775807) (hA : ActsAt w A n) : Calls Tryd.prog 5 #[.slice A n c] w (RetB true w) := by
  have HA := Lib.hid hA
  clear hA
  go_enter Tryd.func5, Tryd.ntmps5
  go_wp2_with fail
  refine (awake_any _).mono ?_
  rintro e w1 ⟨rfl, hb1⟩
  go_wp2_with fail
  refine (seed_any _).mono ?_
  rintro e w2 ⟨v2, rfl, hv2, hb2⟩
  obtain ⟨qi, qs, rfl, hi, hs⟩ := hv2
  have HI := Lib.hid hi
  have HS := Lib.hid hs
  clear hi hs
  go_wp2_with fail
  go_loopw [3, 4, 5, 6, 7] (fun vs ve va vp i wr => ∃ k : Nat, k ≤ 20 ∧ k ≤ n ∧ i = .int .i64 k ∧ CauAt w vs ve va vp k wr) (fun _ _ _ _ i _ => 20 - (intOf i).toNat)
  case atStart =>
    have E2 : Ext w w2 := hb1.trans hb2
    refine ⟨0, by omega, by omega, rfl, CauAt.mk (R := []) Cau.start (fun r h => by cases h) (by decide) (by decide) (by decide) ⟨?_, ?_, ?_, ?_, .inl rfl, .inl rfl⟩ ?_⟩
    · refine ⟨[(qi, qs)], ?_, rfl, fun j q s hq hs => ?_⟩
      · exact (World.ownsRow_lit (base := w.heap.size) (e := 31) (size := 2) w2 #[.pointer qi, .pointer qs] 1 E2.size (by unfold maxLen; omega) rfl).alloc _
      · obtain rfl := getElem_one hq
        obtain rfl := getElem_one hs
        exact ⟨HI.out.ext (((Ext.refl _).alloc _).alloc _), HS.out.ext (((Ext.refl _).alloc _).alloc _)⟩
    · have := World.ownsRow_lit (base := w.heap.size) (e := 33) (size := 1) (w2.alloc (Obj.cells #[.pointer qi, .pointer qs] 31)) #[.int .u64 0] 1 (Nat.le_trans E2.size (by simp)) (by unfold maxLen; omega) rfl
      simp at this
      exact this
    · exact ⟨[], World.ownsRow_nil _ _ _ _, rfl, fun j q s hq => by simp at hq⟩
    · exact World.ownsRow_nil _ _ _ _
    · exact (E2.alloc _).alloc _
  case round =>
    obtain ⟨k, hk, hkn, rfl, hC⟩ := hrel
    obtain ⟨L, R, S, hC, hR, hL0, hL1, hR1, hvs, hve, hva, hvp, hap1, hap2, hB⟩ := hC
    by_cases hlt : k < 20 ∧ k < n
    · obtain ⟨hlt, hltn⟩ := hlt
      obtain ⟨ad, x, rfl, hadb, hx⟩ := HA.out k hltn
      obtain ⟨x0b, x0⟩ := hx 0 (by omega)
      obtain ⟨x1b, x1⟩ := hx 1 (by omega)
      obtain ⟨x2b, x2⟩ := hx 2 (by omega)
      clear hx
      have hvs' := hvs
      have hve' := hve
      obtain ⟨ps, hps, hpt⟩ := hvs'
      have hlen : (ids L).length = L.length := by simp [ids]
      have hlen' : (pasts L).length = L.length := by simp [pasts]
      obtain ⟨g, cap, rfl, hgB, hgw, hcap, hcapm⟩ := own_form hps (by omega)
      obtain ⟨g', cap', rfl, hgB', hgw', hcap', hcapm'⟩ := own_form hve' (by omega)
      rw [hlen] at *
      rw [hlen'] at *
      have HC := Lib.hid hC
      have HR := Lib.hid hR
      have HVS := Lib.hid hvs
      have HVE := Lib.hid hve
      have HVA := Lib.hid hva
      have HVP := Lib.hid hvp
      have HP1 := Lib.hid hap1
      have HP2 := Lib.hid hap2
      have HB := Lib.hid hB
      have HPS := Lib.hid hps
      have HPT := Lib.hid hpt
      clear hC hR hvs hve hva hvp hap1 hap2 hB hps hpt hve' hlen hlen'
      have y0 := (HB.out.cell (p := ad.add (k * 4 + 0)) (by rw [block_of_add]; exact hadb)).trans x0
      have y1 := (HB.out.cell (p := ad.add (k * 4 + 1)) (by rw [block_of_add]; exact hadb)).trans x1
      have y2 := (HB.out.cell (p := ad.add (k * 4 + 2)) (by rw [block_of_add]; exact hadb)).trans x2
      rw [Nat.add_zero] at y0
      rw [add_field _ _ _ (by omega)] at y1 y2
      clear x0 x1 x2
      go_wp2_with fail
      go_quiet (fail)
      go_upto_block 2 with (fail)
      rw [cast_mod, cast_mod]
      have ha := Nat.mod_lt (x 1) hL0
      have hb := Nat.mod_lt (x 2) hL0
      generalize x 1 % L.length = a at *
      generalize x 2 % L.length = b at *
      clear y0 y1 y2 x1b x2b
      go_cut [3, 4, 8] (fun vs ve v8 w' => CauMid w u5 u6 k vs ve v8 w')
      case first =>
        generalize hW : wr.drewN nq = w3
        have E3 : Ext wr w3 := by rw [← hW]; simp
        clear hW
        have RW := Lib.hid (Rows4.ext (⟨HVS.out, HVE.out, HVA.out, HVP.out, HP1.out, HP2.out⟩ : Rows4 wr w.heap.size _ _ _ _ _ _ _ _) E3)
        have BW := Lib.hid (Below.trans HB.out (Below.mono E3.below HB.out.size))
        clear HVS HVE HVA HVP HP1 HP2 HB HPS HPT
        obtain ⟨i, t, s, hLa⟩ : ∃ i t s, L[a]? = some (i, t, s) := ⟨_, _, _, List.getElem?_eq_getElem ha⟩
        have hIa : (ids L)[a]? = some (i, t) := by simp [ids, hLa]
        have hPa : (pasts L)[a]? = some s := by simp [pasts, hLa]
        have hlen : L.length = (ids L).length := by simp [ids]
        have hlen' : L.length = (pasts L).length := by simp [pasts]
        obtain ⟨q, c0, c1, f0, f1, hq, hg3⟩ := RW.out.s.at_ hlen hIa
        obtain ⟨d0, e0, hg3'⟩ := RW.out.e.at_ hlen' hPa
        have HQ := Lib.hid hq
        obtain ⟨iz, idp, iS⟩ := HC.out.live hLa
        obtain ⟨tn, ttop, tdep, slt⟩ := HC.out.seen iS
        replace iz := Lib.hid iz
        replace iS := Lib.hid iS
        replace hLa := Lib.hid hLa
        replace tn := Lib.hid tn
        replace slt := Lib.hid slt
        clear hIa hPa hlen hlen' hq hgw hgw' E3
        simp only [] at idp ttop tdep
        by_cases hk0 : (x 0 : Int) % 4 = 0
        · have z0 : ((x 0 : Int) % 4 == 0) = true := by simpa using hk0
          clear hk0
          cases hd : (decide (i.split.1.depth ≤ 16) && decide (i.split.2.depth ≤ 16)) with
          | false =>
            as_aux_lemma =>
              have HD := Lib.hid hd
              clear hd
              go_wp2_with fail
              refine (fork_any i t _ _ (PtAt.st HQ.out) (by omega) false HD.out).mono ?_
              rintro e w4 ⟨rfl, hb4⟩
              go_wp2_with fail
              go_roundw
              case rel =>
                have A4 : Ext w4 ((w4.alloc (Obj.cells #[.pointer none, .pointer none] 31)).alloc (Obj.cells #[.pointer none, .pointer none] 31)) := ((Ext.refl _).alloc _).alloc _
                refine ⟨k + 1, by omega, by omega, by go_num, CauAt.mk HC.out.next HR.out hL0 (by omega) (by omega) (RW.out.ext (hb4.trans A4)) (BW.out.trans (Below.mono (hb4.trans A4) BW.out.size))⟩
              case measure => simp [intOf]; omega
          | true =>
            as_aux_lemma =>
              have HD := Lib.hid hd
              clear hd
              go_wp2_with fail
              refine (fork_any i t _ _ (PtAt.st HQ.out) (by omega) true HD.out).mono ?_
              rintro e w4 ⟨v4, y4, rfl, hv4, hy4, hb4⟩
              obtain ⟨qi4, qs4, rfl, hi4, hs4⟩ := hv4
              obtain ⟨ri4, rs4, rfl, hi4', hs4'⟩ := hy4
              have PT4 : Hid (PtAt w4 (qi4, qs4) (i.split.1, t)) := ⟨hi4, hs4⟩
              have PU4 : Hid (PtAt w4 (ri4, rs4) (i.split.2, t)) := ⟨hi4', hs4'⟩
              obtain ⟨hcc, hff⟩ := hb4.both
              have k0 := hb4.cell c0
              have k1 := hb4.cell c1
              have j0 := (hff g (a * 2) hg3).trans f0
              have j1 := (hff g (a * 2 + 1) hg3).trans f1
              have l3 := hb4.lt _ hg3
              clear hi4 hs4 hi4' hs4' hcc hff c0 c1 d0 f0 f1 e0 hg3 hg3'
              go_upto_region 23 with (fail)
              generalize hW : ((((w4.setCell ⟨g, a * 2, none⟩ (.pointer qi4)).setCell ⟨g, a * 2 + 1, none⟩ (.pointer qs4)).alloc (Obj.cells #[.pointer qi4, .pointer qs4] 31)).alloc (Obj.cells #[.pointer ri4, .pointer rs4] 31)) = w5
              have R5 : Hid (Rows4 w5 w.heap.size (.slice (some ⟨g, 0, none⟩) L.length cap) (.slice (some ⟨g', 0, none⟩) L.length cap') u5 u6 ((ids L).set a (i.split.1, t)) (pasts L) (seens R) (knows R)) := by
                rw [← hW]
                exact ((RW.out.ext hb4).putS (j := a) (by simp [ids]) PT4.out).ext (((Ext.refl _).alloc _).alloc _)
              have E45 : Kp w4 w5 := by
                rw [← hW]
                have T4 : typ w4 g = some 31 := hb4.typ (own_typ RW.out.s.choose_spec.1 g rfl)
                exact ((((Kp.far (a := ⟨g, a * 2, none⟩) T4 (by decide) (by decide)).trans (Kp.far (a := ⟨g, a * 2 + 1, none⟩) (by rw [typ_set]; exact T4) (by decide) (by decide))).alloc _).alloc _)
              have B5 : Hid (Below w.heap.size w w5) := by
                rw [← hW]
                have z := Nat.le_trans BW.out.size hb4.size
                exact ((((BW.out.trans (Below.mono hb4 BW.out.size)).setCell hgB _).setCell hgB _).alloc (by simpa using z) _).alloc (by simp; omega) _
              have b0 : w5.cell? ⟨w4.heap.size + 1, 0, none⟩ = some (.pointer ri4) := by rw [← hW]; simp [go_sem]
              have b1 : w5.cell? ⟨w4.heap.size + 1, 1, none⟩ = some (.pointer rs4) := by rw [← hW]; simp [go_sem]
              clear hW k0 k1 j0 j1 l3
              obtain ⟨ps5, hps5, hpt5⟩ := R5.out.s
              have hlen5 : ((ids L).set a (i.split.1, t)).length = L.length := by simp [ids]
              rw [hlen5] at hps5
              have PP5 := Lib.hid hpt5
              have OO5 := Lib.hid hps5
              have PU5 := Lib.hid (PU4.out.kp E45)
              clear hpt5 hps5
              obtain ⟨i0, hi0, hz0, hz1, hz2⟩ := info_parts Tryd.info31
              have I0 := Lib.hid hi0
              have Z0 := Lib.hid hz0
              have Z1 := Lib.hid hz1
              have Z2 := Lib.hid hz2
              clear hi0 hz0 hz1 hz2 hlen5
              have zB : w.heap.size ≤ w5.heap.size := B5.out.size
              go_upto_region 24 with (at_builtin; refine wpList_append_lies _ rfl (.tmp 100) (.tmp 102) 46 rfl w.heap.size 31 i0 _ 2 16 Tryd.underlying46 I0.out Z0.out Z1.out Z2.out rfl (by decide) _ L.length (flat ps5) rfl (OO5.out.alloc _) ⟨w5.heap.size, 0, none⟩ 1 1 [.pointer ri4, .pointer rs4] rfl rfl (news2 (heap_alloc_new _ _)) (by simp [Value.oneCell']) (by omega) (by unfold maxLen; omega) (by omega) (by simp; omega) _ rfl ?_; intro g5 cap5 w6 hown6 hgrow6 hat6 hlt6)
              have A5 : Ext w5 (w5.alloc (Obj.cells #[.pointer ri4, .pointer rs4] 31)) := by simp
              have R6 := Lib.hid (Rows4.appS (R5.out.ext A5) (PP5.out.kp A5.kp) (PU5.out.kp A5.kp) hown6 hgrow6 hat6 rfl (by simp [ids]))
              have B6 := Lib.hid (below_grown (B5.out.alloc zB _) (by simp; omega) (OO5.out.alloc _) hgrow6)
              have zB6 : w.heap.size ≤ w6.heap.size := B6.out.size
              have hPa : (pasts L)[a]? = some s := by simp [pasts, hLa.out]
              obtain ⟨d0, e0, hg6⟩ := R6.out.e.at_ (by simp [pasts]) hPa
              clear hPa hown6 hgrow6 hat6 A5 e0 b0 b1
              have OE6 : Hid (w6.ownsRow w.heap.size 33 1 (.slice (some ⟨g', 0, none⟩) L.length cap') L.length (nums (pasts L))) := NumRow.own (by simp [pasts]) R6.out.e
              obtain ⟨i1, hi0, hz0, hz1, hz2⟩ := info_parts Tryd.info33
              have I1 := Lib.hid hi0
              have Y0 := Lib.hid hz0
              have Y1 := Lib.hid hz1
              have Y2 := Lib.hid hz2
              clear hi0 hz0 hz1 hz2
              go_wp2_with (at_builtin; refine wpList_append_lies _ rfl (.tmp 104) (.tmp 109) 47 rfl w.heap.size 33 i1 _ 1 8 Tryd.underlying47 I1.out Y0.out Y1.out Y2.out rfl (by decide) _ L.length (nums (pasts L)) rfl (OE6.out.alloc _) ⟨w6.heap.size, 0, none⟩ 1 1 [.int .u64 s] rfl rfl (news1 (heap_alloc_new _ _)) (by simp [Value.oneCell']) (by omega) (by unfold maxLen; omega) (by omega) (by simp; omega) _ rfl ?_; intro g6 cap6 w7 hown7 hgrow7 hat7 hlt7)
              have A6 : Ext w6 (w6.alloc (Obj.cells #[.int .u64 s] 33)) := by simp
              have R7 := Lib.hid (Rows4.appN (R6.out.ext A6) hown7 hgrow7 hat7 rfl (by simp [pasts]))
              have B7 := Lib.hid (below_grown (B6.out.alloc zB6 _) (by simp; omega) (OE6.out.alloc _) hgrow7)
              clear hown7 hgrow7 hat7 A6
              go_meet
              have hdd : i.split.1.depth ≤ 16 ∧ i.split.2.depth ≤ 16 := by simpa using HD.out
              refine CauMid.mk (HC.out.fork hLa.out hdd.1 hdd.2) HR.out (by simp; omega) (by simp; omega) hR1 ?_ B7.out
              have e1 : ids (L.set a (i.split.1, t, s) ++ [(i.split.2, t, s)]) = (ids L).set a (i.split.1, t) ++ [(i.split.2, t)] := by unfold ids; simp [List.map_set]
              have e2 : pasts (L.set a (i.split.1, t, s) ++ [(i.split.2, t, s)]) = pasts L ++ [s] := by
                rw [← pasts_same L a i t s i.split.1 t hLa.out]; simp [pasts]
              rw [e1, e2]
              exact R7.out
        · by_cases hk3 : (x 0 : Int) % 4 = 3
          · have z0 : ((x 0 : Int) % 4 == 0) = false := by simpa using hk0
            have z3 : ((x 0 : Int) % 4 == 3) = true := by simpa using hk3
            clear hk0 hk3
            by_cases hab : a = b
            · subst hab
              go_wp2_with fail
              go_roundw
              case rel =>
                exact ⟨k + 1, by omega, by omega, by go_num, CauAt.mk HC.out.next HR.out hL0 (by omega) (by omega) RW.out BW.out⟩
              case measure => simp [intOf]; omega
            · have hab' : (a == b) = false := by simpa using hab
              have hab2 : ((a : Int) == (b : Int)) = false := by simp; omega
              obtain ⟨i', t', s', hLb⟩ : ∃ i t s, L[b]? = some (i, t, s) := ⟨_, _, _, List.getElem?_eq_getElem hb⟩
              have hIb : (ids L)[b]? = some (i', t') := by simp [ids, hLb]
              obtain ⟨q', c0', c1', -, -, hq', -⟩ := RW.out.s.at_ (by simp [ids]) hIb
              obtain ⟨xs, hsum⟩ := HC.out.sum hLa.out hLb hab
              have HQ' := Lib.hid hq'
              obtain ⟨-, idp', iS'⟩ := HC.out.live hLb
              obtain ⟨tn', ttop', tdep', slt'⟩ := HC.out.seen iS'
              simp only [] at idp' ttop' tdep' slt' hsum
              have HSU := Lib.hid hsum
              have hLb' := Lib.hid hLb
              have slt2 := Lib.hid slt'
              have mtop := merge_top 16 t t'
              have fit : (mergeF 16 t t').fits = true := fits_of_top _ (by omega)
              have JN := Lib.hid fun w' (hx : Ext w3 w') => join_some 16 i i' xs t t' _ _ w' ((PtAt.st HQ.out).ext hx) ((PtAt.st HQ'.out).ext hx) hsum (by omega) (by omega) (by omega) (by omega) true fit
              clear hIb hq' tn' iS' slt' hsum hLb fit mtop
              go_upto_region 27 with fail
              have hne1 := World.new_ne w3 _ c0
              go_cut [13, 14] (fun s13 s14 wx => ∃ (g2 : Nat) (qa qb : Option Addr), s13 = .pointer (some ⟨g2, 0, none⟩) ∧ s14 = .int .i64 0 ∧ Ext w3 wx ∧ wx.cell? ⟨g2, 0, none⟩ = some (.pointer qa) ∧ wx.cell? ⟨g2, 1, none⟩ = some (.pointer qb) ∧ PtAt wx (qa, qb) (xs, mergeF 16 t t'))
              case first =>
                as_aux_lemma =>
                  go_region_held3 (fun w' => Ext w3 w' ∧ w'.cell? ⟨g, a * 2, none⟩ = some (.pointer q.1) ∧ w'.cell? ⟨g, a * 2 + 1, none⟩ = some (.pointer q.2) ∧ w'.cell? ⟨g, b * 2, none⟩ = some (.pointer q'.1) ∧ w'.cell? ⟨g, b * 2 + 1, none⟩ = some (.pointer q'.2))
                    (refine ⟨?_, ?_, ?_, ?_, ?_⟩ <;> first | assumption | exact Ext.refl _ | exact Ext.alloc hE2 _ | exact Ext.set (Ext.set hE2 (Nat.le_refl _) _) (Nat.le_refl _) _ | go_keep | (refine hbb.cell ?_; go_keep))
                    ((go_at_call 14; go_split_ands; have hS : Ext w3 _ := (by assumption); refine (JN.out _ hS).mono ?_; rintro e w4 ⟨v4, rfl, hv4, hbb⟩; obtain ⟨qa, qb, rfl, hi4, hs4⟩ := hv4; have hE2 := hS.trans hbb; have k0 := hE2.cell c0; have k1 := hE2.cell c1; have k2 := hE2.cell c0'; have k3 := hE2.cell c1'; obtain ⟨hcc, hff⟩ := hbb.both))
                  all_goals go_wp2_with fail
                  all_goals go_meet
                  all_goals first
                    | exact ⟨_, qa, qb, rfl, rfl, hE2.alloc _, new_at _ _ _ _ _ rfl, new_at _ _ _ _ _ rfl, PtAt.kp (Ext.kp (by simp)) (⟨hi4, hs4⟩ : PtAt w4 (qa, qb) (xs, mergeF 16 t t'))⟩
                    | (have BL := box_late hbb (⟨hi4, hs4⟩ : PtAt w4 (qa, qb) (xs, mergeF 16 t t')); exact ⟨_, qa, qb, rfl, rfl, BL.1, BL.2.1, BL.2.2.1, BL.2.2.2⟩)
              case rest =>
                as_aux_lemma =>
                  obtain ⟨g2, qa, qb, rfl, rfl, E4, b0, b1, hpt4⟩ := hcut
                  generalize wc = w4 at *
                  have PT4 := Lib.hid hpt4
                  obtain ⟨hcc, hff⟩ := E4.both
                  have k0 := E4.cell c0
                  have k1 := E4.cell c1
                  have j0 := (hff g (a * 2) hg3).trans f0
                  have j1 := (hff g (a * 2 + 1) hg3).trans f1
                  have l3 := E4.lt _ hg3
                  clear hcc hff c0 c1 c0' c1' d0 f0 f1 e0 hg3 hg3' hpt4 hne1
                  go_upto_region 31 with fail
                  generalize hW : ((w4.setCell ⟨g, a * 2, none⟩ (.pointer qa)).setCell ⟨g, a * 2 + 1, none⟩ (.pointer qb)) = w5
                  have R5 : Hid (Rows4 w5 w.heap.size (.slice (some ⟨g, 0, none⟩) L.length cap) (.slice (some ⟨g', 0, none⟩) L.length cap') u5 u6 ((ids L).set a (xs, mergeF 16 t t')) (pasts L) (seens R) (knows R)) := by
                    rw [← hW]
                    exact (RW.out.ext E4).putS (j := a) (by simp [ids]) PT4.out
                  have B5 : Hid (Below w.heap.size w w5) := by
                    rw [← hW]
                    exact ((BW.out.trans (Below.mono E4 BW.out.size)).setCell hgB _).setCell hgB _
                  clear hW k0 k1 j0 j1 l3 b0 b1
                  have hPa : (pasts L)[a]? = some s := by simp [pasts, hLa.out]
                  have hPb : (pasts L)[b]? = some s' := by simp [pasts, hLb'.out]
                  obtain ⟨d0, e0, hg5⟩ := R5.out.e.at_ (by simp [pasts]) hPa
                  obtain ⟨d1, e1, -⟩ := R5.out.e.at_ (by simp [pasts]) hPb
                  clear hPa hPb
                  go_region
                  rw [bits_or20 s s' k hlt slt.out slt2.out]
                  generalize hW : (w5.setCell ⟨g', a, none⟩ (.int .u64 ((s ||| s' : Nat) : Int))).drew = w6
                  have R6 : Hid (Rows4 w6 w.heap.size (.slice (some ⟨g, 0, none⟩) L.length cap) (.slice (some ⟨g', 0, none⟩) L.length cap') u5 u6 (ids (L.set a (xs, mergeF 16 t t', s ||| s'))) (pasts (L.set a (xs, mergeF 16 t t', s ||| s'))) (seens R) (knows R)) := by
                    rw [← hW, ids_set, pasts_set]
                    exact (R5.out.putN (j := a) (by simp [pasts])).ext (by simp)
                  have B6 : Hid (Below w.heap.size w w6) := by
                    rw [← hW]
                    exact (B5.out.setCell hgB' _).drew
                  clear hW d0 e0 d1 e1 hg5
                  have h2 : 2 ≤ L.length := by omega
                  obtain ⟨xl, tl, sl, hLl⟩ := get_set_parts L a (L.length - 1) (xs, mergeF 16 t t', s ||| s') (by omega)
                  obtain ⟨ib, tb, sb, hLb2⟩ := get_set_parts L a b (xs, mergeF 16 t t', s ||| s') (by omega)
                  have hIl : (ids (L.set a (xs, mergeF 16 t t', s ||| s')))[L.length - 1]? = some (xl, tl) := by simp only [ids, List.getElem?_map, hLl]; rfl
                  have hPl : (pasts (L.set a (xs, mergeF 16 t t', s ||| s')))[L.length - 1]? = some sl := by simp only [pasts, List.getElem?_map, hLl]; rfl
                  have hIb : (ids (L.set a (xs, mergeF 16 t t', s ||| s')))[b]? = some (ib, tb) := by simp only [ids, List.getElem?_map, hLb2]; rfl
                  have hPb : (pasts (L.set a (xs, mergeF 16 t t', s ||| s')))[b]? = some sb := by simp only [pasts, List.getElem?_map, hLb2]; rfl
                  obtain ⟨ql, m0, m1, -, -, hql, hg6⟩ := R6.out.s.at_ (by simp [ids]) hIl
                  obtain ⟨m2, -, hg6'⟩ := R6.out.e.at_ (by simp [pasts]) hPl
                  obtain ⟨qb2, n0, n1, p0, p1, -, -⟩ := R6.out.s.at_ (by simp [ids]) hIb
                  obtain ⟨n2, p2, -⟩ := R6.out.e.at_ (by simp [pasts]) hPb
                  have QL := Lib.hid hql
                  have HLL := Lib.hid hLl
                  clear hql hLl hLb2 hIl hPl hIb hPb
                  have hgg : g' ≠ g := by
                    rcases (R6.out.s.apart R6.out.e) with h | h
                    · simp [Value.ownBlock] at h
                    · intro e; exact h (by simp [Value.ownBlock, e])
                  have hx1 : ((w6.setCell ⟨g, b * 2, none⟩ (.pointer ql.1)).setCell ⟨g, b * 2 + 1, none⟩ (.pointer ql.2)).cell? ⟨g', b, none⟩ = some (.int .u64 sb) := by
                    rw [set_other (fun e => hgg (congrArg Addr.block e).symm), set_other (fun e => hgg (congrArg Addr.block e).symm)]; exact n2
                  go_wp2_with fail
                  go_region
                  generalize hW : (((w6.setCell ⟨g, b * 2, none⟩ (.pointer ql.1)).setCell ⟨g, b * 2 + 1, none⟩ (.pointer ql.2)).setCell ⟨g', b, none⟩ (.int .u64 (sl : Int))).drew = w7
                  have R7 : Hid (Rows4 w7 w.heap.size (.slice (some ⟨g, 0, none⟩) L.length cap) (.slice (some ⟨g', 0, none⟩) L.length cap') u5 u6 (ids ((L.set a (xs, mergeF 16 t t', s ||| s')).set b (xl, tl, sl))) (pasts ((L.set a (xs, mergeF 16 t t', s ||| s')).set b (xl, tl, sl))) (seens R) (knows R)) := by
                    rw [← hW, ids_set, pasts_set]
                    exact ((R6.out.putS (j := b) (by simp [ids]) QL.out).putN (j := b) (by simp [pasts])).ext (by simp)
                  have B7 : Hid (Below w.heap.size w w7) := by
                    rw [← hW]
                    exact (((B6.out.setCell hgB _).setCell hgB _).setCell hgB' _).drew
                  clear hW hx1 n0 n1 n2 p0 p1 p2 m0 m1 m2 hg6 hg6'
                  have hle1 : (1 : Int) ≤ (L.length : Int) := by omega
                  have hle2 : (L.length : Int) - 1 ≤ (cap : Int) := by omega
                  have hle3 : (L.length : Int) - 1 ≤ (cap' : Int) := by omega
                  unfold maxLen at hcapm hcapm'
                  by_cases hal : a = L.length - 1
                  · have hal1 : ((a : Int) == (L.length : Int) - 1) = true := by simp; omega
                    go_wp2_with fail
                    go_quiet (fail)
                    go_wp2_with fail
                    go_meet
                    exact mid_join (HC.out.join hLa.out hLb'.out hab HSU.out) HR.out (by omega) hL1 hR1 HLL.out (R7.out.ext (by simp)) (Below.trans B7.out (Below.mono (Ext.drewN (Ext.refl w7) nq).below B7.out.size))
                  · have hal1 : ((a : Int) == (L.length : Int) - 1) = false := by simp; omega
                    go_wp2_with fail
                    go_quiet (fail)
                    go_wp2_with fail
                    go_meet
                    exact mid_join (HC.out.join hLa.out hLb'.out hab HSU.out) HR.out (by omega) hL1 hR1 HLL.out (R7.out.ext (by simp)) (Below.trans B7.out (Below.mono (Ext.drewN (Ext.refl w7) nq).below B7.out.size))
          · as_aux_lemma =>
              have z0 : ((x 0 : Int) % 4 == 0) = false := by simpa using hk0
              have z3 : ((x 0 : Int) % 4 == 3) = false := by simpa using hk3
              clear hk0 hk3
              have fit : (eventT i t).fits = true := fits_of_top _ (by have := event_top i t; omega)
              go_wp2_with fail
              refine (event_some i t _ _ (PtAt.st HQ.out) iz.out (by omega) (by omega) true fit).mono ?_
              rintro e w4 ⟨v4, rfl, hv4, hb4⟩
              obtain ⟨qi4, qs4, rfl, hi4, hs4⟩ := hv4
              have PT4 : Hid (PtAt w4 (qi4, qs4) (i, eventT i t)) := ⟨hi4, hs4⟩
              obtain ⟨hcc, hff⟩ := hb4.both
              have k0 := hb4.cell c0
              have k1 := hb4.cell c1
              have j0 := (hff g (a * 2) hg3).trans f0
              have j1 := (hff g (a * 2 + 1) hg3).trans f1
              have l3 := hb4.lt _ hg3
              clear hi4 hs4 hcc hff c0 c1 d0 f0 f1 e0 hg3 hg3'
              go_wp2_with fail
              generalize hW : (((w4.setCell ⟨g, a * 2, none⟩ (.pointer qi4)).setCell ⟨g, a * 2 + 1, none⟩ (.pointer qs4)).alloc (Obj.cells #[.pointer qi4, .pointer qs4] 31)) = w5
              have R5 : Hid (Rows4 w5 w.heap.size (.slice (some ⟨g, 0, none⟩) L.length cap) (.slice (some ⟨g', 0, none⟩) L.length cap') u5 u6 ((ids L).set a (i, eventT i t)) (pasts L) (seens R) (knows R)) := by
                rw [← hW]
                exact ((RW.out.ext hb4).putS (j := a) (by simp [ids]) PT4.out).ext (by simp)
              have B5 : Hid (Below w.heap.size w w5) := by
                rw [← hW]
                exact (((BW.out.trans (Below.mono hb4 BW.out.size)).setCell hgB _).setCell hgB _).alloc (Nat.le_trans BW.out.size (Nat.le_trans hb4.size (by simp))) _
              clear hW k0 k1 j0 j1 l3
              have hPa : (pasts L)[a]? = some s := by simp [pasts, hLa.out]
              obtain ⟨d0, e0, hg5⟩ := R5.out.e.at_ (by simp [pasts]) hPa
              clear hPa
              go_region
              rw [bits_event s k hlt slt.out]
              go_wp2_with fail
              go_meet
              refine CauMid.mk (HC.out.event hLa.out) (fun r hr => .inl (HR.out r hr)) (by simpa using ha) (by simp; omega) hR1 ?_ ((B5.out.setCell hgB' _).drew)
              rw [ids_set, pasts_set]
              exact (R5.out.putN (j := a) (by simp [pasts])).ext (by simp)
      case rest =>
        as_aux_lemma =>
          obtain ⟨L2, R2, S2, a2, hC, hR, ha2, hL2, hR2, rfl, hvs, hve, hva, hvp, hap1, hap2, hB⟩ := hcut
          generalize wc = w3 at *
          have RW : Hid (Rows4 w3 w.heap.size _ _ u5 u6 (ids L2) (pasts L2) (seens R2) (knows R2)) := ⟨hvs, hve, hva, hvp, hap1, hap2⟩
          have BW := Lib.hid hB
          obtain ⟨ps2, hps2, hpt2⟩ := hvs
          have hve2 := hve
          obtain ⟨psr, hpsr, hptr⟩ := hva
          have hlen : (ids L2).length = L2.length := by simp [ids]
          have hlen' : (pasts L2).length = L2.length := by simp [pasts]
          have hlens : (seens R2).length = R2.length := by simp [seens]
          have hlenk : (knows R2).length = R2.length := by simp [knows]
          obtain ⟨g2, cap2, rfl, -, hg2, hcap2, hcapm2⟩ := own_form hps2 (by omega)
          obtain ⟨g2', cap2', rfl, -, hg2', hcap2', hcapm2'⟩ := own_form hve2 (by omega)
          rw [hlen] at RW
          rw [hlen'] at RW
          rw [hlens] at hpsr
          rw [hlen] at *
          rw [hlen'] at *
          obtain ⟨i, t, s, hLa⟩ := get_parts L2 a2 ha2
          have hIa : (ids L2)[a2]? = some (i, t) := by simp [ids, hLa]
          have hPa : (pasts L2)[a2]? = some s := by simp [pasts, hLa]
          obtain ⟨q, c0, c1, -, -, hq, -⟩ := RW.out.s.at_ (by simp [ids]) hIa
          obtain ⟨-, -, iS⟩ := hC.live hLa
          have HC2 := Lib.hid hC
          have HR2 := Lib.hid hR
          have HQ := Lib.hid hq
          have IS := Lib.hid iS
          have OA := Lib.hid hpsr
          have PR := Lib.hid hptr
          have hPa2 := Lib.hid hPa
          clear hC hR hq iS hpsr hptr hvp hve hve2 hps2 hpt2 hap1 hap2 hB hlen hlen' hlens hlenk hIa hPa hLa HC HR HVS HVE HVA HVP HP1 HP2 HB HPS HPT
          go_wp2_with fail
          refine (peek_any i t _ _ (PtAt.st HQ.out)).mono ?_
          rintro e w4 ⟨v4, rfl, hv4, hb4⟩
          obtain ⟨qi4, qs4, rfl, hi4, hs4⟩ := hv4
          have PT4 : Hid (PtAt w4 (qi4, qs4) (.zero, t)) := ⟨hi4, hs4⟩
          have R4 := Lib.hid (RW.out.ext hb4)
          have B4 := Lib.hid (Below.trans BW.out (Below.mono hb4 BW.out.size))
          have OA4 := Lib.hid (own_kept_ext OA.out hb4)
          have PR4 := Lib.hid (PR.out.kp hb4.kp)
          have zB4 : w.heap.size ≤ w4.heap.size := B4.out.size
          clear hi4 hs4 hb4 c0 c1 RW BW OA PR HQ
          obtain ⟨i0, hi0, hz0, hz1, hz2⟩ := info_parts Tryd.info31
          have I0 := Lib.hid hi0
          have Z0 := Lib.hid hz0
          have Z1 := Lib.hid hz1
          have Z2 := Lib.hid hz2
          clear hi0 hz0 hz1 hz2
          go_upto_region 38 with (at_builtin; refine wpList_append_lies _ rfl (.tmp 171) (.tmp 177) 46 rfl w.heap.size 31 i0 _ 2 16 Tryd.underlying46 I0.out Z0.out Z1.out Z2.out rfl (by decide) _ R2.length (flat psr) rfl (OA4.out.alloc _) ⟨w4.heap.size, 0, none⟩ 1 1 [.pointer qi4, .pointer qs4] rfl rfl (news2 (heap_alloc_new _ _)) (by simp [Value.oneCell']) (by omega) (by unfold maxLen; omega) (by omega) (by simp; omega) _ rfl ?_; intro g5 cap5 w6 hown6 hgrow6 hat6 hlt6)
          have A5 : Ext w4 (w4.alloc (Obj.cells #[.pointer qi4, .pointer qs4] 31)) := by simp
          have R6 := Lib.hid (Rows4.appA (R4.out.ext A5) (PR4.out.kp A5.kp) (PT4.out.kp A5.kp) hown6 hgrow6 hat6 rfl (by simp [seens]))
          have B6 := Lib.hid (below_grown (B4.out.alloc zB4 _) (by simp; omega) (OA4.out.alloc _) hgrow6)
          have zB6 : w.heap.size ≤ w6.heap.size := B6.out.size
          obtain ⟨d0, -, -⟩ := R6.out.e.at_ (by simp [pasts]) hPa2.out
          clear hown6 hgrow6 hat6 A5
          have OE6 : Hid (w6.ownsRow w.heap.size 33 1 u6 R2.length (nums (knows R2))) := NumRow.own (by simp [knows]) R6.out.p
          obtain ⟨i1, hi0, hz0, hz1, hz2⟩ := info_parts Tryd.info33
          have I1 := Lib.hid hi0
          have Y0 := Lib.hid hz0
          have Y1 := Lib.hid hz1
          have Y2 := Lib.hid hz2
          clear hi0 hz0 hz1 hz2
          go_wp2_with (at_builtin; refine wpList_append_lies _ rfl (.tmp 179) (.tmp 184) 47 rfl w.heap.size 33 i1 _ 1 8 Tryd.underlying47 I1.out Y0.out Y1.out Y2.out rfl (by decide) _ R2.length (nums (knows R2)) rfl (OE6.out.alloc _) ⟨w6.heap.size, 0, none⟩ 1 1 [.int .u64 s] rfl rfl (news1 (heap_alloc_new _ _)) (by simp [Value.oneCell']) (by omega) (by unfold maxLen; omega) (by omega) (by simp; omega) _ rfl ?_; intro g6 cap6 w7 hown7 hgrow7 hat7 hlt7)
          have A6 : Ext w6 (w6.alloc (Obj.cells #[.int .u64 s] 33)) := by simp
          have R7 := Lib.hid (Rows4.appP (R6.out.ext A6) hown7 hgrow7 hat7 rfl (by simp [knows]))
          have B7 := Lib.hid (below_grown (B6.out.alloc zB6 _) (by simp; omega) (OE6.out.alloc _) hgrow7)
          clear hown7 hgrow7 hat7 A6
          go_roundw
          case rel =>
            refine ⟨k + 1, by omega, by omega, by go_num, CauAt.mk (R := R2 ++ [(t, s)]) HC2.out ?_ (by omega) (by omega) (by simp; omega) ?_ B7.out⟩
            · intro r hr
              rcases List.mem_append.1 hr with hr | hr
              · exact HR2.out r hr
              · obtain rfl := List.mem_singleton.1 hr
                exact IS.out
            · have e1 : seens (R2 ++ [(t, s)]) = seens R2 ++ [(.zero, t)] := by simp [seens]
              have e2 : knows (R2 ++ [(t, s)]) = knows R2 ++ [s] := by simp [knows]
              rw [e1, e2]
              exact R7.out
          case measure => simp [intOf]; omega
    · as_aux_lemma =>
        have RW : Hid (Rows4 wr w.heap.size u3 u4 u5 u6 (ids L) (pasts L) (seens R) (knows R)) := ⟨hvs, hve, hva, hvp, hap1, hap2⟩
        have BW := Lib.hid hB
        obtain ⟨psr, hpsr, hptr⟩ := hva
        obtain ⟨A5, cap5, rfl, hA5⟩ := own_shape hpsr
        obtain ⟨A6, cap6, rfl, hA6⟩ := own_shape hvp
        have hlens : (seens R).length = R.length := by simp [seens]
        have hlenk : (knows R).length = R.length := by simp [knows]
        rw [hlens] at RW hA5
        rw [hlenk] at RW hA6
        have HA5 := Lib.hid hA5
        have HA6 := Lib.hid hA6
        have HC := Lib.hid hC
        have HR := Lib.hid hR
        clear hC hR hvs hve hvp hap1 hap2 hB hpsr hptr hA5 hA6 HI HS
        rw [hlens]
        rw [hlenk]
        clear hlens hlenk
        generalize wr = wo at *
        by_cases hkn2 : k < n
        all_goals
          go_wp2_with fail
          go_loopw [18, 188] (fun _ c wx => ∃ i : Nat, i ≤ R.length ∧ c = .int .i64 i ∧ Ext wo wx) (fun _ c _ => R.length - (intOf c).toNat)
          case atStart => exact ⟨0, by omega, rfl, Ext.refl _⟩
          case round =>
            obtain ⟨i, hi, rfl, Ei⟩ := hrel
            generalize wr = wi at *
            by_cases hiR : i < R.length
            · go_wp2_with fail
              go_loopw [19, 193] (fun _ c wx => ∃ j : Nat, j ≤ R.length ∧ c = .int .i64 j ∧ Ext wo wx) (fun _ c _ => R.length - (intOf c).toNat)
              case atStart => exact ⟨0, by omega, rfl, Ei⟩
              case round =>
                obtain ⟨j, hj, rfl, Ej⟩ := hrel
                generalize wr = wj at *
                by_cases hjR : j < R.length
                · obtain ⟨g5, rfl⟩ := HA5.out (by omega)
                  obtain ⟨g6, rfl⟩ := HA6.out (by omega)
                  obtain ⟨ti, si, hRi⟩ : ∃ ti si, R[i]? = some (ti, si) := ⟨_, _, List.getElem?_eq_getElem hiR⟩
                  obtain ⟨tj, sj, hRj⟩ : ∃ tj sj, R[j]? = some (tj, sj) := ⟨_, _, List.getElem?_eq_getElem hjR⟩
                  have RJ := RW.out.ext Ej
                  obtain ⟨q, c0, c1, -, -, hq, hg5⟩ := RJ.a.at_ (by simp [seens]) (show (seens R)[i]? = some (.zero, ti) by simp [seens, hRi])
                  obtain ⟨q', c0', c1', -, -, hq', -⟩ := RJ.a.at_ (by simp [seens]) (show (seens R)[j]? = some (.zero, tj) by simp [seens, hRj])
                  obtain ⟨d0, -, hg6⟩ := RJ.p.at_ (by simp [knows]) (show (knows R)[i]? = some si by simp [knows, hRi])
                  obtain ⟨d1, -, -⟩ := RJ.p.at_ (by simp [knows]) (show (knows R)[j]? = some sj by simp [knows, hRj])
                  have hSi := HR.out _ (List.mem_of_getElem? hRi)
                  have hSj := HR.out _ (List.mem_of_getElem? hRj)
                  simp only [] at hSi hSj
                  have hbit := bits_leq hk HC.out hSi hSj
                  have tpi := (HC.out.seen hSi).2.1
                  have tpj := (HC.out.seen hSj).2.1
                  have LQ := Lib.hid fun w' (hx : Ext wj w') => stleq_any .zero .zero ti tj _ _ w' ((PtAt.st hq).ext hx) ((PtAt.st hq').ext hx) (by omega) (by omega)
                  clear RJ hq hq' hSi hSj hRi hRj tpi tpj
                  generalize leqF ti tj 0 0 = bq at *
                  go_upto_region 45 with fail
                  go_region_held3 (fun w' => Ext wj w' ∧ ∀ b o, b < wj.heap.size → w'.cell? ⟨b, o, none⟩ = wj.cell? ⟨b, o, none⟩)
                    (refine Ext.held ?_ <;> repeat (first | assumption | exact Ext.refl _ | apply Ext.alloc | apply Ext.drew | apply Ext.drewN))
                    ((go_at_call 20; go_split_ands; refine (LQ.out _ (by assumption)).mono ?_; rintro e w1 ⟨rfl, hbb⟩; have hE1 : Ext wj w1 := Ext.trans (by assumption) hbb))
                  cases bq
                  all_goals
                    go_wp2_with fail
                    go_roundw
                    case rel => exact ⟨j + 1, by omega, by go_num, Ej.trans hE1⟩
                    case measure => simp [intOf]; omega
                · go_wp2_with fail
                  go_roundw
                  case rel => exact ⟨i + 1, by omega, by go_num, Ej⟩
                  case measure => simp [intOf]; omega
            · go_wp2_with fail
              go_ret
              exact ⟨rfl, Ext.trans (show Ext w wo from BW.out) Ei⟩
end Go.Proofs.YthnmhdabdiennaaDoor
