/- Slices of pairs. The walk over the law's without. What the calls do to a pair of a stamp and the reference's: both mean the same behind them too. No walk in sight. The calls on stamps, as the law's act has them: with pointers written out. Laws for the appends of the law's act: 'append(append([]pair{}, rest...), p, ..)', in regions that draw their order. -/
import Derived.Test.YthnmhdabdiennaaDoorR9
import Derived.Test.YthnmhdabdiennaaDoorK22
namespace Go.Proofs.YthnmhdabdiennaaDoor
open Go.RowKit
attribute [local go_sem ↓] Go.wp_at_zero Go.wp_at_succ
attribute [local go_sem ↓] ld36 ld34 ld38 st36 st38 st32 al36 al38 bu36 bu32 bu38 bs23
attribute [local go_sem] run_ld36 run_st36 run_al36 blkOf_drew blkOf_setRow_same blkOf_setRow_other RV_size run_bu36 blkOf_new blkOf_old run_bs1
theorem Tryd.info38 : (Tryd.prog.info? 38).map (fun i => (i.zero, i.size, i.bytes)) = some (some (.agg (#[.pointer none, .pointer none] ++ (Array.replicate 256 (.bool false) ++ Array.replicate 256 (.int .u64 0)))), 514, 2320) := by kernel_rfl
/-- A pair as it lies in memory: the pointers of its stamp, and what both mean. -/
abbrev Z := Option Addr × Option Addr × Pr
def pv (z : Z) : Array Value := PV z.1 z.2.1 z.2.2.o z.2.2.s
def flatP (zs : List Z) : List Value := zs.flatMap fun z => (pv z).toList
theorem flatP_nil : flatP [] = [] := rfl
theorem flatP_cons (z : Z) (zs : List Z) : flatP (z :: zs) = (pv z).toList ++ flatP zs := rfl
theorem flatP_append (a b : List Z) : flatP (a ++ b) = flatP a ++ flatP b := by simp [flatP]
theorem flatP_one (z : Z) : flatP [z] = (pv z).toList := by simp [flatP]
theorem pv_size (z : Z) : (pv z).size = 514 := PV_size _ _ _ _
theorem flatP_length : ∀ zs : List Z, (flatP zs).length = zs.length * 514
  | [] => rfl
  | z :: zs => by rw [flatP_cons, List.length_append, flatP_length zs, Array.length_toList, pv_size, List.length_cons]; omega
theorem flatP_get : ∀ {zs : List Z} {j : Nat} {z : Z} (k : Nat), zs[j]? = some z → k < 514 → (flatP zs)[j * 514 + k]? = (pv z)[k]?
  | z' :: zs, 0, z, k, h, hk => by
    obtain rfl : z' = z := by simpa using h
    rw [flatP_cons, List.getElem?_append_left (by rw [Array.length_toList, pv_size]; omega)]
    simp
  | z' :: zs, j + 1, z, k, h, hk => by
    rw [flatP_cons, List.getElem?_append_right (by rw [Array.length_toList, pv_size]; omega), Array.length_toList, pv_size, show (j + 1) * 514 + k - 514 = j * 514 + k by omega]
    exact flatP_get k (by simpa using h) hk
theorem flatP_one' (zs : List Z) : ∀ u ∈ flatP zs, u.oneCell' = true := by
  intro u hu
  simp only [flatP, List.mem_flatMap] at hu
  obtain ⟨z, _, hz⟩ := hu
  exact (Array.all_eq_true_iff_forall_mem.1 (PV_one z.1 z.2.1 z.2.2.o z.2.2.s)) u (by simpa [pv] using hz)
/-- The stamps of pairs lie in memory. -/
def ZsAt (w : World) (zs : List Z) : Prop := ∀ z ∈ zs, PpAt w z.1 z.2.1 z.2.2
theorem ZsAt.ext {w w' : World} (h : Ext w w') {zs : List Z} (k : ZsAt w zs) : ZsAt w' zs := fun z hz => (k z hz).ext h
def RdP (w : World) (A : Option Addr) (zs : List Z) : Prop := 0 < zs.length → ∃ g, A = some ⟨g, 0, none⟩ ∧ g < w.heap.size ∧ ∀ j v, (flatP zs)[j]? = some v → w.cell? ⟨g, j, none⟩ = some v
theorem RdP.ext {w w' : World} (h : Ext w w') {A : Option Addr} {zs : List Z} (k : RdP w A zs) : RdP w' A zs := fun h0 => by
  obtain ⟨g, e, hb, hc⟩ := k h0
  exact ⟨g, e, Nat.lt_of_lt_of_le hb h.size, fun j v hv => h.cell (hc j v hv)⟩
/-- A slice of pairs. -/
structure PsAt (w : World) (v : Value) (zs : List Z) : Prop where
  val : ∃ A c, v = .slice A zs.length c ∧ zs.length ≤ c ∧ c ≤ maxLen ∧ RdP w A zs
  zs : ZsAt w zs
theorem PsAt.ext {w w' : World} (h : Ext w w') {v : Value} {zs : List Z} (k : PsAt w v zs) : PsAt w' v zs := by
  obtain ⟨⟨A, c, e, h1, h2, h3⟩, h4⟩ := k
  exact ⟨⟨A, c, e, h1, h2, h3.ext h⟩, h4.ext h⟩
/-- A row of pairs of the call's own. -/
def PRow (w : World) (B : Nat) (v : Value) (zs : List Z) : Prop := w.ownsRow B 38 514 v zs.length (flatP zs)
theorem PRow.ps {w : World} {B : Nat} {v : Value} {zs : List Z} (h : PRow w B v zs) (k : ZsAt w zs) : PsAt w v zs := by
  refine ⟨?_, k⟩
  have h' := h
  rcases h'.2 with ⟨rfl, hn⟩ | ⟨g, cap, cur, rfl, _, hh, hn, hcap, _, _⟩
  · exact ⟨none, 0, by rw [hn], by omega, by unfold maxLen; omega, fun h0 => by omega⟩
  · refine ⟨_, cap, rfl, hn, hcap, fun h0 => ⟨_, rfl, (Array.getElem?_eq_some_iff.1 hh).1, fun j v hv => ?_⟩⟩
    have := World.ownsRow.cells h (g := g) rfl j v hv
    rwa [Addr.add_lit, Nat.zero_add] at this
theorem PRow.ext {w w' : World} {B : Nat} {v : Value} {zs : List Z} (h : PRow w B v zs) (k : Ext w w') : PRow w' B v zs := own_kept_ext h k
theorem PRow.nil (w : World) (B : Nat) : PRow w B (.slice none 0 0) [] := World.ownsRow_nil _ _ _ _
theorem RdP.at38 {w : World} {g : Nat} {zs : List Z} (h : RdP w (some ⟨g, 0, none⟩) zs) {j : Nat} {z : Z} (hz : zs[j]? = some z) : ∀ k v, (pv z)[k]? = some v → w.cell? ⟨g, j * 514 + k, none⟩ = some v := by
  have hl : j < zs.length := (List.getElem?_eq_some_iff.1 hz).1
  obtain ⟨g', e, _, hc⟩ := h (by omega)
  obtain rfl : g = g' := by simpa using e
  intro k v hv
  have hk : k < 514 := by
    rcases Nat.lt_or_ge k 514 with h | h
    · exact h
    · rw [Array.getElem?_eq_none (by rw [pv_size]; exact h)] at hv; cases hv
  exact hc _ v (by rw [flatP_get k hz hk]; exact hv)
/-- A pair of a slice: the pointers of its stamp, and the reference's stamp. -/
theorem RdP.parts {w : World} {g : Nat} {zs : List Z} (h : RdP w (some ⟨g, 0, none⟩) zs) {j : Nat} {z : Z} (hz : zs[j]? = some z) :
    w.cell? ⟨g, j * 514, none⟩ = some (.pointer z.1) ∧ w.cell? ⟨g, j * 514 + 1, none⟩ = some (.pointer z.2.1) ∧ (ldS 36 (.pointer (some ⟨g, j * 514 + 2, none⟩))).run Tryd.prog w = .ok (.agg (RV z.2.2.o z.2.2.s)) w := by
  have hc := h.at38 hz
  refine ⟨by simpa using hc 0 _ PV_0, hc 1 _ PV_1, RdAt.run fun k v hv => ?_⟩
  rw [Addr.add_lit, Nat.add_assoc]
  exact hc (2 + k) v (by unfold pv; rw [PV_2]; exact hv)
theorem add_add' (a : Addr) (i j : Nat) : (a.add i).add j = a.add (i + j) := by
  unfold Addr.add
  by_cases hi : i = 0 <;> by_cases hj : j = 0 <;> simp [hi, hj, Nat.add_assoc]
theorem run_ld38_at {w : World} {ad : Addr} {z : Z} (h : ∀ k v, (pv z)[k]? = some v → w.cell? (ad.add k) = some v) : (ldS 38 (.pointer (some ad))).run Tryd.prog w = .ok (.agg (pv z)) w := by
  have hl := run_loadCells_list (P := Tryd.prog) w ad (pv z).toList (fun j v hv => h j v (by simpa using hv))
  unfold ldS Instr.loadAt Instr.sureAddr
  rw [Sem.run_bind, Sem.run_pure, Result.andThen_ok]
  have hagg : (isAgg 38).run Tryd.prog w = .ok true w := by
    unfold isAgg
    rw [Sem.run_bind, run_underlying Tryd.underlying38 w]
    simp
  simp only [Array.length_toList, Array.toArray_toList, pv_size] at hl
  simp [loadVar, Sem.run_bind, hagg, hl]
end Go.Proofs.YthnmhdabdiennaaDoor
namespace Go.Proofs.YthnmhdabdiennaaDoor
open Go.RowKit
attribute [local go_sem ↓] Go.wp_at_zero Go.wp_at_succ
attribute [local go_sem ↓] ld36 ld34 ld38 st36 st38 st32 al36 al38 bu36 bu32 bu38 bs23
attribute [local go_sem] run_ld36 run_st36 run_al36 blkOf_drew blkOf_setRow_same blkOf_setRow_other RV_size run_bu36 blkOf_new blkOf_old
theorem bneT {a b : Nat} (h : a ≠ b) : (((a : Nat) : Int) != ((b : Nat) : Int)) = true := by simp; omega
theorem bneF {a b : Nat} (h : a = b) : (((a : Nat) : Int) != ((b : Nat) : Int)) = false := by simp [h]
theorem run_bsz (w : World) (z : Z) : (bsS 23 1 #[(0, .agg (pv z))]).run Tryd.prog w = .ok (.slice (some ⟨w.heap.size, 0, none⟩) 1 1) (w.alloc (.cells (pv z) 38)) := run_bs1 w _ _ _ _
attribute [local go_sem] run_bsz
theorem news_pv {w : World} {z : Z} : ∀ j u, (pv z).toList[j]? = some u → (w.alloc (.cells (pv z) 38)).cell? ((⟨w.heap.size, 0, none⟩ : Addr).add j) = some u := World.news_of_block (heap_alloc_new w _)
/-- What without returns: some of the pairs. -/
def RetSome (zs : List Z) (w : World) (e : Ending) (w' : World) : Prop := ∃ v ys, e = .returned v ∧ PsAt w' v ys ∧ (∀ z ∈ ys, z ∈ zs) ∧ ys.length ≤ zs.length ∧ Ext w w'
set_option maxRecDepth 100000 in
set_option maxHeartbeats 4000000 in
theorem without_any (zs : List Z) (v : Value) (a b : Nat) (w : World) (h : PsAt w v zs) (hl : zs.length ≤ 1000) : Calls Tryd.prog 50 #[v, .int .i64 (a : Int), .int .i64 (b : Int)] w (RetSome zs w) := by
  obtain ⟨i0, hi0, hz0, hz1, hz2⟩ := info_parts Tryd.info38
  have I0 := Lib.hid hi0
  have Z0 := Lib.hid hz0
  have Z1 := Lib.hid hz1
  have Z2 := Lib.hid hz2
  clear hi0 hz0 hz1 hz2
  obtain ⟨⟨A, c, rfl, hlc, hcm, hR⟩, hZ⟩ := h
  unfold maxLen at hcm
  have HR := Lib.hid hR
  have HZ := Lib.hid hZ
  clear hR hZ
  go_enter Tryd.func50, Tryd.ntmps50
  go_wp2_with fail
  go_loopw [7, 11] (fun out i wr => ∃ (j : Nat) (ys : List Z), j ≤ zs.length ∧ i = .int .i64 (j : Int) ∧ PRow wr w.heap.size out ys ∧ (∀ z ∈ ys, z ∈ zs) ∧ ys.length ≤ j ∧ Ext w wr) (fun _ i _ => zs.length - (intOf i).toNat)
  case atStart => exact ⟨0, [], by omega, rfl, PRow.nil _ _, by simp, by simp, Ext.refl _⟩
  case round =>
    obtain ⟨j, ys, hj, rfl, hP, hys, hyl, hE⟩ := hrel
    have HP := Lib.hid hP
    have HY := Lib.hid hys
    have HE := Lib.hid hE
    have zB := hE.size
    clear hP hys hE
    by_cases hlt : j < zs.length
    · have hz : zs[j]? = some zs[j] := List.getElem?_eq_getElem hlt
      obtain ⟨g, e, hb, -⟩ := HR.out (by omega)
      subst e
      have hld := run_ld38_at (w := wr) (ad := ⟨g, j * 514, none⟩) (z := zs[j]) (fun k v hv => by rw [Addr.add_lit]; exact HE.out.cell (HR.out.at38 hz k v hv))
      have HM : Hid (zs[j] ∈ zs) := Lib.hid (List.getElem_mem hlt)
      generalize zs[j] = z at *
      have q1 : (0 : Int) ≤ (j : Int) := Int.natCast_nonneg _
      have q2 : (j : Int) < (zs.length : Int) := by omega
      by_cases ha : j = a
      · have t1 := bneF ha
        have t2 := beqT ha
        clear ha hld
        go_wp2_with fail
        exact ⟨⟨j + 1, ys, by omega, by go_num, HP.out, HY.out, by omega, HE.out⟩, by simp [intOf]; omega⟩
      have t1 := bneT ha
      have t2 := beqF ha
      by_cases hb' : j = b
      · have t3 := bneF hb'
        have t4 := beqT hb'
        clear ha hb' hld
        go_wp2_with fail
        exact ⟨⟨j + 1, ys, by omega, by go_num, HP.out, HY.out, by omega, HE.out⟩, by simp [intOf]; omega⟩
      have t3 := bneT hb'
      have t4 := beqF hb'
      clear ha hb'
      go_wp2_with (at_builtin; refine wpList_append_lies _ rfl (.tmp 22) (.tmp 27) 23 rfl w.heap.size 38 i0 _ 514 2320 Tryd.underlying23 I0.out Z0.out Z1.out Z2.out (by simp [Value.cells]) (by decide) _ ys.length (flatP ys) rfl (World.ownsRow.alloc HP.out _) ⟨wr.heap.size, 0, none⟩ 1 1 (pv z).toList rfl (by rw [Array.length_toList, pv_size]) news_pv (by have := flatP_one' [z]; rwa [flatP_one] at this) (by omega) (by unfold maxLen; omega) (by omega) (by simp; omega) _ rfl ?_; intro g5 cap5 w6 hown6 hgrow6 hat6 hlt6)
      have hg' : (wr.alloc (.cells (pv z) 38)).grownBy w6 u7.ownBlock := hgrow6
      have hx : Ext w w6 := ext_grow (HE.out.alloc _) hg' (fun k hk => (World.ownsRow.lt HP.out k hk).1)
      refine ⟨⟨j + 1, ys ++ [z], by omega, by go_num, ?_, ?_, by simp; omega, hx⟩, by simp [intOf]; omega⟩
      · unfold PRow; rw [flatP_append, flatP_one, List.length_append]; exact hown6
      · intro y hy
        simp only [List.mem_append, List.mem_singleton] at hy
        rcases hy with hy | rfl
        · exact HY.out y hy
        · exact HM.out
    · obtain rfl : j = zs.length := by omega
      go_wp2_with fail
      go_ret
      exact ⟨_, ys, rfl, HP.out.ps (fun z hz => (HZ.out z (HY.out z hz)).ext HE.out), HY.out, by omega, HE.out⟩
end Go.Proofs.YthnmhdabdiennaaDoor
namespace Go.Proofs.YthnmhdabdiennaaDoor
theorem pow8 : 2 ^ 8 = 256 := by decide
theorem Rel.cnt0 {k : Nat} {x : Pr} (h : Rel k x) : cnt x.o 0 256 = 0 ↔ x.i.isZero = true := by have := h.id.cnt_.1; rwa [pow8] at this
theorem Rel.seed : Rel 0 ⟨.one, .leaf 0, fun _ => true, fun _ => 0⟩ := ⟨IdOn.one_ fun _ _ => rfl, fun _ _ => rfl, Nat.le_refl _⟩
theorem Rel.peek {k : Nat} {x : Pr} (h : Rel k x) : Rel k ⟨.zero, x.t, fun _ => false, x.s⟩ := ⟨fun _ _ => rfl, h.ev, h.top⟩
theorem Rel.event {k : Nat} {x : Pr} (h : Rel k x) (hz : x.i.isZero = false) : Rel (k + 1) ⟨x.i, eventT x.i x.t, x.o, eventR x.o x.s⟩ := by
  have hf := (fillR_on h.id h.ev).1
  have hg := (growR_on h.id hz h.ev).1
  refine ⟨h.id, ?_, Nat.le_trans (event_top x.i x.t) (Nat.succ_le_succ h.top)⟩
  show EvOn (eventR x.o x.s) (eventT x.i x.t) 8 0 0
  have hs : sameR (fillR x.o 8 0 x.s) x.s = true ↔ (fillF x.i x.t).same x.t = true := by
    rw [sameR_iff, same_iff]
    constructor
    · intro hk
      exact hf.unique h.ev (fun j hj => by rw [Nat.zero_add]; exact hk j (by rwa [pow8] at hj))
    · intro he j hj
      have := hf.same_ h.ev he j (by rw [pow8]; exact hj)
      rwa [Nat.zero_add] at this
  unfold eventR eventT
  cases hc : (fillF x.i x.t).same x.t with
  | true => rw [hs.2 hc]; exact hg
  | false =>
    have : sameR (fillR x.o 8 0 x.s) x.s = false := by
      cases hd : sameR (fillR x.o 8 0 x.s) x.s with
      | false => rfl
      | true => rw [hs.1 hd] at hc; cases hc
    rw [this]; exact hf
theorem Rel.fork0 {k : Nat} {x : Pr} (h : Rel k x) (hc : cnt x.o 0 256 = 0) : Rel k ⟨x.i.split.1, x.t, x.o, x.s⟩ ∧ Rel k ⟨x.i.split.2, x.t, x.o, x.s⟩ := by
  have hz := h.cnt0.1 hc
  have e : x.i = .zero := by
    cases hi : x.i with
    | zero => rfl
    | node _ _ => rw [hi] at hz; simp [IdT.isZero] at hz
  have h1 := h.id
  rw [e] at h1 ⊢
  exact ⟨⟨h1, h.ev, h.top⟩, ⟨h1, h.ev, h.top⟩⟩
theorem Rel.fork1 {k d : Nat} {x : Pr} (h : Rel k x) (hc : 0 < cnt x.o 0 256) (hd : (forkR x.o 8 0).2 = d + 1) :
    Rel k ⟨x.i.split.1, x.t, clearR x.o ((forkR x.o 8 0).1 + 2 ^ d) (2 ^ d), x.s⟩ ∧ Rel k ⟨x.i.split.2, x.t, clearR x.o (forkR x.o 8 0).1 (2 ^ d), x.s⟩ := by
  have hz : x.i.isZero = false := by
    cases hi : x.i.isZero with
    | false => rfl
    | true => have := h.cnt0.2 hi; omega
  obtain ⟨_, _, h3⟩ := forkR_on h.id hz
  obtain ⟨h4, h5⟩ := h3 d hd
  exact ⟨⟨h4, h.ev, h.top⟩, ⟨h5, h.ev, h.top⟩⟩
theorem Rel.depth {k : Nat} {x : Pr} (h : Rel k x) : x.i.depth ≤ 8 ∧ x.t.depth ≤ 8 ∧ nf x.t := ⟨h.id.depth, h.ev.depth, h.ev.nf⟩
theorem Rel.clash {k k' : Nat} {x y : Pr} (h : Rel k x) (h' : Rel k' y) : (x.i.sum y.i = none ↔ Clash x.o y.o) := by
  have hs := sum_on h.id h'.id
  cases hc : x.i.sum y.i with
  | none =>
    rw [hc] at hs
    obtain ⟨j, hj, a, b⟩ := hs
    rw [Nat.zero_add] at a b
    exact ⟨fun _ => ⟨j, by rwa [pow8] at hj, a, b⟩, fun _ => rfl⟩
  | some z =>
    rw [hc] at hs
    constructor
    · intro h; cases h
    · rintro ⟨j, hj, a, b⟩
      exact absurd b (fun b => hs.1 j (by rw [pow8]; exact hj) (by rw [Nat.zero_add]; exact a) (by rw [Nat.zero_add]; exact b))
theorem Rel.join {k : Nat} {x y : Pr} {z : IdT} (h : Rel k x) (h' : Rel k y) (hz : x.i.sum y.i = some z) : Rel k ⟨z, mergeF 16 x.t y.t, fun j => x.o j || y.o j, fun j => max (x.s j) (y.s j)⟩ := by
  have hs := sum_on h.id h'.id
  rw [hz] at hs
  refine ⟨hs.2, merge_on (by omega) h.ev h'.ev, Nat.le_trans (merge_top 16 x.t y.t) (Nat.max_le.2 ⟨h.top, h'.top⟩)⟩
theorem Rel.self {k : Nat} {x : Pr} (h : Rel k x) : (x.i.isZero = true → x.i.sum x.i = some .zero) ∧ (x.i.isZero = false → x.i.sum x.i = none) := by
  constructor
  · intro hz
    cases hi : x.i with
    | zero => rfl
    | node _ _ => rw [hi] at hz; simp [IdT.isZero] at hz
  · intro hz
    rw [h.clash h]
    obtain ⟨j, hj, a⟩ := h.id.some_ hz
    rw [Nat.zero_add] at a
    exact ⟨j, by rwa [pow8] at hj, a, a⟩
end Go.Proofs.YthnmhdabdiennaaDoor
namespace Go.Proofs.YthnmhdabdiennaaDoor
open Go.RowKit
/-- Two pointers of a stamp. -/
abbrev SV2 (p q : Option Addr) : Value := .agg #[.pointer p, .pointer q]
def RetP (i : IdT) (t : EvT) (c : Int) (w : World) (e : Ending) (w' : World) : Prop := ∃ p q, e = .returned (.tuple #[SV2 p q, .int .i64 c]) ∧ (IdAt w' (.pointer p) i ∧ SeenAt w' (.pointer q) t) ∧ Ext w w'
theorem RetStE.p {i : IdT} {t : EvT} {c : Int} {w w' : World} {e : Ending} (h : RetStE i t c w e w') : RetP i t c w e w' := by
  obtain ⟨v, rfl, ⟨p, q, rfl, h1, h2⟩, h3⟩ := h
  exact ⟨p, q, rfl, ⟨h1, h2⟩, h3⟩
def RetPP (i j : IdT) (t : EvT) (w : World) (e : Ending) (w' : World) : Prop := ∃ p q p' q', e = .returned (.tuple #[SV2 p q, SV2 p' q', .int .i64 0]) ∧ (IdAt w' (.pointer p) i ∧ SeenAt w' (.pointer q) t) ∧ (IdAt w' (.pointer p') j ∧ SeenAt w' (.pointer q') t) ∧ Ext w w'
def RetP1 (i : IdT) (t : EvT) (w : World) (e : Ending) (w' : World) : Prop := ∃ p q, e = .returned (SV2 p q) ∧ (IdAt w' (.pointer p) i ∧ SeenAt w' (.pointer q) t) ∧ Ext w w'
theorem zfork (k : Nat) (x : Pr) (p q : Option Addr) (w : World) (h : PpAt w p q x) (hr : Rel k x) : Calls Tryd.prog 13 #[SV2 p q] w (RetPP x.i.split.1 x.i.split.2 x.t w) := by
  have hd := hr.depth.1
  have hs := split_depth x.i
  refine (fork_any x.i x.t _ w h.st (by omega) true (by simp; omega)).mono ?_
  rintro e w' ⟨v, u, rfl, ⟨p1, q1, rfl, h1, h2⟩, ⟨p2, q2, rfl, h3, h4⟩, h5⟩
  exact ⟨p1, q1, p2, q2, rfl, ⟨h1, h2⟩, ⟨h3, h4⟩, h5⟩
theorem top_fits {t : EvT} {k : Nat} (h : t.top ≤ k) (hk : k ≤ 90) : t.fits = true := fits_of_top t (by omega)
theorem zevent (k : Nat) (x : Pr) (p q : Option Addr) (w : World) (h : PpAt w p q x) (hr : Rel k x) (hk : k ≤ 80) (hz : x.i.isZero = false) : Calls Tryd.prog 18 #[SV2 p q] w (RetP x.i (eventT x.i x.t) 0 w) := by
  have hd := hr.depth.1
  have ht := hr.top
  have hf := top_fits (hr.event hz).top (by omega)
  refine (event_some x.i x.t _ w h.st hz (by omega) (by omega) true hf).mono ?_
  exact fun _ _ h => RetStE.p h
theorem zevent0 (x : Pr) (p q : Option Addr) (w : World) (h : PpAt w p q x) (hz : x.i.isZero = true) : Calls Tryd.prog 18 #[SV2 p q] w (RetP .zero (.leaf 0) 11 w) := by
  obtain ⟨i, t, o, s⟩ := x
  cases i with
  | node _ _ => simp [IdT.isZero] at hz
  | zero => exact (event_anon t _ w h.st).mono fun _ _ h => RetStE.p h
theorem zjoin (k : Nat) (x y : Pr) (z : IdT) (p q p' q' : Option Addr) (w : World) (h : PpAt w p q x) (h' : PpAt w p' q' y) (hr : Rel k x) (hr' : Rel k y) (hk : k ≤ 80) (hz : x.i.sum y.i = some z) : Calls Tryd.prog 14 #[SV2 p q, SV2 p' q'] w (RetP z (mergeF 16 x.t y.t) 0 w) := by
  have h1 := hr.depth
  have h2 := hr'.depth
  have h3 := hr.top
  have h4 := hr'.top
  have hf := top_fits (hr.join hr' hz).top (by omega)
  refine (join_some 16 x.i y.i z x.t y.t _ _ w h.st h'.st hz (by omega) (by omega) (by omega) (by omega) true hf).mono ?_
  exact fun _ _ h => RetStE.p h
theorem zjoin0 (x y : Pr) (p q p' q' : Option Addr) (w : World) (h : PpAt w p q x) (h' : PpAt w p' q' y) (hz : x.i.sum y.i = none) : Calls Tryd.prog 14 #[SV2 p q, SV2 p' q'] w (RetP .zero (.leaf 0) 11 w) :=
  (join_none x.i y.i x.t y.t _ _ w h.st h'.st hz).mono fun _ _ h => RetStE.p h
theorem zpeek (x : Pr) (p q : Option Addr) (w : World) (h : PpAt w p q x) : Calls Tryd.prog 19 #[SV2 p q] w (RetP1 .zero x.t w) := by
  refine (peek_any x.i x.t _ w h.st).mono ?_
  rintro e w' ⟨v, rfl, ⟨p1, q1, rfl, h1, h2⟩, h3⟩
  exact ⟨p1, q1, rfl, ⟨h1, h2⟩, h3⟩
theorem zanon (x : Pr) (p q : Option Addr) (w : World) (h : PpAt w p q x) : Calls Tryd.prog 16 #[SV2 p q] w (RetB x.i.isZero w) := anon_any x.i x.t _ w h.st
theorem zequal0 (p q : Option Addr) (w : World) (h1 : IdAt w (.pointer p) .zero) (h2 : SeenAt w (.pointer q) (.leaf 0)) : Calls Tryd.prog 15 #[SV2 p q, SV2 none none] w (RetB true w) :=
  stequal_any .zero .zero (.leaf 0) (.leaf 0) _ _ w ⟨p, q, rfl, h1, h2⟩ ⟨none, none, rfl, rfl, .inl ⟨rfl, rfl⟩⟩
end Go.Proofs.YthnmhdabdiennaaDoor
namespace Go.Proofs.YthnmhdabdiennaaDoor
open Go.RowKit
theorem own0g {B g : Nat} {W : World} (hB : B ≤ g) (h : W.heap[g]? = some (.cells #[] 38 (0, 0))) : W.ownsRow B 38 514 (.slice (some ⟨g, 0, none⟩) 0 0) 0 [] :=
  ⟨rfl, .inr ⟨g, 0, #[], rfl, hB, h, Nat.le_refl _, by unfold maxLen; omega, rfl, rfl⟩⟩
theorem heap_kept {W w6 : World} {row : Option Nat} {g r : Nat} {o : Obj} (hg : W.grownBy w6 row) (h : W.heap[g]? = some o) (hr : row = some r) (hne : g ≠ r) : w6.heap[g]? = some o :=
  (hg.block g (Array.getElem?_eq_some_iff.1 h).1 (by rw [hr]; intro e; exact hne (Option.some.inj e))).trans h
theorem run_append0 (w : World) (ty : TypeId) (g c : Nat) (A : Option Addr) : (Builtin.append_ #[23, 23] ty #[.slice (some ⟨g, 0, none⟩) 0 0, .slice A 0 c]).run Tryd.prog w = .ok (.slice (some ⟨g, 0, none⟩) 0 0) w := by
  obtain ⟨i0, hi0, _, hz1, _⟩ := info_parts Tryd.info38
  cases A with
  | none => simp [Builtin.append_, run_underlying Tryd.underlying23, sizeOf, typeInfo, hi0, Builtin.lenOf, Builtin.firstCells, storeCells]
  | some ad => simp [Builtin.append_, run_underlying Tryd.underlying23, sizeOf, typeInfo, hi0, Builtin.lenOf, Builtin.firstCells, storeCells, loadCells, loadCellsFrom]
section
variable {ops : Array Oper} {o : Oper} {a : Act} {K : Act → World → Prop} {Q : Exit → Act → World → Prop} {E : Prop} {w w5 : World}
/-- The first append: onto a new slice that is empty. -/
theorem app_first (hgd : o.guard = none) (s x : Operand) (ho : o.op = .call { callee := .builtin .append, args := #[s, x], argTypes := #[23, 23] }) {g0 : Nat} (hs : a.eval s = .slice (some ⟨g0, 0, none⟩) 0 0)
    (hE : Ext w5 w) (hB : w5.heap.size ≤ g0) (h0 : w.heap[g0]? = some (.cells #[] 38 (0, 0))) {v : Value} {ys : List Z} (hx : a.eval x = v) (hp : PsAt w v ys) (hm : ys.length ≤ 1000)
    (h : ∀ v' w', PRow w' w5.heap.size v' ys → Ext w5 w' → w.grownBy w' (some g0) → K (a.put o.dst v') w') :
    if Region.wanted o (yielded ops a.tmps) = true then Oper.wp Tryd.prog o a w K Q else E := by
  have hw : Region.wanted o (yielded ops a.tmps) = true := by simp [Region.wanted, hgd]
  obtain ⟨⟨A, c, rfl, h1, h2, h3⟩, h4⟩ := hp
  have hlt : g0 < w.heap.size := (Array.getElem?_eq_some_iff.1 h0).1
  rcases Nat.eq_zero_or_pos ys.length with hy | hy
  · have he : ys = [] := List.eq_nil_of_length_eq_zero hy
    subst he
    rw [if_pos hw]
    have hr := run_append0 w o.type g0 c A
    have hx' : a.eval x = .slice A 0 c := hx
    unfold Oper.wp execOp
    simp only [ho, resolve, invoke, builtin, Sem.run_bind, Sem.run_pure, Result.andThen_ok, List.map_toArray, List.map_cons, List.map_nil, hs, hx', hr]
    exact h _ w (own0g hB h0) hE (World.grownBy.refl w _)
  · obtain ⟨gr, rfl, hg, hc⟩ := h3 hy
    obtain ⟨i0, hi0, hz0, hz1, hz2⟩ := info_parts Tryd.info38
    refine step_append_lies w hgd s x 23 ho w5.heap.size 38 i0 _ 514 2320 Tryd.underlying23 hi0 hz0 hz1 hz2 (by simp [Value.cells]) (by decide) _ 0 [] hs (own0g hB h0) ⟨gr, 0, none⟩ ys.length c (flatP ys) hx (flatP_length ys)
      (fun j u hu => by rw [Addr.add_lit, Nat.zero_add]; exact hc j u hu) (flatP_one' ys) hy (by unfold maxLen; omega) (by omega) (by omega) _ rfl ?_
    intro g cap w' hown hgrow _ _
    have hgrow' : w.grownBy w' (some g0) := hgrow
    rw [Nat.zero_add, List.nil_append] at hown
    rw [Nat.zero_add]
    exact h _ w' hown (ext_grow hE hgrow' (fun k hk => by have := Option.some.inj hk; omega)) hgrow'
/-- The second append: onto the row of the first. -/
theorem app_next (hgd : o.guard = none) (s x : Operand) (ho : o.op = .call { callee := .builtin .append, args := #[s, x], argTypes := #[23, 23] }) {v : Value} {ys news : List Z} (hs : a.eval s = v)
    (hE : Ext w5 w) (hrow : PRow w w5.heap.size v ys) {bx : Nat} {cs : Array Value} (hx : a.eval x = .slice (some ⟨bx, 0, none⟩) news.length news.length) (hb : w.heap[bx]? = some (.cells cs 38 (0, 0))) (hcs : cs.toList = flatP news)
    (hn : 0 < news.length) (hm : ys.length + news.length ≤ 1000)
    (h : ∀ v' w', PRow w' w5.heap.size v' (ys ++ news) → Ext w5 w' → K (a.put o.dst v') w') :
    if Region.wanted o (yielded ops a.tmps) = true then Oper.wp Tryd.prog o a w K Q else E := by
  obtain ⟨i0, hi0, hz0, hz1, hz2⟩ := info_parts Tryd.info38
  have hx' := hx
  refine step_append_lies w hgd s x 23 ho w5.heap.size 38 i0 _ 514 2320 Tryd.underlying23 hi0 hz0 hz1 hz2 (by simp [Value.cells]) (by decide) _ ys.length (flatP ys) hs hrow ⟨bx, 0, none⟩ news.length news.length (flatP news) hx (flatP_length news)
      (by rw [← hcs]; exact World.news_of_block hb) (flatP_one' news) hn (by unfold maxLen; omega) (by omega) hE.size _ rfl ?_
  intro g cap w' hown hgrow _ _
  refine h _ w' ?_ (ext_grow hE hgrow (fun k hk => (World.ownsRow.lt hrow k hk).1))
  unfold PRow
  rw [flatP_append, List.length_append]
  exact hown
end
theorem flat1 (p q : Option Addr) (i : IdT) (t : EvT) (o : Nat → Bool) (s : Nat → Nat) : (PV p q o s).toList = flatP [(p, q, ⟨i, t, o, s⟩)] := by rw [flatP_one]; rfl
theorem flat2 (p q p' q' : Option Addr) (i i' : IdT) (t t' : EvT) (o o' : Nat → Bool) (s s' : Nat → Nat) : (PV p q o s ++ PV p' q' o' s').toList = flatP [(p, q, ⟨i, t, o, s⟩), (p', q', ⟨i', t', o', s'⟩)] := by simp [flatP, pv]
/-- What act returns: pairs that mean the same; nothing differs. -/
def RetAct (k n : Nat) (w : World) (e : Ending) (w' : World) : Prop := ∃ v ys more, e = .returned (.tuple #[v, .bool more, .bool true]) ∧ PsAt w' v ys ∧ (∀ z ∈ ys, Rel (k + 1) z.2.2) ∧ 0 < ys.length ∧ ys.length ≤ n + 2 ∧ Ext w w'
theorem letter4 {w w0 : World} {a b c d : Value} {T k : Nat} (h : (w.alloc (.cells #[a, b, c, d] T)).drewN k = w0) : Ext w w0 ∧ w0.cell? ⟨w.heap.size, 0, none⟩ = some a ∧ w0.cell? ⟨w.heap.size, 3, none⟩ = some d ∧ w.heap.size < w0.heap.size := by
  subst h
  exact ⟨((Ext.refl w).alloc _).drewN _, new_at _ _ _ _ _ rfl, new_at _ _ _ _ _ rfl, by simp⟩
/-- The stamps that stay. -/
def Rest (zs : List Z) (w : World) (v : Value) (wx : World) : Prop := ∃ ys, PsAt wx v ys ∧ (∀ z ∈ ys, z ∈ zs) ∧ ys.length ≤ zs.length ∧ Ext w wx
theorem blkOf_setRow_same8 {w : World} {g : Nat} {cs : Array Value} (h : (blkOf w g).size = 514) : blkOf (w.setRow g cs) g = cs := blkOf_setRow_same' (by omega)
theorem blkOf_new2' {w : World} {A : Obj} {cs : Array Value} {T : Nat} : blkOf ((w.alloc A).alloc (.cells cs T)) (w.heap.size + 1) = cs := by
  have := blkOf_new (w := w.alloc A) (cs := cs) (T := T)
  simpa using this
theorem cellRow {w : World} {g b o : Nat} {cs : Array Value} (h : b ≠ g) : (w.setRow g cs).cell? ⟨b, o, none⟩ = w.cell? ⟨b, o, none⟩ := cell_setRow_other w g cs _ h
/-- Two pairs in new blocks. -/
def TwoAt (w : World) (g g' : Nat) (a b : Array Value) (wx : World) : Prop := Ext w wx ∧ blkOf wx g = a ∧ blkOf wx g' = b
theorem TwoAt.make {w W : World} {p q : Nat} {a b : Array Value} (E : Ext w W) (hp : (blkOf W p).size = 514) (hq : (blkOf W q).size = 514) (hne : p ≠ q) (lp : w.heap.size ≤ p) (lq : w.heap.size ≤ q) : TwoAt w p q a b ((W.setRow p a).setRow q b) :=
  ⟨(E.setRow lp _).setRow lq _, by rw [blkOf_setRow_other hne, blkOf_setRow_same8 hp], blkOf_setRow_same8 (by rw [blkOf_setRow_other (Ne.symm hne)]; exact hq)⟩
theorem fk_cases {k : Nat} {x : Pr} {w w' : World} {e : Ending} (hr : Rel k x) (h : RetFk x.o x.s w e w') : (∃ oa ob, RetRRB oa ob x.s true w e w' ∧ Rel k ⟨x.i.split.1, x.t, oa, x.s⟩ ∧ Rel k ⟨x.i.split.2, x.t, ob, x.s⟩) ∨ RetRRB x.o x.o x.s false w e w' := by
  rcases h with ⟨hc, h⟩ | ⟨_, _, h⟩ | ⟨hc, d, hd, h⟩
  · exact .inl ⟨_, _, h, hr.fork0 hc⟩
  · exact .inr h
  · exact .inl ⟨_, _, h, hr.fork1 hc hd⟩
theorem fin_act {k n : Nat} {w w' : World} {B : Nat} {v : Value} {zs ys news : List Z} (hR : PRow w' B v (ys ++ news)) (hZ : ZsAt w' ys) (hy : ∀ z ∈ ys, z ∈ zs) (hrl : ∀ z ∈ zs, Rel k z.2.2) (hN : ∀ z ∈ news, PpAt w' z.1 z.2.1 z.2.2 ∧ Rel (k + 1) z.2.2) (hlen : ys.length ≤ n) (hn : 0 < news.length ∧ news.length ≤ 2) (hE : Ext w w') :
    RetAct k n w (.returned (.tuple #[v, .bool true, .bool true])) w' := by
  refine ⟨v, ys ++ news, true, rfl, hR.ps ?_, ?_, by simp; omega, by simp; omega, hE⟩
  · intro z hz
    rcases List.mem_append.1 hz with h | h
    · exact hZ z h
    · exact (hN z h).1
  · intro z hz
    rcases List.mem_append.1 hz with h | h
    · exact (hrl z (hy z h)).mono (by omega)
    · exact (hN z h).2
end Go.Proofs.YthnmhdabdiennaaDoor
