/- Names, Open; fields are compared. -/
import Derived.Test.YtjedhndhdkiidaaDoorV15
namespace Go.Proofs.YtjedhndhdkiidaaDoor
open Go.RowKit
attribute [local go_sem ↓] Go.wp_at_zero Go.wp_at_succ
attribute [local go_sem] baSize baList
attribute [local go_sem ↓] ld75 ld48 ld73 st75 st48 al75 al48 bu75 bu48
attribute [local go_sem] run_al75 run_al48 run_bu48 run_bu75n run_bu75c run_bu75o run_st75n run_st48n
theorem el28 : El 28 9 (.string ⟨#[]⟩) 1 16 := ⟨Tryd.underlying28, by kernel_rfl, rfl, by decide, by decide⟩
/-- Names are handed back. -/
def RetSs (ss : List (List UInt8)) (w : World) (e : Ending) (w' : World) : Prop := ∃ v, e = .returned v ∧ SsAt w' v ss ∧ Ext w w'
set_option maxRecDepth 100000 in
set_option maxHeartbeats 1000000 in
theorem names15_ok (xs : List It) (v : Value) (w : World) (h : DsAt w v xs) (hl : xs.length ≤ 100) : Calls Tryd.prog 15 #[dsV v] w (RetSs (xs.map (·.nm)) w) := by
  obtain ⟨A, c, rfl, h1, h2, h3⟩ := h.read
  have HR := Lib.hid h3
  clear h h3 h2 h1
  go_enter Tryd.func15, Tryd.ntmps15
  go_upto_region 2 with fail
  generalize hwB : w.alloc (.cells #[.slice A xs.length c] 32) = wB
  have t0 : wB.cell? ⟨w.heap.size, 0, none⟩ = some (.slice A xs.length c) := by rw [← hwB]; exact new_at _ _ _ 0 _ rfl
  have HE0 : Hid (Ext w wB) := Lib.hid (by rw [← hwB]; exact (Ext.refl _).alloc _)
  clear hwB
  go_wp2_with fail
  clear t0
  go_loopw [3, 9] (fun t i wr => ∃ (k : Nat) (v : Value), k ≤ xs.length ∧ i = iV (k : Int) ∧ t = v ∧ Row 1 wr w.heap.size 9 v (((xs.take k).map (·.nm)).map fun s => [sV s]) ∧ Ext w wr) (fun _ i _ => xs.length - (intOf i).toNat)
  case atStart => exact ⟨0, nilV, by omega, rfl, rfl, Row.nil _ _ _ _, HE0.out⟩
  case round =>
    obtain ⟨k, v, hk, rfl, rfl, hr, hX⟩ := hrel
    obtain ⟨ls, hls⟩ : ∃ ls, (xs.take k).map (·.nm) = ls := ⟨_, rfl⟩
    rw [hls] at hr
    have HLL : Hid ((ls.map fun s => [sV s]).length = k) := Lib.hid (by rw [List.length_map, ← hls, List.length_map, List.length_take]; omega)
    have HLS := Lib.hid hls
    have HRW := Lib.hid hr
    have HX := Lib.hid hX
    clear hls hr hX
    by_cases hlt : k < xs.length
    · have q1 : (k : Int) < (xs.length : Int) := by omega
      have q0 : (0 : Int) ≤ (k : Int) := by omega
      obtain ⟨bb, o, A1, c1, rfl, hb, cR, -⟩ := HR.out wr HX.out k hlt
      obtain ⟨x, hx⟩ : ∃ x, xs.getD k It0 = x := ⟨_, rfl⟩
      rw [hx] at cR
      have l1 := run_ld75 cR
      have HF : Hid (xs.take (k + 1) = xs.take k ++ [x]) := Lib.hid (by
        rw [List.take_succ_eq_append_getElem hlt, ← hx, List.getD_eq_getElem?_getD, List.getElem?_eq_getElem hlt]
        rfl)
      clear hx cR
      go_upto_region 5 with fail
      clear l1
      generalize hw4 : wr.alloc (.cells (itA x.nm x.op x.cm (.slice A1 x.vl.length c1) x.sl) 75) = w4
      have p0 : w4.cell? ⟨wr.heap.size, 0, none⟩ = some (sV x.nm) := by rw [← hw4]; exact (Bk.new (by decide)).cell (k := 0) (by decide)
      have HE4 : Hid (Ext wr w4) := Lib.hid (by rw [← hw4]; exact (Ext.refl _).alloc _)
      clear hw4
      go_wp2_with (at_builtin; go_loud (refine wapp el28 rfl (.tmp 13) (.tmp 16) rfl (w5 := w) (vs := ls.map fun s => [sV s]) (us := [[sV x.nm]]) rfl ((HX.out.trans HE4.out).alloc _) (HRW.out.ext (HE4.out.alloc _)) rfl rfl (Wide.one rfl) (vs1 _ _ _) (by intro u hu; simp at hu; subst hu; rfl) (by rw [HLL.out]; simp; omega) (by rw [HLL.out]; simp; omega) ?_; intro v9 w9 hr9 hE9 hg9 hb9; have HR9 := Lib.hid hr9; have HE9 := Lib.hid hE9; clear hr9 hE9 hg9 hb9))
      refine ⟨⟨k + 1, _, by omega, by go_num, rfl, ?_, HE9.out⟩, by simp [intOf]; omega⟩
      rw [HF.out, List.map_append, HLS.out, List.map_append]
      exact HR9.out
    · obtain rfl : k = xs.length := by omega
      go_wp2_with fail
      go_ret
      rw [List.take_length] at HLS
      exact ⟨_, rfl, by rw [HLS.out]; exact HRW.out.sl, HX.out⟩
/-! ### Open -/
/-- What Open gives. -/
def openF (xs : List It) (s : List UInt8) : Fd × Int := match xs.find? (fun x => x.nm == s) with
  | none => (Fd0, 4)
  | some x => if x.op = true then (⟨x.nm, x.vl, x.sl⟩, 0) else (Fd0, 15)
def RetOp (r : Fd × Int) (w : World) (e : Ending) (w' : World) : Prop := ∃ v s, e = .returned (.tuple #[.agg #[sV r.1.nm, v, s], iV r.2]) ∧ SlB w' v r.1.vl ∧ SlB w' s r.1.sl ∧ Ext w w'
theorem find_at {xs : List It} (ha : Asc xs) {i : Nat} (hi : i < xs.length) {s : List UInt8} (h : (xs.getD i It0).nm = s) : xs.find? (fun x => x.nm == s) = some (xs.getD i It0) := by
  have hm : xs.getD i It0 ∈ xs := mem_getD hi
  cases hf : xs.find? (fun x => x.nm == s) with
  | none =>
    have := List.find?_eq_none.1 hf _ hm
    exact absurd (by rw [h]; simp) this
  | some y =>
    have h1 := List.find?_some hf
    have h2 := List.mem_of_find?_eq_some hf
    obtain ⟨j, hj, he⟩ := List.getElem_of_mem h2
    have e2 : xs.getD j It0 = y := by rw [List.getD_eq_getElem?_getD, List.getElem?_eq_getElem hj]; exact he
    have h3 : y.nm = s := by simpa using h1
    rcases Nat.lt_trichotomy i j with h4 | h4 | h4
    · have := ha.get h4 hj
      rw [e2, h, h3] at this
      exact absurd this (slt_irrefl _)
    · subst h4; rw [← e2]
    · have := ha.get h4 hi
      rw [e2, h, h3] at this
      exact absurd this (slt_irrefl _)
/-- Bytes outlive a change of a block that holds no byte. -/
theorem SlB.far {w w' : World} {g n : Nat} {f : Nat → Value} {v : Value} {xs : List UInt8} (h : SlB w v xs) (hb : Bk w g n f) (hf : ∀ i b, i < n → f i ≠ .int .u8 b) (k : Exg g w w') : SlB w' v xs := by
  obtain ⟨A, c, e, h1, h2, h3⟩ := h
  refine ⟨A, c, e, h1, h2, fun h0 => ?_⟩
  obtain ⟨ad, ha, hl, hc⟩ := h3 h0
  have hne : ad.block ≠ g := by
    intro hg
    obtain ⟨b, hb0⟩ : ∃ b, xs[0]? = some b := ⟨_, List.getElem?_eq_getElem h0⟩
    have h0c := hc 0 b hb0
    have hpos := hb.pos
    obtain ⟨T, eT⟩ := of_blkOf hpos
    obtain ⟨bl, off, sp⟩ := ad
    obtain rfl : bl = g := hg
    unfold World.cell? at h0c
    simp only [Addr.add, if_true, eT] at h0c
    split at h0c
    · cases h0c
    · rw [hb.2] at h0c
      have hlt : off < n := by
        rcases Nat.lt_or_ge off n with h' | h'
        · exact h'
        · rw [Array.getElem?_eq_none (by rw [arV_size]; exact h')] at h0c; cases h0c
      rw [arV_at hlt] at h0c
      exact hf off _ hlt (Option.some.inj h0c)
  refine ⟨ad, ha, Nat.lt_of_lt_of_le hl k.2.2.2.1, fun j b hj => ?_⟩
  have := hc j b hj
  unfold World.cell? at this ⊢
  rw [block_of_add] at this ⊢
  rw [k.2.2.2.2 _ hl hne]
  exact this
theorem find_none_of {xs : List It} {s : List UInt8} (h : s ∉ xs.map (·.nm)) : xs.find? (fun x => x.nm == s) = none := by
  rw [List.find?_eq_none]
  intro x hx hs
  exact h (List.mem_map.2 ⟨x, hx, by simpa using hs⟩)
theorem res40t {fn : Func} {p u : Tmp} {tmps : Array Value} {w : World} {g : Nat} {f : Nat → Value} {a b c x : Value} (h : fn.results = #[.cell p 40, .tmp u]) (hb : Bk w g 3 f) (h0 : f 0 = a) (h1 : f 1 = b) (h2 : f 2 = c) (hp : tmps.getD p undef = .pointer (some ⟨g, 0, none⟩)) (hx : tmps.getD u undef = x) : (results fn tmps).run Tryd.prog w = .ok (.tuple #[.agg #[a, b, c], x]) w := by
  have hl := run_loadVar_mid (P := Tryd.prog) w g 0 40 (arV f 3).toList _ hb.range Tryd.underlying40 rfl (by rw [Array.length_toList, arV_size]; kernel_rfl)
  rw [results_cell_tmp h, hp, hx]
  simp only [asAddr, Sem.run_pure, Result.andThen_ok, hl]
  rw [show (arV f 3).toList.toArray = arV f 3 from rfl, arV3 h0 h1 h2]
set_option maxRecDepth 100000 in
set_option maxHeartbeats 2000000 in
theorem open34_ok (xs : List It) (v : Value) (s : List UInt8) (w : World) (h : DsAt w v xs) (ha : Asc xs) (hx : ∀ x ∈ xs, ItOk x) (hl : xs.length ≤ 100) : Calls Tryd.prog 34 #[dsV v, sV s] w (RetOp (openF xs s) w) := by
  have CF := Lib.hid (fun W (hW : Ext w W) => find37_ok xs v s W (h.ext hW) ha (by omega))
  have HA := Lib.hid ha
  have HOK := Lib.hid hx
  obtain ⟨A, c, rfl, -, -, h3⟩ := h.read
  have HR := Lib.hid h3
  clear h ha hx h3
  go_enter Tryd.func34, Tryd.ntmps34
  go_upto_region 1 with fail
  generalize hwB : (w.alloc (.cells #[.slice A xs.length c] 32)).alloc (.cells #[.string ⟨#[]⟩, .slice none 0 0, .slice none 0 0] 40) = wB
  have t0 : wB.cell? ⟨w.heap.size, 0, none⟩ = some (.slice A xs.length c) := by rw [← hwB]; exact ((Ext.refl _).alloc _).cell (new_at _ _ _ 0 _ rfl)
  have HB0 : Hid (Bk wB (w.heap.size + 1) 3 (fun i => if i = 0 then .string ⟨#[]⟩ else nilV)) := Lib.hid (by
    have e : (w.alloc (.cells #[.slice A xs.length c] 32)).heap.size = w.heap.size + 1 := by simp
    rw [← hwB, ← e]
    exact ⟨by decide, by rw [blkOf_new]; exact arV_ext rfl (fun i hi => by match i, hi with | 0, _ => rfl | 1, _ => rfl | 2, _ => rfl)⟩)
  have HE0 : Hid (Ext w wB) := Lib.hid (by rw [← hwB]; exact ((Ext.refl _).alloc _).alloc _)
  clear hwB
  have HT0 := Lib.hid t0
  go_wp2_with fail
  refine (CF.out wB HE0.out).mono ?_
  rintro _ w1 ⟨i, b, rfl, hi, hb, hE1⟩
  have HE1 := Lib.hid (HE0.out.trans hE1)
  have HB1 := Lib.hid (HB0.out.ext hE1)
  have t1 := hE1.cell t0
  have k0 := HB1.out.cell (k := 0) (by decide)
  have k1 := HB1.out.cell (k := 1) (by decide)
  have k2 := HB1.out.cell (k := 2) (by decide)
  have f0 := HB1.out.frozen 0
  have f1 := HB1.out.frozen 1
  have f2 := HB1.out.frozen 2
  clear t0 hE1 CF
  rcases hb with ⟨rfl, h5, h6⟩ | ⟨rfl, h5⟩
  · have HFI := Lib.hid (find_at HA.out h5 h6)
    obtain ⟨bb, o, A1, c1, rfl, hbl, cR, v1, v2, v3⟩ := HR.out w1 HE1.out i h5
    obtain ⟨x, hx⟩ : ∃ x, xs.getD i It0 = x := ⟨_, rfl⟩
    rw [hx] at cR v1 v3 HFI
    have HXO : Hid (ItOk x) := Lib.hid (HOK.out x (by rw [← hx]; exact mem_getD h5))
    have HSV : Hid (SlB w1 (.slice A1 x.vl.length c1) x.vl) := Lib.hid ⟨A1, c1, rfl, v1, v2, v3⟩
    have l1 := run_ld75 cR
    have co : w1.cell? ⟨bb, o + i * 51 + 1, none⟩ = some (.bool x.op) := cR 1 (by decide)
    have q1 : (i : Int) < (xs.length : Int) := by omega
    have q0 : (0 : Int) ≤ (i : Int) := by omega
    clear hx cR v1 v2 v3 h6
    by_cases ho : x.op = true
    · rw [ho] at co
      have HF : Hid (openF xs s = (⟨x.nm, x.vl, x.sl⟩, 0)) := Lib.hid (by unfold openF; rw [HFI.out]; exact if_pos ho)
      have CX := Lib.hid (field41_ok x _ w1 HSV.out HXO.out ho)
      clear ho
      go_wp2_with fail
      refine CX.out.mono ?_
      rintro _ w2 ⟨y1, y2, rfl, hs1, hs2, hE2⟩
      have HB2 := Lib.hid (HB1.out.ext hE2)
      have HS1 := Lib.hid hs1
      have HS2 := Lib.hid hs2
      have HE2 := Lib.hid hE2
      obtain ⟨B1, d1, e1, -, -, -⟩ := hs1
      obtain ⟨B2, d2, e2, -, -, -⟩ := hs2
      subst e1 e2
      have k0 := HB2.out.cell (k := 0) (by decide)
      have k1 := HB2.out.cell (k := 1) (by decide)
      have k2 := HB2.out.cell (k := 2) (by decide)
      have f0 := HB2.out.frozen 0
      have f1 := HB2.out.frozen 1
      have f2 := HB2.out.frozen 2
      clear hE2 l1 co t1 CX
      go_wp2_with fail
      have HG := set3_exg w2 (w.heap.size + 1) (sV x.nm) (.slice B1 x.vl.length d1) (.slice B2 x.sl.length d2)
      have n1 := HS1.out.far HB2.out (by intro i b hi; match i, hi with | 0, _ => exact fun h => by cases h | 1, _ => exact fun h => by cases h | 2, _ => exact fun h => by cases h) HG
      have n2 := HS2.out.far HB2.out (by intro i b hi; match i, hi with | 0, _ => exact fun h => by cases h | 1, _ => exact fun h => by cases h | 2, _ => exact fun h => by cases h) HG
      refine bodyPost_ret (res40t Tryd.results34 (((HB2.out.set 0 (sV x.nm)).set 1 (.slice B1 x.vl.length d1)).set 2 (.slice B2 x.sl.length d2)) rfl rfl rfl rfl rfl) rfl ?_
      rw [HF.out]
      exact ⟨_, _, rfl, n1, n2, HG.ext (HE1.out.trans HE2.out) (by omega)⟩
    · have ho' : x.op = false := by simpa using ho
      rw [ho'] at co
      have HF : Hid (openF xs s = (Fd0, 15)) := Lib.hid (by unfold openF; rw [HFI.out]; exact if_neg ho)
      clear ho ho' l1
      go_wp2_with fail
      refine bodyPost_ret (res40t Tryd.results34 (((HB1.out.set 0 (.string ⟨#[]⟩)).set 1 nilV).set 2 nilV) rfl rfl rfl rfl rfl) rfl ?_
      rw [HF.out]
      exact ⟨nilV, nilV, rfl, SlB.nil _, SlB.nil _, (set3_exg w1 (w.heap.size + 1) _ _ _).ext HE1.out (by omega)⟩
  · have HF : Hid (openF xs s = (Fd0, 4)) := Lib.hid (by unfold openF; rw [find_none_of h5])
    clear h5 t1
    go_wp2_with fail
    refine bodyPost_ret (res40t Tryd.results34 (((HB1.out.set 0 (.string ⟨#[]⟩)).set 1 nilV).set 2 nilV) rfl rfl rfl rfl rfl) rfl ?_
    rw [HF.out]
    exact ⟨nilV, nilV, rfl, SlB.nil _, SlB.nil _, (set3_exg w1 (w.heap.size + 1) _ _ _).ext HE1.out (by omega)⟩
end Go.Proofs.YtjedhndhdkiidaaDoor
