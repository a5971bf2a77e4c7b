/- SHA-256: eight, New, Sum; leaves and pairs. -/
import Derived.Test.YtjeclmmikjpinaaDoorR4
import Derived.Test.YtjeclmmikjpinaaDoorU0
namespace Go.Proofs.YtjeclmmikjpinaaDoor
open Go.RowKit
attribute [local go_sem ↓] Go.wp_at_zero Go.wp_at_succ
attribute [local go_sem ↓] ld48 st48 al48 bu48
attribute [local go_sem] run_al48 run_bu48 run_st48n
theorem RetSl.of_cells {w' : World} {g n : Nat} {d : List UInt8} (hd : d.length = n) (hn : n ≤ 1000000) (h : ∀ i, i < n → w'.cell? ⟨g, i, none⟩ = some (idF d i)) : SlB w' (.slice (some ⟨g, 0, none⟩) n n) d := by
  subst hd
  exact ⟨some ⟨g, 0, none⟩, d.length, rfl, Nat.le_refl _, by unfold maxLen; omega, bytes_of_cells rfl fun i hi => by rw [Nat.zero_add]; exact h i hi⟩
def e8F (n : Nat) : List UInt8 := (List.range 8).map fun i => UInt8.ofNat (n / 2 ^ (56 - 8 * i) % 256)
theorem run_mk38 (w : World) (l c : Nat) (hlc : l ≤ c) (hc : c ≤ 1000000) : (Instr.makeSlice 31 (.int .i64 (l : Int)) (.int .i64 (c : Int))).run Tryd.prog w = .ok (.slice (some ⟨w.heap.size, 0, none⟩) l c) (w.alloc (.cells (arV (fun _ => vU8 0) c) 5)) := by
  obtain ⟨i0, hi0, hz0, hz1, hz2⟩ := info_parts Tryd.info5
  rw [run_makeSlice w 31 5 i0 _ Tryd.underlying31 hi0 hz0 .i64 .i64 (l : Int) (c : Int) (by omega) (by omega) (by rw [hz1]; omega) (by rw [hz2]; omega) (by omega), hz1]
  have e : madeCells (Value.int IntKind.u8 0).cells ((c : Int).toNat * 1) = arV (fun _ => vU8 0) c := by
    rw [Int.toNat_natCast, Nat.mul_one]
    refine arV_ext (size_madeCells _ _) fun i hi => ?_
    unfold madeCells
    have : (Value.int IntKind.u8 0).cells = #[Value.int IntKind.u8 0] := rfl
    simp [this, hi, Nat.mod_one]
  rw [e]
  rfl
/-- The bytes of a number so far. -/
def e8G (n k : Nat) : Nat → Value := fun i => if i < k then vU8 ((n / 2 ^ (56 - 8 * i) % 256 : Nat) : Int) else vU8 0
theorem e8F_len (n : Nat) : (e8F n).length = 8 := by unfold e8F; simp
theorem e8F_at {n i : Nat} (h : i < 8) : idF (e8F n) i = vU8 ((n / 2 ^ (56 - 8 * i) % 256 : Nat) : Int) := by
  have e : (e8F n)[i]? = some (UInt8.ofNat (n / 2 ^ (56 - 8 * i) % 256)) := by
    unfold e8F
    rw [List.getElem?_map, List.getElem?_range h]
    rfl
  rw [idF_at e]
  have : (UInt8.ofNat (n / 2 ^ (56 - 8 * i) % 256)).toNat = n / 2 ^ (56 - 8 * i) % 256 := by simp
  rw [this]
set_option maxRecDepth 100000 in
theorem eight77_ok (n : Nat) (w : World) : Calls Tryd.prog 36 #[.int .u64 (n : Int)] w (RetSl (e8F n) w) := by
  have m8 : (Instr.makeSlice 31 (.int .i64 8) (.int .i64 8)).run Tryd.prog w = .ok (.slice (some ⟨w.heap.size, 0, none⟩) 8 8) (w.alloc (.cells (arV (fun _ => vU8 0) 8) 5)) := run_mk38 w 8 8 (by decide) (by decide)
  go_enter Tryd.func36, Tryd.ntmps36
  go_wp2_with fail
  clear m8
  generalize hwB : w.alloc (.cells (arV (fun _ => vU8 0) 8) 5) = wB
  have HB0 : Hid (Bk wB w.heap.size 8 (e8G n 0)) := Lib.hid (by rw [← hwB]; exact (Bk.new (by decide)).congr fun i _ => rfl)
  have HE0 : Hid (Ext w wB) := Lib.hid (by rw [← hwB]; exact (Ext.refl _).alloc _)
  clear hwB
  go_loopw [8] (fun i wr => ∃ k : Nat, k ≤ 8 ∧ i = iV (k : Int) ∧ Bk wr w.heap.size 8 (e8G n k) ∧ Ext w wr) (fun i _ => 8 - (intOf i).toNat)
  case atStart => exact ⟨0, by omega, rfl, HB0.out, HE0.out⟩
  case round =>
    obtain ⟨k, hk, rfl, hB, hE⟩ := hrel
    have HBk := Lib.hid hB
    have HEk := Lib.hid hE
    clear hB hE
    by_cases hlt : k < 8
    · have q0 : (0 : Int) ≤ (k : Int) := by omega
      have q1 : (k : Int) < 8 := by omega
      have c1 := HBk.out.cell hlt
      have f1 := HBk.out.frozen k
      obtain ⟨s, hs⟩ : ∃ s, 56 - 8 * k = s := ⟨_, rfl⟩
      have q2 : (56 : Int) - 8 * (k : Int) = (s : Int) := by omega
      have q3 : (0 : Int) ≤ (s : Int) := by omega
      have q4 : (s : Int) ≤ 56 := by omega
      have HS := Lib.hid hs
      clear hs
      go_wp2_with fail
      refine ⟨⟨k + 1, by omega, by go_num, (HBk.out.set k _).congr fun i hi => ?_, HEk.out.set (Nat.le_refl _) _⟩, by simp [intOf]; omega⟩
      unfold upd e8G
      by_cases h1 : i = k
      · subst h1
        rw [if_pos rfl, if_pos (by omega), HS.out]
        congr 1
      · rw [if_neg h1]
        by_cases h2 : i < k
        · rw [if_pos h2, if_pos (by omega)]
        · rw [if_neg h2, if_neg (by omega)]
    · obtain rfl : k = 8 := by omega
      go_wp2_with fail
      go_ret
      refine ⟨_, rfl, RetSl.of_cells (e8F_len n) (by decide) fun i hi => ?_, HEk.out⟩
      rw [HBk.out.cell hi, e8F_at hi]
      unfold e8G
      rw [if_pos hi]
/-- The first words. -/
def sha0 : Nat → Int := fun i => [1779033703, 3144134277, 1013904242, 2773480762, 1359893119, 2600822924, 528734635, 1541459225].getD i 0
/-- A hash of no bytes. -/
def hs0 : HS := ⟨sha0, fun _ => 0, 0⟩
theorem zero125 : Tryd.zeroCells100 = arV (hsF (fun _ => 0) (fun _ => 0) 0) 73 := by unfold arV hsF; kernel_rfl
def RetH (x : HS) (w : World) (e : Ending) (w' : World) : Prop := e = .returned (.pointer (some ⟨w.heap.size, 0, none⟩)) ∧ Hs w' w.heap.size x ∧ Ext w w'
theorem new63_ok (w : World) : Calls Tryd.prog 34 #[] w (RetH hs0 w) := by
  go_enter Tryd.func34, Tryd.ntmps34
  go_wp2_with fail
  go_ret
  refine ⟨rfl, ⟨?_, by decide⟩, (Ext.refl _).alloc _⟩
  rw [zero125]
  simp only [arV_set]
  refine (Bk.new (by decide)).congr fun i hi => ?_
  unfold upd
  match i, hi with
  | 0, _ | 1, _ | 2, _ | 3, _ | 4, _ | 5, _ | 6, _ | 7, _ => rfl
  | i + 8, h =>
    rw [if_neg (by omega), if_neg (by omega), if_neg (by omega), if_neg (by omega), if_neg (by omega), if_neg (by omega), if_neg (by omega), if_neg (by omega)]
    unfold hsF
    by_cases h2 : i + 8 < 72
    · rw [if_neg (by omega), if_pos h2, if_neg (by omega), if_pos h2]
      rfl
    · rw [if_neg (by omega), if_neg h2, if_neg (by omega), if_neg h2]
      rfl
/-! ### Sum -/
theorem ld125 (v : Value) : Instr.loadAt 100 v = ldS 100 v := by unfold ldS; rfl
theorem st125 (p v : Value) : Instr.storeAt 100 p v = stS 100 p v := by unfold stS; rfl
theorem al125 (h : Bool) (v : Value) : Instr.alloc 100 h v = alS 100 h v := by unfold alS; rfl
theorem Tryd.size100 : (Tryd.prog.info? 100).map (·.size) = some 73 := by kernel_rfl
theorem Tryd.zero100 : (Tryd.prog.info? 100).map (·.zero) = some (some (.agg (arV (hsF (fun _ => 0) (fun _ => 0) 0) 73))) := by unfold arV hsF; kernel_rfl
theorem run_al125 (w : World) (hp : Bool) (old : Value) (h : hp = true ∨ old = undef) : (alS 100 hp old).run Tryd.prog w = .ok (.pointer (some ⟨w.heap.size, 0, none⟩)) (w.alloc (.cells (arV (hsF (fun _ => 0) (fun _ => 0) 0) 73) 100)) := run_alloc Tryd.zero100 w hp old h
theorem hsF_one {W B : Nat → Int} {T : Int} (i : Nat) : (hsF W B T i).oneCell' = true := by
  unfold hsF
  split
  · rfl
  · split <;> rfl
theorem run_st125n (w : World) (f : Nat → Value) (W B : Nat → Int) (T : Int) : (stS 100 (.pointer (some ⟨w.heap.size, 0, none⟩)) (.agg (arV (hsF W B T) 73))).run Tryd.prog (w.alloc (.cells (arV f 73) 100)) = .ok () (w.alloc (.cells (arV (hsF W B T) 73) 100)) := run_stNew Tryd.size100 fun i _ => hsF_one i
theorem Hs.run_ld125 {w : World} {g : Nat} {x : HS} (h : Hs w g x) : (ldS 100 (.pointer (some ⟨g, 0, none⟩))).run Tryd.prog w = .ok (.agg (arV (hsF x.W x.B (x.T : Int)) 73)) w := by
  rw [h.1.load (o := 0) (m := 73) (by decide) Tryd.underlying100 rfl Tryd.size100, arV_congr fun i hi => by rw [Nat.zero_add]]
attribute [local go_sem ↓] ld125 st125 al125
attribute [local go_sem ↓] al122 ld122 st122 in122
attribute [local go_sem] run_al125 run_st125n
/-- A row in a block. -/
theorem row_at {s : Nat} {w : World} {B e g m : Nat} {f : Nat → Value} {us : List (List Value)} (hB : B ≤ g) (hg : w.heap[g]? = some (.cells (arV f m) e (0, 0))) (hw : Wide s us) {cap : Nat} (hm : cap * s = m) (hl : us.length ≤ cap) (hc : cap ≤ maxLen) (hu : ∀ i, i < us.length * s → us.flatten[i]? = some (f i)) : Row s w B e (.slice (some ⟨g, 0, none⟩) us.length cap) us := by
  refine ⟨hw, hw.flat, .inr ⟨g, cap, arV f m, rfl, hB, hg, hl, hc, by rw [arV_size, hm], ?_⟩⟩
  have hle : us.length * s ≤ m := by rw [← hm]; exact Nat.mul_le_mul_right _ hl
  apply List.ext_getElem?
  intro i
  rw [List.getElem?_take]
  by_cases hi : i < us.length * s
  · rw [if_pos hi, hu i hi, Array.getElem?_toList, arV_at (by omega)]
  · rw [if_neg hi, List.getElem?_eq_none (by rw [hw.flat]; omega)]
/-- The padding. -/
def padF (T : Nat) : List UInt8 := 128 :: List.replicate ((if T % 64 < 56 then 56 - T % 64 else 120 - T % 64) - 1) 0
def dF (W : Nat → Int) (i : Nat) : Int := W (i / 4) / 2 ^ (24 - 8 * (i % 4)) % 256
def digF (W : Nat → Int) : List UInt8 := (List.range 32).map fun i => UInt8.ofNat (dF W i).toNat
/-- The digest of a hash. -/
def sumF (x : HS) : List UInt8 := digF (wrF x (padF x.T ++ e8F (x.T * 8 % 18446744073709551616))).W
theorem digF_len (W : Nat → Int) : (digF W).length = 32 := by unfold digF; simp
theorem digF_at {W : Nat → Int} {i : Nat} (h : i < 32) : idF (digF W) i = vU8 (dF W i) := by
  have e : (digF W)[i]? = some (UInt8.ofNat (dF W i).toNat) := by
    unfold digF
    rw [List.getElem?_map, List.getElem?_range h]
    rfl
  rw [idF_at e]
  have h0 : 0 ≤ dF W i ∧ dF W i < 256 := by unfold dF; omega
  have : (UInt8.ofNat (dF W i).toNat).toNat = (dF W i).toNat := by simp; omega
  rw [this, Int.toNat_of_nonneg h0.1]
def dG (W : Nat → Int) (k : Nat) : Nat → Value := fun i => if i < 4 * k then vU8 (dF W i) else vU8 0
theorem dF_at (W : Nat → Int) (k j : Nat) (hj : j < 4) : dF W (4 * k + j) = W k / 2 ^ (24 - 8 * j) % 256 := by
  unfold dF
  rw [show (4 * k + j) / 4 = k by omega, show (4 * k + j) % 4 = j by omega]
theorem dG_step (W : Nat → Int) (k i : Nat) : upd (upd (upd (upd (dG W k) (4 * k) (vU8 (W k / 16777216 % 256))) (4 * k + 1) (vU8 (W k / 65536 % 256))) (4 * k + 2) (vU8 (W k / 256 % 256))) (4 * k + 3) (vU8 (W k % 256)) i = dG W (k + 1) i := by
  have d0 : dF W (4 * k) = W k / 16777216 % 256 := dF_at W k 0 (by decide)
  have d1 : dF W (4 * k + 1) = W k / 65536 % 256 := dF_at W k 1 (by decide)
  have d2 : dF W (4 * k + 2) = W k / 256 % 256 := dF_at W k 2 (by decide)
  have d3 : dF W (4 * k + 3) = W k % 256 := by rw [dF_at W k 3 (by decide)]; simp
  unfold upd
  by_cases h3 : i = 4 * k + 3
  · subst h3
    rw [if_pos rfl]
    unfold dG
    rw [if_pos (by omega), d3]
  · rw [if_neg h3]
    by_cases h2 : i = 4 * k + 2
    · subst h2
      rw [if_pos rfl]
      unfold dG
      rw [if_pos (by omega), d2]
    · rw [if_neg h2]
      by_cases h1 : i = 4 * k + 1
      · subst h1
        rw [if_pos rfl]
        unfold dG
        rw [if_pos (by omega), d1]
      · rw [if_neg h1]
        by_cases h0 : i = 4 * k
        · subst h0
          rw [if_pos rfl]
          unfold dG
          rw [if_pos (by omega), d0]
        · rw [if_neg h0]
          unfold dG
          by_cases h : i < 4 * k
          · rw [if_pos h, if_pos (by omega)]
          · rw [if_neg h, if_neg (by omega)]
theorem resBk {fn : Func} {p : Tmp} {ty : TypeId} {tmps : Array Value} {w : World} {g n : Nat} {f : Nat → Value} {dd : TypeDesc} (h : fn.results = #[.cell p ty]) (hp : tmps.getD p undef = .pointer (some ⟨g, 0, none⟩)) (hb : Bk w g n f) (hu : Tryd.prog.underlying ty = some dd) (hd : dd.isRow = true) (hi : (Tryd.prog.info? ty).map (·.size) = some n) :
    (results fn tmps).run Tryd.prog w = .ok (.agg (arV f n)) w := by
  obtain ⟨T, e⟩ := of_blkOf hb.pos
  rw [hb.2] at e
  exact results_cell_row h tmps w g T _ _ dd hp e hu (by cases dd <;> first | rfl | cases hd) (by rw [arV_size]; exact hi)
def RetId (d : List UInt8) (w : World) (e : Ending) (w' : World) : Prop := e = .returned (idV d) ∧ Ext w w'
set_option maxRecDepth 100000 in
set_option maxHeartbeats 4000000 in
theorem sum65_ok (g : Nat) (x : HS) (w : World) (h : Hs w g x) (hT : Tab w) : Calls Tryd.prog 37 #[.pointer (some ⟨g, 0, none⟩)] w (RetId (sumF x) w) := by
  have HH := Lib.hid h
  have HT := Lib.hid hT
  have HGL := Lib.hid h.1.lt
  have h0w : 0 < w.heap.size := by have := h.1.lt; omega
  clear h hT
  go_enter Tryd.func37, Tryd.ntmps37
  go_upto_region 3 with fail
  generalize hwB : w.alloc (.cells (idA []) 27) = wB
  have HR0 : Hid (Bk wB w.heap.size 32 (idF [])) := Lib.hid (by rw [← hwB]; exact Bk.new (by decide))
  have HE0 : Hid (Ext w wB) := Lib.hid (by rw [← hwB]; exact (Ext.refl _).alloc _)
  have hz0 : w.heap.size < wB.heap.size := by rw [← hwB]; simp
  clear hwB
  have l1 := (HH.out.ext HE0.out).run_ld125
  go_upto_region 4 with fail
  clear l1
  generalize hwC : wB.alloc (.cells (arV (hsF x.W x.B (x.T : Int)) 73) 100) = wC
  have HXC : Hid (Hs wC wB.heap.size x) := Lib.hid (by rw [← hwC]; exact ⟨Bk.new (by decide), HH.out.2⟩)
  have HE1 : Hid (Ext wB wC) := Lib.hid (by rw [← hwC]; exact (Ext.refl _).alloc _)
  have hz1 : wB.heap.size < wC.heap.size := by rw [← hwC]; simp
  clear hwC
  obtain ⟨a, ha⟩ : ∃ a, x.T % 64 = a := ⟨_, rfl⟩
  have e1 : (x.T : Int) % 64 = (a : Int) := by omega
  have t0 := HXC.out.tot
  obtain ⟨N, hN⟩ : ∃ N, (if a < 56 then 56 - a else 120 - a) = N := ⟨_, rfl⟩
  have HNN : Hid (1 ≤ N ∧ N ≤ 64) := Lib.hid (by rw [← hN]; split <;> omega)
  have HA := Lib.hid (And.intro ha (show a < 64 by omega))
  clear ha
  go_upto_if 23 with fail
  go_cut [5] (fun s5 wx => s5 = iV (N : Int) ∧ wx = wC)
  case first =>
    by_cases h56 : a < 56
    · rw [if_pos h56] at hN
      have q1 : ¬ (56 : Int) - (a : Int) ≤ 0 := by omega
      have q2 : (56 : Int) - (a : Int) = (N : Int) := by omega
      go_wp2_with fail
      go_meet
      exact ⟨by first | rw [q2] | rfl, rfl⟩
    · rw [if_neg h56] at hN
      have h64 := HA.out.2
      have q1 : (56 : Int) - (a : Int) ≤ 0 := by omega
      have q2 : (56 : Int) - (a : Int) + 64 = (N : Int) := by omega
      go_wp2_with fail
      go_meet
      exact ⟨by first | rw [q2] | rfl, rfl⟩
  case rest =>
    obtain ⟨rfl, rfl⟩ := hcut
    obtain ⟨wC, rfl⟩ : ∃ w', w' = wc := ⟨_, rfl⟩
    have HN2 := Lib.hid hN
    clear hN t0
    have hN8 : ((N + 8 : Nat) : Int) = (N : Int) + 8 := by omega
    have mk : (Instr.makeSlice 31 (.int .i64 (N : Int)) (.int .i64 ((N : Int) + 8))).run Tryd.prog wC = .ok (.slice (some ⟨wC.heap.size, 0, none⟩) N (N + 8)) (wC.alloc (.cells (arV (fun _ => vU8 0) (N + 8)) 5)) := by
      rw [← hN8]
      exact run_mk38 wC N (N + 8) (by omega) (by have := HNN.out; omega)
    have q3 : (N : Int) ≤ 64 := by have := HNN.out; omega
    have q4 : (1 : Int) ≤ (N : Int) := by have := HNN.out; omega
    have f0 : (arV (fun _ => vU8 0) (N + 8))[0]? = some (vU8 0) := arV_at (by omega)
    go_upto_region 10 with fail
    clear mk f0
    rw [arV_set]
    generalize hwD : wC.alloc (.cells (arV (upd (fun _ => vU8 0) 0 (.int .u8 128)) (N + 8)) 5) = wD
    have HE2 : Hid (Ext wC wD) := Lib.hid (by rw [← hwD]; exact (Ext.refl _).alloc _)
    have HP : Hid (padF x.T = 128 :: List.replicate (N - 1) 0) := Lib.hid (by unfold padF; rw [HA.out.1, HN2.out])
    have HPL : Hid ((padF x.T).length = N) := Lib.hid (by rw [HP.out]; have := HNN.out; simp; omega)
    have HRD : Hid (Row 1 wD wC.heap.size 5 (.slice (some ⟨wC.heap.size, 0, none⟩) N (N + 8)) (bv (padF x.T))) := Lib.hid (by
      have hl : (bv (padF x.T)).length = N := by rw [bv_len, HPL.out]
      have := row_at (s := 1) (w := wD) (e := 5) (f := upd (fun _ => vU8 0) 0 (.int .u8 128)) (B := wC.heap.size) (us := bv (padF x.T)) (cap := N + 8) (Nat.le_refl _) (by rw [← hwD]; exact heap_alloc_new wC _) (bv_wide _) (Nat.mul_one _) (by rw [hl]; omega) (by have := HNN.out; unfold maxLen; omega) (fun i hi => by
        rw [hl] at hi
        rw [bv_flat, bytesV_get, HP.out]
        unfold upd
        cases i with
        | zero => rfl
        | succ i =>
          rw [if_neg (by omega), List.getElem?_cons_succ, List.getElem?_replicate, if_pos (by omega)]
          rfl)
      rw [hl] at this
      exact this)
    clear hwD
    have HEW : Hid (Ext w wD) := Lib.hid (HE0.out.trans (HE1.out.trans HE2.out))
    have t0 := (HH.out.ext HEW.out).tot
    go_wp2_with fail
    have ew : IntKind.u64.wrap ((x.T : Int) * 8) = ((x.T * 8 % 18446744073709551616 : Nat) : Int) := by
      show ((x.T : Int) * 8) % 18446744073709551616 = _
      omega
    rw [ew]
    obtain ⟨M, hM⟩ : ∃ M, x.T * 8 % 18446744073709551616 = M := ⟨_, rfl⟩
    rw [hM]
    have HM := Lib.hid hM
    clear ew hM t0
    refine (eight77_ok M wD).mono ?_
    rintro _ wE ⟨v8, rfl, ⟨A8, c8, rfl, k1, k2, k3⟩, hE3⟩
    obtain ⟨e8, he8⟩ : ∃ e8, e8F M = e8 := ⟨_, rfl⟩
    have hl8 : e8.length = 8 := by rw [← he8, e8F_len]
    rw [he8] at k3 ⊢
    have H8 := Lib.hid he8
    have KB := Lib.hid k3.vs
    have KW := Lib.hid (bv_wide e8)
    have KO := Lib.hid (bv_one e8)
    have KL : Hid ((bv e8).length = e8.length) := Lib.hid (bv_len e8)
    have HL8 := Lib.hid hl8
    have HE3 := Lib.hid hE3
    have PL : Hid ((bv (padF x.T)).length ≤ 64) := Lib.hid (by rw [bv_len, HPL.out]; have := HNN.out; omega)
    clear he8 hl8 k1 k2 k3 hE3
    go_wp2_with (at_builtin; go_loud (refine wapp el38 rfl (.tmp 32) (.tmp 38) rfl (w5 := wC) (vs := bv (padF x.T)) (us := bv e8) rfl (HE2.out.trans HE3.out) (HRD.out.ext HE3.out) rfl (by rw [KL.out]) KW.out KB.out KO.out (by rw [KL.out, HL8.out]; have := PL.out; omega) (by rw [KL.out, HL8.out]; have := PL.out; omega) ?_; intro v4 w4 hr4 hE4 hg4 hb4; rw [← bv_app] at hr4; have HR4 := Lib.hid hr4; have HE4 := Lib.hid hE4; clear hr4 hE4 hg4 hb4))
    obtain ⟨A4, c4, rfl, b1, b2, b3, b4⟩ := HR4.out.bytes
    refine (write64_ok wB.heap.size x (padF x.T ++ e8) A4 c4 w4 (HXC.out.ext HE4.out) (HT.out.ext (HE0.out.trans (HE1.out.trans HE4.out))) (by omega) b1 (fun _ ad e => by have := (b4 ad e).1; omega) b2 b3).mono ?_
    rintro _ wG ⟨rfl, hG, hX⟩
    have HG := Lib.hid hG
    have HX : Hid (Ext wB wG) := Lib.hid (hX.ext (HE1.out.trans HE4.out) (Nat.le_refl _))
    clear hG hX b1 b2 b3 b4
    obtain ⟨y, hy⟩ : ∃ y, wrF x (padF x.T ++ e8) = y := ⟨_, rfl⟩
    rw [hy] at HG
    have HY : Hid (sumF x = digF y.W) := Lib.hid (by unfold sumF; rw [HM.out, H8.out, hy])
    clear hy
    have HE5 : Hid (Ext w wG) := Lib.hid (HE0.out.trans HX.out)
    have HRG := Lib.hid (HR0.out.ext HX.out)
    go_upto_region 12 with fail
    generalize hwH : wG.alloc (.cells (idA []) 27) = wH
    have HBH : Hid (Bk wH wG.heap.size 32 (dG y.W 0)) := Lib.hid (by rw [← hwH]; exact (Bk.new (by decide)).congr fun i hi => by unfold dG; rw [if_neg (by omega)]; rfl)
    have HEH : Hid (Ext wG wH) := Lib.hid (by rw [← hwH]; exact (Ext.refl _).alloc _)
    clear hwH
    have lw := run_words (HG.out.ext HEH.out).1
    go_wp2_with fail
    clear lw
    go_loopw [43] (fun i wr => ∃ k : Nat, k ≤ 8 ∧ i = iV (k : Int) ∧ Bk wr wG.heap.size 32 (dG y.W k) ∧ Ext wG wr) (fun i _ => 8 - (intOf i).toNat)
    case atStart => exact ⟨0, by omega, rfl, HBH.out, HEH.out⟩
    case round =>
      obtain ⟨k, hk, rfl, hB, hE⟩ := hrel
      have HBk := Lib.hid hB
      have HEk := Lib.hid hE
      clear hB hE
      by_cases hlt : k < 8
      · have q5 : (0 : Int) ≤ (k : Int) := by omega
        have q6 : (k : Int) < 8 := by omega
        have j1 := run_in122 (w := wr) (f := y.W) hlt
        have c0 := HBk.out.cell (k := 4 * k) (by omega)
        have c1 := HBk.out.cell (k := 4 * k + 1) (by omega)
        have c2 := HBk.out.cell (k := 4 * k + 2) (by omega)
        have c3 := HBk.out.cell (k := 4 * k + 3) (by omega)
        have f0 := HBk.out.frozen (4 * k)
        have f1 := HBk.out.frozen (4 * k + 1)
        have f2 := HBk.out.frozen (4 * k + 2)
        have f3 := HBk.out.frozen (4 * k + 3)
        go_wp2_with fail
        exact ⟨⟨k + 1, by omega, by go_num, ((((HBk.out.set (4 * k) _).set (4 * k + 1) _).set (4 * k + 2) _).set (4 * k + 3) _).congr (fun i _ => dG_step y.W k i), ((((HEk.out.set (Nat.le_refl _) _).set (Nat.le_refl _) _).set (Nat.le_refl _) _).set (Nat.le_refl _) _)⟩, by simp [intOf]; omega⟩
      · obtain rfl : k = 8 := by omega
        have hd : Bk wr wG.heap.size 32 (idF (digF y.W)) := HBk.out.congr fun i hi => by
          rw [digF_at hi]
          unfold dG
          rw [if_pos (by omega)]
        have l1 := hd.run_ld48
        have HRR := Lib.hid (HRG.out.ext HEk.out)
        have l2 := run_st48 HRR.out (digF y.W)
        clear hd
        go_wp2_with fail
        refine bodyPost_ret (resBk Tryd.results37 (g := w.heap.size) rfl HRR.out.putAll Tryd.underlying27 rfl Tryd.size27) rfl ?_
        rw [HY.out]
        exact ⟨rfl, Ext.setCells (Nat.le_refl _) _ _ (HE5.out.trans HEk.out)⟩
end Go.Proofs.YtjeclmmikjpinaaDoor
