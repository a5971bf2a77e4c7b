/- The walk over the reference's Fork. The walks over the reference's texts: number, identity, events, Text. -/
import Derived.Test.YthnmhdabdiennaaDoorR4
import Derived.Deep.DeepCutAuto
import Derived.Deep.CutBlock
import Derived.Test.YthnmhdabdiennaaDoorM8
namespace Go.Proofs.YthnmhdabdiennaaDoor
open Go.RowKit
attribute [local go_sem ↓] Go.wp_at_zero Go.wp_at_succ
attribute [local go_sem ↓] ld36 ld34 ld38 st36 st38 st32 al36 al38 bu36 bu32 bu38 bs23
attribute [local go_sem] run_ld36 run_st36 run_al36 blkOf_drew blkOf_setRow_same blkOf_setRow_other RV_size run_bu36 blkOf_new blkOf_old
theorem blkOf_new2 {w : World} {A : Obj} {cs : Array Value} {T : Nat} : blkOf ((w.alloc A).alloc (.cells cs T)) (w.heap.size + 1) = cs := by
  have := blkOf_new (w := w.alloc A) (cs := cs) (T := T)
  simpa using this
attribute [local go_sem] blkOf_new2
/-- The blocks of Fork: the argument, two results, two variables. -/
structure FkAt (o oa ob : Nat → Bool) (s : Nat → Nat) (w : World) (g5 g6 : Nat) (wx : World) : Prop where
  ext : Ext w wx
  b0 : blkOf wx w.heap.size = RV o s
  b1 : blkOf wx (w.heap.size + 1) = RV0
  b2 : blkOf wx (w.heap.size + 2) = RV0
  b5 : blkOf wx g5 = RV oa s
  b6 : blkOf wx g6 = RV ob s
  ne : g5 ≠ g6
  l5 : w.heap.size + 2 < g5
  l6 : w.heap.size + 2 < g6
theorem FkAt.lt {o oa ob : Nat → Bool} {s : Nat → Nat} {w wx : World} {g5 g6 : Nat} (h : FkAt o oa ob s w g5 g6 wx) : w.heap.size + 2 < wx.heap.size ∧ g5 < wx.heap.size ∧ g6 < wx.heap.size :=
  ⟨blkOf_lt (by rw [h.b2, RV_size]; decide), blkOf_lt (by rw [h.b5, RV_size]; decide), blkOf_lt (by rw [h.b6, RV_size]; decide)⟩
theorem FkAt.go {o oa ob : Nat → Bool} {s : Nat → Nat} {w wx wy : World} {g5 g6 : Nat} (h : FkAt o oa ob s w g5 g6 wx) (k : Ext wx wy) : FkAt o oa ob s w g5 g6 wy := by
  obtain ⟨l0, l1, l2⟩ := h.lt
  exact ⟨h.ext.trans k, by rw [blkOf_ext k (by omega)]; exact h.b0, by rw [blkOf_ext k (by omega)]; exact h.b1, by rw [blkOf_ext k (by omega)]; exact h.b2, by rw [blkOf_ext k (by omega)]; exact h.b5, by rw [blkOf_ext k (by omega)]; exact h.b6, h.ne, h.l5, h.l6⟩
theorem FkAt.start {o : Nat → Bool} {s : Nat → Nat} {w W : World} {p q : Nat} (E : Ext w W) (h0 : blkOf W w.heap.size = RV o s) (h1 : blkOf W (w.heap.size + 1) = RV0) (h2 : blkOf W (w.heap.size + 2) = RV0) (hp : (blkOf W p).size = 512) (hq : (blkOf W q).size = 512) (hne : p ≠ q) (lp : w.heap.size + 2 < p) (lq : w.heap.size + 2 < q) :
    FkAt o o o s w p q ((W.setRow p (RV o s)).setRow q (RV o s)) := by
  refine ⟨(E.setRow (by omega) _).setRow (by omega) _, ?_, ?_, ?_, ?_, ?_, hne, lp, lq⟩
  · rw [blkOf_setRow_other (by omega), blkOf_setRow_other (by omega)]; exact h0
  · rw [blkOf_setRow_other (by omega), blkOf_setRow_other (by omega)]; exact h1
  · rw [blkOf_setRow_other (by omega), blkOf_setRow_other (by omega)]; exact h2
  · rw [blkOf_setRow_other hne, blkOf_setRow_same hp]
  · exact blkOf_setRow_same (by rw [blkOf_setRow_other (Ne.symm hne)]; exact hq)
theorem FkAt.clear {o oa ob oa' ob' : Nat → Bool} {s : Nat → Nat} {w wx : World} {g5 g6 i j : Nat} (h : FkAt o oa ob s w g5 g6 wx) (hi : i < 256) (hj : j < 256) (ha : ∀ k, k < 256 → (if k = j then false else oa k) = oa' k) (hb : ∀ k, k < 256 → (if k = i then false else ob k) = ob' k) :
    FkAt o oa' ob' s w g5 g6 ((wx.setCell ⟨g6, i, none⟩ (.bool false)).setCell ⟨g5, j, none⟩ (.bool false)) := by
  have l5 := h.l5
  have l6 := h.l6
  have ne := h.ne
  refine ⟨(h.ext.set (show w.heap.size ≤ g6 by omega) _).set (show w.heap.size ≤ g5 by omega) _, ?_, ?_, ?_, ?_, ?_, ne, l5, l6⟩
  · rw [blkOf_far (show g5 ≠ _ by omega), blkOf_far (show g6 ≠ _ by omega)]; exact h.b0
  · rw [blkOf_far (show g5 ≠ _ by omega), blkOf_far (show g6 ≠ _ by omega)]; exact h.b1
  · rw [blkOf_far (show g5 ≠ _ by omega), blkOf_far (show g6 ≠ _ by omega)]; exact h.b2
  · rw [blkOf_setOwn (by rw [blkOf_far (show g6 ≠ _ by omega)]; exact h.b5) hj]; exact RV_congr ha (fun _ _ => rfl)
  · rw [blkOf_far (show g5 ≠ _ by omega), blkOf_setOwn h.b6 hi]; exact RV_congr hb (fun _ _ => rfl)
theorem clear_next {o : Nat → Bool} {low j i k : Nat} (hi : i = low + j) : (if k = i then false else clearR o low j k) = clearR o low (j + 1) k := by
  subst hi
  unfold clearR
  by_cases e : k = low + j
  · rw [if_pos e, if_pos (by omega)]
  · rw [if_neg e]
    by_cases h : low ≤ k ∧ k < low + j
    · rw [if_pos h, if_pos (by omega)]
    · rw [if_neg h, if_neg (by omega)]
/-- What Fork returns. -/
def RetRRB (o o' : Nat → Bool) (s : Nat → Nat) (b : Bool) (w : World) (e : Ending) (w' : World) : Prop := e = .returned (.tuple #[.agg (RV o s), .agg (RV o' s), .bool b]) ∧ Ext w w'
def RetFk (o : Nat → Bool) (s : Nat → Nat) (w : World) (e : Ending) (w' : World) : Prop :=
  (cnt o 0 256 = 0 ∧ RetRRB o o s true w e w') ∨ (0 < cnt o 0 256 ∧ (forkR o 8 0).2 = 0 ∧ RetRRB o o s false w e w') ∨
  (0 < cnt o 0 256 ∧ ∃ d, (forkR o 8 0).2 = d + 1 ∧ RetRRB (clearR o ((forkR o 8 0).1 + 2 ^ d) (2 ^ d)) (clearR o (forkR o 8 0).1 (2 ^ d)) s true w e w')
theorem res36c {fn : Func} {p q u : Tmp} (h : fn.results = #[.cell p 36, .cell q 36, .tmp u]) {tmps : Array Value} {w : World} {g g' : Nat} {o o' : Nat → Bool} {s s' : Nat → Nat} {x : Value} (hp : tmps.getD p undef = .pointer (some ⟨g, 0, none⟩)) (hq : tmps.getD q undef = .pointer (some ⟨g', 0, none⟩)) (hx : tmps.getD u undef = x) (hb : blkOf w g = RV o s) (hb' : blkOf w g' = RV o' s') :
    (results fn tmps).run Tryd.prog w = .ok (.tuple #[.agg (RV o s), .agg (RV o' s'), x]) w := by
  have hp' : tmps[p]?.getD undef = .pointer (some ⟨g, 0, none⟩) := by simpa using hp
  have hq' : tmps[q]?.getD undef = .pointer (some ⟨g', 0, none⟩) := by simpa using hq
  have hx' : tmps[u]?.getD undef = x := by simpa using hx
  simp only [results, h]
  simp [Sem.run_bind, Result.andThen, asAddr, hp', hq', hx', run_lv36 hb, run_lv36 hb']
/-- The loop that looks for the interval. -/
def LookAt (o : Nat → Bool) (s : Nat → Nat) (w : World) (g5 g6 low n d : Nat) (wr : World) : Prop := FkAt o o o s w g5 g6 wr ∧ n = 2 ^ d ∧ low + n ≤ 256 ∧ forkR o 8 0 = forkR o d low ∧ 0 < cnt o low n
def Found (o : Nat → Bool) (s : Nat → Nat) (w : World) (g5 g6 low n : Nat) (wr : World) : Prop := FkAt o o o s w g5 g6 wr ∧ low + n ≤ 256 ∧ ∃ d, n = 2 ^ d ∧ forkR o 8 0 = (low, d)
theorem cnt_halves {o : Nat → Bool} {low m : Nat} (h : 0 < cnt o low (m + m)) : 0 < cnt o low m ∨ 0 < cnt o (low + m) m := by
  rcases Nat.eq_zero_or_pos (cnt o low m) with h1 | h1
  · rcases Nat.eq_zero_or_pos (cnt o (low + m) m) with h2 | h2
    · exfalso
      have : cnt o low (m + m) = 0 := cnt_zero.2 fun k hk => by
        rcases Nat.lt_or_ge k m with g | g
        · exact cnt_zero.1 h1 k g
        · have := cnt_zero.1 h2 (k - m) (by omega)
          rw [Nat.add_assoc low, show m + (k - m) = k by omega] at this
          exact this
      omega
    · exact .inr h2
  · exact .inl h1
theorem LookAt.full {o : Nat → Bool} {s : Nat → Nat} {w wr wy : World} {g5 g6 low n d : Nat} (h : LookAt o s w g5 g6 low n d wr) (hc : cnt o low n = n) (k : Ext wr wy) : Found o s w g5 g6 low n wy := by
  obtain ⟨h1, rfl, h3, h4, h5⟩ := h
  refine ⟨h1.go k, h3, d, rfl, ?_⟩
  rw [h4]
  cases d with
  | zero => rfl
  | succ e => unfold forkR; rw [if_pos hc]
theorem LookAt.half {o : Nat → Bool} {s : Nat → Nat} {w wr : World} {g5 g6 low n d : Nat} (h : LookAt o s w g5 g6 low n d wr) (hc : cnt o low n ≠ n) : ∃ e, d = e + 1 ∧ n = 2 ^ e + 2 ^ e ∧ 0 < 2 ^ e := by
  obtain ⟨h1, rfl, h3, h4, h5⟩ := h
  cases d with
  | zero => have := cnt_le o low (2 ^ 0); simp at hc h5 this; omega
  | succ e => exact ⟨e, rfl, pow_half e, pow_pos2 e⟩
theorem LookAt.both {o : Nat → Bool} {s : Nat → Nat} {w wr wy : World} {g5 g6 low n e : Nat} (h : LookAt o s w g5 g6 low n (e + 1) wr) (hc : cnt o low n ≠ n) (hl : 0 < cnt o low (2 ^ e)) (hr : 0 < cnt o (low + 2 ^ e) (2 ^ e)) (k : Ext wr wy) : Found o s w g5 g6 low n wy := by
  obtain ⟨h1, rfl, h3, h4, h5⟩ := h
  refine ⟨h1.go k, h3, e + 1, rfl, ?_⟩
  rw [h4]; unfold forkR; rw [if_neg hc, if_pos ⟨hl, hr⟩]
theorem LookAt.left {o : Nat → Bool} {s : Nat → Nat} {w wr wy : World} {g5 g6 low n e : Nat} (h : LookAt o s w g5 g6 low n (e + 1) wr) (hc : cnt o low n ≠ n) (hl : 0 < cnt o low (2 ^ e)) (hr : cnt o (low + 2 ^ e) (2 ^ e) = 0) (k : Ext wr wy) : LookAt o s w g5 g6 low (2 ^ e) e wy := by
  obtain ⟨h1, rfl, h3, h4, h5⟩ := h
  have hp := pow_half e
  have hq := pow_pos2 e
  refine ⟨h1.go k, rfl, by omega, ?_, hl⟩
  rw [h4, forkR, if_neg hc, if_neg (by omega), if_neg (by omega)]
theorem LookAt.right {o : Nat → Bool} {s : Nat → Nat} {w wr wy : World} {g5 g6 low n e : Nat} (h : LookAt o s w g5 g6 low n (e + 1) wr) (hc : cnt o low n ≠ n) (hl : cnt o low (2 ^ e) = 0) (k : Ext wr wy) : LookAt o s w g5 g6 (low + 2 ^ e) (2 ^ e) e wy := by
  obtain ⟨h1, rfl, h3, h4, h5⟩ := h
  have hp := pow_half e
  have hh : 0 < cnt o (low + 2 ^ e) (2 ^ e) := by
    rw [hp] at h5
    rcases cnt_halves h5 with h | h
    · omega
    · exact h
  refine ⟨h1.go k, rfl, by omega, ?_, hh⟩
  rw [h4, forkR, if_neg hc, if_neg (by omega), if_pos hl]
set_option maxRecDepth 100000 in
set_option maxHeartbeats 8000000 in
theorem rfork_any (o : Nat → Bool) (s : Nat → Nat) (w : World) : Calls Tryd.prog 51 #[.agg (RV o s)] w (RetFk o s w) := by
  have OW := Lib.hid (owned256 o s)
  go_enter Tryd.func51, Tryd.ntmps51
  go_upto_region 1 with (fail)
  generalize hW : ((w.alloc (.cells (RV o s) 36)).alloc (.cells RV0 36)).alloc (.cells RV0 36) = w0
  obtain ⟨E, hb, hb1, hb2, hg⟩ := letterRRR hW
  clear hW
  go_cut [5, 6] (fun s5 s6 wx => ∃ g5 g6 : Nat, s5 = .pointer (some ⟨g5, 0, none⟩) ∧ s6 = .pointer (some ⟨g6, 0, none⟩) ∧ FkAt o o o s w g5 g6 wx)
  case first =>
    have zA : w.heap.size < w0.heap.size := by omega
    have zB : w.heap.size < w0.heap.size + 1 := by omega
    have zC : w.heap.size ≠ w0.heap.size := by omega
    have zD : w.heap.size ≠ w0.heap.size + 1 := by omega
    have ex : Ext w0 ((w0.alloc (.cells RV0 36)).alloc (.cells RV0 36)).drew := (((Ext.refl _).alloc _).alloc _).drew
    have c1 : (blkOf ((w0.alloc (.cells RV0 36)).alloc (.cells RV0 36)).drew w0.heap.size).size = 512 := by
      show (blkOf ((w0.alloc (.cells RV0 36)).alloc (.cells RV0 36)) w0.heap.size).size = 512
      rw [blkOf_old (by simp), blkOf_new, RV_size]
    have c2 : (blkOf ((w0.alloc (.cells RV0 36)).alloc (.cells RV0 36)).drew (w0.heap.size + 1)).size = 512 := by
      show (blkOf ((w0.alloc (.cells RV0 36)).alloc (.cells RV0 36)) (w0.heap.size + 1)).size = 512
      rw [blkOf_new2, RV_size]
    have C1 := Lib.hid c1
    have C2 := Lib.hid c2
    have EX := Lib.hid ex
    clear c1 c2 ex
    go_region
    all_goals go_wp2_with fail
    all_goals go_meet
    · exact ⟨_, _, rfl, rfl, FkAt.start (E.trans EX.out) (by rw [blkOf_ext EX.out (by omega)]; exact hb) (by rw [blkOf_ext EX.out (by omega)]; exact hb1) (by rw [blkOf_ext EX.out (by omega)]; exact hb2) C1.out C2.out (by omega) (by omega) (by omega)⟩
    · exact ⟨_, _, rfl, rfl, FkAt.start (E.trans EX.out) (by rw [blkOf_ext EX.out (by omega)]; exact hb) (by rw [blkOf_ext EX.out (by omega)]; exact hb1) (by rw [blkOf_ext EX.out (by omega)]; exact hb2) C2.out C1.out (by omega) (by omega) (by omega)⟩
  case rest =>
    obtain ⟨g5, g6, rfl, rfl, F⟩ := hcut
    clear hb hb1 hb2 hg E
    have HF := Lib.hid F
    have k0 := F.b0
    clear F
    have CL := cnt_le o 0 256
    go_wp2_with fail
    refine (OW.out _).mono ?_
    rintro e1 w1 ⟨rfl, hE1⟩
    replace HF := Lib.hid (HF.out.go hE1)
    clear hE1 k0
    rcases Nat.eq_zero_or_pos (cnt o 0 256) with c0 | c0
    · have HC := Lib.hid c0
      have tc := beq0T c0
      clear c0
      generalize cnt o 0 256 = c at OW tc CL ⊢
      go_wp2_with fail
      have n51 : g5 ≠ w.heap.size + 1 := by have := HF.out.l5; omega
      have n52 : g5 ≠ w.heap.size + 2 := by have := HF.out.l5; omega
      have n61 : g6 ≠ w.heap.size + 1 := by have := HF.out.l6; omega
      have n62 : g6 ≠ w.heap.size + 2 := by have := HF.out.l6; omega
      have n12 : w.heap.size + 1 ≠ w.heap.size + 2 := by omega
      have n21 : w.heap.size + 2 ≠ w.heap.size + 1 := by omega
      have k1 := HF.out.b1
      have k2 := HF.out.b2
      have k5 := HF.out.b5
      have k6 := HF.out.b6
      go_region
      all_goals go_wp2_with fail
      all_goals
        refine bodyPost_ret (v := .tuple #[.agg (RV o s), .agg (RV o s), .bool true]) (res36c Tryd.results51 (g := w.heap.size + 1) (g' := w.heap.size + 2) rfl rfl rfl ?_ ?_) rfl (.inl ⟨HC.out, rfl, ((HF.out.ext.drew).setRow (by omega) _).setRow (by omega) _⟩)
        · first
            | (rw [blkOf_setRow_other n12, blkOf_setRow_same (by rw [blkOf_drew, k1, RV_size])]; done)
            | (rw [blkOf_setRow_same (by rw [blkOf_setRow_other n12, blkOf_drew, k1, RV_size])]; done)
        · first
            | (rw [blkOf_setRow_same (by rw [blkOf_setRow_other n21, blkOf_drew, k2, RV_size])]; done)
            | (rw [blkOf_setRow_other n21, blkOf_setRow_same (by rw [blkOf_drew, k2, RV_size])]; done)
    · have HC := Lib.hid c0
      have tc := beq0F (show cnt o 0 256 ≠ 0 by omega)
      have LK : Hid (LookAt o s w g5 g6 0 256 8 w1) := Lib.hid ⟨HF.out, two8, by omega, rfl, c0⟩
      clear c0 OW HF
      generalize cnt o 0 256 = c at tc CL ⊢
      go_upto_block 0 with (fail)
      go_cut [7, 8] (fun l n wx => ∃ low m : Nat, l = .int .i64 (low : Int) ∧ n = .int .i64 (m : Int) ∧ Found o s w g5 g6 low m wx)
      case first =>
        go_wp2_with fail
        go_loopw [7, 8] (fun l n wr => ∃ low m d : Nat, l = .int .i64 (low : Int) ∧ n = .int .i64 (m : Int) ∧ LookAt o s w g5 g6 low m d wr) (fun _ n _ => (intOf n).toNat)
        case atStart => exact ⟨0, 256, 8, rfl, rfl, LK.out⟩
        case round =>
          obtain ⟨low, n, d, rfl, rfl, hL⟩ := hrel
          have HL := Lib.hid hL
          have k0 := hL.1.b0
          have hle := hL.2.2.1
          have hlt := hL.1.lt.1
          have CN := cnt_le o low n
          have OW := Lib.hid (fun w => owned_any o s low n w hle)
          clear hL
          by_cases c1 : cnt o low n = n
          · have HM : Hid (∀ wy, Ext wr wy → Found o s w g5 g6 low n wy) := Lib.hid (fun wy k => HL.out.full c1 k)
            have c2 : n ≤ cnt o low n := by omega
            clear c1
            generalize cnt o low n = c' at *
            go_wp2_with fail
            refine (OW.out _).mono ?_
            rintro e2 w2 ⟨rfl, hE2⟩
            go_wp2_with fail
            go_meet
            exact ⟨low, n, rfl, rfl, HM.out _ hE2⟩
          · obtain ⟨e, rfl, hn, hm0⟩ := HL.out.half c1
            have HB : Hid (∀ wy, Ext wr wy → 0 < cnt o low (2 ^ e) → 0 < cnt o (low + 2 ^ e) (2 ^ e) → Found o s w g5 g6 low n wy) := Lib.hid (fun wy k a b => HL.out.both c1 a b k)
            have HLe : Hid (∀ wy, Ext wr wy → 0 < cnt o low (2 ^ e) → cnt o (low + 2 ^ e) (2 ^ e) = 0 → LookAt o s w g5 g6 low (2 ^ e) e wy) := Lib.hid (fun wy k a b => HL.out.left c1 a b k)
            have HRi : Hid (∀ wy, Ext wr wy → cnt o low (2 ^ e) = 0 → LookAt o s w g5 g6 (low + 2 ^ e) (2 ^ e) e wy) := Lib.hid (fun wy k a => HL.out.right c1 a k)
            have c2 : cnt o low n < n := by omega
            clear c1 HL
            generalize 2 ^ e = m at *
            have CLL := cnt_le o low m
            have CLR := cnt_le o (low + m) m
            have OWL := Lib.hid (fun w => owned_any o s low m w (by omega))
            have OWR := Lib.hid (fun w => ownedI o s (low + m) m ((low : Int) + (m : Int)) w (by omega) (by omega))
            have hdiv : ((n : Nat) : Int) / 2 = ((m : Nat) : Int) := by omega
            have HN := Lib.hid hn
            have hmm : n ≤ m + m := by omega
            have hmm' : m + m ≤ n := by omega
            clear hn
            generalize cnt o low n = c' at *
            generalize cnt o low m = cl at *
            generalize cnt o (low + m) m = cr at *
            go_wp2_with fail
            refine (OW.out _).mono ?_
            rintro e2 w2 ⟨rfl, hE2⟩
            have z2 := hE2.size
            rw [← blkOf_ext hE2 (by omega)] at k0
            have zA : w.heap.size < w2.heap.size := by omega
            go_wp2_with fail
            have wrp : IntKind.i64.wrap ((low : Int) + (m : Int)) = (low : Int) + (m : Int) := IntWalk.i64_in _ (by omega)
            go_region_held3 (fun w' => Ext w2 w' ∧ ∀ b, b < w2.heap.size → blkOf w' b = blkOf w2 b)
              (refine Ext.heldB ?_ <;> repeat (first | assumption | exact Ext.refl _ | apply Ext.drew | apply Ext.drewN))
              (first
                | (go_at_call 67; go_split_ands; (with_reducible refine (OWL.out _).mono ?_); rintro e3 w3 ⟨rfl, hbb⟩; have hE3 : Ext w2 w3 := Ext.trans (by assumption) hbb)
                | (go_at_call 67; go_split_ands; (with_reducible refine (OWR.out _).mono ?_); rintro e4 w4 ⟨rfl, hbb⟩; have hE4 : Ext w2 w4 := Ext.trans (by assumption) hbb))
            replace hE4 := hE2.trans hE4
            clear wrp hbb hE2 OWL OWR OW
            rcases Nat.eq_zero_or_pos cl with c3 | c3
            · have HX := Lib.hid (HRi.out w4 hE4 c3)
              have tl := beq0T c3
              have c4 : cl ≤ 0 := by omega
              clear c3 HB HLe HRi
              go_wp2_with fail
              exact ⟨⟨low + m, m, e, by go_num, rfl, HX.out⟩, by simp [intOf]; omega⟩
            rcases Nat.eq_zero_or_pos cr with c5 | c5
            · have HX := Lib.hid (HLe.out w4 hE4 c3 c5)
              have tl := beq0F (show cl ≠ 0 by omega)
              have c6 : cr ≤ 0 := by omega
              clear c5 HB HLe HRi
              go_wp2_with fail
              exact ⟨⟨low, m, e, rfl, rfl, HX.out⟩, by simp [intOf]; omega⟩
            · have HX := Lib.hid (HB.out w4 hE4 c3 c5)
              clear HB HLe HRi
              go_wp2_with fail
              go_meet
              exact ⟨low, n, rfl, congrArg (Value.int .i64) (by omega), HX.out⟩
      case rest =>
        obtain ⟨low, n, rfl, rfl, hF⟩ := hcut
        have HF := Lib.hid hF.1
        have hle := hF.2.1
        obtain ⟨d, hd⟩ := hF.2.2
        have HD := Lib.hid hd
        clear hF hd LK
        by_cases c1 : n = 1
        · have HZ : Hid ((forkR o 8 0).2 = 0) := Lib.hid (by
            rw [HD.out.2]
            have := HD.out.1
            cases d with
            | zero => rfl
            | succ e => have := pow_half e; have := pow_pos2 e; omega)
          have t1 : (((n : Nat) : Int) == 1) = true := by simp [c1]
          clear c1 HD
          go_wp2_with fail
          have n51 : g5 ≠ w.heap.size + 1 := by have := HF.out.l5; omega
          have n52 : g5 ≠ w.heap.size + 2 := by have := HF.out.l5; omega
          have n61 : g6 ≠ w.heap.size + 1 := by have := HF.out.l6; omega
          have n62 : g6 ≠ w.heap.size + 2 := by have := HF.out.l6; omega
          have n12 : w.heap.size + 1 ≠ w.heap.size + 2 := by omega
          have n21 : w.heap.size + 2 ≠ w.heap.size + 1 := by omega
          have k1 := HF.out.b1
          have k2 := HF.out.b2
          have k5 := HF.out.b5
          have k6 := HF.out.b6
          go_region
          all_goals go_wp2_with fail
          all_goals
            refine bodyPost_ret (v := .tuple #[.agg (RV o s), .agg (RV o s), .bool false]) (res36c Tryd.results51 (g := w.heap.size + 1) (g' := w.heap.size + 2) rfl rfl rfl ?_ ?_) rfl (.inr (.inl ⟨HC.out, HZ.out, rfl, ((HF.out.ext.drew).setRow (by omega) _).setRow (by omega) _⟩))
            · first
                | (rw [blkOf_setRow_other n12, blkOf_setRow_same (by rw [blkOf_drew, k1, RV_size])]; done)
                | (rw [blkOf_setRow_same (by rw [blkOf_setRow_other n12, blkOf_drew, k1, RV_size])]; done)
            · first
                | (rw [blkOf_setRow_same (by rw [blkOf_setRow_other n21, blkOf_drew, k2, RV_size])]; done)
                | (rw [blkOf_setRow_other n21, blkOf_setRow_same (by rw [blkOf_drew, k2, RV_size])]; done)
        · obtain ⟨e, he, hm0⟩ : ∃ e, d = e + 1 ∧ 0 < 2 ^ e := by
            have := HD.out.1
            cases d with
            | zero => exact absurd this c1
            | succ e => exact ⟨e, rfl, pow_pos2 e⟩
          have hp := pow_half e
          have hn : n = 2 ^ e + 2 ^ e := by have := HD.out.1; rw [he] at this; omega
          have HZ : Hid ((forkR o 8 0).1 = low ∧ (forkR o 8 0).2 = e + 1) := Lib.hid (by rw [HD.out.2, he]; exact ⟨rfl, rfl⟩)
          have t1 : (((n : Nat) : Int) == 1) = false := by simp; omega
          clear c1 HD he hp
          have HP : ∃ m, Hid (m = 2 ^ e) ∧ 0 < m ∧ n = m + m := ⟨2 ^ e, Lib.hid rfl, hm0, hn⟩
          clear hn hm0
          obtain ⟨m, HM, hm0, hn⟩ := HP
          have hdiv : ((n : Nat) : Int) / 2 = ((m : Nat) : Int) := by omega
          have hmm : n ≤ m + m := by omega
          have hmm' : m + m ≤ n := by omega
          clear hn
          go_wp2_with fail
          go_loopw [11] (fun i wr => ∃ j : Nat, j ≤ m ∧ i = .int .i64 ((low + j : Nat) : Int) ∧ FkAt o (clearR o (low + m) j) (clearR o low j) s w g5 g6 wr) (fun i _ => low + m - (intOf i).toNat)
          case atStart => exact ⟨0, by omega, rfl, by
            have e1 : clearR o (low + m) 0 = o := funext fun k => clearR_out (by omega)
            have e2 : clearR o low 0 = o := funext fun k => clearR_out (by omega)
            rw [e1, e2]; exact HF.out⟩
          case round =>
            obtain ⟨j, hj, rfl, hF⟩ := hrel
            have HF' := Lib.hid hF
            clear hF
            by_cases hlt : j < m
            · have x5 := HF'.out.b5
              have x6 := HF'.out.b6
              have a6 := ownAt x6 (show low + j < 256 by omega)
              have a5 := ownAt x5 (show low + j + m < 256 by omega)
              have f6 : wr.frozen? ⟨g6, low + j, none⟩ = false := blkOf_frozen (by rw [x6, RV_size]; decide)
              have f5 : wr.frozen? ⟨g5, low + j + m, none⟩ = false := blkOf_frozen (by rw [x5, RV_size]; decide)
              have ne := HF'.out.ne
              have ne' : g6 ≠ g5 := Ne.symm ne
              clear x5 x6
              go_wp2_with fail
              refine ⟨⟨j + 1, by omega, by go_num, ?_⟩, by simp [intOf]; omega⟩
              exact HF'.out.clear (by omega) (by omega) (fun k _ => clear_next (by omega)) (fun k _ => clear_next rfl)
            · obtain rfl : j = m := by omega
              replace HF := HF'
              clear HF'
              have HR : Hid (RetRRB (clearR o (low + j) j) (clearR o low j) s true w = RetRRB (clearR o ((forkR o 8 0).1 + 2 ^ e) (2 ^ e)) (clearR o (forkR o 8 0).1 (2 ^ e)) s true w) := Lib.hid (by rw [HM.out, HZ.out.1])
              go_wp2_with fail
              have n51 : g5 ≠ w.heap.size + 1 := by have := HF.out.l5; omega
              have n52 : g5 ≠ w.heap.size + 2 := by have := HF.out.l5; omega
              have n61 : g6 ≠ w.heap.size + 1 := by have := HF.out.l6; omega
              have n62 : g6 ≠ w.heap.size + 2 := by have := HF.out.l6; omega
              have n12 : w.heap.size + 1 ≠ w.heap.size + 2 := by omega
              have n21 : w.heap.size + 2 ≠ w.heap.size + 1 := by omega
              have k1 := HF.out.b1
              have k2 := HF.out.b2
              have k5 := HF.out.b5
              have k6 := HF.out.b6
              go_region
              all_goals go_wp2_with fail
              all_goals
                refine bodyPost_ret (v := .tuple #[.agg (RV (clearR o (low + j) j) s), .agg (RV (clearR o low j) s), .bool true]) (res36c Tryd.results51 (g := w.heap.size + 1) (g' := w.heap.size + 2) rfl rfl rfl ?_ ?_) rfl (.inr (.inr ⟨HC.out, e, HZ.out.2, by rw [← HR.out]; exact ⟨rfl, ((HF.out.ext.drew).setRow (by omega) _).setRow (by omega) _⟩⟩))
                · first
                    | (rw [blkOf_setRow_other n12, blkOf_setRow_same (by rw [blkOf_drew, k1, RV_size])]; done)
                    | (rw [blkOf_setRow_same (by rw [blkOf_setRow_other n12, blkOf_drew, k1, RV_size])]; done)
                · first
                    | (rw [blkOf_setRow_same (by rw [blkOf_setRow_other n21, blkOf_drew, k2, RV_size])]; done)
                    | (rw [blkOf_setRow_other n21, blkOf_setRow_same (by rw [blkOf_drew, k2, RV_size])]; done)
end Go.Proofs.YthnmhdabdiennaaDoor
namespace Go.Proofs.YthnmhdabdiennaaDoor
open Go.RowKit
attribute [local go_sem ↓] Go.wp_at_zero Go.wp_at_succ
attribute [local go_sem ↓] ld36 ld34 ld38 st36 st38 st32 al36 al38 bu36 bu32 bu38 bs23
attribute [local go_sem] run_ld36 run_st36 run_al36 blkOf_drew blkOf_setRow_same blkOf_setRow_other RV_size run_bu36 blkOf_new blkOf_old
theorem dec_len (n : Nat) (h : n < 100) : (Lib.decDigits n).length ≤ 2 := by
  by_cases h1 : n < 10
  · rw [Lib.decDigits_one h1]; simp
  · rw [Lib.decDigits_two h1 h]; simp
theorem dec_step (n : Nat) (h : ¬ n < 10) : Lib.decDigits n = Lib.decDigits (n / 10) ++ [UInt8.ofNat (48 + n % 10)] := by rw [Lib.decDigits, dif_neg h]
theorem conv1 (w : World) (d : Nat) (i : Int) (b : UInt8) (hb : UInt8.ofNat d = b) (hi : i = ((d : Nat) : Int)) (hd : d < 256) : (convert 56 9 (.slice (some ⟨w.heap.size, 0, none⟩) 1 1)).run Tryd.prog (w.alloc (.cells #[.int .u8 i] 5)) = .ok (Str [b]) (w.alloc (.cells #[.int .u8 i] 5)) := by
  subst hi
  subst hb
  have h := run_convert_bytes_back (P := Tryd.prog) (w.alloc (.cells #[.int .u8 ((d : Nat) : Int)] 5)) 56 9 5 ⟨w.heap.size, 0, none⟩ 1 [UInt8.ofNat d] Tryd.underlying56 Tryd.underlying5 Tryd.underlying9 (fun j hj => by
    have : j = 0 := by simpa using hj
    subst this
    have e : ((UInt8.ofNat d).toNat : Int) = ((d : Nat) : Int) := by simp; omega
    simp only [List.getElem_cons_zero, e]
    rw [Addr.add_zero']
    exact new_at w #[.int .u8 ((d : Nat) : Int)] 5 0 (.int .u8 ((d : Nat) : Int)) rfl)
  exact h
theorem catS (x y : List UInt8) : Value.string (ByteArray.mk x.toArray ++ ByteArray.mk y.toArray) = Str (x ++ y) := by simp only [ByteArray.mk_append_mk, Str]
set_option maxRecDepth 100000 in
set_option maxHeartbeats 2000000 in
theorem number_any (n : Nat) (w : World) (h : n < 100) : Calls Tryd.prog 69 #[.int .u64 (n : Int)] w (RetT (Lib.decDigits n) w) := by
  have HL := Lib.hid (dec_len n h)
  go_enter Tryd.func69, Tryd.ntmps69
  go_wp2_with fail
  go_loopw [0, 3] (fun u t wr => ∃ (m : Nat) (acc : List UInt8), u = .int .u64 (m : Int) ∧ m < 100 ∧ t = Str acc ∧ Lib.decDigits n = Lib.decDigits m ++ acc ∧ Ext w wr) (fun u _ _ => (intOf u).toNat)
  case atStart => exact ⟨n, [], rfl, h, rfl, by simp, Ext.refl _⟩
  case round =>
    obtain ⟨m, acc, rfl, hm, rfl, he, hE⟩ := hrel
    have HE := Lib.hid he
    have HX := Lib.hid hE
    have hal : acc.length ≤ 2 := by have := HL.out; rw [he, List.length_append] at this; omega
    clear he hE
    by_cases hlt : m < 10
    · obtain ⟨b, hb⟩ : ∃ b, UInt8.ofNat (48 + m) = b := ⟨_, rfl⟩
      have HB := Lib.hid hb
      have HD : Hid (Lib.decDigits m = [b]) := Lib.hid (by rw [Lib.decDigits_one hlt, hb])
      have s1 : ¬ (9223372036854775807 < 1 + acc.length) := by omega
      clear hb
      go_wp2_with fail
      rw [conv1 wr (48 + m) _ b HB.out (by omega) (by omega)]
      go_wp2_with fail
      go_ret
      exact ⟨by rw [HE.out, HD.out]; exact congrArg Ending.returned (catS [b] acc), HX.out.alloc _⟩
    · obtain ⟨b, hb⟩ : ∃ b, UInt8.ofNat (48 + m % 10) = b := ⟨_, rfl⟩
      have HB := Lib.hid hb
      have HD : Hid (Lib.decDigits m = Lib.decDigits (m / 10) ++ [b]) := Lib.hid (by rw [dec_step m hlt, hb])
      have s1 : ¬ (9223372036854775807 < 1 + acc.length) := by omega
      clear hb
      go_wp2_with fail
      rw [conv1 wr (48 + m % 10) _ b HB.out (by omega) (by omega)]
      go_wp2_with fail
      exact ⟨⟨m / 10, b :: acc, by simp, by omega, catS [b] acc, by rw [HE.out, HD.out]; simp, HX.out.alloc _⟩, by simp [intOf]; omega⟩
set_option maxRecDepth 100000 in
set_option maxHeartbeats 4000000 in
theorem ridentity_any (o : Nat → Bool) (s : Nat → Nat) (i : IdT) : ∀ (d low n : Nat) (w : World), IdOn o i d low → n = 2 ^ d → low + n ≤ 256 → (idText i).length ≤ 1099511627776 → Calls Tryd.prog 40 #[.agg (RV o s), .int .i64 (low : Int), .int .i64 (n : Int)] w (RetT (idText i) w) := by
  induction i with
  | zero =>
    intro d low n w hi hn hle _
    have c0 : cnt o low n = 0 := cnt_zero.2 (by rw [hn]; exact hi)
    have OW := Lib.hid (fun w => owned_any o s low n w hle)
    rw [c0] at OW
    clear c0 hi hn
    go_enter Tryd.func40, Tryd.ntmps40
    go_upto_region 1 with (fail)
    generalize hW : w.alloc (.cells (RV o s) 36) = w0
    obtain ⟨E, hb, hg⟩ := letterR hW
    clear hW
    go_wp2_with fail
    refine (OW.out _).mono ?_
    rintro e1 w1 ⟨rfl, hE1⟩
    go_wp2_with fail
    go_ret
    exact ⟨rfl, E.trans hE1⟩
  | node l r ihl ihr =>
    intro d low n w hi hn hle hlen
    have hq := pow_pos2 d
    have OW := Lib.hid (fun w => owned_any o s low n w hle)
    obtain ⟨cz, co⟩ := hi.cnt_
    rw [← hn] at cz co hq
    have CN := cnt_le o low n
    cases h1 : IdT.isOne (.node l r) with
    | true =>
      have H : Hid (idText (.node l r) = [49]) := by simp [Hid, idText, h1]
      have c1 := co.2 h1
      have tc := beqT c1
      have tz := beq0F (show cnt o low n ≠ 0 by omega)
      clear ihl ihr hi cz co hn c1 h1 hlen
      generalize cnt o low n = c at *
      go_enter Tryd.func40, Tryd.ntmps40
      go_upto_region 1 with (fail)
      generalize hW : w.alloc (.cells (RV o s) 36) = w0
      obtain ⟨E, hb, hg⟩ := letterR hW
      clear hW
      go_wp2_with fail
      refine (OW.out _).mono ?_
      rintro e1 w1 ⟨rfl, hE1⟩
      go_wp2_with fail
      go_ret
      exact ⟨by rw [H.out]; rfl, E.trans hE1⟩
    | false =>
      have H : Hid (idText (.node l r) = 40 :: (idText l ++ 44 :: (idText r ++ [41]))) := Lib.hid (idText_node h1)
      rw [H.out] at hlen
      simp only [List.length_cons, List.length_append, List.length_nil] at hlen
      obtain ⟨e, rfl, hl, hr, _⟩ := hi.of_node h1
      have tc := beqF (show cnt o low n ≠ n from fun h => by rw [co.1 h] at h1; cases h1)
      have tz := beq0F (show cnt o low n ≠ 0 from fun h => by have := cz.1 h; simp [IdT.isZero] at this)
      have hp := pow_half e
      have hm0 := pow_pos2 e
      have IL := Lib.hid (fun w => ihl e low (2 ^ e) w hl rfl (by omega) (by omega))
      have IR := Lib.hid (fun w => show Calls Tryd.prog 40 #[.agg (RV o s), .int .i64 ((low : Int) + ((2 ^ e : Nat) : Int)), .int .i64 ((2 ^ e : Nat) : Int)] w (RetT (idText r) w) from by
        have := ihr e (low + 2 ^ e) (2 ^ e) w hr rfl (by omega) (by omega)
        rwa [Int.natCast_add] at this)
      have hnm : n = 2 ^ e + 2 ^ e := by omega
      clear ihl ihr hi cz co hn hl hr h1 hp
      generalize 2 ^ e = m at *
      have hdiv : ((n : Nat) : Int) / 2 = ((m : Nat) : Int) := by omega
      have hmm : n ≤ m + m := by omega
      have hmm' : m + m ≤ n := by omega
      clear hnm
      generalize cnt o low n = c at *
      generalize idText l = x at *
      generalize idText r = y at *
      have s1 : ¬ (9223372036854775807 < 1 + x.length) := by omega
      have s2 : ¬ (9223372036854775807 < 1 + x.length + 1) := by omega
      have s3 : ¬ (9223372036854775807 < 1 + x.length + 1 + y.length) := by omega
      have s4 : ¬ (9223372036854775807 < 1 + x.length + 1 + y.length + 1) := by omega
      clear hlen
      go_enter Tryd.func40, Tryd.ntmps40
      go_upto_region 1 with (fail)
      generalize hW : w.alloc (.cells (RV o s) 36) = w0
      obtain ⟨E, hb, hg⟩ := letterR hW
      clear hW
      go_wp2_with fail
      refine (OW.out _).mono ?_
      rintro e1 w1 ⟨rfl, hE1⟩
      have z1 := hE1.size
      rw [← blkOf_ext hE1 (by omega)] at hb
      have zA : w.heap.size < w1.heap.size := by omega
      go_wp2_with fail
      have wrp : IntKind.i64.wrap ((low : Int) + (m : Int)) = (low : Int) + (m : Int) := IntWalk.i64_in _ (by omega)
      have wrn : IntKind.i64.wrap (m : Int) = (m : Int) := IntWalk.i64_in _ (by omega)
      have hdt : ((n : Nat) : Int).tdiv 2 = ((m : Nat) : Int) := by rw [Int.tdiv_eq_ediv_of_nonneg (by omega)]; exact hdiv
      go_region_held3 (fun w' => Ext w1 w' ∧ ∀ b, b < w1.heap.size → blkOf w' b = blkOf w1 b)
        (refine Ext.heldB ?_ <;> repeat (first | assumption | exact Ext.refl _ | apply Ext.drew | apply Ext.drewN))
        (first
          | (go_at_call 40; go_split_ands; (with_reducible refine (IL.out _).mono ?_); rintro e3 w3 ⟨rfl, hbb⟩; have hE3 : Ext w1 w3 := Ext.trans (by assumption) hbb)
          | (go_at_call 40; go_split_ands; (with_reducible refine (IR.out _).mono ?_); rintro e4 w4 ⟨rfl, hbb⟩; have hE4 : Ext w1 w4 := Ext.trans (by assumption) hbb))
      clear wrp wrn hdt
      go_wp2_with fail
      go_ret
      refine ⟨?_, (E.trans hE1).trans hE4⟩
      rw [H.out]
      exact congrArg Ending.returned (cat5 x y)
theorem numberI (n : Nat) (i : Int) (w : World) (hi : i = ((n : Nat) : Int)) (h : n < 100) : Calls Tryd.prog 69 #[.int .u64 i] w (RetT (Lib.decDigits n) w) := by rw [hi]; exact number_any n w h
set_option maxRecDepth 100000 in
set_option maxHeartbeats 4000000 in
theorem revents_any (o : Nat → Bool) (s : Nat → Nat) (hs : Big s) (t : EvT) : ∀ (d low n base : Nat) (w : World), EvOn s t d low base → n = 2 ^ d → low + n ≤ 256 → base + t.top < 100 → (evText t).length ≤ 1099511627776 → Calls Tryd.prog 41 #[.agg (RV o s), .int .i64 (low : Int), .int .i64 (n : Int), .int .u64 (base : Int)] w (RetT (evText t) w) := by
  induction t with
  | leaf k =>
    intro d low n base w ht hn hle htop hlen
    have hq := pow_pos2 d
    rw [← hn] at hq
    have BD := Lib.hid (fun w => bounds_any o s low n w hle hq hs.u)
    have e1 := ht.lst_
    have e2 := ht.mst_
    rw [← hn] at e1 e2
    rw [e1, e2] at BD
    simp only [EvT.n, EvT.top] at BD htop
    have NU := Lib.hid (fun (i : Int) w (hi : i = ((k : Nat) : Int)) => numberI k i w hi (by omega))
    have H : Hid (evText (.leaf k) = Lib.decDigits k) := Lib.hid rfl
    clear ht hn e1 e2 hs hlen
    generalize hL : base + k = L at *
    have hL1 : L ≤ base + k := by omega
    have hL2 : base + k ≤ L := by omega
    clear hL
    go_enter Tryd.func41, Tryd.ntmps41
    go_upto_region 1 with (fail)
    generalize hW : w.alloc (.cells (RV o s) 36) = w0
    obtain ⟨E, hb, hg⟩ := letterR hW
    clear hW
    go_wp2_with fail
    refine (BD.out _).mono ?_
    rintro e1 w1 ⟨rfl, hE1⟩
    have z1 := hE1.size
    go_wp2_with fail
    refine (NU.out _ _ (by omega)).mono ?_
    rintro e2 w2 ⟨rfl, hE2⟩
    go_wp2_with fail
    go_ret
    exact ⟨by rw [H.out]; rfl, (E.trans hE1).trans hE2⟩
  | node k l r ihl ihr =>
    intro d low n base w ht hn hle htop hlen
    have hq := pow_pos2 d
    rw [← hn] at hq
    have BD := Lib.hid (fun w => bounds_any o s low n w hle hq hs.u)
    have e1 := ht.lst_
    have e2 := ht.mst_
    have e3 := (nf_top ht.nf)
    rw [← hn] at e1 e2
    rw [e1, e2] at BD
    have tne : base + (EvT.node k l r).n ≠ base + (EvT.node k l r).top := fun h => by have := e3.1 (by omega); simp [EvT.isLeaf] at this
    obtain ⟨e, rfl, hl, hr, -, -⟩ := ht
    have H : Hid (evText (.node k l r) = 40 :: (Lib.decDigits k ++ 44 :: (evText l ++ 44 :: (evText r ++ [41])))) := Lib.hid rfl
    rw [H.out] at hlen
    simp only [List.length_cons, List.length_append, List.length_nil] at hlen
    simp only [EvT.n] at BD tne
    have htop' := htop
    simp only [EvT.top] at htop'
    have hL3 : base + k < 100 := by omega
    have hp := pow_half e
    have hm0 := pow_pos2 e
    have IL := Lib.hid (fun w => ihl e low (2 ^ e) (base + k) w hl rfl (by omega) (by omega) (by omega))
    have IR := Lib.hid (fun w => show Calls Tryd.prog 41 #[.agg (RV o s), .int .i64 ((low : Int) + ((2 ^ e : Nat) : Int)), .int .i64 ((2 ^ e : Nat) : Int), .int .u64 ((base + k : Nat) : Int)] w (RetT (evText r) w) from by
      have := ihr e (low + 2 ^ e) (2 ^ e) (base + k) w hr rfl (by omega) (by omega) (by omega)
      rwa [Int.natCast_add low] at this)
    have NU := Lib.hid (fun (i : Int) w (hi : i = ((k : Nat) : Int)) => numberI k i w hi (by omega))
    have hnm : n = 2 ^ e + 2 ^ e := by omega
    clear ihl ihr hn hl hr hp e1 e2 e3 hs htop'
    generalize base + (EvT.node k l r).top = M at *
    generalize hL : base + k = L at *
    have hL1 : L ≤ base + k := by omega
    have hL2 : base + k ≤ L := by omega
    clear hL
    have tlm := beqF tne
    clear tne
    generalize 2 ^ e = m at *
    have hdiv : ((n : Nat) : Int) / 2 = ((m : Nat) : Int) := by omega
    have hmm : n ≤ m + m := by omega
    have hmm' : m + m ≤ n := by omega
    clear hnm
    generalize Lib.decDigits k = z at *
    generalize evText l = x at *
    generalize evText r = y at *
    have s1 : ¬ (9223372036854775807 < 1 + z.length) := by omega
    have s2 : ¬ (9223372036854775807 < 1 + z.length + 1) := by omega
    have s3 : ¬ (9223372036854775807 < 1 + z.length + 1 + x.length) := by omega
    have s4 : ¬ (9223372036854775807 < 1 + z.length + 1 + x.length + 1) := by omega
    have s5 : ¬ (9223372036854775807 < 1 + z.length + 1 + x.length + 1 + y.length) := by omega
    have s6 : ¬ (9223372036854775807 < 1 + z.length + 1 + x.length + 1 + y.length + 1) := by omega
    clear hlen
    go_enter Tryd.func41, Tryd.ntmps41
    go_upto_region 1 with (fail)
    generalize hW : w.alloc (.cells (RV o s) 36) = w0
    obtain ⟨E, hb, hg⟩ := letterR hW
    clear hW
    go_wp2_with fail
    refine (BD.out _).mono ?_
    rintro e1 w1 ⟨rfl, hE1⟩
    have z1 := hE1.size
    rw [← blkOf_ext hE1 (by omega)] at hb
    have zA : w.heap.size < w1.heap.size := by omega
    go_wp2_with fail
    have NU' := Lib.hid (fun w => NU.out ((L : Int) - (base : Int)) w (by omega))
    have wrp : IntKind.i64.wrap ((low : Int) + (m : Int)) = (low : Int) + (m : Int) := IntWalk.i64_in _ (by omega)
    have wrn : IntKind.i64.wrap (m : Int) = (m : Int) := IntWalk.i64_in _ (by omega)
    have wru : IntKind.u64.wrap ((L : Int) - (base : Int)) = (L : Int) - (base : Int) := by
      have : (L : Int) - (base : Int) = ((L - base : Nat) : Int) := by omega
      rw [this]; exact IntWalk.u64_in _ (by omega)
    have hdt : ((n : Nat) : Int).tdiv 2 = ((m : Nat) : Int) := by rw [Int.tdiv_eq_ediv_of_nonneg (by omega)]; exact hdiv
    go_region_held3 (fun w' => Ext w1 w' ∧ ∀ b, b < w1.heap.size → blkOf w' b = blkOf w1 b)
      (refine Ext.heldB ?_ <;> repeat (first | assumption | exact Ext.refl _ | apply Ext.drew | apply Ext.drewN))
      (first
        | (go_at_call 69; go_split_ands; (with_reducible refine (NU'.out _).mono ?_); rintro e2 w2 ⟨rfl, hbb⟩; have hE2 : Ext w1 w2 := Ext.trans (by assumption) hbb)
        | (go_at_call 41; go_split_ands; (with_reducible refine (IL.out _).mono ?_); rintro e3 w3 ⟨rfl, hbb⟩; have hE3 : Ext w1 w3 := Ext.trans (by assumption) hbb)
        | (go_at_call 41; go_split_ands; (with_reducible refine (IR.out _).mono ?_); rintro e4 w4 ⟨rfl, hbb⟩; have hE4 : Ext w1 w4 := Ext.trans (by assumption) hbb))
    clear wrp wrn hdt wru
    go_wp2_with fail
    go_ret
    refine ⟨?_, (E.trans hE1).trans hE4⟩
    rw [H.out]
    exact congrArg Ending.returned (cat7 z x y)
end Go.Proofs.YthnmhdabdiennaaDoor
