/- SHA-256's block function. -/
import Derived.Test.YtjeclmmikjpinaaDoorR2
namespace Go.Proofs.YtjeclmmikjpinaaDoor
open Go.RowKit
theorem al136 (h : Bool) (v : Value) : Instr.alloc 118 h v = alS 118 h v := by unfold alS; rfl
theorem Tryd.zero118 : (Tryd.prog.info? 118).map (·.zero) = some (some (.agg (arV (fun _ => vU32 0) 64))) := by unfold arV; kernel_rfl
theorem run_al136 (w : World) (hp : Bool) (old : Value) (h : hp = true ∨ old = undef) : (alS 118 hp old).run Tryd.prog w = .ok (.pointer (some ⟨w.heap.size, 0, none⟩)) (w.alloc (.cells (arV (fun _ => vU32 0) 64) 118)) := run_alloc Tryd.zero118 w hp old h
attribute [local go_sem ↓] al136
attribute [local go_sem] run_al136
theorem run_sl123 (w : World) (g o l h n c : Nat) (h1 : l ≤ h) (h2 : h ≤ 64) (h3 : l < 64) (kl kh : Int) (el : kl = (l : Int)) (eh : kh = (h : Int)) (en : h - l = n) (ec : 64 - l = c) : (Instr.sliceAt 98 (.pointer (some ⟨g, o, none⟩)) (some (.int .i64 kl)) (some (.int .i64 kh)) none).run Tryd.prog w = .ok (.slice (some ⟨g, o + l, none⟩) n c) w := by
  subst el
  subst eh
  subst en
  subst ec
  have e1 : Tryd.prog.arrayLen 98 = 64 := by kernel_rfl
  have e2 : Tryd.prog.elem 98 = 5 := by kernel_rfl
  have hs : (sizeOf 5).run Tryd.prog w = .ok 1 w := by kernel_rfl
  rw [run_sliceAt_array_lh w 98 ⟨g, o, none⟩ (by rw [e1, e2]; exact Tryd.underlying98) .i64 .i64 (l : Int) (h : Int) (by omega) (by omega) (by rw [e1]; omega), e1, e2, hs]
  simp [Result.andThen, slicedAt, Addr.add, show ¬ 64 = l by omega]
/-- The 73 cells of a hash. -/
def hsF (W B : Nat → Int) (T : Int) : Nat → Value := fun i => if i < 8 then vU32 (W i) else if i < 72 then vU8 (B (i - 8)) else .int .u64 T
theorem hsF_byte {W B : Nat → Int} {T : Int} {i : Nat} (h : i < 64) : hsF W B T (8 + i) = vU8 (B i) := by
  unfold hsF
  rw [if_neg (by omega), if_pos (by omega), Nat.add_sub_cancel_left]
theorem hsF_word {W B : Nat → Int} {T : Int} {i : Nat} (h : i < 8) : hsF W B T i = vU32 (W i) := by
  unfold hsF
  rw [if_pos h]
theorem hsF_tot {W B : Nat → Int} {T : Int} : hsF W B T 72 = .int .u64 T := rfl
theorem Bk.byte {w : World} {g : Nat} {W B : Nat → Int} {T : Int} (h : Bk w g 73 (hsF W B T)) {i : Nat} (hi : i < 64) : w.cell? ⟨g, 8 + i, none⟩ = some (vU8 (B i)) := by rw [h.cell (by omega), hsF_byte hi]
theorem Bk.word {w : World} {g : Nat} {W B : Nat → Int} {T : Int} (h : Bk w g 73 (hsF W B T)) {i : Nat} (hi : i < 8) : w.cell? ⟨g, i, none⟩ = some (vU32 (W i)) := by rw [h.cell (by omega), hsF_word hi]
theorem u32_upd {f : Nat → Int} {k : Nat} {v : Int} {i : Nat} : upd (fun j => vU32 (f j)) k (vU32 v) i = vU32 (upd f k v i) := by
  unfold upd
  split <;> rfl
/-- The word at 4 k of a block. -/
@[irreducible] def wordF (B : Nat → Int) (k : Nat) : Int := bits .or .u32 (bits .or .u32 (bits .or .u32 (B (4 * k) % 4294967296 * 16777216 % 4294967296) (B (4 * k + 1) % 4294967296 * 65536 % 4294967296)) (B (4 * k + 2) % 4294967296 * 256 % 4294967296)) (B (4 * k + 3) % 4294967296)
def m1 (B : Nat → Int) : Nat → Nat → Int
  | 0 => fun _ => 0
  | k + 1 => upd (m1 B k) k (wordF B k)
@[irreducible] def schF (f : Nat → Int) (t : Nat) : Int := (f (t - 16) + bits .xor .u32 (bits .xor .u32 (rotF 7 (f (t - 15))) (rotF 18 (f (t - 15)))) (f (t - 15) / 8) + f (t - 7) + bits .xor .u32 (bits .xor .u32 (rotF 17 (f (t - 2))) (rotF 19 (f (t - 2)))) (f (t - 2) / 1024)) % 4294967296
def m2 (f : Nat → Int) : Nat → Nat → Int
  | 0 => f
  | k + 1 => upd (m2 f k) (16 + k) (schF (m2 f k) (16 + k))
theorem al122 (h : Bool) (v : Value) : Instr.alloc 97 h v = alS 97 h v := by unfold alS; rfl
theorem ld122 (v : Value) : Instr.loadAt 97 v = ldS 97 v := by unfold ldS; rfl
theorem st122 (p v : Value) : Instr.storeAt 97 p v = stS 97 p v := by unfold stS; rfl
theorem Tryd.zero97 : (Tryd.prog.info? 97).map (·.zero) = some (some (.agg (arV (fun _ => vU32 0) 8))) := by unfold arV; kernel_rfl
theorem Tryd.size97 : (Tryd.prog.info? 97).map (·.size) = some 8 := by kernel_rfl
theorem run_al122 (w : World) (hp : Bool) (old : Value) (h : hp = true ∨ old = undef) : (alS 97 hp old).run Tryd.prog w = .ok (.pointer (some ⟨w.heap.size, 0, none⟩)) (w.alloc (.cells (arV (fun _ => vU32 0) 8) 97)) := run_alloc Tryd.zero97 w hp old h
attribute [local go_sem ↓] al122 ld122 st122
attribute [local go_sem] run_al122
theorem run_words {w : World} {g : Nat} {W B : Nat → Int} {T : Int} (h : Bk w g 73 (hsF W B T)) : (ldS 97 (.pointer (some ⟨g, 0, none⟩))).run Tryd.prog w = .ok (.agg (arV (fun k => vU32 (W k)) 8)) w := by
  rw [h.load (o := 0) (m := 8) (by decide) Tryd.underlying97 rfl Tryd.size97]
  rw [arV_congr fun i hi => by rw [Nat.zero_add, hsF_word hi]]
theorem run_eight {w : World} {g : Nat} {f : Nat → Int} (h : Bk w g 8 (fun k => vU32 (f k))) : (ldS 97 (.pointer (some ⟨g, 0, none⟩))).run Tryd.prog w = .ok (.agg (arV (fun k => vU32 (f k)) 8)) w := by
  rw [h.load (o := 0) (m := 8) (by decide) Tryd.underlying97 rfl Tryd.size97]
  rw [arV_congr fun i hi => by rw [Nat.zero_add]]
theorem run_put8 {w : World} {g : Nat} {f : Nat → Value} {h : Nat → Int} (hb : Bk w g 8 f) : (stS 97 (.pointer (some ⟨g, 0, none⟩)) (.agg (arV (fun k => vU32 (h k)) 8))).run Tryd.prog w = .ok () (w.setCells g 0 (arV (fun k => vU32 (h k)) 8).toList) := hb.store (o := 0) (by decide) Tryd.size97 (fun _ _ => rfl)
theorem hsub64 {a n t : Nat} (h : a + n = t) (ht : (t : Int) < 64) : IntKind.i64.wrap ((t : Int) - (n : Int)) = (a : Int) ∧ (0 : Int) ≤ (a : Int) ∧ (a : Int) < 64 := by
  rw [IntWalk.i64_in _ (by omega)]
  omega
theorem run_put8l {w : World} {g : Nat} {a0 a1 a2 a3 a4 a5 a6 a7 : Int} (hb : (blkOf w g).size = 8) : (stS 97 (.pointer (some ⟨g, 0, none⟩)) (.agg #[vU32 a0, vU32 a1, vU32 a2, vU32 a3, vU32 a4, vU32 a5, vU32 a6, vU32 a7])).run Tryd.prog w = .ok () (w.setCells g 0 [vU32 a0, vU32 a1, vU32 a2, vU32 a3, vU32 a4, vU32 a5, vU32 a6, vU32 a7]) := by
  obtain ⟨T, e⟩ := of_blkOf (w := w) (g := g) (by omega)
  unfold stS
  refine run_storeAt_mid w g 0 97 #[vU32 a0, vU32 a1, vU32 a2, vU32 a3, vU32 a4, vU32 a5, vU32 a6, vU32 a7] (fun j hj => ?_) Tryd.size97 (Array.all_eq_true_iff_forall_mem.2 fun v hv => by
    simp only [List.mem_toArray, List.mem_cons, List.not_mem_nil, or_false] at hv
    rcases hv with rfl | rfl | rfl | rfl | rfl | rfl | rfl | rfl <;> rfl)
  have hj : j < 8 := hj
  refine ⟨?_, by simp [World.frozen?, e]⟩
  rw [Nat.zero_add, cell_of_row w g j _ T (0, 0) e, Array.getElem?_eq_getElem (by omega)]
  rfl
theorem rot_7 (x : Int) (w : World) : Calls Tryd.prog 66 #[.int .u32 x, .int .i64 7] w (RetP (vU32 (rotF 7 x)) w) := rotr88_ok x 7 (by decide) (by decide) w
theorem rot_18 (x : Int) (w : World) : Calls Tryd.prog 66 #[.int .u32 x, .int .i64 18] w (RetP (vU32 (rotF 18 x)) w) := rotr88_ok x 18 (by decide) (by decide) w
theorem rot_17 (x : Int) (w : World) : Calls Tryd.prog 66 #[.int .u32 x, .int .i64 17] w (RetP (vU32 (rotF 17 x)) w) := rotr88_ok x 17 (by decide) (by decide) w
theorem rot_19 (x : Int) (w : World) : Calls Tryd.prog 66 #[.int .u32 x, .int .i64 19] w (RetP (vU32 (rotF 19 x)) w) := rotr88_ok x 19 (by decide) (by decide) w
theorem rot_6 (x : Int) (w : World) : Calls Tryd.prog 66 #[.int .u32 x, .int .i64 6] w (RetP (vU32 (rotF 6 x)) w) := rotr88_ok x 6 (by decide) (by decide) w
theorem rot_11 (x : Int) (w : World) : Calls Tryd.prog 66 #[.int .u32 x, .int .i64 11] w (RetP (vU32 (rotF 11 x)) w) := rotr88_ok x 11 (by decide) (by decide) w
theorem rot_25 (x : Int) (w : World) : Calls Tryd.prog 66 #[.int .u32 x, .int .i64 25] w (RetP (vU32 (rotF 25 x)) w) := rotr88_ok x 25 (by decide) (by decide) w
theorem rot_2 (x : Int) (w : World) : Calls Tryd.prog 66 #[.int .u32 x, .int .i64 2] w (RetP (vU32 (rotF 2 x)) w) := rotr88_ok x 2 (by decide) (by decide) w
theorem rot_13 (x : Int) (w : World) : Calls Tryd.prog 66 #[.int .u32 x, .int .i64 13] w (RetP (vU32 (rotF 13 x)) w) := rotr88_ok x 13 (by decide) (by decide) w
theorem rot_22 (x : Int) (w : World) : Calls Tryd.prog 66 #[.int .u32 x, .int .i64 22] w (RetP (vU32 (rotF 22 x)) w) := rotr88_ok x 22 (by decide) (by decide) w
theorem Ext.c3 {wd w' : World} (h : Ext wd w') {a b c : Addr} {u v x : Value} (h1 : wd.cell? a = some u) (h2 : wd.cell? b = some v) (h3 : wd.cell? c = some x) : Ext wd w' ∧ w'.cell? a = some u ∧ w'.cell? b = some v ∧ w'.cell? c = some x := ⟨h, h.cell h1, h.cell h2, h.cell h3⟩
@[irreducible] def t1F (s : Nat → Int) (c f : Int) : Int := IntKind.u32.wrap (IntKind.u32.wrap (IntKind.u32.wrap (IntKind.u32.wrap (s 7 + bits BinOp.xor IntKind.u32 (bits BinOp.xor IntKind.u32 (rotF 6 (s 4)) (rotF 11 (s 4))) (rotF 25 (s 4))) + bits BinOp.xor IntKind.u32 (bits BinOp.and IntKind.u32 (s 4) (s 5)) (bits BinOp.and IntKind.u32 (bits BinOp.xor IntKind.u32 IntKind.u32.max (s 4)) (s 6))) + c) + f)
@[irreducible] def t2F (a b c : Int) : Int := bits BinOp.xor IntKind.u32 (bits BinOp.xor IntKind.u32 (rotF 2 a) (rotF 13 a)) (rotF 22 a) + bits BinOp.xor IntKind.u32 (bits BinOp.xor IntKind.u32 (bits BinOp.and IntKind.u32 a b) (bits BinOp.and IntKind.u32 a c)) (bits BinOp.and IntKind.u32 b c)
def rndF (s : Nat → Int) (c f : Int) : Nat → Int
  | 0 => (t1F s c f + t2F (s 0) (s 1) (s 2)) % 4294967296
  | 1 => s 0
  | 2 => s 1
  | 3 => s 2
  | 4 => (s 3 + t1F s c f) % 4294967296
  | 5 => s 4
  | 6 => s 5
  | 7 => s 6
  | _ => 0
theorem rnd0 (s : Nat → Int) (c f : Int) : rndF s c f 0 = (t1F s c f + t2F (s 0) (s 1) (s 2)) % 4294967296 := rfl
theorem rnd4 (s : Nat → Int) (c f : Int) : rndF s c f 4 = (s 3 + t1F s c f) % 4294967296 := rfl
def m3 (F : Nat → Int) (W : Nat → Int) : Nat → Nat → Int
  | 0 => W
  | k + 1 => rndF (m3 F W k) (shaK k) (F k)
/-- The words behind a block. -/
def mixF (W B : Nat → Int) : Nat → Int := fun i => (W i + m3 (m2 (m1 B 16) 48) W 64 i) % 4294967296
theorem rnd_put {w : World} {g : Nat} {f : Nat → Value} {s : Nat → Int} {c x v0 v4 : Int} (h : Bk w g 8 f) (e0 : v0 = rndF s c x 0) (e4 : v4 = rndF s c x 4) : Bk (w.setCells g 0 [vU32 v0, vU32 (s 0), vU32 (s 1), vU32 (s 2), vU32 v4, vU32 (s 4), vU32 (s 5), vU32 (s 6)]) g 8 (fun j => vU32 (rndF s c x j)) := by
  subst e0 e4
  refine (h.setCells _ 0).congr fun i hi => ?_
  unfold updR
  rw [if_pos (by simp; omega), Nat.sub_zero]
  match i, hi with
  | 0, _ | 1, _ | 2, _ | 3, _ | 4, _ | 5, _ | 6, _ | 7, _ => rfl
@[irreducible] def idS (t : TypeId) (x i : Value) : Sem Value := Instr.index t x i
theorem in122 (x i : Value) : Instr.index 97 x i = idS 97 x i := by unfold idS; rfl
theorem run_in122 {w : World} {f : Nat → Int} {k : Nat} (hk : k < 8) : (idS 97 (.agg (arV (fun j => vU32 (f j)) 8)) (.int .i64 (k : Int))).run Tryd.prog w = .ok (vU32 (f k)) w := by
  unfold idS Instr.index
  simp [asIntOf, Sem.run_bind, run_underlying Tryd.underlying97, Result.andThen]
  rw [if_pos hk]
  unfold part isAgg
  simp [Sem.run_bind, run_underlying Tryd.underlying96, arV_at hk, Result.andThen]
attribute [local go_sem ↓] in122
attribute [local go_sem] run_put8l
def RetMix (g : Nat) (W B : Nat → Int) (T : Int) (w : World) (e : Ending) (w' : World) : Prop := e = .returned (.tuple #[]) ∧ Bk w' g 73 (hsF (mixF W B) B T) ∧ Exg g w w'
/-- The words so far. -/
def addF (W S : Nat → Int) (k : Nat) : Nat → Int := fun i => if i < k then (W i + S i) % 4294967296 else W i
theorem addF_step {W S B : Nat → Int} {T : Int} {k : Nat} (hk : k < 8) (i : Nat) : upd (hsF (addF W S k) B T) k (vU32 ((addF W S k k + S k) % 4294967296)) i = hsF (addF W S (k + 1)) B T i := by
  have e0 : addF W S k k = W k := by unfold addF; rw [if_neg (Nat.lt_irrefl k)]
  rw [e0]
  unfold upd
  by_cases h1 : i = k
  · subst h1
    rw [if_pos rfl, hsF_word hk]
    unfold addF
    rw [if_pos (Nat.lt_succ_self i)]
  · rw [if_neg h1]
    unfold hsF
    by_cases h2 : i < 8
    · rw [if_pos h2, if_pos h2]
      unfold addF
      by_cases h3 : i < k
      · rw [if_pos h3, if_pos (by omega)]
      · rw [if_neg h3, if_neg (by omega)]
    · rw [if_neg h2, if_neg h2]
set_option maxRecDepth 100000 in
set_option maxHeartbeats 8000000 in
theorem mix76_ok (g : Nat) (W B : Nat → Int) (T : Int) (w : World) (h : Bk w g 73 (hsF W B T)) (hT : Tab w) : Calls Tryd.prog 50 #[.pointer (some ⟨g, 0, none⟩)] w (RetMix g W B T w) := by
  have HH := Lib.hid h
  have HT := Lib.hid hT
  have HG := Lib.hid h.lt
  clear h hT
  go_enter Tryd.func50, Tryd.ntmps50
  go_wp2_with fail
  generalize hw1 : w.alloc (.cells (arV (fun _ => vU32 0) 64) 118) = w1
  have HE1 : Hid (Ext w w1) := Lib.hid (by rw [← hw1]; exact (Ext.refl _).alloc _)
  have HB1 : Hid (Bk w1 w.heap.size 64 (fun _ => vU32 0)) := Lib.hid (by rw [← hw1]; exact Bk.new (by decide))
  clear hw1
  go_loopw [22] (fun i wr => ∃ k : Nat, k ≤ 16 ∧ i = iV (k : Int) ∧ Bk wr w.heap.size 64 (fun j => vU32 (m1 B k j)) ∧ Ext w wr) (fun i _ => 16 - (intOf i).toNat)
  case atStart => exact ⟨0, by omega, rfl, HB1.out, HE1.out⟩
  case round =>
    obtain ⟨k, hk, rfl, hB, hE⟩ := hrel
    have HBk := Lib.hid hB
    have HEk := Lib.hid hE
    clear hB hE
    by_cases hlt : k < 16
    · as_aux_lemma =>
      have q1 : (k : Int) < 16 := by omega
      have q2 : (0 : Int) ≤ 4 * (k : Int) := by omega
      have hh := HH.out.ext HEk.out
      have d0 := hh.byte (i := 4 * k) (by omega)
      have d1 : wr.cell? ⟨g, 8 + 4 * k + 1, none⟩ = some (vU8 (B (4 * k + 1))) := hh.byte (i := 4 * k + 1) (by omega)
      have d2 : wr.cell? ⟨g, 8 + 4 * k + 2, none⟩ = some (vU8 (B (4 * k + 2))) := hh.byte (i := 4 * k + 2) (by omega)
      have d3 : wr.cell? ⟨g, 8 + 4 * k + 3, none⟩ = some (vU8 (B (4 * k + 3))) := hh.byte (i := 4 * k + 3) (by omega)
      clear hh
      have sl := run_sl123 wr g 8 (4 * k) (4 * k + 4) 4 (64 - 4 * k) (by omega) (by omega) (by omega) (4 * (k : Int)) (4 * (k : Int) + 4) (by omega) (by omega) (by omega) rfl
      have c0 := HBk.out.cell (k := k) (by omega)
      have f0 := HBk.out.frozen k
      have q3 : (0 : Int) ≤ (k : Int) := by omega
      have q4 : (k : Int) < 64 := by omega
      go_wp2_with fail
      clear sl
      go_region
      go_wp2_with fail
      refine ⟨⟨k + 1, by omega, by go_num, ?_, ((HEk.out.set (Nat.le_refl _) _)).drew⟩, by simp [intOf]; omega⟩
      refine ((HBk.out.set k _).congr fun i _ => ?_).drew
      rw [u32_upd, m1, wordF]
    · obtain rfl : k = 16 := by omega
      have HM1 := HBk
      have HX1 := HEk
      clear HBk HEk
      obtain ⟨w2, hw2⟩ : ∃ w2, w2 = wr := ⟨_, rfl⟩
      rw [← hw2] at HM1 HX1 ⊢
      rw [show iV ((16 : Nat) : Int) = iV 16 from rfl]
      clear hw2
      go_wp2_with fail
      go_loopw [5] (fun i wr => ∃ k : Nat, k ≤ 48 ∧ i = iV ((16 + k : Nat) : Int) ∧ Bk wr w.heap.size 64 (fun j => vU32 (m2 (m1 B 16) k j)) ∧ Ext w wr) (fun i _ => 64 - (intOf i).toNat)
      case atStart => exact ⟨0, by omega, rfl, HM1.out, HX1.out⟩
      case round =>
        obtain ⟨k, hk, rfl, hB, hE⟩ := hrel
        have HBk := Lib.hid hB
        have HEk := Lib.hid hE
        clear hB hE
        by_cases hlt : k < 48
        · as_aux_lemma =>
          obtain ⟨t, ht⟩ : ∃ t, 16 + k = t := ⟨_, rfl⟩
          have HT2 : Hid (16 ≤ t ∧ t < 64) := Lib.hid (by omega)
          have q1 : (t : Int) < 64 := by omega
          have q0 : (0 : Int) ≤ (t : Int) := by omega
          rw [ht]
          obtain ⟨a15, h15⟩ : ∃ a, a + 15 = t := ⟨t - 15, by omega⟩
          obtain ⟨a2, h2⟩ : ∃ a, a + 2 = t := ⟨t - 2, by omega⟩
          obtain ⟨a16, h16⟩ : ∃ a, a + 16 = t := ⟨t - 16, by omega⟩
          obtain ⟨a7, h7⟩ : ∃ a, a + 7 = t := ⟨t - 7, by omega⟩
          have b15 : IntKind.i64.wrap ((t : Int) - 15) = (a15 : Int) ∧ (0 : Int) ≤ (a15 : Int) ∧ (a15 : Int) < 64 := hsub64 (n := 15) h15 q1
          have b2 : IntKind.i64.wrap ((t : Int) - 2) = (a2 : Int) ∧ (0 : Int) ≤ (a2 : Int) ∧ (a2 : Int) < 64 := hsub64 (n := 2) h2 q1
          have b16 : IntKind.i64.wrap ((t : Int) - 16) = (a16 : Int) ∧ (0 : Int) ≤ (a16 : Int) ∧ (a16 : Int) < 64 := hsub64 (n := 16) h16 q1
          have b7 : IntKind.i64.wrap ((t : Int) - 7) = (a7 : Int) ∧ (0 : Int) ≤ (a7 : Int) ∧ (a7 : Int) < 64 := hsub64 (n := 7) h7 q1
          have c15 := HBk.out.cell (k := a15) (by omega)
          have c2 := HBk.out.cell (k := a2) (by omega)
          have L16 : a16 < 64 := by omega
          have L7 : a7 < 64 := by omega
          have LT : t < 64 := by omega
          obtain ⟨b15, i15, j15⟩ := b15
          obtain ⟨b2, i2, j2⟩ := b2
          obtain ⟨b16, i16, j16⟩ := b16
          obtain ⟨b7, i7, j7⟩ := b7
          have H15 := Lib.hid h15
          have H2 := Lib.hid h2
          have H16 := Lib.hid h16
          have H7 := Lib.hid h7
          have HTT := Lib.hid ht
          clear ht h15 h2 h16 h7
          go_wp2_with fail
          go_region
          generalize hwd : wr.drew = wd
          have HBd : Hid (Bk wd w.heap.size 64 (fun j => vU32 (m2 (m1 B 16) k j))) := Lib.hid (by rw [← hwd]; exact HBk.out.drew)
          have HEd : Hid (Ext w wd) := Lib.hid (by rw [← hwd]; exact HEk.out.drew)
          clear hwd c15 c2
          have c16 := HBd.out.cell (k := a16) L16
          have c7 := HBd.out.cell (k := a7) L7
          have ct := HBd.out.cell (k := t) LT
          have ft := HBd.out.frozen t
          obtain ⟨x15, hx15⟩ : ∃ x, m2 (m1 B 16) k a15 = x := ⟨_, rfl⟩
          obtain ⟨x2, hx2⟩ : ∃ x, m2 (m1 B 16) k a2 = x := ⟨_, rfl⟩
          obtain ⟨x16, hx16⟩ : ∃ x, m2 (m1 B 16) k a16 = x := ⟨_, rfl⟩
          obtain ⟨x7, hx7⟩ : ∃ x, m2 (m1 B 16) k a7 = x := ⟨_, rfl⟩
          rw [hx16] at c16
          rw [hx7] at c7
          rw [hx15, hx2]
          go_wp2_with fail
          refine (rot_7 _ _).mono ?_
          rintro _ _ ⟨rfl, rfl⟩
          go_wp2_with fail
          refine (rot_18 _ _).mono ?_
          rintro _ _ ⟨rfl, rfl⟩
          go_wp2_with fail
          refine (rot_17 _ _).mono ?_
          rintro _ _ ⟨rfl, rfl⟩
          go_wp2_with fail
          refine (rot_19 _ _).mono ?_
          rintro _ _ ⟨rfl, rfl⟩
          go_wp2_with fail
          go_region
          go_wp2_with fail
          refine ⟨⟨k + 1, by omega, by rw [← HTT.out]; go_num, ?_, (HEd.out.set (Nat.le_refl _) _).drew⟩, by have := HT2.out; simp [intOf]; omega⟩
          refine ((HBd.out.set t _).congr fun i _ => ?_).drew
          have e1 : t - 15 = a15 := by have := H15.out; omega
          have e2 : t - 2 = a2 := by have := H2.out; omega
          have e3 : t - 16 = a16 := by have := H16.out; omega
          have e4 : t - 7 = a7 := by have := H7.out; omega
          rw [u32_upd, m2, HTT.out, schF, e1, e2, e3, e4, hx15, hx2, hx16, hx7]
        · obtain rfl : k = 48 := by omega
          obtain ⟨F, hF⟩ : ∃ F, m2 (m1 B 16) 48 = F := ⟨_, rfl⟩
          rw [hF] at HBk
          have HF := Lib.hid hF
          obtain ⟨w3, hw3⟩ : ∃ w3, w3 = wr := ⟨_, rfl⟩
          rw [← hw3] at HBk HEk ⊢
          rw [show iV ((16 + 48 : Nat) : Int) = iV 64 from rfl]
          have HM2 := HBk
          have HX2 := HEk
          have l1 := run_words (HH.out.ext HX2.out)
          have HP := run_put8 (h := W) (Bk.new (w := w3) (n := 8) (T := 97) (f := fun _ => vU32 0) (by decide))
          clear hw3 hF HBk HEk HM1 HX1
          go_wp2_with fail
          generalize hw4 : (w3.alloc (.cells (arV (fun _ => vU32 0) 8) 97)).setCells w3.heap.size 0 (arV (fun k => vU32 (W k)) 8).toList = w4
          have HB4 : Hid (Bk w4 w3.heap.size 8 (fun j => vU32 (W j))) := Lib.hid (by rw [← hw4]; exact (Bk.new (f := fun _ => vU32 0) (by decide)).putAll)
          have HE4 : Hid (Ext w3 w4) := Lib.hid (by rw [← hw4]; exact Ext.setCells (Nat.le_refl _) _ _ ((Ext.refl _).alloc _))
          clear hw4 l1 HP
          go_loopw [106] (fun i wr => ∃ k : Nat, k ≤ 64 ∧ i = iV (k : Int) ∧ Bk wr w3.heap.size 8 (fun j => vU32 (m3 F W k j)) ∧ Ext w3 wr) (fun i _ => 64 - (intOf i).toNat)
          case atStart => exact ⟨0, by omega, rfl, HB4.out, HE4.out⟩
          case round =>
            obtain ⟨k, hk, rfl, hB, hE⟩ := hrel
            have HBk := Lib.hid hB
            have HEk := Lib.hid hE
            clear hB hE
            by_cases hlt : k < 64
            · obtain ⟨s, hs⟩ : ∃ s, m3 F W k = s := ⟨_, rfl⟩
              have HSS := Lib.hid hs
              rw [hs] at HBk
              clear hs
              have q0 : (0 : Int) ≤ (k : Int) := by omega
              have q1 : (k : Int) < 64 := by omega
              have c0 : wr.cell? ⟨w3.heap.size, 0, none⟩ = some (vU32 (s 0)) := HBk.out.cell (by decide)
              have c1 : wr.cell? ⟨w3.heap.size, 1, none⟩ = some (vU32 (s 1)) := HBk.out.cell (by decide)
              have c2 : wr.cell? ⟨w3.heap.size, 2, none⟩ = some (vU32 (s 2)) := HBk.out.cell (by decide)
              have c4 : wr.cell? ⟨w3.heap.size, 4, none⟩ = some (vU32 (s 4)) := HBk.out.cell (by decide)
              have c5 : wr.cell? ⟨w3.heap.size, 5, none⟩ = some (vU32 (s 5)) := HBk.out.cell (by decide)
              have c6 : wr.cell? ⟨w3.heap.size, 6, none⟩ = some (vU32 (s 6)) := HBk.out.cell (by decide)
              go_wp2_with fail
              go_quiet (fail)
              clear c0 c1 c2 c4 c5 c6
              generalize hwd : wr.drewN nq = wd
              have HBd : Hid (Bk wd w3.heap.size 8 (fun j => vU32 (s j))) := Lib.hid (by rw [← hwd]; exact HBk.out.kept rfl)
              have HEd : Hid (Ext w3 wd) := Lib.hid (by rw [← hwd]; exact HEk.out.drewN _)
              clear hwd HBk HEk
              have c7 : wd.cell? ⟨w3.heap.size, 7, none⟩ = some (vU32 (s 7)) := HBd.out.cell (by decide)
              have ck : wd.cell? ⟨0, k, none⟩ = some (vU32 (shaK k)) := (HT.out.ext (HX2.out.trans HEd.out)) k hlt
              have cw : wd.cell? ⟨w.heap.size, k, none⟩ = some (vU32 (F k)) := (HM2.out.ext HEd.out).cell hlt
              go_wp2_with fail
              go_region_held3 (fun w' => Ext wd w' ∧ w'.cell? ⟨w3.heap.size, 7, none⟩ = some (vU32 (s 7)) ∧ w'.cell? ⟨0, k, none⟩ = some (vU32 (shaK k)) ∧ w'.cell? ⟨w.heap.size, k, none⟩ = some (vU32 (F k)))
                ((refine Ext.c3 ?_ c7 ck cw; repeat (first | assumption | exact Ext.refl _ | apply Ext.alloc | apply Ext.drew | apply Ext.drewN)))
                ((go_at_call 66; (first | with_reducible refine (rot_6 _ _).mono ?_ | with_reducible refine (rot_11 _ _).mono ?_ | with_reducible refine (rot_25 _ _).mono ?_); rintro _ _ ⟨rfl, rfl⟩))
              generalize he1 : IntKind.u32.wrap (_ + F k) = x1
              have HX := Lib.hid he1
              generalize hwe : wd.drew = we
              have HBe : Hid (Bk we w3.heap.size 8 (fun j => vU32 (s j))) := Lib.hid (by rw [← hwe]; exact HBd.out.drew)
              have HEe : Hid (Ext w3 we) := Lib.hid (by rw [← hwe]; exact HEd.out.drew)
              clear he1 hwe c7 ck cw HBd HEd
              obtain ⟨y0, hy0⟩ : ∃ y, s 0 = y := ⟨_, rfl⟩
              obtain ⟨y1, hy1⟩ : ∃ y, s 1 = y := ⟨_, rfl⟩
              obtain ⟨y2, hy2⟩ : ∃ y, s 2 = y := ⟨_, rfl⟩
              rw [hy0, hy1, hy2]
              have HY0 := Lib.hid hy0
              have HY1 := Lib.hid hy1
              have HY2 := Lib.hid hy2
              clear hy0 hy1 hy2
              go_wp2_with fail
              refine (rot_2 _ _).mono ?_
              rintro _ _ ⟨rfl, rfl⟩
              go_wp2_with fail
              refine (rot_13 _ _).mono ?_
              rintro _ _ ⟨rfl, rfl⟩
              go_wp2_with fail
              refine (rot_22 _ _).mono ?_
              rintro _ _ ⟨rfl, rfl⟩
              have c3 : we.cell? ⟨w3.heap.size, 3, none⟩ = some (vU32 (s 3)) := HBe.out.cell (by decide)
              have hz : (blkOf we w3.heap.size).size = 8 := by rw [HBe.out.2, arV_size]
              go_wp2_with fail
              have e0 : (x1 + (bits BinOp.xor IntKind.u32 (bits BinOp.xor IntKind.u32 (rotF 2 y0) (rotF 13 y0)) (rotF 22 y0) + bits BinOp.xor IntKind.u32 (bits BinOp.xor IntKind.u32 (bits BinOp.and IntKind.u32 y0 y1) (bits BinOp.and IntKind.u32 y0 y2)) (bits BinOp.and IntKind.u32 y1 y2))) % 4294967296 = rndF s (shaK k) (F k) 0 := by
                rw [rnd0]
                unfold t1F t2F
                rw [HX.out, HY0.out, HY1.out, HY2.out]
              have e4 : (s 3 + x1) % 4294967296 = rndF s (shaK k) (F k) 4 := by
                rw [rnd4]
                unfold t1F
                rw [HX.out]
              refine ⟨⟨k + 1, by omega, by go_num, ?_, HEe.out.setCells (Nat.le_refl _) _ _⟩, by simp [intOf]; omega⟩
              rw [← HY0.out, ← HY1.out, ← HY2.out] at e0 ⊢
              rw [show m3 F W (k + 1) = rndF (m3 F W k) (shaK k) (F k) from rfl, HSS.out]
              exact rnd_put HBe.out e0 e4
            · as_aux_lemma =>
              obtain rfl : k = 64 := by omega
              obtain ⟨S, hS⟩ : ∃ S, m3 F W 64 = S := ⟨_, rfl⟩
              rw [hS] at HBk
              have HS := Lib.hid hS
              obtain ⟨w5, hw5⟩ : ∃ w5, w5 = wr := ⟨_, rfl⟩
              rw [← hw5] at HBk HEk ⊢
              have HM3 := HBk
              have HX3 : Hid (Ext w w5) := Lib.hid (HX2.out.trans HEk.out)
              have l1 := run_eight HM3.out
              clear hw5 hS HBk HEk HB4 HE4
              rw [show iV ((64 : Nat) : Int) = iV 64 from rfl]
              go_wp2_with fail
              clear l1
              go_loopw [185] (fun i wr => ∃ k : Nat, k ≤ 8 ∧ i = iV (k : Int) ∧ Bk wr g 73 (hsF (addF W S k) B T) ∧ Exg g w wr) (fun i _ => 8 - (intOf i).toNat)
              case atStart => exact ⟨0, by omega, rfl, (HH.out.ext HX3.out).congr (fun i _ => rfl), HX3.out.exg g⟩
              case round =>
                obtain ⟨k, hk, rfl, hB, hE⟩ := hrel
                have HBk := Lib.hid hB
                have HEk := Lib.hid hE
                clear hB hE
                by_cases hlt : k < 8
                · have q0 : (0 : Int) ≤ (k : Int) := by omega
                  have q1 : (k : Int) < 8 := by omega
                  have j1 := run_in122 (w := wr) (f := S) hlt
                  have c1 : wr.cell? ⟨g, k, none⟩ = some (vU32 (addF W S k k)) := HBk.out.word hlt
                  have f1 := HBk.out.frozen k
                  go_wp2_with fail
                  clear j1
                  go_region
                  go_wp2_with fail
                  refine ⟨⟨k + 1, by omega, by go_num, ?_, ((HEk.out.set (Or.inl rfl) _).drew)⟩, by simp [intOf]; omega⟩
                  refine ((HBk.out.set k _).congr fun i _ => ?_).drew
                  exact addF_step hlt i
                · obtain rfl : k = 8 := by omega
                  go_wp2_with fail
                  go_end0
                  refine ⟨rfl, HBk.out.congr fun i hi => ?_, HEk.out⟩
                  unfold hsF addF mixF
                  by_cases h2 : i < 8
                  · rw [if_pos h2, if_pos h2, if_pos h2, HF.out, HS.out]
                  · rw [if_neg h2, if_neg h2]
end Go.Proofs.YtjeclmmikjpinaaDoor
