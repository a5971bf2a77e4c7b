/- Words for the reference's stamps: values of 512 cells that are not written out, how they are loaded, stored, made. The walks over the reference's functions that read: owned, bounds, Leq. The walks over the reference's functions that make a stamp: set, Seed, Peek, Join. The walk over the reference's Join. -/
import Derived.Test.YthnmhdabdiennaaDoorK17
import Derived.Test.YthnmhdabdiennaaDoorM6
import Derived.Laws.Rows
import Derived.Laws.CopyRow
import Derived.Laws.ResultCell
namespace Go.Proofs.YthnmhdabdiennaaDoor
open Go.RowKit
/-- The cells of a stamp of the reference: what is owned and what was seen at 256 points. -/
def rvl (o : Nat → Bool) (s : Nat → Nat) : List Value := (List.range 256).map (fun k => Value.bool (o k)) ++ (List.range 256).map (fun k => Value.int .u64 ((s k : Nat) : Int))
@[irreducible] def RV (o : Nat → Bool) (s : Nat → Nat) : Array Value := (rvl o s).toArray
section
variable {o o' : Nat → Bool} {s s' : Nat → Nat}
theorem RV_size (o : Nat → Bool) (s : Nat → Nat) : (RV o s).size = 512 := by unfold RV rvl; simp
theorem RV_own {k : Nat} (h : k < 256) : (RV o s)[k]? = some (.bool (o k)) := by
  unfold RV rvl
  rw [List.getElem?_toArray, List.getElem?_append_left (by simpa using h)]
  simp [h]
theorem RV_seen {k : Nat} (h : k < 256) : (RV o s)[256 + k]? = some (.int .u64 ((s k : Nat) : Int)) := by
  unfold RV rvl
  rw [List.getElem?_toArray, List.getElem?_append_right (by simp)]
  simp [h]
theorem RV_ext {cs : Array Value} (hz : cs.size = 512) (ho : ∀ k, k < 256 → cs[k]? = some (.bool (o k))) (hs : ∀ k, k < 256 → cs[256 + k]? = some (.int .u64 ((s k : Nat) : Int))) : cs = RV o s := by
  apply Array.ext_getElem?
  intro i
  by_cases h : i < 256
  · rw [ho i h, RV_own h]
  · by_cases h' : i < 512
    · have e : i = 256 + (i - 256) := by omega
      rw [e, hs _ (by omega), RV_seen (by omega)]
    · rw [Array.getElem?_eq_none (by omega), Array.getElem?_eq_none (by rw [RV_size]; omega)]
theorem RV_congr (ho : ∀ k, k < 256 → o k = o' k) (hs : ∀ k, k < 256 → s k = s' k) : RV o s = RV o' s' :=
  RV_ext (RV_size _ _) (fun k h => by rw [RV_own h, ho k h]) (fun k h => by rw [RV_seen h, hs k h])
theorem RV_setOwn {k : Nat} {b : Bool} (h : k < 256) : (RV o s).setIfInBounds k (.bool b) = RV (fun j => if j = k then b else o j) s := by
  refine RV_ext (by simp [RV_size]) (fun j hj => ?_) (fun j hj => ?_)
  · rw [Array.getElem?_setIfInBounds]
    by_cases e : k = j
    · subst e; simp [RV_size]; omega
    · rw [if_neg e, RV_own hj, if_neg (fun h => e h.symm)]
  · rw [Array.getElem?_setIfInBounds, if_neg (by omega), RV_seen hj]
theorem RV_setSeen {k v : Nat} (h : k < 256) : (RV o s).setIfInBounds (256 + k) (.int .u64 ((v : Nat) : Int)) = RV o (fun j => if j = k then v else s j) := by
  refine RV_ext (by simp [RV_size]) (fun j hj => ?_) (fun j hj => ?_)
  · rw [Array.getElem?_setIfInBounds, if_neg (by omega), RV_own hj]
  · rw [Array.getElem?_setIfInBounds]
    by_cases e : k = j
    · subst e; simp [RV_size]; omega
    · rw [if_neg (by omega), RV_seen hj, if_neg (fun h => e h.symm)]
theorem rvl_one : ∀ v ∈ rvl o s, v.oneCell' = true := by
  intro v hv
  unfold rvl at hv
  simp only [List.mem_append, List.mem_map] at hv
  rcases hv with ⟨k, _, rfl⟩ | ⟨k, _, rfl⟩ <;> rfl
theorem RV_one (o : Nat → Bool) (s : Nat → Nat) : (RV o s).all (·.oneCell') = true := by
  unfold RV
  rw [Array.all_eq_true_iff_forall_mem]
  intro v hv
  exact rvl_one v (by simpa using hv)
theorem RV_zero : RV (fun _ => false) (fun _ => 0) = Array.replicate 256 (.bool false) ++ Array.replicate 256 (.int .u64 0) := by
  symm
  refine RV_ext (by simp) (fun k h => ?_) (fun k h => ?_)
  · rw [Array.getElem?_append_left (by simpa using h)]; simp [h]
  · rw [Array.getElem?_append_right (by simp)]; simp [h]
end
/-- The cells of a block. -/
def blkOf (w : World) (g : Nat) : Array Value := match w.heap[g]? with
  | some (.cells cs _ (0, 0)) => cs
  | _ => #[]
theorem blkOf_of {w : World} {g T : Nat} {cs : Array Value} (h : w.heap[g]? = some (.cells cs T (0, 0))) : blkOf w g = cs := by simp [blkOf, h]
theorem of_blkOf {w : World} {g : Nat} (h : (blkOf w g).size = 512) : ∃ T, w.heap[g]? = some (.cells (blkOf w g) T (0, 0)) := by
  unfold blkOf at h ⊢
  split at h
  · rename_i cs T e; exact ⟨T, by rw [e]⟩
  · simp at h
theorem blkOf_ext {w w' : World} (h : Ext w w') {g : Nat} (hg : g < w.heap.size) : blkOf w' g = blkOf w g := by unfold blkOf; rw [h.block g hg]
theorem blkOf_drew (w : World) (g : Nat) : blkOf w.drew g = blkOf w g := rfl
theorem blkOf_setRow_same {w : World} {g : Nat} {cs : Array Value} (h : (blkOf w g).size = 512) : blkOf (w.setRow g cs) g = cs := by
  obtain ⟨T, e⟩ := of_blkOf h
  exact blkOf_of (setRow_heap w g _ cs T _ e)
theorem blkOf_setRow_other {w : World} {g g' : Nat} {cs : Array Value} (h : g' ≠ g) : blkOf (w.setRow g cs) g' = blkOf w g' := by unfold blkOf; rw [setRow_other w g g' cs h]
theorem Ext.setRow {w w' : World} (h : Ext w w') {g : Nat} (hg : w.heap.size ≤ g) (cs : Array Value) : Ext w (w'.setRow g cs) :=
  ⟨h.os, h.tape, h.output, by rw [setRow_size]; exact h.size, fun k hk => by rw [setRow_other _ _ _ _ (by omega)]; exact h.block k hk⟩
theorem blkOf_new {w : World} {cs : Array Value} {T : Nat} : blkOf (w.alloc (.cells cs T)) w.heap.size = cs := blkOf_of (heap_alloc_new w _)
theorem blkOf_cell {w : World} {g k : Nat} {v : Value} (h : (blkOf w g)[k]? = some v) : w.cell? ⟨g, k, none⟩ = some v := by
  unfold blkOf at h
  split at h
  · rename_i cs T e; rw [cell_of_row w g k cs T (0, 0) e]; exact h
  · simp at h
theorem blkOf_frozen {w : World} {g k : Nat} (h : 0 < (blkOf w g).size) : w.frozen? ⟨g, k, none⟩ = false := by
  unfold blkOf at h
  split at h
  · rename_i cs T e; simp [World.frozen?, e]
  · simp at h
theorem blkOf_set {w : World} {g k : Nat} {v : Value} (h : 0 < (blkOf w g).size) : blkOf (w.setCell ⟨g, k, none⟩ v) g = (blkOf w g).setIfInBounds k v := by
  have h' := h
  unfold blkOf at h
  split at h
  · rename_i cs T e
    rw [blkOf_of e]
    apply blkOf_of (T := T)
    simp [World.setCell, Array.getElem?_modify, e]
  · simp at h
theorem blkOf_far {w : World} {g : Nat} {a : Addr} {v : Value} (h : a.block ≠ g) : blkOf (w.setCell a v) g = blkOf w g := by
  unfold blkOf; rw [Below.heap_setCell w a v g (Ne.symm h)]
theorem blkOf_lt {w : World} {g : Nat} (h : 0 < (blkOf w g).size) : g < w.heap.size := by
  rcases Nat.lt_or_ge g w.heap.size with h' | h'
  · exact h'
  · unfold blkOf at h; rw [Array.getElem?_eq_none h'] at h; simp at h
/-- Operations on whole stamps, not run. -/
@[irreducible] def ldS (t : TypeId) (v : Value) : Sem Value := Instr.loadAt t v
@[irreducible] def stS (t : TypeId) (p v : Value) : Sem Unit := Instr.storeAt t p v
@[irreducible] def alS (t : TypeId) (h : Bool) (old : Value) : Sem Value := Instr.alloc t h old
@[irreducible] def buS (t : TypeId) (ps : Array (Nat × Value)) : Sem Value := Instr.build t ps
@[irreducible] def bsS (t : TypeId) (n : Nat) (ps : Array (Nat × Value)) : Sem Value := Instr.buildSlice t n ps
theorem ld36 (v : Value) : Instr.loadAt 36 v = ldS 36 v := by unfold ldS; rfl
theorem ld34 (v : Value) : Instr.loadAt 34 v = ldS 34 v := by unfold ldS; rfl
theorem ld38 (v : Value) : Instr.loadAt 38 v = ldS 38 v := by unfold ldS; rfl
theorem st36 (p v : Value) : Instr.storeAt 36 p v = stS 36 p v := by unfold stS; rfl
theorem st38 (p v : Value) : Instr.storeAt 38 p v = stS 38 p v := by unfold stS; rfl
theorem st32 (p v : Value) : Instr.storeAt 32 p v = stS 32 p v := by unfold stS; rfl
theorem al36 (h : Bool) (v : Value) : Instr.alloc 36 h v = alS 36 h v := by unfold alS; rfl
theorem al38 (h : Bool) (v : Value) : Instr.alloc 38 h v = alS 38 h v := by unfold alS; rfl
theorem bu36 (ps : Array (Nat × Value)) : Instr.build 36 ps = buS 36 ps := by unfold buS; rfl
theorem bu32 (ps : Array (Nat × Value)) : Instr.build 32 ps = buS 32 ps := by unfold buS; rfl
theorem bu38 (ps : Array (Nat × Value)) : Instr.build 38 ps = buS 38 ps := by unfold buS; rfl
theorem bs23 (n : Nat) (ps : Array (Nat × Value)) : Instr.buildSlice 23 n ps = bsS 23 n ps := by unfold bsS; rfl
theorem Tryd.size36 : (Tryd.prog.info? 36).map (·.size) = some 512 := by kernel_rfl
theorem Tryd.size38 : (Tryd.prog.info? 38).map (·.size) = some 514 := by kernel_rfl
theorem Tryd.size34 : (Tryd.prog.info? 34).map (·.size) = some 256 := by kernel_rfl
theorem Tryd.size32 : (Tryd.prog.info? 32).map (·.size) = some 256 := by kernel_rfl
theorem Tryd.zero36 : (Tryd.prog.info? 36).map (·.zero) = some (some (.agg (Array.replicate 256 (.bool false) ++ Array.replicate 256 (.int .u64 0)))) := by kernel_rfl
theorem run_ld36 {w : World} {g : Nat} (h : (blkOf w g).size = 512) : (ldS 36 (.pointer (some ⟨g, 0, none⟩))).run Tryd.prog w = .ok (.agg (blkOf w g)) w := by
  obtain ⟨T, e⟩ := of_blkOf h
  unfold ldS Instr.loadAt Instr.sureAddr
  rw [Sem.run_bind, Sem.run_pure, Result.andThen_ok]
  exact run_loadVar_row w g T 36 _ _ _ e Tryd.underlying36 rfl (by rw [h]; exact Tryd.size36)
theorem run_st36 {w : World} {g : Nat} {o : Nat → Bool} {s : Nat → Nat} (h : (blkOf w g).size = 512) : (stS 36 (.pointer (some ⟨g, 0, none⟩)) (.agg (RV o s))).run Tryd.prog w = .ok () (w.setRow g (RV o s)) := by
  obtain ⟨T, e⟩ := of_blkOf h
  unfold stS Instr.storeAt Instr.sureAddr
  rw [Sem.run_bind, Sem.run_pure, Result.andThen_ok]
  exact run_storeVar_row w g T 36 _ _ e (by rw [RV_size]; exact Tryd.size36) (by rw [h, RV_size]) (RV_one o s)
abbrev RV0 : Array Value := RV (fun _ => false) (fun _ => 0)
theorem run_zero36 (w : World) : (zeroValue 36).run Tryd.prog w = .ok (.agg RV0) w := by
  have h := Tryd.zero36
  unfold zeroValue typeInfo
  cases hq : Tryd.prog.info? 36 with
  | none => rw [hq] at h; cases h
  | some i =>
    rw [hq] at h
    have hz : i.zero = some (.agg RV0) := by show i.zero = some (.agg (RV (fun _ => false) (fun _ => 0))); rw [RV_zero]; simpa using h
    simp [hq, hz]
theorem run_al36 (w : World) (hp : Bool) (old : Value) (h : hp = true ∨ old = undef) : (alS 36 hp old).run Tryd.prog w = .ok (.pointer (some ⟨w.heap.size, 0, none⟩)) (w.alloc (.cells RV0 36)) := by
  unfold alS Instr.alloc
  rw [Sem.run_bind, run_zero36, Result.andThen_ok]
  rcases h with rfl | rfl
  · go_simp
  · cases hp
    · unfold undef; go_simp
    · go_simp
end Go.Proofs.YthnmhdabdiennaaDoor
namespace Go.Proofs.YthnmhdabdiennaaDoor
open Go.RowKit
attribute [local go_sem ↓] Go.wp_at_zero Go.wp_at_succ
attribute [local go_sem ↓] ld36 ld34 ld38 st36 st38 st32 al36 al38 bu36 bu32 bu38 bs23
attribute [local go_sem] run_ld36 run_st36 run_al36 blkOf_drew blkOf_setRow_same blkOf_setRow_other RV_size
/-- A stamp in a new block, under a letter for the world. -/
theorem letterR {w w0 : World} {cs : Array Value} {T : Nat} (h : w.alloc (.cells cs T) = w0) : Ext w w0 ∧ blkOf w0 w.heap.size = cs ∧ w.heap.size < w0.heap.size := by
  subst h
  exact ⟨by simp, blkOf_new, by simp⟩
theorem seenAt {w : World} {g k : Nat} {o : Nat → Bool} {s : Nat → Nat} (h : blkOf w g = RV o s) (hk : k < 256) : w.cell? ⟨g, 256 + k, none⟩ = some (.int .u64 ((s k : Nat) : Int)) := blkOf_cell (by rw [h]; exact RV_seen hk)
theorem ownAt {w : World} {g k : Nat} {o : Nat → Bool} {s : Nat → Nat} (h : blkOf w g = RV o s) (hk : k < 256) : w.cell? ⟨g, k, none⟩ = some (.bool (o k)) := blkOf_cell (by rw [h]; exact RV_own hk)
set_option maxHeartbeats 1000000 in
theorem owned_any (o : Nat → Bool) (s : Nat → Nat) (low n : Nat) (w : World) (h : low + n ≤ 256) : Calls Tryd.prog 67 #[.agg (RV o s), .int .i64 (low : Int), .int .i64 (n : Int)] w (RetN (cnt o low n) w) := by
  go_enter Tryd.func67, Tryd.ntmps67
  go_wp2_with fail
  generalize hW : w.alloc (.cells (RV o s) 36) = w0
  obtain ⟨E, hb, hg⟩ := letterR hW
  have HB := Lib.hid hb
  clear hW hb
  go_loop [7, 8] (fun k i => ∃ j : Nat, j ≤ n ∧ i = .int .i64 ((low + j : Nat) : Int) ∧ k = .int .i64 ((cnt o low j : Nat) : Int)) (fun _ i => low + n - (intOf i).toNat)
  case atStart => exact ⟨0, Nat.zero_le _, rfl, rfl⟩
  case round =>
    obtain ⟨j, hj, rfl, rfl⟩ := hrel
    have hcn := cnt_le o low j
    by_cases hlt : j < n
    · have hc := ownAt HB.out (show low + j < 256 by omega)
      have HC : Hid (cnt o low (j + 1) = cnt o low j + if o (low + j) then 1 else 0) := rfl
      cases ho : o (low + j)
      all_goals
        rw [ho] at hc HC
        have HO := Lib.hid ho
        clear ho
        go_wp2
        go_round
        case rel => exact ⟨j + 1, by omega, by go_num, by rw [HC.out]; go_num⟩
        case measure => simp [intOf]; omega
    · obtain rfl : j = n := by omega
      go_wp2
      go_ret
      exact ⟨rfl, E⟩
theorem lst_bound (s : Nat → Nat) (low n B : Nat) (h : ∀ k, k < 256 → s k ≤ B) (h' : low + n ≤ 256) (h0 : low < 256) : lst s low n ≤ B ∧ mst s low n ≤ B := by
  induction n with
  | zero => exact ⟨h low h0, h low h0⟩
  | succ n ih =>
    have := ih (by omega)
    have := h (low + n) (by omega)
    simp only [lst, mst]; omega
/-- Two stamps in new blocks, under a letter for the world. -/
theorem letterRR {w w0 : World} {cs cs' : Array Value} {T T' : Nat} (h : (w.alloc (.cells cs T)).alloc (.cells cs' T') = w0) : Ext w w0 ∧ blkOf w0 w.heap.size = cs ∧ blkOf w0 (w.heap.size + 1) = cs' ∧ w.heap.size + 1 < w0.heap.size := by
  subst h
  refine ⟨((Ext.refl w).alloc _).alloc _, ?_, ?_, by simp⟩
  · rw [blkOf_ext ((Ext.refl _).alloc _) (by simp)]; exact blkOf_new
  · have := blkOf_new (w := w.alloc (.cells cs T)) (cs := cs') (T := T')
    simpa using this
def RetNN (a b : Nat) (w : World) (e : Ending) (w' : World) : Prop := e = .returned (.tuple #[.int .u64 (a : Int), .int .u64 (b : Int)]) ∧ Ext w w'
set_option maxHeartbeats 2000000 in
theorem bounds_any (o : Nat → Bool) (s : Nat → Nat) (low n : Nat) (w : World) (h : low + n ≤ 256) (h0 : 0 < n) (hs : ∀ k, k < 256 → s k ≤ 9223372036854775807) : Calls Tryd.prog 68 #[.agg (RV o s), .int .i64 (low : Int), .int .i64 (n : Int)] w (RetNN (lst s low n) (mst s low n) w) := by
  have HS := Lib.hid hs
  clear hs
  go_enter Tryd.func68, Tryd.ntmps68
  go_wp2_with fail
  generalize hW : w.alloc (.cells (RV o s) 36) = w0
  obtain ⟨E, hb, hg⟩ := letterR hW
  have HB := Lib.hid hb
  clear hW hb
  have hc := seenAt HB.out (show low < 256 by omega)
  have q1 : (0 : Int) ≤ (low : Int) := Int.natCast_nonneg _
  have q2 : (low : Int) < 256 := by omega
  go_quiet (fail)
  clear q1 q2 hc
  go_wp2_with fail
  generalize hW : w0.drewN nq = w1
  obtain ⟨E1, hb1, -⟩ := letter0 hW
  have HB1 : Hid (blkOf w1 w.heap.size = RV o s) := Lib.hid (by rw [← hW]; exact HB.out)
  clear hW hb1
  have B0 := HS.out low (by omega)
  go_loopw [8, 9, 10] (fun a b i wr => ∃ j : Nat, j ≤ n ∧ i = .int .i64 ((low + j : Nat) : Int) ∧ a = .int .u64 ((lst s low j : Nat) : Int) ∧ b = .int .u64 ((mst s low j : Nat) : Int) ∧ Ext w1 wr) (fun _ _ i _ => low + n - (intOf i).toNat)
  case atStart => exact ⟨0, Nat.zero_le _, rfl, rfl, rfl, Ext.refl _⟩
  case round =>
    obtain ⟨j, hj, rfl, rfl, rfl, hE⟩ := hrel
    obtain ⟨b1, b2⟩ := lst_bound s low j _ HS.out (by omega) (by omega)
    have HE := Lib.hid hE
    clear hE
    by_cases hlt : j < n
    · have HBr : blkOf wr w.heap.size = RV o s := by rw [blkOf_ext HE.out (by have := E1.size; omega)]; exact HB1.out
      have hc := seenAt HBr (show low + j < 256 by omega)
      have B1 := HS.out (low + j) (by omega)
      have HL : Hid (lst s low (j + 1) = min (lst s low j) (s (low + j))) := rfl
      have HM : Hid (mst s low (j + 1) = max (mst s low j) (s (low + j))) := rfl
      clear HBr
      generalize lst s low j = L at *
      generalize mst s low j = M at *
      generalize s (low + j) = x at *
      have q1 : (0 : Int) ≤ ((low + j : Nat) : Int) := Int.natCast_nonneg _
      have q2 : ((low + j : Nat) : Int) < 256 := by omega
      go_wp2_with fail
      go_quiet (fail)
      go_wp2_with fail
      refine ⟨⟨j + 1, by omega, by go_num, ?_, ?_, HE.out.drewN _⟩, by simp [intOf]; omega⟩
      · rw [HL.out]; exact congrArg _ (by split <;> omega)
      · rw [HM.out]; exact congrArg _ (by split <;> omega)
    · obtain rfl : j = n := by omega
      go_wp2_with fail
      go_ret2
      exact ⟨rfl, (E.trans E1).trans HE.out⟩
/-- What both have seen, compared at every point. -/
def leqR (s s' : Nat → Nat) (n : Nat) : Bool := decide (∀ k, k < n → s k ≤ s' k)
set_option maxHeartbeats 2000000 in
theorem rleq_any (o o' : Nat → Bool) (s s' : Nat → Nat) (w : World) (hs : ∀ k, k < 256 → s k ≤ 9223372036854775807) (hs' : ∀ k, k < 256 → s' k ≤ 9223372036854775807) : Calls Tryd.prog 21 #[.agg (RV o s), .agg (RV o' s')] w (RetB (leqR s s' 256) w) := by
  have HS := Lib.hid hs
  have HS' := Lib.hid hs'
  clear hs hs'
  go_enter Tryd.func21, Tryd.ntmps21
  go_wp2_with fail
  generalize hW : (w.alloc (.cells (RV o s) 36)).alloc (.cells (RV o' s') 36) = w0
  obtain ⟨E, hb, hb', hg⟩ := letterRR hW
  have HB := Lib.hid hb
  have HB' := Lib.hid hb'
  clear hW hb hb'
  go_loopw [6] (fun i wr => ∃ j : Nat, j ≤ 256 ∧ i = .int .i64 (j : Int) ∧ (∀ k, k < j → s k ≤ s' k) ∧ Ext w0 wr) (fun i _ => 256 - (intOf i).toNat)
  case atStart => exact ⟨0, by omega, rfl, fun k h => by omega, Ext.refl _⟩
  case round =>
    obtain ⟨j, hj, rfl, hl, hE⟩ := hrel
    have HE := Lib.hid hE
    have HL := Lib.hid hl
    clear hE hl
    by_cases hlt : j < 256
    · have hc := seenAt (show blkOf wr w.heap.size = RV o s by rw [blkOf_ext HE.out (by omega)]; exact HB.out) hlt
      have hc' := seenAt (show blkOf wr (w.heap.size + 1) = RV o' s' by rw [blkOf_ext HE.out (by omega)]; exact HB'.out) hlt
      have B1 := HS.out j hlt
      have B2 := HS'.out j hlt
      have q1 : (0 : Int) ≤ (j : Int) := Int.natCast_nonneg _
      have q2 : (j : Int) < 256 := by omega
      by_cases hx : s' j < s j
      · have NO : Hid (leqR s s' 256 = false) := Lib.hid (by unfold leqR; rw [decide_eq_false_iff_not]; intro h; have := h j hlt; omega)
        generalize s j = x at *
        generalize s' j = y at *
        go_wp2_with fail
        go_quiet (fail)
        go_wp2_with fail
        go_ret
        exact ⟨by rw [NO.out]; rfl, E.trans (HE.out.drewN _)⟩
      · have YES : Hid (∀ k, k < j + 1 → s k ≤ s' k) := Lib.hid (fun k hk => by
          rcases Nat.lt_or_ge k j with h | h
          · exact HL.out k h
          · have : k = j := by omega
            subst this; omega)
        generalize s j = x at *
        generalize s' j = y at *
        go_wp2_with fail
        go_quiet (fail)
        go_wp2_with fail
        exact ⟨⟨j + 1, by omega, by go_num, YES.out, HE.out.drewN _⟩, by simp [intOf]; omega⟩
    · obtain rfl : j = 256 := by omega
      have YES : Hid (leqR s s' 256 = true) := Lib.hid (by unfold leqR; rw [decide_eq_true_eq]; exact HL.out)
      go_wp2_with fail
      go_ret
      exact ⟨by rw [YES.out]; rfl, E.trans HE.out⟩
end Go.Proofs.YthnmhdabdiennaaDoor
namespace Go.Proofs.YthnmhdabdiennaaDoor
open Go.RowKit
attribute [local go_sem ↓] Go.wp_at_zero Go.wp_at_succ
attribute [local go_sem ↓] ld36 ld34 ld38 st36 st38 st32 al36 al38 bu36 bu32 bu38 bs23
attribute [local go_sem] run_ld36 run_st36 run_al36 blkOf_drew blkOf_setRow_same blkOf_setRow_other RV_size
def RetR (o : Nat → Bool) (s : Nat → Nat) (w : World) (e : Ending) (w' : World) : Prop := e = .returned (.agg (RV o s)) ∧ Ext w w'
theorem res36 {fn : Func} {p : Tmp} (h : fn.results = #[.cell p 36]) {tmps : Array Value} {w : World} {g : Nat} {o : Nat → Bool} {s : Nat → Nat} (hp : tmps.getD p undef = .pointer (some ⟨g, 0, none⟩)) (hb : blkOf w g = RV o s) :
    (results fn tmps).run Tryd.prog w = .ok (.agg (RV o s)) w := by
  have hz : (blkOf w g).size = 512 := by rw [hb, RV_size]
  obtain ⟨T, e⟩ := of_blkOf hz
  rw [hb] at e
  exact results_cell_row h tmps w g T _ _ _ hp e Tryd.underlying36 rfl (by rw [RV_size]; exact Tryd.size36)
theorem blkOf_setOwn {w : World} {g k : Nat} {o : Nat → Bool} {s : Nat → Nat} {b : Bool} (h : blkOf w g = RV o s) (hk : k < 256) : blkOf (w.setCell ⟨g, k, none⟩ (.bool b)) g = RV (fun j => if j = k then b else o j) s := by
  rw [blkOf_set (by rw [h, RV_size]; decide), h, RV_setOwn hk]
theorem blkOf_setSeen {w : World} {g k : Nat} {o : Nat → Bool} {s : Nat → Nat} {v : Nat} (h : blkOf w g = RV o s) (hk : k < 256) : blkOf (w.setCell ⟨g, 256 + k, none⟩ (.int .u64 ((v : Nat) : Int))) g = RV o (fun j => if j = k then v else s j) := by
  rw [blkOf_set (by rw [h, RV_size]; decide), h, RV_setSeen hk]
set_option maxHeartbeats 2000000 in
theorem set_any (o : Nat → Bool) (s : Nat → Nat) (low n v : Nat) (w : World) (h : low + n ≤ 256) : Calls Tryd.prog 81 #[.agg (RV o s), .int .i64 (low : Int), .int .i64 (n : Int), .int .u64 (v : Int)] w (RetR o (setR s low n v) w) := by
  go_enter Tryd.func81, Tryd.ntmps81
  go_wp2_with fail
  generalize hW : (w.alloc (.cells (RV o s) 36)).alloc (.cells RV0 36) = w0
  obtain ⟨E, hb, hb', hg⟩ := letterRR hW
  have HB := Lib.hid hb
  have HB' := Lib.hid hb'
  clear hW hb hb'
  go_loopw [9] (fun i wr => ∃ j : Nat, j ≤ n ∧ i = .int .i64 ((low + j : Nat) : Int) ∧ Ext w wr ∧ blkOf wr w.heap.size = RV o (setR s low j v) ∧ blkOf wr (w.heap.size + 1) = RV0) (fun i _ => low + n - (intOf i).toNat)
  case atStart => exact ⟨0, Nat.zero_le _, rfl, E, by rw [HB.out]; exact RV_congr (fun _ _ => rfl) (fun k _ => (setR_out (by omega)).symm), HB'.out⟩
  case round =>
    obtain ⟨j, hj, rfl, hE, hb, hb'⟩ := hrel
    have HE := Lib.hid hE
    have HBB := Lib.hid hb
    have HB2 := Lib.hid hb'
    clear hE
    by_cases hlt : j < n
    · have hc := seenAt HBB.out (show low + j < 256 by omega)
      have hf : wr.frozen? ⟨w.heap.size, 256 + (low + j), none⟩ = false := blkOf_frozen (by rw [HBB.out, RV_size]; decide)
      clear hb hb'
      go_wp2_with fail
      refine ⟨⟨j + 1, by omega, by go_num, HE.out.set (Nat.le_refl _) _, ?_, ?_⟩, by simp [intOf]; omega⟩
      · rw [blkOf_setSeen HBB.out (by omega)]
        refine RV_congr (fun _ _ => rfl) (fun k hk => ?_)
        unfold setR
        by_cases e : k = low + j
        · rw [if_pos e, if_pos (by omega)]
        · rw [if_neg e]
          by_cases e' : low ≤ k ∧ k < low + j
          · rw [if_pos e', if_pos (by omega)]
          · rw [if_neg e', if_neg (by omega)]
      · rw [blkOf_far (by simp)]; exact HB2.out
    · obtain rfl : j = n := by omega
      go_wp2_with fail
      refine bodyPost_ret (v := .agg (RV o (setR s low j v))) (res36 Tryd.results81 (g := w.heap.size + 1) rfl (blkOf_setRow_same (by rw [HB2.out, RV_size]))) rfl ⟨rfl, HE.out.setRow (by omega) _⟩
set_option maxRecDepth 100000 in
set_option maxHeartbeats 2000000 in
theorem rseed_any (w : World) : Calls Tryd.prog 27 #[] w (RetR (fun _ => true) (fun _ => 0) w) := by
  go_enter Tryd.func27, Tryd.ntmps27
  go_wp2_with fail
  generalize hW : (w.alloc (.cells RV0 36)).alloc (.cells RV0 36) = w0
  obtain ⟨E, hb, hb', hg⟩ := letterRR hW
  have HB := Lib.hid hb
  have HB' := Lib.hid hb'
  clear hW hb hb'
  go_loopw [3] (fun i wr => ∃ j : Nat, j ≤ 256 ∧ i = .int .i64 (j : Int) ∧ Ext w wr ∧ blkOf wr w.heap.size = RV0 ∧ blkOf wr (w.heap.size + 1) = RV (fun k => decide (k < j)) (fun _ => 0)) (fun i _ => 256 - (intOf i).toNat)
  case atStart => exact ⟨0, Nat.zero_le _, rfl, E, HB.out, by rw [HB'.out]; exact RV_congr (fun k _ => by simp) (fun _ _ => rfl)⟩
  case round =>
    obtain ⟨j, hj, rfl, hE, hb, hb'⟩ := hrel
    have HE := Lib.hid hE
    have HBB := Lib.hid hb
    have HB2 := Lib.hid hb'
    clear hE
    by_cases hlt : j < 256
    · have hc : wr.cell? ⟨w.heap.size + 1, j, none⟩ = some (.bool false) := by rw [ownAt HB2.out hlt]; simp
      have hf : wr.frozen? ⟨w.heap.size + 1, j, none⟩ = false := blkOf_frozen (by rw [HB2.out, RV_size]; decide)
      clear hb hb'
      go_wp2_with fail
      refine ⟨⟨j + 1, by omega, by go_num, HE.out.set (Nat.le_succ _) _, ?_, ?_⟩, by simp [intOf]; omega⟩
      · rw [blkOf_far (by simp)]; exact HBB.out
      · rw [blkOf_setOwn HB2.out hlt]
        refine RV_congr (fun k hk => ?_) (fun _ _ => rfl)
        by_cases e : k = j
        · rw [if_pos e]; simp; omega
        · rw [if_neg e]
          have : k < j ↔ k < j + 1 := by omega
          simp [this]
    · obtain rfl : j = 256 := by omega
      go_wp2_with fail
      refine bodyPost_ret (v := .agg (RV (fun _ => true) (fun _ => 0))) (res36 Tryd.results27 (g := w.heap.size) rfl ?_) rfl ⟨rfl, HE.out.setRow (by omega) _⟩
      rw [blkOf_setRow_same (by rw [HBB.out, RV_size])]
      exact RV_congr (fun k hk => by simpa using hk) (fun _ _ => rfl)
@[irreducible] def ZB : Array Value := Array.replicate 256 (.bool false)
theorem ZB_size : ZB.size = 256 := by unfold ZB; exact Array.size_replicate
theorem ZB_list : ZB.toList = List.replicate 256 (.bool false) := by unfold ZB; exact Array.toList_replicate
theorem run_bu32 (w : World) : (buS 32 #[]).run Tryd.prog w = .ok (.agg ZB) w := by
  unfold buS
  refine run_build w 32 #[] ZB ?_
  unfold ZB
  kernel_rfl
theorem run_bu36 (w : World) : (buS 36 #[]).run Tryd.prog w = .ok (.agg RV0) w := by
  unfold buS
  refine run_build w 36 #[] RV0 ?_
  show _ = some (RV (fun _ => false) (fun _ => 0))
  rw [RV_zero]
  kernel_rfl
theorem run_st32 {w : World} {g : Nat} {o : Nat → Bool} {s : Nat → Nat} (h : blkOf w g = RV o s) : (stS 32 (.pointer (some ⟨g, 0, none⟩)) (.agg ZB)).run Tryd.prog w = .ok () (w.setRow g (RV (fun _ => false) s)) := by
  have hz : (blkOf w g).size = 512 := by rw [h, RV_size]
  obtain ⟨T, e⟩ := of_blkOf hz
  rw [h] at e
  have hst := run_storeCells_at Tryd.prog g 0 T ZB.toList 0 (RV o s) w e (by rw [Array.length_toList, ZB_size, RV_size]; decide) (fun v hv => by rw [ZB_list] at hv; rw [List.eq_of_mem_replicate hv]; rfl)
  have h32 := Tryd.size32
  unfold stS Instr.storeAt Instr.sureAddr
  rw [Sem.run_bind, Sem.run_pure, Result.andThen_ok]
  cases hq : Tryd.prog.info? 32 with
  | none => rw [hq] at h32; cases h32
  | some i =>
    rw [hq] at h32
    have hs : i.size = 256 := by simpa using h32
    have hc := ZB_size
    have e2 : (List.take (0 + 0) (RV o s).toList ++ ZB.toList ++ List.drop (0 + 0 + ZB.toList.length) (RV o s).toList).toArray = RV (fun _ => false) s := by
      refine RV_ext (by simp [hc, RV_size]) (fun k hk => ?_) (fun k hk => ?_)
      · rw [List.getElem?_toArray]
        simp only [Nat.add_zero, List.take_zero, List.nil_append]
        rw [List.getElem?_append_left (by simp [hc]; omega)]
        rw [ZB_list, List.getElem?_replicate, if_pos hk]
      · rw [List.getElem?_toArray]
        simp only [Nat.add_zero, List.take_zero, List.nil_append]
        rw [List.getElem?_append_right (by simp [hc])]
        have := RV_seen (o := o) (s := s) hk
        rw [← this]
        simp [hc]
    rw [e2] at hst
    simp [storeVar, sizeOf, typeInfo, hq, Value.cells, hs, hc, hst]
attribute [local go_sem] run_bu32 run_bu36
set_option maxHeartbeats 2000000 in
theorem rpeek_any (o : Nat → Bool) (s : Nat → Nat) (w : World) : Calls Tryd.prog 54 #[.agg (RV o s)] w (RetR (fun _ => false) s w) := by
  go_enter Tryd.func54, Tryd.ntmps54
  go_wp2_with fail
  generalize hW : (w.alloc (.cells (RV o s) 36)).alloc (.cells RV0 36) = w0
  obtain ⟨E, hb, hb', hg⟩ := letterRR hW
  have hst := run_st32 hb
  clear hW
  rw [hst]
  clear hst
  go_wp2_with fail
  refine bodyPost_ret (v := .agg (RV (fun _ => false) s)) (res36 Tryd.results54 (g := w.heap.size + 1) rfl (blkOf_setRow_same ?_)) rfl ⟨rfl, (E.setRow (Nat.le_refl _) _).setRow (Nat.le_succ _) _⟩
  rw [blkOf_setRow_other (by simp), hb', RV_size]
end Go.Proofs.YthnmhdabdiennaaDoor
namespace Go.Proofs.YthnmhdabdiennaaDoor
open Go.RowKit
attribute [local go_sem ↓] Go.wp_at_zero Go.wp_at_succ
attribute [local go_sem ↓] ld36 ld34 ld38 st36 st38 st32 al36 al38 bu36 bu32 bu38 bs23
attribute [local go_sem] run_ld36 run_st36 run_al36 blkOf_drew blkOf_setRow_same blkOf_setRow_other RV_size run_bu36
def RetRB (o : Nat → Bool) (s : Nat → Nat) (b : Bool) (w : World) (e : Ending) (w' : World) : Prop := e = .returned (.tuple #[.agg (RV o s), .bool b]) ∧ Ext w w'
theorem run_lv36 {w : World} {g : Nat} {o : Nat → Bool} {s : Nat → Nat} (hb : blkOf w g = RV o s) : (loadVar 36 ⟨g, 0, none⟩).run Tryd.prog w = .ok (.agg (RV o s)) w := by
  obtain ⟨T, e⟩ := of_blkOf (show (blkOf w g).size = 512 by rw [hb, RV_size])
  rw [hb] at e
  exact run_loadVar_row w g T 36 _ _ _ e Tryd.underlying36 rfl (by rw [RV_size]; exact Tryd.size36)
theorem res36b {fn : Func} {p u : Tmp} (h : fn.results = #[.cell p 36, .tmp u]) {tmps : Array Value} {w : World} {g : Nat} {o : Nat → Bool} {s : Nat → Nat} {x : Value} (hp : tmps.getD p undef = .pointer (some ⟨g, 0, none⟩)) (hx : tmps.getD u undef = x) (hb : blkOf w g = RV o s) :
    (results fn tmps).run Tryd.prog w = .ok (.tuple #[.agg (RV o s), x]) w := by
  rw [results_cell_tmp h, hp, hx]
  simp [asAddr, run_lv36 hb]
/-- Three stamps in new blocks, under a letter for the world. -/
theorem letterRRR {w w0 : World} {a b c : Array Value} {T T' T'' : Nat} (h : ((w.alloc (.cells a T)).alloc (.cells b T')).alloc (.cells c T'') = w0) : Ext w w0 ∧ blkOf w0 w.heap.size = a ∧ blkOf w0 (w.heap.size + 1) = b ∧ blkOf w0 (w.heap.size + 2) = c ∧ w.heap.size + 2 < w0.heap.size := by
  subst h
  obtain ⟨E, h1, h2, h3⟩ := letterRR (w := w) (cs := a) (cs' := b) (T := T) (T' := T') rfl
  refine ⟨E.alloc _, ?_, ?_, ?_, by simp⟩
  · rw [blkOf_ext ((Ext.refl _).alloc _) (by simp; omega)]; exact h1
  · rw [blkOf_ext ((Ext.refl _).alloc _) (by simp)]; exact h2
  · have := blkOf_new (w := (w.alloc (.cells a T)).alloc (.cells b T')) (cs := c) (T := T'')
    simpa using this
/-- What has become of the first stamp behind j points. -/
def jo (o o' : Nat → Bool) (j : Nat) : Nat → Bool := fun k => if k < j then o k || o' k else o k
def js (s s' : Nat → Nat) (j : Nat) : Nat → Nat := fun k => if k < j then max (s k) (s' k) else s k
def JoinAt (o o' : Nat → Bool) (s s' : Nat → Nat) (w : World) (j : Nat) (wr : World) : Prop := Ext w wr ∧ blkOf wr w.heap.size = RV (jo o o' j) (js s s' j) ∧ blkOf wr (w.heap.size + 1) = RV o' s' ∧ blkOf wr (w.heap.size + 2) = RV0 ∧ ∀ k, k < j → o k = true → o' k = true → False
theorem jo_at (o o' : Nat → Bool) (j : Nat) : jo o o' j j = o j := by unfold jo; rw [if_neg (by omega)]
theorem js_at (s s' : Nat → Nat) (j : Nat) : js s s' j j = s j := by unfold js; rw [if_neg (by omega)]
theorem jo_next {o o' : Nat → Bool} {j k : Nat} : (if k = j then (o j || o' j) else jo o o' j k) = jo o o' (j + 1) k := by
  unfold jo
  by_cases e : k = j
  · subst e; rw [if_pos rfl, if_pos (by omega)]
  · rw [if_neg e]
    by_cases h : k < j
    · rw [if_pos h, if_pos (by omega)]
    · rw [if_neg h, if_neg (by omega)]
theorem js_next {s s' : Nat → Nat} {j k : Nat} : (if k = j then max (s j) (s' j) else js s s' j k) = js s s' (j + 1) k := by
  unfold js
  by_cases e : k = j
  · subst e; rw [if_pos rfl, if_pos (by omega)]
  · rw [if_neg e]
    by_cases h : k < j
    · rw [if_pos h, if_pos (by omega)]
    · rw [if_neg h, if_neg (by omega)]
theorem JoinAt.next {o o' : Nat → Bool} {s s' : Nat → Nat} {w wr : World} {j : Nat} {b : Bool} {m : Nat} (h : JoinAt o o' s s' w j wr) (hj : j < 256) (hn : o j = true → o' j = true → False) (hb : b = (o j || o' j)) (hm : m = max (s j) (s' j)) :
    JoinAt o o' s s' w (j + 1) (((wr.setCell ⟨w.heap.size, j, none⟩ (.bool b)).setCell ⟨w.heap.size, 256 + j, none⟩ (.int .u64 (m : Int))).drew) := by
  obtain ⟨E, h1, h2, h3, h4⟩ := h
  refine ⟨((E.set (Nat.le_refl _) _).set (Nat.le_refl _) _).drew, ?_, ?_, ?_, fun k hk => ?_⟩
  · show blkOf ((wr.setCell ⟨w.heap.size, j, none⟩ (.bool b)).setCell ⟨w.heap.size, 256 + j, none⟩ (.int .u64 (m : Int))) _ = _
    rw [blkOf_setSeen (blkOf_setOwn h1 hj) hj, hb, hm]
    exact RV_congr (fun k _ => jo_next) (fun k _ => js_next)
  · show blkOf ((wr.setCell ⟨w.heap.size, j, none⟩ (.bool b)).setCell ⟨w.heap.size, 256 + j, none⟩ (.int .u64 (m : Int))) _ = _
    rw [blkOf_far (by simp), blkOf_far (by simp)]; exact h2
  · show blkOf ((wr.setCell ⟨w.heap.size, j, none⟩ (.bool b)).setCell ⟨w.heap.size, 256 + j, none⟩ (.int .u64 (m : Int))) _ = _
    rw [blkOf_far (by simp), blkOf_far (by simp)]; exact h3
  · rcases Nat.lt_or_ge k j with h | h
    · exact h4 k h
    · have : k = j := by omega
      subst this; exact hn
def Clash (o o' : Nat → Bool) : Prop := ∃ k, k < 256 ∧ o k = true ∧ o' k = true
def RetJoin (o o' : Nat → Bool) (s s' : Nat → Nat) (w : World) (e : Ending) (w' : World) : Prop :=
  (Clash o o' ∧ RetRB (fun _ => false) (fun _ => 0) false w e w') ∨ (¬ Clash o o' ∧ RetRB (fun k => o k || o' k) (fun k => max (s k) (s' k)) true w e w')
set_option maxRecDepth 100000 in
set_option maxHeartbeats 4000000 in
theorem rjoin_any (o o' : Nat → Bool) (s s' : Nat → Nat) (w : World) (hs : ∀ k, k < 256 → s k ≤ 9223372036854775807) (hs' : ∀ k, k < 256 → s' k ≤ 9223372036854775807) : Calls Tryd.prog 53 #[.agg (RV o s), .agg (RV o' s')] w (RetJoin o o' s s' w) := by
  have HS := Lib.hid hs
  have HS' := Lib.hid hs'
  clear hs hs'
  go_enter Tryd.func53, Tryd.ntmps53
  go_wp2_with fail
  generalize hW : ((w.alloc (.cells (RV o s) 36)).alloc (.cells (RV o' s') 36)).alloc (.cells RV0 36) = w0
  obtain ⟨E, hb, hb', hb'', hg⟩ := letterRRR hW
  have J0 : Hid (JoinAt o o' s s' w 0 w0) := Lib.hid ⟨E, by rw [hb]; exact RV_congr (fun k _ => by unfold jo; simp) (fun k _ => by unfold js; simp), hb', hb'', fun k h => by omega⟩
  clear hW hb hb' hb'' E hg
  go_loopw [7] (fun i wr => ∃ j : Nat, j ≤ 256 ∧ i = .int .i64 (j : Int) ∧ JoinAt o o' s s' w j wr) (fun i _ => 256 - (intOf i).toNat)
  case atStart => exact ⟨0, by omega, rfl, J0.out⟩
  case round =>
    obtain ⟨j, hj, rfl, hJ⟩ := hrel
    have HJ := Lib.hid hJ
    clear hJ
    have G := HJ.out
    obtain ⟨E, h1, h2, h3, h4⟩ := G
    have HZ := Lib.hid h3
    have HN := Lib.hid h4
    have HE := Lib.hid E
    by_cases hlt : j < 256
    · have c1 := ownAt h1 hlt
      have c2 := ownAt h2 hlt
      have c3 := seenAt h1 hlt
      have c4 := seenAt h2 hlt
      have f1 : wr.frozen? ⟨w.heap.size, j, none⟩ = false := blkOf_frozen (by rw [h1, RV_size]; decide)
      have f2 : wr.frozen? ⟨w.heap.size, 256 + j, none⟩ = false := blkOf_frozen (by rw [h1, RV_size]; decide)
      rw [jo_at] at c1
      rw [js_at] at c3
      have B1 := HS.out j hlt
      have B2 := HS'.out j hlt
      have q1 : (0 : Int) ≤ (j : Int) := Int.natCast_nonneg _
      have q2 : (j : Int) < 256 := by omega
      clear h1 h2 h4 E
      cases ho : o j <;> cases ho' : o' j
      case true.true =>
        have HC : Hid (Clash o o') := Lib.hid ⟨j, hlt, ho, ho'⟩
        rw [ho] at c1
        rw [ho'] at c2
        clear ho ho'
        go_wp2_with fail
        refine bodyPost_ret (v := .tuple #[.agg RV0, .bool false]) (res36b Tryd.results53 (g := w.heap.size + 2) rfl rfl (blkOf_setRow_same ?_)) rfl (.inl ⟨HC.out, rfl, HE.out.setRow (by omega) _⟩)
        rw [HZ.out, RV_size]
      all_goals
        have HC : Hid (o j = true → o' j = true → False) := Lib.hid (by rw [ho, ho']; decide)
        rw [ho] at c1
        rw [ho'] at c2
        have HO := Lib.hid ho
        have HO' := Lib.hid ho'
        clear ho ho' h3
        go_wp2_with fail
        go_region
        go_wp2_with fail
        refine ⟨⟨j + 1, by omega, by go_num, ?_⟩, by simp [intOf]; omega⟩
        have e : (if s j < s' j then ((s' j : Nat) : Int) else ((s j : Nat) : Int)) = ((max (s j) (s' j) : Nat) : Int) := by split <;> omega
        rw [e]
        exact JoinAt.next HJ.out hlt HC.out (by rw [HO.out, HO'.out]; rfl) rfl
    · obtain rfl : j = 256 := by omega
      have HF : Hid (blkOf wr w.heap.size = RV (fun k => o k || o' k) (fun k => max (s k) (s' k))) := Lib.hid (by rw [h1]; exact RV_congr (fun k hk => by unfold jo; rw [if_pos hk]) (fun k hk => by unfold js; rw [if_pos hk]))
      have NC : Hid (¬ Clash o o') := Lib.hid (fun ⟨k, hk, a, b⟩ => h4 k hk a b)
      clear h1 h2 h4
      have hF := HF.out
      go_wp2_with fail
      refine bodyPost_ret (v := .tuple #[.agg (RV (fun k => o k || o' k) (fun k => max (s k) (s' k))), .bool true]) (res36b Tryd.results53 (g := w.heap.size + 2) rfl rfl (blkOf_setRow_same ?_)) rfl (.inr ⟨NC.out, rfl, HE.out.setRow (by omega) _⟩)
      rw [HZ.out, RV_size]
end Go.Proofs.YthnmhdabdiennaaDoor
