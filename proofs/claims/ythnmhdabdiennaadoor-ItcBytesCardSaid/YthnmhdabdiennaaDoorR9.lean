/- The walk over the reference's Text; pairs of a stamp and the reference's; the walk over the law's same. Slices of pairs that are made; the walk over the law's same. Pairs of a stamp and the reference's that mean the same; the walk over the law's same. -/
import Derived.Test.YthnmhdabdiennaaDoorR7
namespace Go.Proofs.YthnmhdabdiennaaDoor
open Go.RowKit
attribute [local go_sem ↓] Go.wp_at_zero Go.wp_at_succ
attribute [local go_sem ↓] ld36 ld34 ld38 st36 st38 st32 al36 al38 bu36 bu32 bu38 bs23
attribute [local go_sem] run_ld36 run_st36 run_al36 blkOf_drew blkOf_setRow_same blkOf_setRow_other RV_size run_bu36 blkOf_new blkOf_old
theorem identity256 (o : Nat → Bool) (s : Nat → Nat) (i : IdT) (w : World) (hi : IdOn o i 8 0) (hl : (idText i).length ≤ 1099511627776) : Calls Tryd.prog 40 #[.agg (RV o s), .int .i64 0, .int .i64 256] w (RetT (idText i) w) := ridentity_any o s i 8 0 256 w hi two8 (by omega) hl
theorem events256 (o : Nat → Bool) (s : Nat → Nat) (hs : Big s) (t : EvT) (w : World) (ht : EvOn s t 8 0 0) (h : t.top < 100) (hl : (evText t).length ≤ 1099511627776) : Calls Tryd.prog 41 #[.agg (RV o s), .int .i64 0, .int .i64 256, .int .u64 0] w (RetT (evText t) w) := revents_any o s hs t 8 0 256 0 w ht two8 (by omega) (by omega) hl
set_option maxRecDepth 100000 in
set_option maxHeartbeats 4000000 in
theorem rtext_any (o : Nat → Bool) (s : Nat → Nat) (i : IdT) (t : EvT) (w : World) (hs : Big s) (hi : IdOn o i 8 0) (ht : EvOn s t 8 0 0) (h : t.top < 100) (hl : (stText i t).length ≤ 1099511627776) : Calls Tryd.prog 22 #[.agg (RV o s)] w (RetT (stText i t) w) := by
  have H : Hid (stText i t = 40 :: (idText i ++ 59 :: (evText t ++ [41]))) := Lib.hid rfl
  rw [H.out] at hl
  simp only [List.length_cons, List.length_append, List.length_nil] at hl
  have IA := Lib.hid (fun w => identity256 o s i w hi (by omega))
  have EA := Lib.hid (fun w => events256 o s hs t w ht h (by omega))
  clear hs hi ht
  generalize idText i = x at *
  generalize evText t = y at *
  have s1 : ¬ (9223372036854775807 < 1 + x.length) := by omega
  have s2 : ¬ (9223372036854775807 < 1 + x.length + 1) := by omega
  have s3 : ¬ (9223372036854775807 < 1 + x.length + 1 + y.length) := by omega
  have s4 : ¬ (9223372036854775807 < 1 + x.length + 1 + y.length + 1) := by omega
  clear hl
  go_enter Tryd.func22, Tryd.ntmps22
  go_wp2_with fail
  generalize hW : w.alloc (.cells (RV o s) 36) = w1
  obtain ⟨E, hb, hg⟩ := letterR hW
  clear hW
  go_region_held3 (fun w' => Ext w1 w' ∧ ∀ b, b < w1.heap.size → blkOf w' b = blkOf w1 b)
    (refine Ext.heldB ?_ <;> repeat (first | assumption | exact Ext.refl _ | apply Ext.drew | apply Ext.drewN))
    (first
      | (go_at_call 40; go_split_ands; (with_reducible refine (IA.out _).mono ?_); rintro e3 w3 ⟨rfl, hbb⟩; have hE3 : Ext w1 w3 := Ext.trans (by assumption) hbb)
      | (go_at_call 41; go_split_ands; (with_reducible refine (EA.out _).mono ?_); rintro e4 w4 ⟨rfl, hbb⟩; have hE4 : Ext w1 w4 := Ext.trans (by assumption) hbb))
  go_wp2_with fail
  go_ret
  refine ⟨?_, E.trans hE4⟩
  rw [H.out]
  exact congrArg Ending.returned (cat5' x y)
/-- The cells of a pair: a stamp, and the reference's. -/
@[irreducible] def PV (p q : Option Addr) (o : Nat → Bool) (s : Nat → Nat) : Array Value := #[.pointer p, .pointer q] ++ RV o s
section
variable {p q : Option Addr} {o : Nat → Bool} {s : Nat → Nat}
theorem PV_size (p q : Option Addr) (o : Nat → Bool) (s : Nat → Nat) : (PV p q o s).size = 514 := by unfold PV; simp [RV_size]
theorem PV_0 : (PV p q o s)[0]? = some (.pointer p) := by unfold PV; rw [Array.getElem?_append_left (by simp)]; rfl
theorem PV_1 : (PV p q o s)[1]? = some (.pointer q) := by unfold PV; rw [Array.getElem?_append_left (by simp)]; rfl
theorem PV_2 (k : Nat) : (PV p q o s)[2 + k]? = (RV o s)[k]? := by unfold PV; rw [Array.getElem?_append_right (by simp)]; simp
theorem PV_one (p q : Option Addr) (o : Nat → Bool) (s : Nat → Nat) : (PV p q o s).all (·.oneCell') = true := by
  have := RV_one o s
  unfold PV
  rw [Array.all_append, this]; simp [Value.oneCell']
end
theorem of_blkOf' {w : World} {g : Nat} (h : 0 < (blkOf w g).size) : ∃ T, w.heap[g]? = some (.cells (blkOf w g) T (0, 0)) := by
  unfold blkOf at h ⊢
  split at h
  · rename_i cs T e; exact ⟨T, by rw [e]⟩
  · simp at h
theorem run_ld38 {w : World} {g : Nat} (h : (blkOf w g).size = 514) : (ldS 38 (.pointer (some ⟨g, 0, none⟩))).run Tryd.prog w = .ok (.agg (blkOf w g)) w := by
  obtain ⟨T, e⟩ := of_blkOf' (w := w) (g := g) (by omega)
  unfold ldS Instr.loadAt Instr.sureAddr
  rw [Sem.run_bind, Sem.run_pure, Result.andThen_ok]
  exact run_loadVar_row w g T 38 _ _ _ e Tryd.underlying38 rfl (by rw [h]; exact Tryd.size38)
theorem run_st38 {w : World} {g : Nat} {p q : Option Addr} {o : Nat → Bool} {s : Nat → Nat} (h : (blkOf w g).size = 514) : (stS 38 (.pointer (some ⟨g, 0, none⟩)) (.agg (PV p q o s))).run Tryd.prog w = .ok () (w.setRow g (PV p q o s)) := by
  obtain ⟨T, e⟩ := of_blkOf' (w := w) (g := g) (by omega)
  unfold stS Instr.storeAt Instr.sureAddr
  rw [Sem.run_bind, Sem.run_pure, Result.andThen_ok]
  exact run_storeVar_row w g T 38 _ _ e (by rw [PV_size]; exact Tryd.size38) (by rw [h, PV_size]) (PV_one p q o s)
theorem blkOf_setRow_same' {w : World} {g : Nat} {cs : Array Value} (h : 0 < (blkOf w g).size) : blkOf (w.setRow g cs) g = cs := by
  obtain ⟨T, e⟩ := of_blkOf' h
  exact blkOf_of (setRow_heap w g _ cs T _ e)
abbrev PV0 : Array Value := PV none none (fun _ => false) (fun _ => 0)
theorem Tryd.zero38 : (Tryd.prog.info? 38).map (·.zero) = some (some (.agg (#[.pointer none, .pointer none] ++ (Array.replicate 256 (.bool false) ++ Array.replicate 256 (.int .u64 0))))) := by kernel_rfl
theorem PV_zero : PV none none (fun _ => false) (fun _ => 0) = #[.pointer none, .pointer none] ++ (Array.replicate 256 (.bool false) ++ Array.replicate 256 (.int .u64 0)) := by unfold PV; rw [RV_zero]
theorem run_zero38 (w : World) : (zeroValue 38).run Tryd.prog w = .ok (.agg PV0) w := by
  have h := Tryd.zero38
  unfold zeroValue typeInfo
  cases hq : Tryd.prog.info? 38 with
  | none => rw [hq] at h; cases h
  | some i =>
    rw [hq] at h
    have hz : i.zero = some (.agg PV0) := by show i.zero = some (.agg (PV none none (fun _ => false) (fun _ => 0))); rw [PV_zero]; simpa using h
    simp [hq, hz]
theorem run_al38 (w : World) (hp : Bool) (old : Value) (h : hp = true ∨ old = undef) : (alS 38 hp old).run Tryd.prog w = .ok (.pointer (some ⟨w.heap.size, 0, none⟩)) (w.alloc (.cells PV0 38)) := by
  unfold alS Instr.alloc
  rw [Sem.run_bind, run_zero38, Result.andThen_ok]
  rcases h with rfl | rfl
  · go_simp
  · cases hp
    · unfold undef; go_simp
    · go_simp
/-- Cells that are laid into others, one behind the other. -/
theorem fold_set : ∀ (vs : List Value) (off j : Nat) (cs : Array Value), off + j + vs.length ≤ cs.size → ((vs.zipIdx j).foldl (fun (cs : Array Value) (p : Value × Nat) => cs.setIfInBounds (off + p.2) p.1) cs) = (cs.toList.take (off + j) ++ vs ++ cs.toList.drop (off + j + vs.length)).toArray
  | [], off, j, cs, h => by simp
  | v :: vs, off, j, cs, h => by
    simp only [List.zipIdx_cons, List.foldl_cons]
    have hl : off + j < cs.size := by simp at h; omega
    rw [fold_set vs off (j + 1) _ (by simp at h ⊢; omega)]
    congr 1
    apply List.ext_getElem?
    intro k
    simp only [Array.toList_setIfInBounds, List.length_cons]
    have e1 : off + (j + 1) = off + j + 1 := by omega
    rw [e1]
    rcases Nat.lt_trichotomy k (off + j) with hk | hk | hk
    · rw [List.append_assoc, List.append_assoc, List.getElem?_append_left (by simp; omega), List.getElem?_append_left (by simp; omega)]
      rw [List.getElem?_take_of_lt (by omega), List.getElem?_take_of_lt hk, List.getElem?_set_ne (by omega)]
    · subst hk
      rw [List.append_assoc, List.append_assoc, List.getElem?_append_left (by simp; omega), List.getElem?_append_right (by simp; omega)]
      rw [List.getElem?_take_of_lt (by omega), List.getElem?_set_self (by simpa using hl)]
      simp [Nat.min_eq_left (Nat.le_of_lt hl)]
    · have la : ((cs.toList.set (off + j) v).take (off + j + 1)).length = off + j + 1 := by simp; omega
      have lb : (cs.toList.take (off + j)).length = off + j := by simp; omega
      rw [List.append_assoc, List.append_assoc, List.getElem?_append_right (l₁ := (cs.toList.set (off + j) v).take (off + j + 1)) (by omega), List.getElem?_append_right (l₁ := cs.toList.take (off + j)) (by omega), la, lb,
        show k - (off + j) = (k - (off + j + 1)) + 1 by omega, List.cons_append, List.getElem?_cons_succ]
      rcases Nat.lt_or_ge (k - (off + j + 1)) vs.length with h2 | h2
      · rw [List.getElem?_append_left h2, List.getElem?_append_left h2]
      · rw [List.getElem?_append_right h2, List.getElem?_append_right h2, List.getElem?_drop, List.getElem?_drop, List.getElem?_set_ne (by omega)]
        congr 1; omega
def laid (cs : Array Value) (off : Nat) (vs : Array Value) : Array Value := (cs.toList.take off ++ vs.toList ++ cs.toList.drop (off + vs.size)).toArray
theorem laid_size {cs vs : Array Value} {off : Nat} (h : off + vs.size ≤ cs.size) : (laid cs off vs).size = cs.size := by unfold laid; simp; omega
theorem fill_step {place : Nat → Option (Nat × Nat)} {cs : Array Value} {i off : Nat} {v : Value} {rest : List (Nat × Value)} (hp : place i = some (off, v.cells.size)) (hs : off + v.cells.size ≤ cs.size) : Instr.fill place cs ((i, v) :: rest) = Instr.fill place (laid cs off v.cells) rest := by
  have e : (v.cells.zipIdx.foldl (fun (cs : Array Value) (p : Value × Nat) => cs.setIfInBounds (off + p.2) p.1) cs) = laid cs off v.cells := by
    rw [← Array.foldl_toList, Array.toList_zipIdx]
    have := fold_set v.cells.toList off 0 cs (by simpa using hs)
    simpa [laid] using this
  conv => lhs; unfold Instr.fill
  simp only [hp]
  rw [if_neg (by simp; omega)]
  exact congrArg (fun c => Instr.fill place c rest) e
set_option maxRecDepth 100000 in
theorem run_bu38 (w : World) (p q : Option Addr) (o : Nat → Bool) (s : Nat → Nat) : (buS 38 #[(0, .agg #[.pointer p, .pointer q]), (1, .agg (RV o s))]).run Tryd.prog w = .ok (.agg (PV p q o s)) w := by
  unfold buS
  refine run_build w 38 _ _ ?_
  have h := Tryd.zero38
  have hpl : (match Tryd.prog.underlying 38 with | some (.struct fields) => fields.toList.mapM (fun f => (Tryd.prog.info? f.type).map fun i => (f.offset, i.size)) | _ => none) = some [(0, 2), (2, 512)] := by kernel_rfl
  unfold Program.built
  cases hq : Tryd.prog.info? 38 with
  | none => rw [hq] at h; cases h
  | some i =>
    rw [hq] at h
    have hz : i.zero = some (.agg PV0) := by show i.zero = some (.agg (PV none none (fun _ => false) (fun _ => 0))); rw [PV_zero]; simpa using h
    rw [Tryd.underlying38] at hpl ⊢
    simp only [] at hpl ⊢
    simp only [hz, hpl]
    have hc0 : (Value.agg PV0).cells = PV0 := rfl
    rw [hc0]
    clear hc0
    have hsz : PV0.size = 514 := PV_size _ _ _ _
    generalize PV0 = Z at *
    rw [fill_step (off := 0) (by simp [Value.cells]) (by rw [hsz]; simp [Value.cells])]
    rw [fill_step (off := 2) (by simp [Value.cells, RV_size]) (by rw [laid_size (by rw [hsz]; simp [Value.cells]), hsz]; simp [Value.cells, RV_size])]
    unfold Instr.fill
    congr 1
    have z2 : Z.toList.length = 514 := by rw [Array.length_toList]; exact hsz
    unfold laid
    simp only [Value.cells, RV_size]
    have e1 : (List.take 0 Z.toList ++ #[Value.pointer p, Value.pointer q].toList ++ List.drop (0 + #[Value.pointer p, Value.pointer q].size) Z.toList).toArray.toList.take 2 = [.pointer p, .pointer q] := by simp
    have e2 : (List.take 0 Z.toList ++ #[Value.pointer p, Value.pointer q].toList ++ List.drop (0 + #[Value.pointer p, Value.pointer q].size) Z.toList).toArray.toList.drop (2 + 512) = [] := by
      apply List.drop_eq_nil_of_le
      simp [z2]
    rw [e1, e2]
    unfold PV
    simp
end Go.Proofs.YthnmhdabdiennaaDoor
namespace Go.Proofs.YthnmhdabdiennaaDoor
open Go.RowKit
attribute [local go_sem ↓] Go.wp_at_zero Go.wp_at_succ
attribute [local go_sem ↓] ld36 ld34 ld38 st36 st38 st32 al36 al38 bu36 bu32 bu38 bs23
attribute [local go_sem] run_ld36 run_st36 run_al36 blkOf_drew blkOf_setRow_same blkOf_setRow_other RV_size run_bu36 blkOf_new blkOf_old
theorem run_size38 (w : World) : (sizeOf 38).run Tryd.prog w = .ok 514 w := by
  have h := Tryd.size38
  unfold sizeOf typeInfo
  cases hq : Tryd.prog.info? 38 with
  | none => rw [hq] at h; cases h
  | some i =>
    rw [hq] at h
    have : i.size = 514 := by simpa using h
    simp [hq, this]
theorem run_bsS (w : World) (n : Nat) (parts : Array (Nat × Value)) (cells : Array Value) (hn : ¬ (n * 514 > 2 ^ 24)) (h0 : ¬ (n * 514 = 0)) (hf : ∀ cs : Array Value, cs.size = n * 514 → Instr.fill (fun i => some (i * 514, 514)) cs parts.toList = some cells) :
    (bsS 23 n parts).run Tryd.prog w = .ok (.slice (some ⟨w.heap.size, 0, none⟩) n n) (w.alloc (.cells cells 38)) := by
  unfold bsS Instr.buildSlice
  rw [Sem.run_bind, run_underlying Tryd.underlying23 w, Result.andThen_ok]
  simp only [Sem.run_bind, run_size38, Result.andThen_ok]
  rw [if_neg hn, if_neg h0, Sem.run_bind, run_zero38, Result.andThen_ok, Sem.run_bind, Sem.run_pure, Result.andThen_ok]
  have := hf ((Array.range (n * 514)).map (fun x => (Value.agg PV0).cells[x % (Value.agg PV0).cells.size]!)) (by rw [Array.size_map, Array.size_range])
  rw [this]
  simp [newRow]
theorem run_bs0 (w : World) : (bsS 23 0 #[]).run Tryd.prog w = .ok (.slice (some ⟨w.heap.size, 0, none⟩) 0 0) (w.alloc (.cells #[] 38)) := by
  unfold bsS Instr.buildSlice
  rw [Sem.run_bind, run_underlying Tryd.underlying23 w, Result.andThen_ok]
  simp only [Sem.run_bind, run_size38, Result.andThen_ok]
  simp [Instr.fill, newRow, Array.range]
theorem laid_all {cs vs : Array Value} (h : vs.size = cs.size) : laid cs 0 vs = vs := by
  unfold laid
  have : cs.toList.drop (0 + vs.size) = [] := by apply List.drop_eq_nil_of_le; simp; omega
  rw [this]; simp
theorem run_bs1 (w : World) (p q : Option Addr) (o : Nat → Bool) (s : Nat → Nat) : (bsS 23 1 #[(0, .agg (PV p q o s))]).run Tryd.prog w = .ok (.slice (some ⟨w.heap.size, 0, none⟩) 1 1) (w.alloc (.cells (PV p q o s) 38)) := by
  have hf : ∀ cs : Array Value, cs.size = 514 → Instr.fill (fun i => some (i * 514, 514)) cs [(0, .agg (PV p q o s))] = some (PV p q o s) := fun cs hcs => by
    rw [fill_step (off := 0) (by simp [Value.cells, PV_size]) (by simp [Value.cells, PV_size, hcs])]
    unfold Instr.fill
    exact congrArg some (laid_all (by simp [Value.cells, PV_size, hcs]))
  exact run_bsS w 1 _ _ (by omega) (by omega) (fun cs h => hf cs (by omega))
theorem laid_two {cs a b : Array Value} (h : cs.size = a.size + b.size) : laid (laid cs 0 a) a.size b = a ++ b := by
  have e1 : (laid cs 0 a).toList = a.toList ++ cs.toList.drop a.size := by unfold laid; simp
  unfold laid
  unfold laid at e1
  rw [e1]
  have : (a.toList ++ cs.toList.drop a.size).drop (a.size + b.size) = [] := by apply List.drop_eq_nil_of_le; simp; omega
  rw [this]
  simp
theorem run_bs2 (w : World) (p q p' q' : Option Addr) (o o' : Nat → Bool) (s s' : Nat → Nat) : (bsS 23 2 #[(0, .agg (PV p q o s)), (1, .agg (PV p' q' o' s'))]).run Tryd.prog w = .ok (.slice (some ⟨w.heap.size, 0, none⟩) 2 2) (w.alloc (.cells (PV p q o s ++ PV p' q' o' s') 38)) := by
  have hf : ∀ cs : Array Value, cs.size = 1028 → Instr.fill (fun i => some (i * 514, 514)) cs [(0, .agg (PV p q o s)), (1, .agg (PV p' q' o' s'))] = some (PV p q o s ++ PV p' q' o' s') := fun cs hcs => by
    rw [fill_step (off := 0) (by simp [Value.cells, PV_size]) (by simp [Value.cells, PV_size, hcs])]
    rw [fill_step (off := 514) (by simp [Value.cells, PV_size]) (by rw [laid_size (by simp [Value.cells, PV_size, hcs])]; simp [Value.cells, PV_size, hcs])]
    unfold Instr.fill
    have := laid_two (cs := cs) (a := PV p q o s) (b := PV p' q' o' s') (by simp [PV_size, hcs])
    rw [PV_size] at this
    exact congrArg some this
  exact run_bsS w 2 _ _ (by omega) (by omega) (fun cs h => hf cs (by omega))
end Go.Proofs.YthnmhdabdiennaaDoor
namespace Go.Proofs.YthnmhdabdiennaaDoor
open Go.RowKit
attribute [local go_sem ↓] Go.wp_at_zero Go.wp_at_succ
attribute [local go_sem ↓] ld36 ld34 ld38 st36 st38 st32 al36 al38 bu36 bu32 bu38 bs23
attribute [local go_sem] run_ld36 run_st36 run_al36 blkOf_drew blkOf_setRow_same blkOf_setRow_other RV_size run_bu36 blkOf_new blkOf_old
theorem idText_len {o : Nat → Bool} : ∀ {i : IdT} {d low : Nat}, IdOn o i d low → (idText i).length + 3 ≤ 4 * 2 ^ d
  | .zero, d, low, _ => by have := pow_pos2 d; simp [idText]; omega
  | .node l r, d, low, h => by
    cases hn : IdT.isOne (.node l r) with
    | true => have := pow_pos2 d; rw [isOne_eq hn]; simp [idText, IdT.one, IdT.isOne]; omega
    | false =>
      obtain ⟨e, rfl, hl, hr, _⟩ := h.of_node hn
      have := idText_len hl
      have := idText_len hr
      have := pow_half e
      rw [idText_node hn]
      simp only [List.length_cons, List.length_append, List.length_nil]
      omega
theorem evText_len {s : Nat → Nat} : ∀ {t : EvT} {d low base : Nat}, EvOn s t d low base → t.top < 100 → (evText t).length + 6 ≤ 8 * 2 ^ d
  | .leaf n, d, low, base, _, h => by
    have := pow_pos2 d
    have := dec_len n h
    simp only [evText]; omega
  | .node n l r, d, low, base, hE, h => by
    obtain ⟨e, rfl, hl, hr, _, _⟩ := hE
    simp only [EvT.top] at h
    have := evText_len hl (by omega)
    have := evText_len hr (by omega)
    have := dec_len n (by omega)
    have := pow_half e
    simp only [evText, List.length_cons, List.length_append, List.length_nil]
    omega
theorem all_of_top : ∀ t : EvT, t.top < 100 → t.all (· < 100)
  | .leaf n, h => h
  | .node n l r, h => by
    simp only [EvT.top] at h
    exact ⟨by omega, all_of_top l (by omega), all_of_top r (by omega)⟩
/-- A stamp and what the reference has for it. -/
structure Pr where
  i : IdT
  t : EvT
  o : Nat → Bool
  s : Nat → Nat
/-- Both mean the same; at most k events. -/
structure Rel (k : Nat) (x : Pr) : Prop where
  id : IdOn x.o x.i 8 0
  ev : EvOn x.s x.t 8 0 0
  top : x.t.top ≤ k
theorem Rel.mono {k k' : Nat} {x : Pr} (h : Rel k x) (hk : k ≤ k') : Rel k' x := ⟨h.id, h.ev, Nat.le_trans h.top hk⟩
theorem Rel.small {k : Nat} {x : Pr} (h : Rel k x) (hk : k ≤ 90) : ∀ j, j < 256 → x.s j ≤ 90 := fun j hj => by
  have := (h.ev.facts.1 j (by simpa using hj)).2
  have := h.top
  simp only [Nat.zero_add] at *
  omega
theorem Rel.big {k : Nat} {x : Pr} (h : Rel k x) (hk : k ≤ 90) : Big x.s := fun j hj => Nat.le_trans (h.small hk j hj) (by decide)
theorem Rel.len {k : Nat} {x : Pr} (h : Rel k x) (hk : k ≤ 90) : (stText x.i x.t).length ≤ 1099511627776 := by
  have h1 := idText_len h.id
  have h2 := evText_len h.ev (by have := h.top; omega)
  simp only [stText, List.length_cons, List.length_append, List.length_nil]
  omega
/-- The pointers of a stamp of a pair. -/
def PpAt (w : World) (p q : Option Addr) (x : Pr) : Prop := IdAt w (.pointer p) x.i ∧ SeenAt w (.pointer q) x.t
theorem PpAt.ext {w w' : World} (h : Ext w w') {p q : Option Addr} {x : Pr} (k : PpAt w p q x) : PpAt w' p q x := ⟨k.1.ext h, k.2.ext h⟩
theorem PpAt.st {w : World} {p q : Option Addr} {x : Pr} (k : PpAt w p q x) : StAt w (.agg #[.pointer p, .pointer q]) x.i x.t := ⟨_, _, rfl, k.1, k.2⟩
theorem text_of (k : Nat) (x : Pr) (p q : Option Addr) (w : World) (h : PpAt w p q x) (hr : Rel k x) (hk : k ≤ 90) : Calls Tryd.prog 25 #[.agg #[.pointer p, .pointer q]] w (RetT (stText x.i x.t) w) :=
  sttext_any (· < 100) x.i x.t _ w h.st (all_of_top _ (by have := hr.top; omega)) (fmt_ok_small w) (hr.len hk)
theorem rtext_of (k : Nat) (x : Pr) (w : World) (hr : Rel k x) (hk : k ≤ 90) : Calls Tryd.prog 22 #[.agg (RV x.o x.s)] w (RetT (stText x.i x.t) w) :=
  rtext_any x.o x.s x.i x.t w (hr.big hk) hr.id hr.ev (by have := hr.top; omega) (hr.len hk)
/-- Where a stamp of the reference lies. -/
def RdAt (w : World) (ad : Addr) (o : Nat → Bool) (s : Nat → Nat) : Prop := ∀ k v, (RV o s)[k]? = some v → w.cell? (ad.add k) = some v
theorem RdAt.run {w : World} {ad : Addr} {o : Nat → Bool} {s : Nat → Nat} (h : RdAt w ad o s) : (ldS 36 (.pointer (some ad))).run Tryd.prog w = .ok (.agg (RV o s)) w := by
  have hl := run_loadCells_list (P := Tryd.prog) w ad (RV o s).toList (fun j v hv => h j v (by simpa using hv))
  have h36 := Tryd.size36
  unfold ldS Instr.loadAt Instr.sureAddr
  rw [Sem.run_bind, Sem.run_pure, Result.andThen_ok]
  cases hq : Tryd.prog.info? 36 with
  | none => rw [hq] at h36; cases h36
  | some i =>
    rw [hq] at h36
    have hs : i.size = 512 := by simpa using h36
    have hagg : (isAgg 36).run Tryd.prog w = .ok true w := by
      unfold isAgg
      rw [Sem.run_bind, run_underlying Tryd.underlying36 w]
      simp
    simp only [Array.length_toList, Array.toArray_toList, RV_size] at hl
    simp [loadVar, Sem.run_bind, hagg, sizeOf, typeInfo, hq, hs, hl]
theorem RdAt.ext {w w' : World} (h : Ext w w') {ad : Addr} {o : Nat → Bool} {s : Nat → Nat} (k : RdAt w ad o s) : RdAt w' ad o s := fun j v hv => h.cell (k j v hv)
/-- What a pair in a block holds. -/
structure PairIn (w : World) (g : Nat) (p q : Option Addr) (o : Nat → Bool) (s : Nat → Nat) : Prop where
  c0 : w.cell? ⟨g, 0, none⟩ = some (.pointer p)
  c1 : w.cell? ⟨g, 1, none⟩ = some (.pointer q)
  c2 : (ldS 36 (.pointer (some ⟨g, 2, none⟩))).run Tryd.prog w = .ok (.agg (RV o s)) w
theorem pairIn {w : World} {g : Nat} {p q : Option Addr} {o : Nat → Bool} {s : Nat → Nat} (h : blkOf w g = PV p q o s) : PairIn w g p q o s :=
  ⟨blkOf_cell (by rw [h]; exact PV_0), blkOf_cell (by rw [h]; exact PV_1), RdAt.run fun k v hv => by
    have : (⟨g, 2, none⟩ : Addr).add k = ⟨g, 2 + k, none⟩ := by unfold Addr.add; split <;> simp_all
    rw [this]
    exact blkOf_cell (by rw [h, PV_2]; exact hv)⟩
theorem held_pair {w w' : World} (h : Ext w w') {g : Nat} {p q : Option Addr} {o : Nat → Bool} {s : Nat → Nat} (hb : blkOf w g = PV p q o s) : Ext w w' ∧ w'.cell? ⟨g, 0, none⟩ = some (.pointer p) ∧ w'.cell? ⟨g, 1, none⟩ = some (.pointer q) ∧ (ldS 36 (.pointer (some ⟨g, 2, none⟩))).run Tryd.prog w' = .ok (.agg (RV o s)) w' := by
  have hb' : blkOf w' g = PV p q o s := by rw [blkOf_ext h (blkOf_lt (by rw [hb, PV_size]; decide))]; exact hb
  have := pairIn hb'
  exact ⟨h, this.c0, this.c1, this.c2⟩
set_option maxRecDepth 100000 in
set_option maxHeartbeats 4000000 in
theorem lsame_any (k : Nat) (x : Pr) (p q : Option Addr) (w : World) (h : PpAt w p q x) (hr : Rel k x) (hk : k ≤ 90) : Calls Tryd.prog 52 #[.agg (PV p q x.o x.s)] w (RetB true w) := by
  have TA := Lib.hid (fun w' (hx : Ext w w') => text_of k x p q w' (h.ext hx) hr hk)
  have TB := Lib.hid (fun w' => rtext_of k x w' hr hk)
  clear hr h
  obtain ⟨i, t, o, s⟩ := x
  simp only [] at *
  generalize stText i t = y at *
  go_enter Tryd.func52, Tryd.ntmps52
  go_wp2_with fail
  generalize hW : w.alloc (.cells (PV p q o s) 38) = w1
  obtain ⟨E, hb, hg⟩ := letterR hW
  have HB := Lib.hid hb
  clear hW hb
  go_region_held3 (fun w' => Ext w1 w' ∧ w'.cell? ⟨w.heap.size, 0, none⟩ = some (.pointer p) ∧ w'.cell? ⟨w.heap.size, 1, none⟩ = some (.pointer q) ∧ (ldS 36 (.pointer (some ⟨w.heap.size, 2, none⟩))).run Tryd.prog w' = .ok (.agg (RV o s)) w')
    (refine held_pair ?_ HB.out <;> repeat (first | assumption | exact Ext.refl _ | apply Ext.drew | apply Ext.drewN))
    (first
      | (go_at_call 25; go_split_ands; (with_reducible refine (TA.out _ (E.trans (by assumption))).mono ?_); rintro e3 w3 ⟨rfl, hbb⟩; have hE3 : Ext w1 w3 := Ext.trans (by assumption) hbb)
      | (go_at_call 22; go_split_ands; (with_reducible refine (TB.out _).mono ?_); rintro e4 w4 ⟨rfl, hbb⟩; have hE4 : Ext w1 w4 := Ext.trans (by assumption) hbb))
  go_wp2_with fail
  go_ret
  exact ⟨by simp, E.trans hE4⟩
end Go.Proofs.YthnmhdabdiennaaDoor
