/- Whole networks of the reference, loaded, stored, made: operations on 83 cells that are not run. The plain scan of Consume. -/
import Derived.Test.YtehmpbaiefbemaaN28
namespace Go.Proofs.Ytehmpbaiefbemaa
open Go.RowKit
open Go.ChangeMaps (setBlock)
@[irreducible] def ldS (t : TypeId) (v : Value) : Sem Value := Instr.loadAt t v
@[irreducible] def stS (t : TypeId) (p v : Value) : Sem Unit := Instr.storeAt t p v
@[irreducible] def alS (t : TypeId) (h : Bool) (old : Value) : Sem Value := Instr.alloc t h old
@[irreducible] def buS (t : TypeId) (ps : Array (Nat × Value)) : Sem Value := Instr.build t ps
theorem ld32 (v : Value) : Instr.loadAt 32 v = ldS 32 v := by unfold ldS; rfl
theorem st32 (p v : Value) : Instr.storeAt 32 p v = stS 32 p v := by unfold stS; rfl
theorem al32 (h : Bool) (v : Value) : Instr.alloc 32 h v = alS 32 h v := by unfold alS; rfl
theorem bu32 (ps : Array (Nat × Value)) : Instr.build 32 ps = buS 32 ps := by unfold buS; rfl
abbrev nilS : Value := .slice none 0 0
abbrev NV0 : Array Value := NV nilS nilS (fun _ => 0) (fun _ => 0) (fun _ => 0) nilS
theorem Try.size32 : (Try.prog.info? 32).map (·.size) = some 83 := by kernel_rfl
theorem NV0_list : NV0.toList = nvl nilS nilS (fun _ => 0) (fun _ => 0) (fun _ => 0) nilS := by
  show (NV nilS nilS (fun _ => 0) (fun _ => 0) (fun _ => 0) nilS).toList = _
  unfold NV
  rfl
theorem Try.zero32 : (Try.prog.info? 32).map (·.zero) = some (some (.agg (nvl nilS nilS (fun _ => 0) (fun _ => 0) (fun _ => 0) nilS).toArray)) := by kernel_rfl
theorem NV0_eq : (nvl nilS nilS (fun _ => 0) (fun _ => 0) (fun _ => 0) nilS).toArray = NV0 := by rw [← NV0_list]
theorem blkOf_setRow_same {w : World} {g : Nat} {cs : Array Value} (h : (blkOf w g).size = 83) : blkOf (w.setRow g cs) g = cs := by
  obtain ⟨T, e⟩ := of_blkOf h
  exact blkOf_of (setRow_heap w g _ cs T _ e)
theorem blkOf_setRow_other {w : World} {g g' : Nat} {cs : Array Value} (h : g' ≠ g) : blkOf (w.setRow g cs) g' = blkOf w g' := by unfold blkOf; rw [setRow_other w g g' cs h]
theorem Ext.setRow {w w' : World} (h : Ext w w') {g : Nat} (hg : w.heap.size ≤ g) (cs : Array Value) : Ext w (w'.setRow g cs) :=
  ⟨h.os, h.tape, h.output, by rw [setRow_size]; exact h.size, fun k hk => by rw [setRow_other _ _ _ _ (by omega)]; exact h.block k hk⟩
theorem run_ld32 {w : World} {g : Nat} (h : (blkOf w g).size = 83) : (ldS 32 (.pointer (some ⟨g, 0, none⟩))).run Try.prog w = .ok (.agg (blkOf w g)) w := by
  obtain ⟨T, e⟩ := of_blkOf h
  unfold ldS Instr.loadAt Instr.sureAddr
  rw [Sem.run_bind, Sem.run_pure, Result.andThen_ok]
  exact run_loadVar_row w g T 32 _ _ _ e Try.underlying32 rfl (by rw [h]; exact Try.size32)
theorem run_st32 {w : World} {g : Nat} {cs : Array Value} (hz : cs.size = 83) (h1 : cs.all (·.oneCell') = true) (h : (blkOf w g).size = 83) : (stS 32 (.pointer (some ⟨g, 0, none⟩)) (.agg cs)).run Try.prog w = .ok () (w.setRow g cs) := by
  obtain ⟨T, e⟩ := of_blkOf h
  unfold stS Instr.storeAt Instr.sureAddr
  rw [Sem.run_bind, Sem.run_pure, Result.andThen_ok]
  exact run_storeVar_row w g T 32 _ _ e (by rw [hz]; exact Try.size32) (by rw [h, hz]) h1
theorem NV_one' {a d p : Option Addr} {b c e f q r : Nat} {s t u : Nat → Nat} : (NV (.slice a b c) (.slice d e f) s t u (.slice p q r)).all (·.oneCell') = true := NV_one rfl rfl rfl
theorem run_st32n {w : World} {g : Nat} {a d p : Option Addr} {b c e f q r : Nat} {s t u : Nat → Nat} (h : (blkOf w g).size = 83) :
    (stS 32 (.pointer (some ⟨g, 0, none⟩)) (.agg (NV (.slice a b c) (.slice d e f) s t u (.slice p q r)))).run Try.prog w = .ok () (w.setRow g (NV (.slice a b c) (.slice d e f) s t u (.slice p q r))) := run_st32 NV_size NV_one' h
theorem run_zero32 (w : World) : (zeroValue 32).run Try.prog w = .ok (.agg NV0) w := by
  have h := Try.zero32
  rw [NV0_eq] at h
  unfold zeroValue typeInfo
  cases hq : Try.prog.info? 32 with
  | none => rw [hq] at h; cases h
  | some i =>
    rw [hq] at h
    have hz : i.zero = some (.agg NV0) := by simpa using h
    simp [hq, hz]
theorem run_al32 (w : World) (hp : Bool) (old : Value) (h : hp = true ∨ old = undef) : (alS 32 hp old).run Try.prog w = .ok (.pointer (some ⟨w.heap.size, 0, none⟩)) (w.alloc (.cells NV0 32)) := by
  unfold alS Instr.alloc
  rw [Sem.run_bind, run_zero32, Result.andThen_ok]
  rcases h with rfl | rfl
  · go_simp
  · cases hp
    · unfold undef; go_simp
    · go_simp
theorem res32 {fn : Func} {p : Tmp} (h : fn.results = #[.cell p 32]) {tmps : Array Value} {w : World} {g : Nat} {cs : Array Value} (hp : tmps.getD p undef = .pointer (some ⟨g, 0, none⟩)) (hb : blkOf w g = cs) (hz : cs.size = 83) :
    (results fn tmps).run Try.prog w = .ok (.agg cs) w := by
  obtain ⟨T, e⟩ := of_blkOf (show (blkOf w g).size = 83 by rw [hb, hz])
  rw [hb] at e
  exact results_cell_row h tmps w g T _ _ _ hp e Try.underlying32 rfl (by rw [hz]; exact Try.size32)
theorem run_lv32 {w : World} {g : Nat} {cs : Array Value} (hb : blkOf w g = cs) (hz : cs.size = 83) : (loadVar 32 ⟨g, 0, none⟩).run Try.prog w = .ok (.agg cs) w := by
  obtain ⟨T, e⟩ := of_blkOf (show (blkOf w g).size = 83 by rw [hb, hz])
  rw [hb] at e
  exact run_loadVar_row w g T 32 _ _ _ e Try.underlying32 rfl (by rw [hz]; exact Try.size32)
theorem res32b {fn : Func} {p u : Tmp} (h : fn.results = #[.cell p 32, .tmp u]) {tmps : Array Value} {w : World} {g : Nat} {cs : Array Value} {x : Value} (hp : tmps.getD p undef = .pointer (some ⟨g, 0, none⟩)) (hx : tmps.getD u undef = x) (hb : blkOf w g = cs) (hz : cs.size = 83) :
    (results fn tmps).run Try.prog w = .ok (.tuple #[.agg cs, x]) w := by
  rw [results_cell_tmp h, hp, hx]
  simp [asAddr, run_lv32 hb hz]
theorem results_cell_tmp2 {fn : Func} {p u v : Tmp} {ty : TypeId} (h : fn.results = #[.cell p ty, .tmp u, .tmp v]) (tmps : Array Value) (P : Program) (w : World) :
    (results fn tmps).run P w = ((asAddr (tmps.getD p undef)).run P w).andThen fun a w₁ => ((loadVar ty a).run P w₁).andThen fun x w₂ => .ok (.tuple #[x, tmps.getD u undef, tmps.getD v undef]) w₂ := by
  simp only [results, h]
  simp [Sem.run_bind, Result.andThen]
theorem res32c {fn : Func} {p u v : Tmp} (h : fn.results = #[.cell p 32, .tmp u, .tmp v]) {tmps : Array Value} {w : World} {g : Nat} {cs : Array Value} {x y : Value} (hp : tmps.getD p undef = .pointer (some ⟨g, 0, none⟩)) (hx : tmps.getD u undef = x) (hy : tmps.getD v undef = y) (hb : blkOf w g = cs) (hz : cs.size = 83) :
    (results fn tmps).run Try.prog w = .ok (.tuple #[.agg cs, x, y]) w := by
  rw [results_cell_tmp2 h, hp, hx, hy]
  simp [asAddr, run_lv32 hb hz]
/-- One row of a scan: behind x. -/
theorem insK_end {k : Ky} : ∀ {l : List Ky}, (∀ x ∈ l, klt x k) → insK k l = l ++ [k]
  | [], _ => rfl
  | y :: l, h => by
    have h1 := h y (by simp)
    rw [insK, if_neg (fun e => klt_irrefl y (by rw [e] at h1; exact h1)), if_neg (klt_asymm h1), insK_end (fun x hx => h x (by simp [hx]))]
    rfl
theorem insK_mid {k x : Ky} (hx : klt k x) : ∀ {l : List Ky}, (∀ y ∈ l, klt y k) → insK k (l ++ [x]) = l ++ [k] ++ [x]
  | [], _ => by
    show insK k [x] = [k, x]
    rw [insK, if_neg (klt_ne hx), if_pos hx]
  | y :: l, h => by
    have h1 := h y (by simp)
    rw [List.cons_append, insK, if_neg (fun e => klt_irrefl y (by rw [e] at h1; exact h1)), if_neg (klt_asymm h1), insK_mid hx (fun x hx => h x (by simp [hx]))]
    rfl
theorem insK_past {k x : Ky} : ∀ {l : List Ky}, (∃ y ∈ l, klt k y) → insK k (l ++ [x]) = insK k l ++ [x]
  | [], h => by
    obtain ⟨y, hy, _⟩ := h
    cases hy
  | y :: l, h => by
    rw [List.cons_append, insK, insK]
    by_cases h1 : k = y
    · rw [if_pos h1, if_pos h1]; rfl
    · rw [if_neg h1, if_neg h1]
      by_cases h2 : klt k y
      · rw [if_pos h2, if_pos h2]; rfl
      · rw [if_neg h2, if_neg h2, insK_past]
        · rfl
        · obtain ⟨z, hz, hk⟩ := h
          rcases List.mem_cons.1 hz with rfl | hz
          · exact absurd hk h2
          · exact ⟨z, hz, hk⟩
theorem take_getD {ks : List Ky} {k : Nat} (h : k < ks.length) : ks.take (k + 1) = ks.take k ++ [ks.getD k (0, 0, 0, 0)] := by
  rw [List.take_succ_eq_append_getElem h, List.getD_eq_getElem?_getD, List.getElem?_eq_getElem h]
  rfl
end Go.Proofs.Ytehmpbaiefbemaa
