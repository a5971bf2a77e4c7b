/- Equality of digests; a map of cases under digests: it is filled, looked at, and ranged over in any order. No case is closed. -/
import Derived.Test.YtjeclmmikjpinaaDoorR7
import Derived.ChangeKeysEq
import Derived.Maps.RangeRun
import Derived.Maps.RangeWalk
import Derived.WideKeyRuns
import Derived.WideMake
namespace Go.Proofs.YtjeclmmikjpinaaDoor
open Go.RowKit
open Go.ChangeMaps (setBlock)
@[irreducible] def eqD (a b : Value) : Sem Value := binOp .eql 27 a b
theorem eq48 (a b : Value) : binOp .eql 27 a b = eqD a b := by unfold eqD; rfl
@[irreducible] def eqV (a b : List UInt8) : Bool := (List.range 32).all fun i => decide (a.getD i 0 = b.getD i 0)
theorem eqV_self (a : List UInt8) : eqV a a = true := by unfold eqV; simp
theorem eqV_iff {a b : List UInt8} (ha : a.length = 32) (hb : b.length = 32) : eqV a b = true ↔ a = b := by
  constructor
  · intro h
    unfold eqV at h
    apply List.ext_getElem (by omega)
    intro i h1 h2
    have := List.all_eq_true.1 h i (List.mem_range.2 (by omega))
    have e := of_decide_eq_true this
    rw [List.getD_eq_getElem?_getD, List.getD_eq_getElem?_getD, List.getElem?_eq_getElem h1, List.getElem?_eq_getElem h2] at e
    exact e
  · rintro rfl; exact eqV_self a
theorem eqV_dec {a b : List UInt8} (ha : a.length = 32) (hb : b.length = 32) : eqV a b = decide (a = b) := by
  rw [Bool.eq_iff_iff, eqV_iff ha hb, decide_eq_true_eq]
theorem run_partD {w : World} {d : List UInt8} {i : Nat} (h : i < 32) : (part 5 (idA d) (i * 1)).run Tryd.prog w = .ok (idF d i) w := by
  rw [Nat.mul_one]
  unfold part isAgg
  simp [Sem.run_bind, run_underlying Tryd.underlying5, arV_at h, Result.andThen]
theorem run_itemsD {w : World} {a b : List UInt8} {d : Nat} : ∀ is : List Nat, (∀ i ∈ is, i < 32) → (Op.eqItems (d + 1) 5 1 (idA a) (idA b) is).run Tryd.prog w = .ok (is.all fun i => decide (a.getD i 0 = b.getD i 0)) w
  | [], _ => by simp [Op.eqItems]
  | i :: is, h => by
    have ih := run_itemsD (w := w) (a := a) (b := b) (d := d) is (fun j hj => h j (by simp [hj]))
    have p3 : (Op.equalIn (d + 1) 5 (idF a i) (idF b i)).run Tryd.prog w = .ok (decide (a.getD i 0 = b.getD i 0)) w := by
      unfold idF
      simp only [Op.equalIn, Sem.run_bind, run_underlying Tryd.underlying5, Result.andThen]
      rw [show decide (a.getD i 0 = b.getD i 0) = decide ((((a.getD i 0).toNat : Nat) : Int) = (((b.getD i 0).toNat : Nat) : Int)) from by
        rw [Bool.eq_iff_iff, decide_eq_true_eq, decide_eq_true_eq]
        exact ⟨fun e => by rw [e], fun e => UInt8.toNat_inj.1 (by omega)⟩]
      simp
      try rfl
    simp only [Op.eqItems, Sem.run_bind, run_partD (h i (by simp)), Result.andThen_ok, p3]
    by_cases hfg : a.getD i 0 = b.getD i 0
    · rw [List.all_cons, decide_eq_true hfg]; simpa using ih
    · rw [List.all_cons, decide_eq_false hfg]; simp
set_option maxRecDepth 100000 in
theorem run_equalD {w : World} {a b : List UInt8} : (Op.equal 27 (idV a) (idV b)).run Tryd.prog w = .ok (eqV a b) w := by
  cases hi : Tryd.prog.info? 5 with
  | none =>
    have h0 : (Tryd.prog.info? 5).isSome = true := by kernel_rfl
    rw [hi] at h0
    cases h0
  | some i =>
    show (Op.equalIn (9999 + 1) 27 _ _).run Tryd.prog w = _
    rw [run_equalIn_array w 9999 _ _ Tryd.underlying27 hi, show Tryd.prog.cellsOf 5 = 1 by kernel_rfl]
    rw [run_itemsD (d := 9998) _ (fun i hi => List.mem_range.1 hi)]
    unfold eqV
    rfl
theorem run_eqD (w : World) (a b : List UInt8) : (eqD (idV a) (idV b)).run Tryd.prog w = .ok (.bool (eqV a b)) w := by
  unfold eqD
  simp only [binOp, Sem.run_bind]
  rw [run_equalD]
  rfl
theorem idV_inj {a b : List UInt8} (ha : a.length = 32) (hb : b.length = 32) (h : idV a = idV b) : a = b := by
  have h1 : idA a = idA b := by simpa using h
  rw [← eqV_iff ha hb]
  unfold eqV
  rw [List.all_eq_true]
  intro i hi
  have hi := List.mem_range.1 hi
  have h2 : (idA a)[i]? = (idA b)[i]? := by rw [h1]
  rw [arV_at hi, arV_at hi] at h2
  have h3 : idF a i = idF b i := Option.some.inj h2
  unfold idF at h3
  rw [decide_eq_true_eq]
  have h4 : ((a.getD i 0).toNat : Int) = ((b.getD i 0).toNat : Int) := by simpa using h3
  exact UInt8.toNat_inj.1 (by omega)
theorem run_check5 (w : World) (e : Bool) (n : Nat) (d : List UInt8) (i : Nat) : (Instr.checkKey e (n + 1) 5 (idF d i)).run Tryd.prog w = .ok () w :=
  MapKept.run_checkKey (d := .int .u8) Tryd.underlying5 (by simp [MapKept.IsKey, idF]) e n
theorem run_sizeOf5 (w : World) : (sizeOf 5).run Tryd.prog w = .ok 1 w := by
  obtain ⟨i0, hi0, hz0, hz1, hz2⟩ := info_parts Tryd.info5
  simp [sizeOf, typeInfo, hi0, hz1, Result.andThen, Sem.run_bind]
theorem run_checkList (w : World) (e : Bool) (n : Nat) (d : List UInt8) : ∀ is : List Nat, (∀ i ∈ is, i < 32) →
    (forIn is PUnit.unit (fun i _ => do Instr.checkKey e (n + 1) 5 (← part 5 (idA d) (i * (← sizeOf 5))); pure (ForInStep.yield PUnit.unit)) : Sem PUnit).run Tryd.prog w = .ok PUnit.unit w
  | [], _ => by simp
  | i :: is, h => by
    have ih := run_checkList w e n d is (fun j hj => h j (by simp [hj]))
    rw [List.forIn_cons]
    simp only [Sem.run_bind, run_sizeOf5, Result.andThen_ok, run_partD (h i (by simp)), run_check5, Sem.run_pure]
    exact ih
theorem run_check27 (w : World) (e : Bool) (d : List UInt8) : (Instr.checkKey e 10000 27 (idV d)).run Tryd.prog w = .ok () w := by
  show (Instr.checkKey e (9998 + 1 + 1) 27 (idV d)).run Tryd.prog w = .ok () w
  rw [Instr.checkKey]
  simp only [Sem.run_bind, run_underlying Tryd.underlying27, Result.andThen_ok]
  simp only [Std.Legacy.Range.forIn_eq_forIn_range', Std.Legacy.Range.size, Nat.sub_zero, Nat.add_one_sub_one, Nat.div_one, ← List.range_eq_range']
  rw [run_checkList w e 9998 d (List.range 32) (fun i hi => List.mem_range.1 hi)]
  rfl
theorem bits_id (d : List UInt8) : Instr.sameBits 10000 (idV d) (idV d) = true := by
  show Instr.sameBits (9999 + 1) (idV d) (idV d) = true
  rw [Instr.sameBits]
  rw [beq_self_eq_true, Bool.true_and, List.all_eq_true]
  rintro ⟨x, y⟩ hxy
  have hx : x ∈ (idA d).toList := (List.of_mem_zip hxy).1
  have hxy2 : x = y := by
    obtain ⟨i, hi⟩ := List.mem_iff_getElem?.1 hxy
    rw [List.getElem?_zip_eq_some] at hi
    obtain ⟨h1, h2⟩ := hi
    rw [h1] at h2
    exact Option.some.inj h2
  subst hxy2
  have : ∃ z, x = .int .u8 z := by
    obtain ⟨i, hi⟩ := List.mem_iff_getElem?.1 hx
    have hl : i < 32 := by
      have := (List.getElem?_eq_some_iff.1 hi).1
      simpa [arV] using this
    have h1 := arV_at (f := idF d) hl
    rw [Array.getElem?_toList] at hi
    rw [h1] at hi
    exact ⟨_, (Option.some.inj hi).symm⟩
  obtain ⟨z, rfl⟩ := this
  simp [Instr.sameBits]
theorem run_stay (w : World) (d : List UInt8) : (Instr.keyThatStays (idV d) (idV d)).run Tryd.prog w = .ok (idV d) w := by
  unfold Instr.keyThatStays
  rw [if_pos (bits_id d)]
  rfl
/-- A case that is not closed. -/
def IsKv (v : Value) : Prop := ∃ s A l c, v = .agg #[.string s, .slice A l c, .bool false]
/-- A map holds cases at these digests, and at no others. -/
structure Mk (w : World) (r : Nat) (ks : List (List UInt8)) : Prop where
  at_ : ∃ es clock, w.heap[r]? = some (.map es clock) ∧ es.toList.map (·.key) = ks.map (fun k => idV k) ∧ (∀ e ∈ es.toList, IsKv e.val) ∧ MapKept.Stamped es clock
  long : ∀ k ∈ ks, k.length = 32
theorem Mk.kept {w w' : World} {r : Nat} {ks : List (List UInt8)} (h : Mk w r ks) (hb : w'.heap[r]? = w.heap[r]?) : Mk w' r ks := by
  obtain ⟨es, c, h1, h2⟩ := h.at_
  exact ⟨⟨es, c, by rw [hb]; exact h1, h2⟩, h.long⟩
theorem Mk.lt {w : World} {r : Nat} {ks : List (List UInt8)} (h : Mk w r ks) : r < w.heap.size := by
  obtain ⟨es, c, h1, _⟩ := h.at_
  exact (Array.getElem?_eq_some_iff.1 h1).1
theorem Mk.ext {w w' : World} {r : Nat} {ks : List (List UInt8)} (h : Mk w r ks) (k : Ext w w') : Mk w' r ks := h.kept (k.block r h.lt)
theorem Mk.new (w : World) : Mk (w.alloc (.map #[] 0)) w.heap.size [] := ⟨⟨#[], 0, heap_alloc_new w _, rfl, by simp, MapKept.stamped_empty 0⟩, by simp⟩
theorem Mk.nodup {w : World} {r : Nat} {ks : List (List UInt8)} (h : Mk w r ks) : ks.Nodup := by
  obtain ⟨es, c, _, h2, _, _, _, h5⟩ := h.at_
  rw [h2] at h5
  exact List.Pairwise.of_map (fun k => idV k) (fun a b hab e => hab (by rw [e])) h5
theorem find_ask (x : List UInt8) (hx : x.length = 32) : ∀ (es : List MapEntry) (ks : List (List UInt8)) (i : Nat), es.map (·.key) = ks.map (fun k => idV k) → (∀ k ∈ ks, k.length = 32) →
    ((∃ j e, es[j]? = some e ∧ e.key = idV x ∧ x ∈ ks ∧ ∀ w, (Instr.findAsking 27 (idV x) es i).run Tryd.prog w = .ok (some (i + j, e.val)) w) ∨ (x ∉ ks ∧ ∀ w, (Instr.findAsking 27 (idV x) es i).run Tryd.prog w = .ok none w))
  | [], [], i, _, _ => .inr ⟨by simp, fun _ => rfl⟩
  | [], _ :: _, _, h, _ => by simp at h
  | _ :: _, [], _, h, _ => by simp at h
  | e :: es, k :: ks, i, h, hl => by
    rw [List.map_cons, List.map_cons, List.cons.injEq] at h
    obtain ⟨h1, h2⟩ := h
    have hr := fun w => run_equalD (w := w) (a := x) (b := k)
    rw [eqV_dec hx (hl k (by simp))] at hr
    rw [← h1] at hr
    by_cases hz : x = k
    · subst hz
      rw [decide_eq_true rfl] at hr
      exact .inl ⟨0, e, rfl, h1, by simp, fun w => by simp [Instr.findAsking, hr, Result.andThen]⟩
    · rw [decide_eq_false hz] at hr
      rcases find_ask x hx es ks (i + 1) h2 (fun k' hk' => hl k' (by simp [hk'])) with ⟨j, e', g1, g2, g3, g4⟩ | ⟨g1, g2⟩
      · exact .inl ⟨j + 1, e', by simpa using g1, g2, by simp [g3], fun w => by simp [Instr.findAsking, hr, g4, Result.andThen]; omega⟩
      · exact .inr ⟨by simp [hz, g1], fun w => by simp [Instr.findAsking, hr, g2, Result.andThen]⟩
/-- The keys behind an update. -/
def putM (ks : List (List UInt8)) (k : List UInt8) : List (List UInt8) := if k ∈ ks then ks else ks ++ [k]
theorem mem_putM {ks : List (List UInt8)} {k x : List UInt8} : x ∈ putM ks k ↔ x = k ∨ x ∈ ks := by
  unfold putM
  split
  · rename_i h
    exact ⟨.inr, fun e => e.elim (fun e => e ▸ h) id⟩
  · simp [or_comm]
theorem run_upd {w : World} {r : Nat} {ks : List (List UInt8)} (h : Mk w r ks) (x : List UInt8) (hx : x.length = 32) (v : Value) (hv' : IsKv v) : ∃ o, (Instr.mapUpdate 46 (.map (some r)) (idV x) v).run Tryd.prog w = .ok () (setBlock w r o) ∧ Mk (setBlock w r o) r (putM ks x) := by
  obtain ⟨es, clock, hb, hk, hv, hs⟩ := h.at_
  have hlong : ∀ k ∈ putM ks x, k.length = 32 := fun k hk => (mem_putM.1 hk).elim (fun e => e ▸ hx) (h.long k)
  have hf := run_findKey_eq (P := Tryd.prog) (k := 27) w (by rw [Tryd.underlying27]) (idV x) es.toList
  rcases find_ask x hx es.toList ks 0 hk h.long with ⟨j, e, h1, h2, h3, h4⟩ | ⟨h1, h2⟩
  · rw [h4 w, Nat.zero_add] at hf
    have hj : es[j]? = some e := by rw [← Array.getElem?_toList]; exact h1
    have hkf : ∀ e', es[j]? = some e' → ({ e' with key := idV x, val := v } : MapEntry).key = e'.key := fun e' he' => by rw [hj] at he'; cases he'; exact h2.symm
    refine ⟨.map (es.modify j fun e => { e with key := idV x, val := v }) clock, ?_, ⟨_, clock, (MapKept.heap_set hb).1, ?_, ?_, MapKept.stamped_modify hs _ _ (fun _ _ => rfl) (fun e' _ he' => hkf e' he')⟩, hlong⟩
    · simp [Instr.mapUpdate, run_underlying Tryd.underlying46, MapKept.run_getObj_map hb, run_check27, hf, hj, h2, run_stay, MapKept.run_setObj_map _ hb, Result.andThen, setBlock]
    · rw [MapKept.modify_keys _ _ hkf, hk, putM, if_pos h3]
    · intro e' he'
      rcases MapFrom.mem_modify he' with he' | ⟨_, _, rfl⟩
      · exact hv e' he'
      · exact hv'
  · rw [h2 w] at hf
    have hne : ∀ e ∈ es.toList, e.key ≠ idV x := fun e he hx' => by
      have : e.key ∈ ks.map (fun k => idV k) := by rw [← hk]; exact List.mem_map.2 ⟨e, he, rfl⟩
      obtain ⟨k, hk1, hk2⟩ := List.mem_map.1 this
      exact h1 (by rw [← idV_inj (h.long k hk1) hx (hk2.trans hx')]; exact hk1)
    refine ⟨.map (es.push { key := idV x, val := v, born := clock }) (clock + 1), ?_, ⟨_, clock + 1, (MapKept.heap_set hb).1, ?_, ?_, MapKept.stamped_push hs hne⟩, hlong⟩
    · simp [Instr.mapUpdate, run_underlying Tryd.underlying46, MapKept.run_getObj_map hb, run_check27, hf, MapKept.run_setObj_map _ hb, Result.andThen, setBlock]
    · rw [Array.toList_push, List.map_append, hk, putM, if_neg h1]
      simp
    · intro e' he'
      rw [Array.toList_push] at he'
      rcases List.mem_append.1 he' with hm | hm
      · exact hv e' hm
      · rw [List.mem_singleton.1 hm]; exact hv'
theorem Tryd.zero53 : (Tryd.prog.info? 53).map (·.zero) = some (some (.agg #[.string ⟨#[]⟩, .slice none 0 0, .bool false])) := by kernel_rfl
theorem run_zero51 (w : World) : (zeroValue 53).run Tryd.prog w = .ok (.agg #[.string ⟨#[]⟩, .slice none 0 0, .bool false]) w := by
  have h := Tryd.zero53
  cases hi : Tryd.prog.info? 53 with
  | none => rw [hi] at h; simp at h
  | some i =>
    rw [hi] at h
    simp at h
    simp [zeroValue, typeInfo, hi, h, Result.andThen, Sem.run_bind]
theorem look_any {w : World} {r : Nat} {ks : List (List UInt8)} (h : Mk w r ks) (x : List UInt8) (hx : x.length = 32) (c : Bool) : ∃ v, IsKv v ∧ ∀ w', w'.heap[r]? = w.heap[r]? → (Instr.lookup 46 (.map (some r)) (idV x) c).run Tryd.prog w' = .ok (if c then .tuple #[v, .bool (decide (x ∈ ks))] else v) w' := by
  obtain ⟨es, clock, hb, hk, hv, hs⟩ := h.at_
  have hf := fun w => run_findKey_eq (P := Tryd.prog) (k := 27) w (by rw [Tryd.underlying27]) (idV x) es.toList
  rcases find_ask x hx es.toList ks 0 hk h.long with ⟨j, e, h1, h2, h3, h4⟩ | ⟨h1, h2⟩
  · refine ⟨e.val, hv e (List.mem_of_getElem? h1), fun w' hw => ?_⟩
    have hf := hf w'
    rw [h4 w', Nat.zero_add] at hf
    rw [decide_eq_true h3]
    cases c <;> simp [Instr.lookup, run_underlying Tryd.underlying46, MapKept.run_getObj_map (hw.trans hb), run_check27, hf, Result.andThen]
  · refine ⟨.agg #[.string ⟨#[]⟩, .slice none 0 0, .bool false], ⟨_, _, _, _, rfl⟩, fun w' hw => ?_⟩
    have hf := hf w'
    rw [h2 w'] at hf
    rw [decide_eq_false h1]
    cases c <;> simp [Instr.lookup, run_underlying Tryd.underlying46, MapKept.run_getObj_map (hw.trans hb), run_check27, hf, Result.andThen]
theorem run_look {w : World} {r : Nat} {ks : List (List UInt8)} (h : Mk w r ks) (x : List UInt8) (hx : x.length = 32) (c : Bool) : ∃ v, IsKv v ∧ (Instr.lookup 46 (.map (some r)) (idV x) c).run Tryd.prog w = .ok (if c then .tuple #[v, .bool (decide (x ∈ ks))] else v) w := by
  obtain ⟨v, h1, h2⟩ := look_any h x hx c
  exact ⟨v, h1, h2 w rfl⟩
theorem run_lenM {w : World} {r : Nat} {ks : List (List UInt8)} (h : Mk w r ks) : ∃ es clock, w.heap[r]? = some (.map es clock) ∧ es.size = ks.length := by
  obtain ⟨es, clock, hb, hk, hv, hs⟩ := h.at_
  refine ⟨es, clock, hb, ?_⟩
  have := congrArg List.length hk
  simpa using this
end Go.Proofs.YtjeclmmikjpinaaDoor
