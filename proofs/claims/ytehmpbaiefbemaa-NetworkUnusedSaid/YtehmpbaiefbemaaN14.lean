/- A map of keys that a call has made: it is filled, and looked at in any order. -/
import Derived.Test.YtehmpbaiefbemaaN13
import Derived.Maps.RangeRun
import Derived.WideKeyRuns
namespace Go.Proofs.Ytehmpbaiefbemaa
open Go.RowKit
open Go.ChangeMaps (setBlock)
theorem keyV_inj {a b : Ky} (h : keyV a = keyV b) : a = b := by
  obtain ⟨a1, a2, a3, a4⟩ := a
  obtain ⟨b1, b2, b3, b4⟩ := b
  simp at h
  obtain ⟨h1, h2, h3, h4⟩ := h
  have h1 : a1 = b1 := by omega
  simp [h1, h2, h3, h4]
theorem run_same73 (w : World) (a b : Ky) : (Op.equal 73 (keyV a) (keyV b)).run Try.prog w = .ok (decide (a = b)) w := by
  have h := run_eq73 w a.1 b.1 a.2.1 a.2.2.1 a.2.2.2 b.2.1 b.2.2.1 b.2.2.2
  unfold eqS at h
  have e : eqB (a.1, a.2.1, a.2.2.1, a.2.2.2) (b.1, b.2.1, b.2.2.1, b.2.2.2) = decide (a = b) := by unfold eqB; rfl
  rw [e] at h
  simp only [binOp, Sem.run_bind] at h
  cases hr : (Op.equal 73 (keyV a) (keyV b)).run Try.prog w with
  | ok v w' =>
    rw [hr] at h
    simp [Result.andThen, Sem.run_pure] at h
    rw [h.1, h.2]
  | _ =>
    rw [hr] at h
    simp [Result.andThen] at h
theorem run_check_any (w : World) (e : Bool) (k : Ky) (n : Nat) : (Instr.checkKey e (n + 1 + 1) 73 (keyV k)).run Try.prog w = .ok () w := by
  have h1 : ∀ x : Int, (Instr.checkKey e (n + 1) 3 (iV x)).run Try.prog w = .ok () w := fun x => MapKept.run_checkKey (d := .int .i64) Try.underlying3 (by simp [MapKept.IsKey]) _ n
  have h2 : ∀ x : Nat, (Instr.checkKey e (n + 1) 71 (kV x)).run Try.prog w = .ok () w := fun x => MapKept.run_checkKey (d := .int .u8) Try.underlying71 (by simp [MapKept.IsKey]) _ n
  rw [Instr.checkKey]
  go_simp
theorem run_check73 (w : World) (e : Bool) (k : Ky) : (Instr.checkKey e 10000 73 (keyV k)).run Try.prog w = .ok () w := run_check_any w e k 9998
/-- A map holds true at these keys, and at no others. -/
structure Mk (w : World) (r : Nat) (ks : List Ky) : Prop where
  at_ : ∃ es clock, w.heap[r]? = some (.map es clock) ∧ es.toList.map (·.key) = ks.map keyV ∧ (∀ e ∈ es.toList, e.val = .bool true) ∧ MapKept.Stamped es clock
theorem Mk.kept {w w' : World} {r : Nat} {ks : List Ky} (h : Mk w r ks) (hb : w'.heap[r]? = w.heap[r]?) : Mk w' r ks := by
  obtain ⟨es, c, h1, h2⟩ := h.at_
  exact ⟨es, c, by rw [hb]; exact h1, h2⟩
theorem Mk.lt {w : World} {r : Nat} {ks : List Ky} (h : Mk w r ks) : r < w.heap.size := by
  obtain ⟨es, c, h1, _⟩ := h.at_
  exact (Array.getElem?_eq_some_iff.1 h1).1
theorem Mk.ext {w w' : World} {r : Nat} {ks : List Ky} (h : Mk w r ks) (k : Ext w w') : Mk w' r ks := h.kept (k.block r h.lt)
theorem Mk.new (w : World) : Mk (w.alloc (.map #[] 0)) w.heap.size [] := ⟨#[], 0, heap_alloc_new w _, rfl, by simp, MapKept.stamped_empty 0⟩
theorem Mk.nodup {w : World} {r : Nat} {ks : List Ky} (h : Mk w r ks) : ks.Nodup := by
  obtain ⟨es, c, _, h2, _, _, _, h5⟩ := h.at_
  rw [h2] at h5
  exact List.Pairwise.of_map keyV (fun a b hab e => hab (by rw [e])) h5
theorem find_ask (w : World) (x : Ky) : ∀ (es : List MapEntry) (ks : List Ky) (i : Nat), es.map (·.key) = ks.map keyV → (∀ e ∈ es, e.val = .bool true) →
    ((∃ j e, es[j]? = some e ∧ e.key = keyV x ∧ x ∈ ks ∧ (Instr.findAsking 73 (keyV x) es i).run Try.prog w = .ok (some (i + j, .bool true)) w) ∨ (x ∉ ks ∧ (Instr.findAsking 73 (keyV x) es i).run Try.prog w = .ok none w))
  | [], [], i, _, _ => .inr ⟨by simp, rfl⟩
  | [], _ :: _, _, h, _ => by simp at h
  | _ :: _, [], _, h, _ => by simp at h
  | e :: es, k :: ks, i, h, hv => by
    rw [List.map_cons, List.map_cons, List.cons.injEq] at h
    obtain ⟨h1, h2⟩ := h
    have hr := run_same73 w x k
    rw [← h1] at hr
    by_cases hz : x = k
    · subst hz
      rw [decide_eq_true rfl] at hr
      exact .inl ⟨0, e, rfl, h1, by simp, by simp [Instr.findAsking, hr, hv e (by simp), Result.andThen]⟩
    · rw [decide_eq_false hz] at hr
      rcases find_ask w x es ks (i + 1) h2 (fun e' he' => hv e' (by simp [he'])) with ⟨j, e', g1, g2, g3, g4⟩ | ⟨g1, g2⟩
      · exact .inl ⟨j + 1, e', by simpa using g1, g2, by simp [g3], by simp [Instr.findAsking, hr, g4, Result.andThen]; omega⟩
      · exact .inr ⟨by simp [hz, g1], by simp [Instr.findAsking, hr, g2, Result.andThen]⟩
theorem bits_any (k : Ky) (n : Nat) : Instr.sameBits (n + 1) (keyV k) (keyV k) = true := by
  simp [Instr.sameBits]
theorem bits_self (k : Ky) : Instr.sameBits 10000 (keyV k) (keyV k) = true := bits_any k 9999
theorem run_stay (w : World) (k : Ky) : (Instr.keyThatStays (keyV k) (keyV k)).run Try.prog w = .ok (keyV k) w := by
  unfold Instr.keyThatStays
  rw [if_pos (bits_self k)]
  rfl
/-- The keys behind an update. -/
def putM (ks : List Ky) (k : Ky) : List Ky := if k ∈ ks then ks else ks ++ [k]
theorem mem_putM {ks : List Ky} {k x : Ky} : x ∈ putM ks k ↔ x = k ∨ x ∈ ks := by
  unfold putM
  split
  · rename_i h
    exact ⟨.inr, fun e => e.elim (fun e => e ▸ h) id⟩
  · simp [or_comm]
theorem run_upd {w : World} {r : Nat} {ks : List Ky} (h : Mk w r ks) (x : Ky) : ∃ o, (Instr.mapUpdate 89 (.map (some r)) (keyV x) (.bool true)).run Try.prog w = .ok () (setBlock w r o) ∧ Mk (setBlock w r o) r (putM ks x) := by
  obtain ⟨es, clock, hb, hk, hv, hs⟩ := h.at_
  have hf := run_findKey_eq (P := Try.prog) (k := 73) w (by rw [Try.underlying73]) (keyV x) es.toList
  rcases find_ask w x es.toList ks 0 hk hv with ⟨j, e, h1, h2, h3, h4⟩ | ⟨h1, h2⟩
  · rw [h4, Nat.zero_add] at hf
    have hj : es[j]? = some e := by rw [← Array.getElem?_toList]; exact h1
    have hkf : ∀ e', es[j]? = some e' → ({ e' with key := keyV x, val := .bool true } : MapEntry).key = e'.key := fun e' he' => by rw [hj] at he'; cases he'; exact h2.symm
    refine ⟨.map (es.modify j fun e => { e with key := keyV x, val := .bool true }) clock, ?_, _, clock, (MapKept.heap_set hb).1, ?_, ?_, MapKept.stamped_modify hs _ _ (fun _ _ => rfl) (fun e' _ he' => hkf e' he')⟩
    · simp [Instr.mapUpdate, run_underlying Try.underlying89, MapKept.run_getObj_map hb, run_check73, hf, hj, h2, run_stay, MapKept.run_setObj_map _ hb, Result.andThen, setBlock]
    · rw [MapKept.modify_keys _ _ hkf, hk, putM, if_pos h3]
    · intro e' he'
      rcases MapFrom.mem_modify he' with he' | ⟨_, _, rfl⟩
      · exact hv e' he'
      · rfl
  · rw [h2] at hf
    have hne : ∀ e ∈ es.toList, e.key ≠ keyV x := fun e he hx => by
      have : e.key ∈ ks.map keyV := by rw [← hk]; exact List.mem_map.2 ⟨e, he, rfl⟩
      obtain ⟨k, hk1, hk2⟩ := List.mem_map.1 this
      exact h1 (by rw [← keyV_inj (hk2.trans hx)]; exact hk1)
    refine ⟨.map (es.push { key := keyV x, val := .bool true, born := clock }) (clock + 1), ?_, _, clock + 1, (MapKept.heap_set hb).1, ?_, ?_, MapKept.stamped_push hs hne⟩
    · simp [Instr.mapUpdate, run_underlying Try.underlying89, MapKept.run_getObj_map hb, run_check73, hf, MapKept.run_setObj_map _ hb, Result.andThen, setBlock]
    · rw [Array.toList_push, List.map_append, hk, putM, if_neg h1]
      simp
    · intro e' he'
      rw [Array.toList_push] at he'
      rcases List.mem_append.1 he' with hm | hm
      · exact hv e' hm
      · rw [List.mem_singleton.1 hm]
section
variable {ops : Array Oper} {rest : List Oper} {o : Oper} {a : Act} {Q : Exit → Act → World → Prop} {w : World}
theorem wupd (hgd : o.guard = none) (m k x : Operand) (ho : o.op = .mapUpdate 89 m k x) {r : Nat} {ks : List Ky} {z : Ky} (hm : a.eval m = .map (some r)) (hk : a.eval k = keyV z) (hx : a.eval x = .bool true) (h : Mk w r ks)
    (hK : ∀ o', Mk (setBlock w r o') r (putM ks z) → wpList Try.prog ops Q rest (a.put o.dst undef) (setBlock w r o')) :
    wpList Try.prog ops Q (o :: rest) a w := by
  refine wpList_plain hgd fun K hK' => ?_
  obtain ⟨o', hrun, h1⟩ := run_upd h z
  unfold Oper.wp
  simp [execOp, ho, hm, hk, hx, hrun, Result.andThen]
  exact hK' _ _ (hK o' h1)
end
theorem size_setBlock (w : World) (r : Nat) (o : Obj) : (setBlock w r o).heap.size = w.heap.size := by simp [setBlock]
theorem heap_setBlock (w : World) (r k : Nat) (o : Obj) (h : k ≠ r) : (setBlock w r o).heap[k]? = w.heap[k]? := by
  unfold setBlock
  rw [Array.getElem?_setIfInBounds_ne (by omega)]
end Go.Proofs.Ytehmpbaiefbemaa
