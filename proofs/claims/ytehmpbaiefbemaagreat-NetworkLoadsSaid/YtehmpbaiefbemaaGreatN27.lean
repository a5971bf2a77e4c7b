/- Consumed: the keys of the map, sorted. -/
import Derived.Test.YtehmpbaiefbemaaGreatN26
import Derived.Maps.RangeWalk
namespace Go.Proofs.YtehmpbaiefbemaaGreat
open Go.RowKit Go.Shelf Go.Sort
open Go.ChangeMaps (setBlock)
attribute [local go_sem ↓] Go.wp_at_zero Go.wp_at_succ
/-- A map of keys is ranged over: these keys have come, so many are still to come. -/
def It (w : World) (m r : Nat) (us done : List Ky) (cnt : Nat) : Prop :=
  ∃ (es : Array MapEntry) (clock : Nat) (seen : Array Nat), w.heap[m]? = some (.map es clock) ∧ es.toList.map (·.key) = us.map keyV ∧ (∀ e ∈ es.toList, e.val = .bool true) ∧ MapKept.Stamped es clock ∧
    w.heap[r]? = some (.mapIter (some m) clock seen clock) ∧ (leftOf es seen).size = cnt ∧ done.Nodup ∧ (∀ e ∈ es.toList, seen.contains e.born = true ↔ ∃ k ∈ done, keyV k = e.key) ∧ ∀ k ∈ done, k ∈ us
def leftN (w : World) (m r : Nat) : Nat := match w.heap[m]?, w.heap[r]? with
  | some (.map es _), some (.mapIter _ _ seen _) => (leftOf es seen).size
  | _, _ => 0
theorem It.left {w : World} {m r : Nat} {us done : List Ky} {cnt : Nat} (h : It w m r us done cnt) : leftN w m r = cnt := by
  obtain ⟨es, clock, seen, h1, -, -, -, h2, h3, -⟩ := h
  unfold leftN
  rw [h1, h2]
  exact h3
theorem It.kept {w w' : World} {m r : Nat} {us done : List Ky} {cnt : Nat} (h : It w m r us done cnt) (hm : w'.heap[m]? = w.heap[m]?) (hr : w'.heap[r]? = w.heap[r]?) : It w' m r us done cnt := by
  obtain ⟨es, clock, seen, h1, k1, k2, k3, h2, h3⟩ := h
  exact ⟨es, clock, seen, hm.trans h1, k1, k2, k3, hr.trans h2, h3⟩
theorem It.lt {w : World} {m r : Nat} {us done : List Ky} {cnt : Nat} (h : It w m r us done cnt) : m < w.heap.size ∧ r < w.heap.size := by
  obtain ⟨es, clock, seen, h1, -, -, -, h2, -⟩ := h
  exact ⟨(Array.getElem?_eq_some_iff.1 h1).1, (Array.getElem?_eq_some_iff.1 h2).1⟩
theorem It.ext {w w' : World} {m r : Nat} {us done : List Ky} {cnt : Nat} (h : It w m r us done cnt) (k : Ext w w') : It w' m r us done cnt := h.kept (k.block m h.lt.1) (k.block r h.lt.2)
/-- A row does not lie where the iterator or the map lies. -/
theorem It.apart {w : World} {m r : Nat} {us done : List Ky} {cnt : Nat} (h : It w m r us done cnt) {s B e : Nat} {v : Value} {vs : List (List Value)} (k : Row s w B e v vs) : some m ≠ v.ownBlock ∧ some r ≠ v.ownBlock := by
  obtain ⟨es, clock, seen, h1, -, -, -, h2, -⟩ := h
  rcases k.2.2 with ⟨rfl, _⟩ | ⟨g, cap, cur, rfl, _, hg, _⟩
  · exact ⟨by simp [Value.ownBlock], by simp [Value.ownBlock]⟩
  · refine ⟨fun e => ?_, fun e => ?_⟩
    · simp [Value.ownBlock] at e
      subst e
      rw [h1] at hg
      cases hg
    · simp [Value.ownBlock] at e
      subst e
      rw [h2] at hg
      cases hg
theorem inj_of_nodup {α β : Type} {f : α → β} : ∀ {l : List α}, (l.map f).Nodup → ∀ {x y : α}, x ∈ l → y ∈ l → f x = f y → x = y
  | [], _, x, _, hx, _, _ => by cases hx
  | a :: l, h, x, y, hx, hy, e => by
    rw [List.map_cons, List.nodup_cons] at h
    rcases List.mem_cons.1 hx with h1 | h1
    · rcases List.mem_cons.1 hy with h2 | h2
      · rw [h1, h2]
      · exact absurd (List.mem_map.2 ⟨y, h2, by rw [← e, h1]⟩) h.1
    · rcases List.mem_cons.1 hy with h2 | h2
      · exact absurd (List.mem_map.2 ⟨x, h1, by rw [e, h2]⟩) h.1
      · exact inj_of_nodup h.2 h1 h2 e
theorem nodup_len {α : Type} [BEq α] [LawfulBEq α] : ∀ (us ks : List α), us.Nodup → (∀ k ∈ us, k ∈ ks) → us.length ≤ ks.length
  | [], _, _, _ => Nat.zero_le _
  | a :: us, ks, h, hs => by
    rw [List.nodup_cons] at h
    have h1 := hs a (by simp)
    have h2 := nodup_len us (ks.erase a) h.2 (fun k hk => by
      refine (List.mem_erase_of_ne ?_).2 (hs k (by simp [hk]))
      rintro rfl
      exact h.1 hk)
    rw [List.length_erase_of_mem h1] at h2
    have := List.length_pos_of_mem h1
    rw [List.length_cons]
    omega
section
variable (w : World) {ops : Array Oper} {rest : List Oper} {o : Oper} {a : Act} {Q : Exit → Act → World → Prop}
theorem wrange (hg : o.guard = none) (m : Operand) (hop : o.op = Op.range 73 m) (b : Nat) (us : List Ky) (hm : a.eval m = .map (some b)) (h : Mk w b us)
    (hK : ∀ w', It w' b w.heap.size us [] us.length → Ext w w' → w'.heap.size = w.heap.size + 1 → wpList Tryz.prog ops Q rest (a.put o.dst (.pointer (some ⟨w.heap.size, 0, none⟩))) w') : wpList Tryz.prog ops Q (o :: rest) a w := by
  refine wpList_plain hg fun K' hK' => ?_
  obtain ⟨es, clock, h1, h2, h3, h4⟩ := h.at_
  have hrun := run_range_map w 73 _ _ b es clock Tryz.underlying73 h1
  have hbl := (Array.getElem?_eq_some_iff.1 h1).1
  unfold Oper.wp
  simp [execOp, hop, hm, hrun, Result.andThen]
  refine hK' _ _ (hK _ ⟨es, clock, #[], ?_, h2, h3, h4, heap_alloc_new w _, ?_, List.nodup_nil, fun e he => by simp, by simp⟩ ((Ext.refl _).alloc _) (by simp))
  · rw [((Ext.refl w).alloc _).block b hbl]
    exact h1
  · have e1 : leftOf es #[] = es := by unfold leftOf; exact Array.filter_eq_self.2 (fun x hx => by simp)
    rw [e1]
    have := congrArg List.length h2
    simpa using this
theorem wnext (hg : o.guard = none) (it : Operand) (hop : o.op = Op.next it false) (b r : Nat) (us done : List Ky) (cnt : Nat) (hit : a.eval it = .pointer (some ⟨r, 0, none⟩)) (h : It w b r us done cnt)
    (hDone : (∀ k, k ∈ done ↔ k ∈ us) → wpList Tryz.prog ops Q rest (a.put o.dst (.tuple #[.bool false])) w)
    (hMore : ∀ (k : Ky) (w' : World) (cnt' : Nat), It w' b r us (done ++ [k]) cnt' → cnt' < cnt → (∀ i, i ≠ r → w'.heap[i]? = w.heap[i]?) → w'.heap.size = w.heap.size → w'.os = w.os → w'.tape = w.tape → w'.output = w.output →
      (Instr.entry (.pointer (some ⟨r, 0, none⟩))).run Tryz.prog w' = .ok (.tuple #[keyV k, .bool true]) w' → wpList Tryz.prog ops Q rest (a.put o.dst (.tuple #[.bool true, keyV k, .bool true])) w') : wpList Tryz.prog ops Q (o :: rest) a w := by
  refine wpList_plain hg fun K' hK' => ?_
  unfold Oper.wp
  obtain ⟨es, clock, seen, h1, h2, h3, h4, h5, h6, h7, h8, h9⟩ := h
  rcases run_next_at (P := Tryz.prog) w o.type r b clock clock seen es clock h5 h1 h4.1 (Nat.le_refl _) with ⟨h0, hrun⟩ | ⟨e, he, w1, hw1, hrun⟩
  · simp [execOp, hop, hit, hrun, Result.andThen]
    refine hK' _ _ (hDone fun k => ⟨h9 k, fun hk => ?_⟩)
    have hk' : keyV k ∈ es.toList.map (·.key) := by rw [h2]; exact List.mem_map.2 ⟨k, hk, rfl⟩
    obtain ⟨e, he, hek⟩ := List.mem_map.1 hk'
    obtain ⟨k2, hk2, hk3⟩ := (h8 e he).1 (all_seen es seen h0 e he)
    have : k2 = k := keyV_inj (by rw [hk3, hek])
    rw [← this]
    exact hk2
  · obtain ⟨he1, he2⟩ := mem_left he
    have hkm : e.key ∈ us.map keyV := by rw [← h2]; exact List.mem_map.2 ⟨e, he1, rfl⟩
    obtain ⟨k, hk, hke⟩ := List.mem_map.1 hkm
    have hv := h3 e he1
    rw [← hke, hv] at hrun
    simp [execOp, hop, hit, hrun, Result.andThen]
    have hw1h : w1.heap = w.heap := by rcases hw1 with rfl | rfl <;> rfl
    have hne : b ≠ r := by
      rintro rfl
      rw [h1] at h5
      cases h5
    have hrl := (Array.getElem?_eq_some_iff.1 h5).1
    have hkd : k ∉ done := fun hd => by
      have := (h8 e he1).2 ⟨k, hd, hke⟩
      rw [he2] at this
      cases this
    have hbk : (setBlock w1 r (.mapIter (some b) clock (seen.push e.born) clock)).heap[b]? = some (.map es clock) := by rw [heap_setBlock _ _ _ _ hne, hw1h]; exact h1
    have hrk : (setBlock w1 r (.mapIter (some b) clock (seen.push e.born) clock)).heap[r]? = some (.mapIter (some b) clock (seen.push e.born) clock) := by
      unfold setBlock
      simp [hw1h, hrl]
    refine hK' _ _ (hMore k _ _ ⟨es, clock, seen.push e.born, hbk, h2, h3, h4, hrk, rfl, ?_, ?_, ?_⟩ (by rw [← h6]; exact left_shrinks es seen e he) (fun i hi => by rw [heap_setBlock _ _ _ _ hi, hw1h]) (by rw [size_setBlock, hw1h]) (by rcases hw1 with rfl | rfl <;> rfl) (by rcases hw1 with rfl | rfl <;> rfl) (by rcases hw1 with rfl | rfl <;> rfl) ?_)
    · rw [List.nodup_append]
      exact ⟨h7, by simp, fun a ha b hb e2 => by rw [List.mem_singleton.1 hb] at e2; exact hkd (e2 ▸ ha)⟩
    · intro x hx
      rw [contains_push, Bool.or_eq_true, h8 x hx]
      constructor
      · rintro (⟨k2, hk2, hk3⟩ | hb)
        · exact ⟨k2, by simp [hk2], hk3⟩
        · have hb : x.born = e.born := by simpa using hb
          have hxe : x = e := by
            have nd := h4.2.1
            exact inj_of_nodup nd hx he1 hb
          exact ⟨k, by simp, by rw [hxe, hke]⟩
      · rintro ⟨k2, hk2, hk3⟩
        rcases List.mem_append.1 hk2 with hk2 | hk2
        · exact .inl ⟨k2, hk2, hk3⟩
        · rw [List.mem_singleton.1 hk2] at hk3
          have hxe : x = e := inj_of_nodup h4.2.2 hx he1 (by rw [← hk3, hke])
          exact .inr (by rw [hxe]; simp)
    · intro k2 hk2
      rcases List.mem_append.1 hk2 with hk2 | hk2
      · exact h9 k2 hk2
      · rw [List.mem_singleton.1 hk2]
        exact hk
    · have := run_entry_at (P := Tryz.prog) _ r b clock seen es clock e hrk hbk he1 h4.2.1
      rw [← hke, hv] at this
      exact this
end
end Go.Proofs.YtehmpbaiefbemaaGreat
