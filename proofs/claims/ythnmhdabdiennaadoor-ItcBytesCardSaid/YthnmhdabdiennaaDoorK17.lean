/- Rows of stamps and of numbers in memory, and the relation 'Kp': identities and event trees are as they were. -/
import Derived.Test.YthnmhdabdiennaaDoorK14
import Derived.OwnWalk
import Derived.Laws.OwnMore
namespace Go.Proofs.YthnmhdabdiennaaDoor
open Go.RowKit
/-- A slice of calls that came in. -/
def ActsAt (w : World) (A : Option Addr) (n : Nat) : Prop := ∀ j, j < n → ∃ (ad : Addr) (x : Nat → Nat), A = some ad ∧ ad.block < w.heap.size ∧ ∀ f, f < 4 → x f < 256 ∧ w.cell? (ad.add (j * 4 + f)) = some (.int .u8 (x f))
theorem typ_of_heap {w w' : World} {b : Nat} (h : w'.heap[b]? = w.heap[b]?) : typ w' b = typ w b := by unfold typ World.shape?; rw [h]
theorem typ_row {w : World} {g T : Nat} {cs : Array Value} {f : Nat × Nat} (h : w.heap[g]? = some (.cells cs T f)) : typ w g = some T := by unfold typ World.shape?; rw [h]; rfl
theorem typ_lt {w : World} {b T : Nat} (h : typ w b = some T) : b < w.heap.size := by
  rcases Nat.lt_or_ge b w.heap.size with h' | h'
  · exact h'
  · unfold typ World.shape? at h; simp [Array.getElem?_eq_none h'] at h
/-- Identities and event trees are as they were. -/
def Kp (w w' : World) : Prop := ∀ b T, typ w b = some T → (T = 77 ∨ T = 103) → w'.heap[b]? = w.heap[b]?
theorem Kp.refl (w : World) : Kp w w := fun _ _ _ _ => rfl
theorem Kp.trans {a b c : World} (h : Kp a b) (k : Kp b c) : Kp a c := fun x T hx hT => by
  have h1 := h x T hx hT
  rw [k x T (by rw [typ_of_heap h1]; exact hx) hT, h1]
theorem Ext.kp {w w' : World} (h : Ext w w') : Kp w w' := fun b _ hb _ => h.block b (typ_lt hb)
theorem Kp.drewN {w w' : World} (h : Kp w w') (n : Nat) : Kp w (w'.drewN n) := h
theorem Kp.drew {w w' : World} (h : Kp w w') : Kp w w'.drew := h
theorem Kp.alloc {w w' : World} (h : Kp w w') (o : Obj) : Kp w (w'.alloc o) := h.trans (Ext.kp (by simp))
theorem Kp.far {w : World} {a : Addr} {u : Value} {T : Nat} (k : typ w a.block = some T) (h1 : T ≠ 77) (h2 : T ≠ 103) : Kp w (w.setCell a u) := fun b T' hb hT => by
  refine Below.heap_setCell w a u b ?_
  rintro rfl
  rw [k] at hb
  obtain rfl := Option.some.inj hb
  rcases hT with h | h
  · exact h1 h
  · exact h2 h
theorem Kp.grown {w w' : World} {row : Option Nat} (hg : w.grownBy w' row) (h : ∀ g, row = some g → ∃ T, typ w g = some T ∧ T ≠ 77 ∧ T ≠ 103) : Kp w w' := fun b T hb hT => by
  refine hg.block b (typ_lt hb) ?_
  intro e
  obtain ⟨T', h1, h2, h3⟩ := h b e.symm
  rw [h1] at hb
  obtain rfl := Option.some.inj hb
  rcases hT with h | h
  · exact h2 h
  · exact h3 h
theorem Kp.cell {w w' : World} (h : Kp w w') {b o T : Nat} {v : Value} (ht : typ w b = some T) (hT : T = 77 ∨ T = 103) (hc : w.cell? ⟨b, o, none⟩ = some v) : w'.cell? ⟨b, o, none⟩ = some v := by
  rw [World.cell?_of_block (a := ⟨b, o, none⟩) (h b T ht hT)]; exact hc
theorem Kp.typ {w w' : World} (h : Kp w w') {b T : Nat} (ht : typ w b = some T) (hT : T = 77 ∨ T = 103) : Go.Proofs.YthnmhdabdiennaaDoor.typ w' b = some T := by rw [typ_of_heap (h b T ht hT)]; exact ht
theorem IdAt.kp {w w' : World} (h : Kp w w') : ∀ {i : IdT} {v : Value}, IdAt w v i → IdAt w' v i
  | .zero, _, hv => hv
  | .node _ _, _, ⟨b, pl, pr, e, h0, h1, hl, hr, ht⟩ => ⟨b, pl, pr, e, h.cell ht (.inl rfl) h0, h.cell ht (.inl rfl) h1, IdAt.kp h hl, IdAt.kp h hr, h.typ ht (.inl rfl)⟩
theorem EvAt.kp {w w' : World} (h : Kp w w') : ∀ {t : EvT} {v : Value}, EvAt w v t → EvAt w' v t
  | .leaf _, _, ⟨b, e, h0, h1, h2, h3, ht⟩ => ⟨b, e, h.cell ht (.inr rfl) h0, h.cell ht (.inr rfl) h1, h.cell ht (.inr rfl) h2, h.cell ht (.inr rfl) h3, h.typ ht (.inr rfl)⟩
  | .node _ _ _, _, ⟨b, pl, pr, e, h0, h1, h2, h3, hl, hr, ht⟩ => ⟨b, pl, pr, e, h.cell ht (.inr rfl) h0, h.cell ht (.inr rfl) h1, h.cell ht (.inr rfl) h2, h.cell ht (.inr rfl) h3, EvAt.kp h hl, EvAt.kp h hr, h.typ ht (.inr rfl)⟩
theorem SeenAt.kp {w w' : World} (h : Kp w w') {v : Value} {t : EvT} (k : SeenAt w v t) : SeenAt w' v t := k.imp id (EvAt.kp h)
theorem StAt.kp {w w' : World} (h : Kp w w') {v : Value} {i : IdT} {t : EvT} (k : StAt w v i t) : StAt w' v i t := by
  obtain ⟨qi, qs, e, hi, ht⟩ := k
  exact ⟨qi, qs, e, hi.kp h, ht.kp h⟩
/-- The cells of stamps, one after the other. -/
abbrev Ptrs := List (Option Addr × Option Addr)
def flat (ps : Ptrs) : List Value := ps.flatMap fun q => [.pointer q.1, .pointer q.2]
theorem flat_nil : flat [] = [] := rfl
theorem flat_cons (q : Option Addr × Option Addr) (ps : Ptrs) : flat (q :: ps) = .pointer q.1 :: .pointer q.2 :: flat ps := rfl
theorem flat_append (a b : Ptrs) : flat (a ++ b) = flat a ++ flat b := by simp [flat]
theorem flat_one (a b : Option Addr) : flat [(a, b)] = [.pointer a, .pointer b] := rfl
theorem flat_length (ps : Ptrs) : (flat ps).length = ps.length * 2 := by
  induction ps with
  | nil => rfl
  | cons q ps ih => rw [flat_cons]; simp [ih]; omega
theorem flat_get0 : ∀ (ps : Ptrs) (j : Nat), (flat ps)[j * 2]? = ps[j]?.map fun q => .pointer q.1
  | [], j => by simp [flat_nil]
  | q :: ps, 0 => rfl
  | q :: ps, j + 1 => by rw [flat_cons, show (j + 1) * 2 = j * 2 + 1 + 1 by omega, List.getElem?_cons_succ, List.getElem?_cons_succ, flat_get0 ps j, List.getElem?_cons_succ]
theorem flat_get1 : ∀ (ps : Ptrs) (j : Nat), (flat ps)[j * 2 + 1]? = ps[j]?.map fun q => .pointer q.2
  | [], j => by simp [flat_nil]
  | q :: ps, 0 => rfl
  | q :: ps, j + 1 => by rw [flat_cons, show (j + 1) * 2 + 1 = j * 2 + 1 + 1 + 1 by omega, List.getElem?_cons_succ, List.getElem?_cons_succ, flat_get1 ps j, List.getElem?_cons_succ]
theorem flat_set : ∀ (ps : Ptrs) (j : Nat) (a b : Option Addr), ((flat ps).set (j * 2) (.pointer a)).set (j * 2 + 1) (.pointer b) = flat (ps.set j (a, b))
  | [], j, a, b => by simp [flat_nil]
  | q :: ps, 0, a, b => rfl
  | q :: ps, j + 1, a, b => by
    rw [flat_cons, show (j + 1) * 2 = j * 2 + 1 + 1 by omega, List.set_cons_succ, List.set_cons_succ, List.set_cons_succ, List.set_cons_succ, flat_set ps j a b, List.set_cons_succ, flat_cons]
theorem flat_take : ∀ (ps : Ptrs) (j : Nat), (flat ps).take (j * 2) = flat (ps.take j)
  | [], j => by simp [flat_nil]
  | q :: ps, 0 => by simp [flat_nil]
  | q :: ps, j + 1 => by rw [flat_cons, show (j + 1) * 2 = j * 2 + 1 + 1 by omega, List.take_succ_cons, List.take_succ_cons, flat_take ps j, List.take_succ_cons, flat_cons]
/-- A stamp of the specification: an identity and an event tree. -/
abbrev StT := IdT × EvT
/-- Two pointers are a stamp. -/
def PtAt (w : World) (q : Option Addr × Option Addr) (s : StT) : Prop := IdAt w (.pointer q.1) s.1 ∧ SeenAt w (.pointer q.2) s.2
theorem PtAt.kp {w w' : World} (h : Kp w w') {q : Option Addr × Option Addr} {s : StT} (k : PtAt w q s) : PtAt w' q s := ⟨k.1.kp h, k.2.kp h⟩
theorem PtAt.st {w : World} {q : Option Addr × Option Addr} {s : StT} (k : PtAt w q s) : StAt w (.agg #[.pointer q.1, .pointer q.2]) s.1 s.2 := ⟨_, _, rfl, k.1, k.2⟩
def PtsAt (w : World) (ps : Ptrs) (L : List StT) : Prop := ps.length = L.length ∧ ∀ (j : Nat) (q : Option Addr × Option Addr) (s : StT), ps[j]? = some q → L[j]? = some s → PtAt w q s
theorem PtsAt.kp {w w' : World} (h : Kp w w') {ps : Ptrs} {L : List StT} (k : PtsAt w ps L) : PtsAt w' ps L := ⟨k.1, fun j q s hq hs => (k.2 j q s hq hs).kp h⟩
theorem PtsAt.get {w : World} {ps : Ptrs} {L : List StT} (k : PtsAt w ps L) {j : Nat} {s : StT} (hs : L[j]? = some s) : ∃ q, ps[j]? = some q ∧ PtAt w q s := by
  have hj : j < ps.length := by rw [k.1]; exact (List.getElem?_eq_some_iff.1 hs).1
  exact ⟨ps[j], List.getElem?_eq_getElem hj, k.2 j _ s (List.getElem?_eq_getElem hj) hs⟩
theorem PtsAt.set {w : World} {ps : Ptrs} {L : List StT} (k : PtsAt w ps L) {j : Nat} {q : Option Addr × Option Addr} {s : StT} (h : PtAt w q s) : PtsAt w (ps.set j q) (L.set j s) := by
  refine ⟨by simp [k.1], fun i q' s' hq hs => ?_⟩
  rw [List.getElem?_set] at hq hs
  by_cases e : j = i
  · simp only [e, if_true] at hq hs
    split at hq
    · rw [if_pos (by rw [← k.1]; assumption)] at hs
      obtain rfl := Option.some.inj hq
      obtain rfl := Option.some.inj hs
      exact h
    · cases hq
  · simp only [e, if_false] at hq hs
    exact k.2 i q' s' hq hs
theorem PtsAt.snoc {w : World} {ps : Ptrs} {L : List StT} (k : PtsAt w ps L) {q : Option Addr × Option Addr} {s : StT} (h : PtAt w q s) : PtsAt w (ps ++ [q]) (L ++ [s]) := by
  refine ⟨by simp [k.1], fun i q' s' hq hs => ?_⟩
  rcases Nat.lt_trichotomy i ps.length with hi | hi | hi
  · rw [List.getElem?_append_left hi] at hq
    rw [List.getElem?_append_left (by rw [← k.1]; exact hi)] at hs
    exact k.2 i q' s' hq hs
  · subst hi
    have e1 : q = q' := by simpa using hq
    have e2 : s = s' := by rw [k.1] at hs; simpa using hs
    rw [← e1, ← e2]; exact h
  · rw [List.getElem?_append_right (by omega), List.getElem?_eq_none (by simp; omega)] at hq
    cases hq
theorem PtsAt.take {w : World} {ps : Ptrs} {L : List StT} (k : PtsAt w ps L) (n : Nat) : PtsAt w (ps.take n) (L.take n) := by
  refine ⟨by simp [k.1], fun i q' s' hq hs => ?_⟩
  rw [List.getElem?_take] at hq hs
  split at hq
  · rename_i hi
    rw [if_pos hi] at hs
    exact k.2 i q' s' hq hs
  · cases hq
/-- A slice of stamps of the call's own. -/
def StRow (w : World) (B : Nat) (v : Value) (L : List StT) : Prop := ∃ ps, w.ownsRow B 31 2 v L.length (flat ps) ∧ PtsAt w ps L
/-- A slice of numbers of the call's own. -/
def nums (ns : List Nat) : List Value := ns.map fun (n : Nat) => .int .u64 (n : Int)
def NumRow (w : World) (B : Nat) (v : Value) (ns : List Nat) : Prop := w.ownsRow B 33 1 v ns.length (nums ns)
def Apart (a b : Value) : Prop := a.ownBlock = none ∨ a.ownBlock ≠ b.ownBlock
theorem own_typ {w : World} {B e size n : Nat} {v : Value} {xs : List Value} (h : w.ownsRow B e size v n xs) : ∀ g, v.ownBlock = some g → typ w g = some e := by
  intro g hg
  rcases h.2 with ⟨rfl, _⟩ | ⟨g', cap, cur, rfl, _, hc, _⟩
  · simp [Value.ownBlock] at hg
  · simp only [Value.ownBlock, Option.some.injEq] at hg
    subst hg
    exact typ_row hc
/-- Rows of different element types do not share a block. -/
theorem own_apart {w : World} {B B' e e' size size' n n' : Nat} {v v' : Value} {xs xs' : List Value} (h : w.ownsRow B e size v n xs) (h' : w.ownsRow B' e' size' v' n' xs') (hne : e ≠ e') : Apart v v' := by
  unfold Apart
  cases hv : v.ownBlock with
  | none => exact .inl rfl
  | some g =>
    refine .inr fun hc => hne ?_
    have h1 := own_typ h g hv
    have h2 := own_typ h' g hc.symm
    rw [h1] at h2
    exact Option.some.inj h2
theorem StRow.len {w : World} {B : Nat} {v : Value} {L : List StT} (h : StRow w B v L) : ∃ ps, w.ownsRow B 31 2 v L.length (flat ps) ∧ PtsAt w ps L := h
theorem own_kept_ext {w w' : World} {B e size n : Nat} {v : Value} {xs : List Value} (h : w.ownsRow B e size v n xs) (k : Ext w w') : w'.ownsRow B e size v n xs := by
  refine ⟨h.1, ?_⟩
  rcases h.2 with h' | ⟨g, cap, cur, rfl, hb, hc, h3⟩
  · exact .inl h'
  · have hlt : g < w.heap.size := typ_lt (typ_row hc)
    exact .inr ⟨g, cap, cur, rfl, hb, by rw [k.block g hlt]; exact hc, h3⟩
theorem StRow.ext {w w' : World} {B : Nat} {v : Value} {L : List StT} (h : StRow w B v L) (k : Ext w w') : StRow w' B v L := by
  obtain ⟨ps, h1, h2⟩ := h
  exact ⟨ps, own_kept_ext h1 k, h2.kp k.kp⟩
theorem NumRow.ext {w w' : World} {B : Nat} {v : Value} {L : List Nat} (h : NumRow w B v L) (k : Ext w w') : NumRow w' B v L := own_kept_ext h k
/-- A row that is not empty: where it lies. -/
theorem own_form {w : World} {B e size n : Nat} {v : Value} {xs : List Value} (h : w.ownsRow B e size v n xs) (hn : 0 < n) : ∃ g cap, v = .slice (some ⟨g, 0, none⟩) n cap ∧ B ≤ g ∧ g < w.heap.size ∧ n ≤ cap ∧ cap ≤ maxLen := by
  rcases h.2 with ⟨_, h0⟩ | ⟨g, cap, cur, rfl, hb, hc, h1, h2, _⟩
  · omega
  · exact ⟨g, cap, rfl, hb, typ_lt (typ_row hc), h1, h2⟩
theorem own_len_cap {w : World} {B e size n g cap : Nat} {v : Value} {xs : List Value} (h : w.ownsRow B e size v n xs) (hv : v = .slice (some ⟨g, 0, none⟩) n cap) (m : Nat) (hm : m ≤ n) : w.ownsRow B e size (.slice (some ⟨g, 0, none⟩) m cap) m (xs.take (m * size)) := by
  rcases h.2 with ⟨h0, _⟩ | ⟨g', cap', cur, hv', hb, hc, h1, h2, h3, h4⟩
  · rw [hv] at h0; cases h0
  · rw [hv] at hv'
    simp only [Value.slice.injEq, Option.some.injEq, Addr.mk.injEq, and_true, true_and] at hv'
    obtain ⟨rfl, rfl⟩ := hv'
    have hms : m * size ≤ n * size := Nat.mul_le_mul_right _ hm
    refine ⟨by rw [List.length_take, h.1]; omega, .inr ⟨g, cap, cur, rfl, hb, hc, by omega, h2, h3, ?_⟩⟩
    rw [← h4, List.take_take, Nat.min_eq_left hms]
end Go.Proofs.YthnmhdabdiennaaDoor
