/- The reference's greedy hitting set, plainly. -/
import Derived.Test.YtdcbejccplonjaaDoorH6
import Derived.Test.YtdcbejccplonjaaDoorH8
namespace Go.Proofs.YtdcbejccplonjaaDoor
def bestI (st : Nat × Nat) : Int := if st.2 = 0 then -1 else (st.1 : Int)
theorem bestI_hit {x c : Nat} (h : 0 < c) : bestI (x, c) = (x : Int) := if_neg (by simp; omega)
theorem bestI_zero {x : Nat} : bestI (x, 0) = -1 := rfl
theorem ge_of_sorted {s : List Int} (h : s.Pairwise (· < ·)) {i j : Nat} (hij : i ≤ j) (hj : j < s.length) : s.getD i 0 ≤ s.getD j 0 := by
  rw [List.getD_eq_getElem?_getD, List.getElem?_eq_getElem (by omega), List.getD_eq_getElem?_getD, List.getElem?_eq_getElem hj]
  rcases Nat.lt_or_ge i j with h1 | h1
  · exact Int.le_of_lt (List.pairwise_iff_getElem.1 h i j (by omega) hj h1)
  · have : i = j := by omega
    subst this
    exact Int.le_refl _
theorem lt_of_sorted {s : List Int} (h : s.Pairwise (· < ·)) {i j : Nat} (hij : i < j) (hj : j < s.length) : s.getD i 0 < s.getD j 0 := by
  rw [List.getD_eq_getElem?_getD, List.getElem?_eq_getElem (by omega), List.getD_eq_getElem?_getD, List.getElem?_eq_getElem hj]
  exact List.pairwise_iff_getElem.1 h i j (by omega) hj hij
theorem mem_take_get {s : List Int} {i : Nat} {x : Int} (h : x ∈ s.take i) : ∃ j, j < i ∧ j < s.length ∧ s.getD j 0 = x := by
  obtain ⟨j, hj, e⟩ := List.mem_iff_getElem.1 h
  rw [List.length_take] at hj
  rw [List.getElem_take] at e
  exact ⟨j, by omega, by omega, by rw [List.getD_eq_getElem?_getD, List.getElem?_eq_getElem (by omega)]; exact e⟩
theorem mem_drop_get {s : List Int} {i : Nat} {x : Int} (h : x ∈ s.drop i) : ∃ j, i ≤ j ∧ j < s.length ∧ s.getD j 0 = x := by
  obtain ⟨j, hj, e⟩ := List.mem_iff_getElem.1 h
  rw [List.length_drop] at hj
  rw [List.getElem_drop] at e
  exact ⟨i + j, by omega, by omega, by rw [List.getD_eq_getElem?_getD, List.getElem?_eq_getElem (by omega)]; exact e⟩
/-- The place where the reference puts a new element. -/
theorem insert_list {H b : Nat} (hb : b < 64) (hn : H.testBit b = false) {i : Nat} (h1 : ∀ j, j < i → j < (nI (elems H)).length → (nI (elems H)).getD j 0 < (b : Int)) (h2 : i < (nI (elems H)).length → (b : Int) ≤ (nI (elems H)).getD i 0) : (nI (elems H)).take i ++ ([(b : Int)] ++ (nI (elems H)).drop i) = nI (elems (H ||| 2 ^ b)) := by
  have asc := nI_asc (elems_asc H)
  have bn : (b : Int) ∉ nI (elems H) := fun h => by
    obtain ⟨y, hy, e⟩ := mem_nI.1 h
    have : y = b := by omega
    rw [this, mem_elems, hn] at hy
    cases hy.2
  refine asc_int ?_ (nI_asc (elems_asc _)) fun x => ?_
  · rw [List.pairwise_append]
    refine ⟨asc.sublist (List.take_sublist _ _), ?_, ?_⟩
    · rw [List.singleton_append, List.pairwise_cons]
      refine ⟨fun x hx => ?_, asc.sublist (List.drop_sublist _ _)⟩
      obtain ⟨j, j1, j2, rfl⟩ := mem_drop_get hx
      have a1 := h2 (by omega)
      have a2 := ge_of_sorted asc j1 j2
      have a3 : (b : Int) ≠ (nI (elems H)).getD j 0 := fun e => bn (by rw [e]; exact List.mem_of_mem_drop hx)
      omega
    · intro x hx y hy
      obtain ⟨j, j1, j2, rfl⟩ := mem_take_get hx
      have a1 := h1 j j1 j2
      rw [List.singleton_append] at hy
      rcases List.mem_cons.1 hy with rfl | hy
      · exact a1
      · obtain ⟨q, q1, q2, rfl⟩ := mem_drop_get hy
        have a2 := h2 (by omega)
        have a3 := ge_of_sorted asc q1 q2
        omega
  · rw [List.mem_append, List.mem_append, List.mem_singleton]
    have hs : x ∈ nI (elems H) ↔ x ∈ (nI (elems H)).take i ∨ x ∈ (nI (elems H)).drop i := by
      rw [← List.mem_append, List.take_append_drop]
    have hr : x ∈ nI (elems (H ||| 2 ^ b)) ↔ x ∈ nI (elems H) ∨ x = (b : Int) := by
      rw [mem_nI, mem_nI]
      constructor
      · rintro ⟨y, hy, rfl⟩
        obtain ⟨y1, y2⟩ := mem_elems.1 hy
        rw [Nat.testBit_or, Bool.or_eq_true, Nat.testBit_two_pow] at y2
        rcases y2 with y2 | y2
        · exact .inl ⟨y, mem_elems.2 ⟨y1, y2⟩, rfl⟩
        · exact .inr (by have := of_decide_eq_true y2; omega)
      · rintro (⟨y, hy, rfl⟩ | rfl)
        · obtain ⟨y1, y2⟩ := mem_elems.1 hy
          exact ⟨y, mem_elems.2 ⟨y1, by rw [Nat.testBit_or, y2]; rfl⟩, rfl⟩
        · exact ⟨b, mem_elems.2 ⟨hb, by rw [Nat.testBit_or, Nat.testBit_two_pow]; simp⟩, rfl⟩
    rw [hr, hs]
    constructor
    · rintro (h | h | h)
      · exact .inl (.inl h)
      · exact .inr h
      · exact .inl (.inr h)
    · rintro ((h | h) | h)
      · exact .inl h
      · exact .inr (.inr h)
      · exact .inr (.inl h)
theorem trim_skip {ms : List Nat} {H x : Nat} : ∀ k, x ≤ k → (∀ y, x ≤ y → y < k → H.testBit y = false) → trimG ms k H = trimG ms x H := by
  intro k
  induction k with
  | zero => intro h _; rw [show x = 0 by omega]
  | succ k ih =>
    intro h hb
    rcases Nat.lt_or_ge k x with h1 | h1
    · rw [show x = k + 1 by omega]
    · have hd : dif H (2 ^ k) = H := ext_bit fun y => by
        rw [dif_pow_bit]
        refine ⟨fun h => h.1, fun h => ⟨h, fun e => ?_⟩⟩
        rw [e, hb k h1 (by omega)] at h
        cases h
      rw [trimG, hd, ite_self]
      exact ih h1 fun y a b => hb y a (by omega)
/-- The reference's trimming, from the last element down. -/
structure Trm (ms : List Nat) (H k i : Nat) : Prop where
  eq : trimG ms k H = greedyF ms
  lt : H < 2 ^ 64
  le : i ≤ (elems H).length
  low : ∀ j, j < i → (nI (elems H)).getD j 0 < (k : Int)
  high : ∀ j, i ≤ j → j < (nI (elems H)).length → (k : Int) ≤ (nI (elems H)).getD j 0
theorem nI_get {l : List Nat} {j : Nat} (h : j < l.length) : (nI l).getD j 0 = (l[j] : Int) := by
  rw [List.getD_eq_getElem?_getD, List.getElem?_eq_getElem (by rw [nI_len]; exact h)]
  simp [nI]
theorem Trm.start {ms : List Nat} {H : Nat} (h : growG ms 64 0 = H) (hH : H < 2 ^ 64) : Trm ms H 64 (elems H).length := by
  refine ⟨by unfold greedyF; rw [h], hH, Nat.le_refl _, fun j hj => ?_, fun j h1 h2 => by rw [nI_len] at h2; omega⟩
  rw [nI_get hj]
  have := (mem_elems.1 (List.getElem_mem hj)).1
  omega
theorem Trm.done {ms : List Nat} {H k : Nat} (h : Trm ms H k 0) : greedyF ms = H := by
  rw [← h.eq, trim_skip (x := 0) k (by omega)]
  · rfl
  · intro y _ hy
    cases hb : H.testBit y with
    | false => rfl
    | true =>
      obtain ⟨j, hj, e⟩ := List.mem_iff_getElem.1 ((mem_elems' h.lt).2 hb)
      have := h.high j (by omega) (by rw [nI_len]; exact hj)
      rw [nI_get hj, e] at this
      omega
theorem Trm.step {ms : List Nat} {H k i : Nat} (h : Trm ms H k (i + 1)) : ∃ x, ∃ hi : i < (elems H).length, (elems H)[i] = x ∧ x < 64 ∧ trimG ms x (if hitF ms (dif H (2 ^ x)) then dif H (2 ^ x) else H) = greedyF ms := by
  have hi : i < (elems H).length := by have := h.le; omega
  refine ⟨_, hi, rfl, (mem_elems.1 (List.getElem_mem hi)).1, ?_⟩
  generalize hx : (elems H)[i] = x
  have hxk : x < k := by have := h.low i (by omega); rw [nI_get hi, hx] at this; omega
  have e : trimG ms k H = trimG ms (x + 1) H := trim_skip k (by omega) fun y a b => by
    cases hb : H.testBit y with
    | false => rfl
    | true =>
      obtain ⟨j, hj, e⟩ := List.mem_iff_getElem.1 ((mem_elems' h.lt).2 hb)
      have hjl : j < (nI (elems H)).length := by rw [nI_len]; exact hj
      rcases Nat.lt_or_ge j (i + 1) with h1 | h1
      · have := ge_of_sorted (nI_asc (elems_asc H)) (show j ≤ i by omega) (by rw [nI_len]; exact hi)
        rw [nI_get hj, nI_get hi, e, hx] at this
        omega
      · have := h.high j h1 hjl
        rw [nI_get hj, e] at this
        omega
  rw [← h.eq, e, trimG]
theorem Trm.keep {ms : List Nat} {H k i x : Nat} (h : Trm ms H k (i + 1)) (hi : i < (elems H).length) (hx : (elems H)[i] = x) (e : trimG ms x H = greedyF ms) : Trm ms H x i := by
  have asc := nI_asc (elems_asc H)
  refine ⟨e, h.lt, by omega, fun j hj => ?_, fun j h1 h2 => ?_⟩
  · have := lt_of_sorted asc hj (by rw [nI_len]; exact hi)
    rw [nI_get hi, hx] at this
    exact this
  · have := ge_of_sorted asc h1 h2
    rw [nI_get hi, hx] at this
    exact this
theorem Trm.cut {ms : List Nat} {H k i x : Nat} (h : Trm ms H k (i + 1)) (hi : i < (elems H).length) (hx : (elems H)[i] = x) (e : trimG ms x (dif H (2 ^ x)) = greedyF ms) : Trm ms (dif H (2 ^ x)) x i := by
  have asc := nI_asc (elems_asc H)
  have hd : nI (elems (dif H (2 ^ x))) = (nI (elems H)).take i ++ (nI (elems H)).drop (i + 1) := (drop_mask h.lt hi hx).symm
  have hl : (nI (elems H)).length = (elems H).length := nI_len _
  have hlt : ((nI (elems H)).take i).length = i := by rw [List.length_take]; omega
  have hle : (elems (dif H (2 ^ x))).length = (elems H).length - 1 := by
    rw [← nI_len, hd, List.length_append, hlt, List.length_drop]; omega
  refine ⟨e, lt_of_bits fun y hy => bit_lt h.lt (dif_pow_bit.1 hy).1, by omega, fun j hj => ?_, fun j h1 h2 => ?_⟩
  · rw [hd, List.getD_eq_getElem?_getD, List.getElem?_append_left (by omega), List.getElem?_take, if_pos hj, ← List.getD_eq_getElem?_getD]
    have := lt_of_sorted asc hj (by rw [nI_len]; exact hi)
    rw [nI_get hi, hx] at this
    exact this
  · rw [nI_len, hle] at h2
    rw [hd, List.getD_eq_getElem?_getD, List.getElem?_append_right (by omega), hlt, List.getElem?_drop, ← List.getD_eq_getElem?_getD]
    have := lt_of_sorted asc (show i < i + 1 + (j - i) by omega) (by rw [nI_len]; omega)
    rw [nI_get hi, hx] at this
    exact Int.le_of_lt this
/-- What the reference's Greedy returns. -/
def rgreR (ms : List Nat) : List Int × Bool := if 0 ∈ ms then ([], false) else (nI (elems (greedyF ms)), true)
theorem rgre_zero {ms : List Nat} (h : 0 ∈ ms) : rgreR ms = ([], false) := if_pos h
theorem rgre_ok {ms : List Nat} (h : 0 ∉ ms) : rgreR ms = (nI (elems (greedyF ms)), true) := if_neg h
theorem hits_hitF {H : Nat} {fam : List (List Int)} (hH : H < 2 ^ 64) (h : Fam fam) : hitsR (nI (elems H)) fam = hitF (fam.map maskI) H := by
  rw [Bool.eq_iff_iff, hits_mask hH h, hitF_iff]
theorem hits_one {H : Nat} {s : List Int} (hH : H < 2 ^ 64) (h : okL s = true) : hitsR (nI (elems H)) [s] = !decide (maskI s &&& H = 0) := by
  rw [hits_hitF hH (fun t ht => by rw [List.mem_singleton.1 ht]; exact h)]
  simp [hitF]
theorem has_bit {s : List Int} (h : okL s = true) (x : Nat) : decide ((x : Int) ∈ s) = (maskI s).testBit x := (maskI_bit (ok_pos h) x).symm
theorem drop_hitF {H x : Nat} {fam : List (List Int)} (hH : H < 2 ^ 64) (h : Fam fam) {i : Nat} (hi : i < (elems H).length) (hx : (elems H)[i] = x) : hitsR (dropR (nI (elems H)) i) fam = hitF (fam.map maskI) (dif H (2 ^ x)) := by
  rw [drop_mask hH hi hx, hits_hitF (lt_of_bits fun y hy => bit_lt hH (dif_pow_bit.1 hy).1) h]
end Go.Proofs.YtdcbejccplonjaaDoor
