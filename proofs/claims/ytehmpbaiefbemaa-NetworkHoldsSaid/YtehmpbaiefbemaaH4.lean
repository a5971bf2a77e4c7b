/- The arrivals of holds, and their order, plainly. -/
import Derived.Test.YtehmpbaiefbemaaN17
namespace Go.Proofs.Ytehmpbaiefbemaa
open Go.Sort
/-- A held arrival: its message, the number of its copy, the arrival with the value of its arguments. -/
abbrev Tm := Ms × Nat × Ja
abbrev Tm0 : Tm := ((0, 0, 0), 0, Ja0)
def plT (x : Tm) : Ms × Nat × Int × Int × List Int := (x.1, x.2.1, x.2.2.1)
def tlt (x y : Tm) : Prop := x.2.2.1.1 < y.2.2.1.1 ∨ x.2.2.1.1 = y.2.2.1.1 ∧ (x.1.1 < y.1.1 ∨ x.1.1 = y.1.1 ∧ (x.1.2.1 < y.1.2.1 ∨ x.1.2.1 = y.1.2.1 ∧ (x.1.2.2 < y.1.2.2 ∨ x.1.2.2 = y.1.2.2 ∧ x.2.1 < y.2.1)))
instance (x y : Tm) : Decidable (tlt x y) := by unfold tlt; exact inferInstance
def cmpT (x y : Tm) : Int := orF [Lib.compareInt x.2.2.1.1 y.2.2.1.1, Lib.compareInt x.1.1 y.1.1, Lib.compareInt x.1.2.1 y.1.2.1, Lib.compareInt x.1.2.2 y.1.2.2, Lib.compareInt (x.2.1 : Int) (y.2.1 : Int)]
theorem cmpT_neg {x y : Tm} : cmpT x y < 0 ↔ tlt x y := by
  unfold cmpT tlt
  have e : orF [] = 0 := rfl
  simp only [orF_neg, ci_neg, ci_zero, e]
  omega
theorem tlt_irrefl (x : Tm) : ¬ tlt x x := by unfold tlt; omega
theorem tlt_trans {x y z : Tm} (h : tlt x y) (k : tlt y z) : tlt x z := by unfold tlt at *; omega
theorem tlt_key {x y : Tm} (h : ¬ tlt x y) (k : ¬ tlt y x) : x.1 = y.1 ∧ x.2.1 = y.2.1 := by
  obtain ⟨⟨a, b, c⟩, d, ⟨e, f⟩, g⟩ := x
  obtain ⟨⟨a', b', c'⟩, d', ⟨e', f'⟩, g'⟩ := y
  unfold tlt at *
  simp only [Prod.mk.injEq] at *
  omega
theorem tlt_near {x y z : Tm} (h : ¬ tlt x y) (k : ¬ tlt y z) : ¬ tlt x z := by unfold tlt at *; omega
theorem tlt_asymm {x y : Tm} (h : tlt x y) : ¬ tlt y x := fun k => tlt_irrefl x (tlt_trans h k)
theorem cmpT_lt (x y : Tm) : ltOf cmpT x y = true ↔ tlt x y := by
  unfold ltOf
  rw [decide_eq_true_iff]
  exact cmpT_neg
theorem cmpT_swo : SWO (ltOf cmpT) where
  irrefl x := by rw [Bool.eq_false_iff, ne_eq, cmpT_lt]; exact tlt_irrefl _
  trans x y z h k := by rw [cmpT_lt] at *; exact tlt_trans h k
  ntrans x y z h k := by
    rw [Bool.eq_false_iff, ne_eq, cmpT_lt] at *
    exact tlt_near h k
/-- The arrivals of one hold, from copy i on. -/
def timH (m : Ms) : Nat → List Ja → List Tm
  | _, [] => []
  | i, j :: js => (m, i, j) :: timH m (i + 1) js
/-- The arrivals of holds. -/
def timS (hs : List Jh) : List Tm := hs.flatMap fun h => timH h.1 0 h.2.1
theorem timH_msg {m : Ms} : ∀ {js : List Ja} {i : Nat} {x : Tm}, x ∈ timH m i js → x.1 = m ∧ i ≤ x.2.1
  | [], _, _, h => by simp [timH] at h
  | j :: js, i, x, h => by
    rw [timH, List.mem_cons] at h
    rcases h with rfl | h
    · exact ⟨rfl, Nat.le_refl _⟩
    · have := timH_msg h
      exact ⟨this.1, by omega⟩
theorem timH_nodup {m : Ms} : ∀ {js : List Ja} {i : Nat}, ((timH m i js).map fun x => (x.1, x.2.1)).Nodup
  | [], _ => by simp [timH]
  | j :: js, i => by
    rw [timH, List.map_cons, List.nodup_cons]
    refine ⟨fun h => ?_, timH_nodup⟩
    obtain ⟨x, hx, e⟩ := List.mem_map.1 h
    have := (timH_msg hx).2
    simp only [Prod.mk.injEq] at e
    omega
theorem timH_pl {m : Ms} : ∀ {js : List Ja} {i : Nat} {ks : List Ja}, js.map (·.1) = ks.map (·.1) → (timH m i js).map plT = (timH m i ks).map plT
  | [], _, [], _ => rfl
  | [], _, _ :: _, h => by simp at h
  | _ :: _, _, [], h => by simp at h
  | j :: js, i, k :: ks, h => by
    rw [List.map_cons, List.map_cons, List.cons.injEq] at h
    rw [timH, timH, List.map_cons, List.map_cons, timH_pl h.2]
    congr 1
    unfold plT
    simp only []
    rw [h.1]
theorem timS_pl : ∀ {os hs : List Jh}, os.map plH = hs.map plH → (timS os).map plT = (timS hs).map plT
  | [], [], _ => rfl
  | [], _ :: _, h => by simp at h
  | _ :: _, [], h => by simp at h
  | o :: os, h :: hs, e => by
    rw [List.map_cons, List.map_cons, List.cons.injEq] at e
    unfold timS
    rw [List.flatMap_cons, List.flatMap_cons, List.map_append, List.map_append]
    have e1 := e.1
    unfold plH at e1
    rw [Prod.mk.injEq] at e1
    rw [e1.1, timH_pl e1.2]
    congr 1
    exact timS_pl e.2
theorem timS_nodup : ∀ {hs : List Jh}, (hs.map (·.1)).Nodup → ((timS hs).map fun x => (x.1, x.2.1)).Nodup
  | [], _ => by simp [timS]
  | h :: hs, hn => by
    rw [List.map_cons, List.nodup_cons] at hn
    unfold timS
    rw [List.flatMap_cons, List.map_append]
    refine List.nodup_append.2 ⟨timH_nodup, timS_nodup hn.2, fun a ha b hb e => ?_⟩
    subst e
    obtain ⟨x, hx, rfl⟩ := List.mem_map.1 ha
    obtain ⟨y, hy, e⟩ := List.mem_map.1 hb
    obtain ⟨k, hk, hy⟩ := List.mem_flatMap.1 hy
    have h1 := (timH_msg hx).1
    have h2 := (timH_msg hy).1
    rw [Prod.mk.injEq] at e
    exact hn.1 (List.mem_map.2 ⟨k, hk, by rw [← h2, e.1, h1]⟩)
theorem timH_len {m : Ms} : ∀ {js : List Ja} {i : Nat}, (timH m i js).length = js.length
  | [], _ => rfl
  | _ :: js, i => by rw [timH, List.length_cons, List.length_cons, timH_len]
theorem timS_len : ∀ {hs : List Jh}, (∀ h ∈ hs, h.2.1.length ≤ 2) → (timS hs).length ≤ 2 * hs.length
  | [], _ => by simp [timS]
  | h :: hs, hl => by
    have h1 := hl h (by simp)
    have h2 := timS_len (hs := hs) fun x hx => hl x (by simp [hx])
    unfold timS at *
    rw [List.flatMap_cons, List.length_append, timH_len, List.length_cons]
    omega
theorem timH_take {m : Ms} : ∀ {js : List Ja} {i q : Nat}, q < js.length → timH m i (js.take (q + 1)) = timH m i (js.take q) ++ [(m, i + q, js.getD q Ja0)]
  | [], _, _, h => by simp at h
  | j :: js, i, 0, _ => by simp [timH]
  | j :: js, i, q + 1, h => by
    rw [List.take_succ_cons, List.take_succ_cons, timH, timH, timH_take (by simpa using h), List.cons_append, List.getD_cons_succ, show i + 1 + q = i + (q + 1) by omega]
theorem timS_take {hs : List Jh} {k : Nat} (h : k < hs.length) : timS (hs.take (k + 1)) = timS (hs.take k) ++ timH (hs.getD k Jh0).1 0 (hs.getD k Jh0).2.1 := by
  unfold timS
  rw [List.take_succ_eq_append_getElem h, List.flatMap_append, List.flatMap_cons, List.flatMap_nil, List.append_nil, List.getD_eq_getElem?_getD, List.getElem?_eq_getElem h]
  rfl
/-- Where an arrival is put: behind the last of the first k that are not after it. -/
def backF (x : Tm) (out : List Tm) : Nat → Nat
  | 0 => 0
  | k + 1 => if tlt x (out.getD k Tm0) then backF x out k else k + 1
def posF (x : Tm) (out : List Tm) : List Tm := out.take (backF x out out.length) ++ [x] ++ out.drop (backF x out out.length)
theorem backF_le {x : Tm} {out : List Tm} : ∀ k, backF x out k ≤ k
  | 0 => Nat.le_refl _
  | k + 1 => by
    rw [backF]
    split
    · exact Nat.le_trans (backF_le k) (Nat.le_succ _)
    · exact Nat.le_refl _
def SortT (l : List Tm) : Prop := l.Pairwise fun x y => ¬ tlt y x
theorem backF_after {x : Tm} {out : List Tm} : ∀ k, ∀ i, backF x out k ≤ i → i < k → tlt x (out.getD i Tm0)
  | 0, i, _, h => by omega
  | k + 1, i, h, hk => by
    rw [backF] at h
    split at h
    · rename_i ht
      rcases Nat.lt_or_ge i k with h1 | h1
      · exact backF_after k i h h1
      · obtain rfl : i = k := by omega
        exact ht
    · omega
theorem backF_last {x : Tm} {out : List Tm} : ∀ k, 0 < backF x out k → ¬ tlt x (out.getD (backF x out k - 1) Tm0)
  | 0, h => by simp [backF] at h
  | k + 1, h => by
    rw [backF] at h ⊢
    split
    · rename_i ht
      rw [if_pos ht] at h
      exact backF_last k h
    · rename_i ht
      exact ht
theorem getD_T {l : List Tm} {i : Nat} (h : i < l.length) : l.getD i Tm0 = l[i] := by rw [List.getD_eq_getElem?_getD, List.getElem?_eq_getElem h, Option.getD_some]
theorem posF_perm (x : Tm) (out : List Tm) : (posF x out).Perm (x :: out) := by
  unfold posF
  rw [List.append_assoc]
  refine (List.perm_middle (l₁ := out.take _) (a := x) (l₂ := out.drop _)).trans ?_
  rw [List.take_append_drop]
theorem posF_sort {x : Tm} {out : List Tm} (h : SortT out) : SortT (posF x out) := by
  obtain ⟨k, hk⟩ : ∃ k, backF x out out.length = k := ⟨_, rfl⟩
  have hkl : k ≤ out.length := by rw [← hk]; exact backF_le _
  unfold posF
  rw [hk, List.append_assoc, List.singleton_append]
  have hp : (out.take k ++ out.drop k).Pairwise fun x y => ¬ tlt y x := by rw [List.take_append_drop]; exact h
  obtain ⟨p1, p2, p3⟩ := List.pairwise_append.1 hp
  refine List.pairwise_append.2 ⟨p1, List.pairwise_cons.2 ⟨fun y hy => ?_, p2⟩, fun a ha b hb => ?_⟩
  · obtain ⟨i, hi, rfl⟩ := List.getElem_of_mem hy
    rw [List.length_drop] at hi
    rw [List.getElem_drop, ← getD_T (by omega)]
    exact tlt_asymm (backF_after out.length (k + i) (by omega) (by omega))
  · rcases List.mem_cons.1 hb with rfl | hb
    · obtain ⟨i, hi, rfl⟩ := List.getElem_of_mem ha
      rw [List.length_take] at hi
      rw [List.getElem_take]
      have hl := backF_last (x := b) (out := out) out.length (by omega)
      rw [hk, getD_T (by omega)] at hl
      rcases Nat.lt_or_ge i (k - 1) with h1 | h1
      · exact tlt_near hl (List.pairwise_iff_getElem.1 h i (k - 1) (by omega) (by omega) h1)
      · obtain rfl : i = k - 1 := by omega
        exact hl
    · exact p3 a ha b hb
/-- The reference's list. -/
def arrF (hs : List Jh) : List Tm := (timS hs).foldl (fun out x => posF x out) []
theorem foldl_pos : ∀ (l out : List Tm), SortT out → SortT (l.foldl (fun out x => posF x out) out) ∧ (l.foldl (fun out x => posF x out) out).Perm (out ++ l)
  | [], out, h => ⟨h, by simp⟩
  | x :: l, out, h => by
    rw [List.foldl_cons]
    have ih := foldl_pos l (posF x out) (posF_sort h)
    refine ⟨ih.1, ih.2.trans ?_⟩
    refine ((posF_perm x out).append_right l).trans ?_
    exact (List.perm_middle (l₁ := out) (a := x) (l₂ := l)).symm
theorem arrF_sort (hs : List Jh) : SortT (arrF hs) := (foldl_pos _ [] List.Pairwise.nil).1
theorem arrF_perm (hs : List Jh) : (arrF hs).Perm (timS hs) := (foldl_pos _ [] List.Pairwise.nil).2
def tltP (x y : Ms × Nat × Int × Int × List Int) : Prop := tlt (x.1, x.2.1, x.2.2, .slice none 0 0) (y.1, y.2.1, y.2.2, .slice none 0 0)
theorem SortT.pl {l : List Tm} (h : SortT l) : (l.map plT).Pairwise fun x y => ¬ tltP y x := List.pairwise_map.2 (h.imp fun h => h)
/-- Sorted, the arrivals of the holds are the reference's list. -/
theorem sorted_pl {os hs : List Jh} {l : List Tm} (he : os.map plH = hs.map plH) (hn : (hs.map (·.1)).Nodup) (hp : (l.map plT).Perm ((timS os).map plT)) (hs' : SortT l) : l.map plT = (arrF hs).map plT := by
  have P : (l.map plT).Perm ((arrF hs).map plT) := (hp.trans (by rw [timS_pl he])).trans ((arrF_perm hs).symm.map plT)
  refine List.Perm.eq_of_pairwise (le := fun x y => ¬ tltP y x) ?_ hs'.pl (arrF_sort hs).pl P
  intro a b ha hb h1 h2
  have nd : (((arrF hs).map plT).map fun x => (x.1, x.2.1)).Nodup := by
    rw [List.map_map]
    exact (((arrF_perm hs).map fun x => (x.1, x.2.1)).nodup_iff).2 (timS_nodup hn)
  have hk := tlt_key h2 h1
  obtain ⟨i, hi, e1⟩ := List.getElem_of_mem (P.mem_iff.1 ha)
  obtain ⟨j, hj, e2⟩ := List.getElem_of_mem hb
  rw [← e1, ← e2] at hk ⊢
  have hij : i = j := by
    have hd := List.pairwise_iff_getElem.1 nd
    rcases Nat.lt_trichotomy i j with h | h | h
    · refine absurd ?_ (hd i j (by simpa using hi) (by simpa using hj) h)
      simp only [List.getElem_map] at hk ⊢
      exact Prod.ext hk.1 hk.2
    · exact h
    · refine absurd ?_ (hd j i (by simpa using hj) (by simpa using hi) h)
      simp only [List.getElem_map] at hk ⊢
      exact Prod.ext hk.1.symm hk.2.symm
  subst hij
  rfl
end Go.Proofs.Ytehmpbaiefbemaa
