/- NetworkHolds in plain terms: sends, those of them that are held, and the sends over again. -/
import Derived.Test.YtehmpbaiefbemaaN43
import Derived.Test.YtehmpbaiefbemaaH4
namespace Go.Proofs.Ytehmpbaiefbemaa
abbrev acAt (al : List (Ac × Value)) (i : Nat) : Ac := (al.getD i Ac0).1
def sendH (cs : List Ch) (hs : List Jh) (a : Ac) (x : St) : St × Int × List Int := sendF cs hs (modF a.a 3) (modF a.b 3) (modF a.n 20) (1 + modF a.ct 5) x
/-- The state behind the first i sends. -/
def stH (cs : List Ch) (al : List (Ac × Value)) : Nat → St
  | 0 => St0
  | i + 1 => (sendH cs [] (acAt al i) (stH cs al i)).1
def resH (cs : List Ch) (al : List (Ac × Value)) (i : Nat) : Int × List Int := (sendH cs [] (acAt al i) (stH cs al i)).2
def ixA (a : Ac) : Nat := ix (modF a.a 3) (modF a.b 3)
def msgH (cs : List Ch) (al : List (Ac × Value)) (i : Nat) : Ms := (modF (acAt al i).a 3, modF (acAt al i).b 3, (resH cs al i).1)
def argH (a : Ac) : List Int := a.args.take (min a.args.length 4)
def gotH (cs : List Ch) (al : List (Ac × Value)) (i : Nat) : List (Int × Int × List Int) := (resH cs al i).2.map fun t => (t, modF (acAt al i).n 8, argH (acAt al i))
/-- The holds that are made of the first i sends. -/
def heldH (cs : List Ch) (al : List (Ac × Value)) (p : Nat → Bool) : Nat → List Ph
  | 0 => []
  | i + 1 => heldH cs al p i ++ (if p i then [(msgH cs al i, gotH cs al i)] else [])
theorem inC3 (a : Int) : inC (modF a 3) := by
  have := modF_range (a := a) (n := 3) (by omega)
  unfold inC
  omega
theorem sendF_s {cs : List Ch} {hs : List Jh} {f t k l : Int} {x : St} (hf : inC f) (ht : inC t) : (sendF cs hs f t k l x).1.s = upd x.s (ix f t) (x.s (ix f t) + 1) ∧ (sendF cs hs f t k l x).2.1 = (x.s (ix f t) : Int) := by
  unfold sendF
  rw [if_pos ⟨hf, ht⟩]
  split
  · exact ⟨rfl, rfl⟩
  · split
    · exact ⟨rfl, rfl⟩
    · split <;> exact ⟨rfl, rfl⟩
theorem sendF_free {cs : List Ch} {hs : List Jh} {f t k l : Int} {x y : St} (hf : inC f) (ht : inC t) (e : y.s (ix f t) = x.s (ix f t)) (hb : hasB hs (f, t, (x.s (ix f t) : Int)) = false) : (sendF cs hs f t k l y).2 = (sendF cs [] f t k l x).2 := by
  have hc : inC f ∧ inC t := ⟨hf, ht⟩
  unfold sendF
  rw [if_pos hc, if_pos hc, e, hb]
  have h0 : hasB [] (f, t, (x.s (ix f t) : Int)) = false := rfl
  rw [h0]
  simp only [Bool.false_eq_true, if_false]
  split
  · rfl
  · split <;> rfl
theorem sendF_held {cs : List Ch} {hs : List Jh} {f t k l : Int} {x : St} (hf : inC f) (ht : inC t) (hb : hasB hs (f, t, (x.s (ix f t) : Int)) = true) : (sendF cs hs f t k l x).2 = ((x.s (ix f t) : Int), []) := by
  have hc : inC f ∧ inC t := ⟨hf, ht⟩
  unfold sendF
  rw [if_pos hc, hb]
  rfl
theorem sendH_s {cs : List Ch} {hs : List Jh} {a : Ac} {x : St} : (sendH cs hs a x).1.s = upd x.s (ixA a) (x.s (ixA a) + 1) ∧ (sendH cs hs a x).2.1 = (x.s (ixA a) : Int) := sendF_s (inC3 _) (inC3 _)
theorem stH_s {cs : List Ch} {al : List (Ac × Value)} {i : Nat} : (stH cs al (i + 1)).s = upd (stH cs al i).s (ixA (acAt al i)) ((stH cs al i).s (ixA (acAt al i)) + 1) := sendH_s.1
theorem resH_ord {cs : List Ch} {al : List (Ac × Value)} {i : Nat} : (resH cs al i).1 = ((stH cs al i).s (ixA (acAt al i)) : Int) := sendH_s.2
theorem stH_step {cs : List Ch} {al : List (Ac × Value)} {i k : Nat} : (stH cs al i).s k ≤ (stH cs al (i + 1)).s k ∧ (stH cs al (i + 1)).s k ≤ (stH cs al i).s k + 1 := by
  rw [stH_s]
  unfold upd
  split
  · rename_i h; rw [h]; omega
  · omega
theorem stH_mono {cs : List Ch} {al : List (Ac × Value)} {k i : Nat} : ∀ d, (stH cs al i).s k ≤ (stH cs al (i + d)).s k
  | 0 => Nat.le_refl _
  | d + 1 => Nat.le_trans (stH_mono d) stH_step.1
theorem stH_le {cs : List Ch} {al : List (Ac × Value)} {k : Nat} : ∀ i, (stH cs al i).s k ≤ i
  | 0 => Nat.le_refl _
  | i + 1 => by
    have h1 := stH_le (cs := cs) (al := al) (k := k) i
    have h2 := (stH_step (cs := cs) (al := al) (i := i) (k := k)).2
    omega
theorem msgH_ne {cs : List Ch} {al : List (Ac × Value)} {i j : Nat} (h : i < j) : msgH cs al i ≠ msgH cs al j := by
  intro e
  unfold msgH at e
  simp only [Prod.mk.injEq] at e
  obtain ⟨e1, e2, e3⟩ := e
  rw [resH_ord, resH_ord] at e3
  have e4 : ixA (acAt al i) = ixA (acAt al j) := by unfold ixA; rw [e1, e2]
  have h1 : (stH cs al (i + 1)).s (ixA (acAt al i)) = (stH cs al i).s (ixA (acAt al i)) + 1 := by rw [stH_s]; unfold upd; rw [if_pos rfl]
  have h2 := stH_mono (cs := cs) (al := al) (k := ixA (acAt al i)) (i := i + 1) (j - (i + 1))
  rw [show i + 1 + (j - (i + 1)) = j by omega] at h2
  rw [e4] at h1 h2 e3
  omega
theorem mem_heldH {cs : List Ch} {al : List (Ac × Value)} {p : Nat → Bool} {x : Ph} : ∀ n, x ∈ heldH cs al p n ↔ ∃ j, j < n ∧ p j = true ∧ x = (msgH cs al j, gotH cs al j)
  | 0 => by simp [heldH]
  | n + 1 => by
    rw [heldH, List.mem_append, mem_heldH n]
    constructor
    · rintro (⟨j, h1, h2, h3⟩ | h)
      · exact ⟨j, by omega, h2, h3⟩
      · by_cases hp : p n = true
        · rw [if_pos hp, List.mem_singleton] at h
          exact ⟨n, by omega, hp, h⟩
        · rw [if_neg hp] at h
          cases h
    · rintro ⟨j, h1, h2, h3⟩
      rcases Nat.lt_or_ge j n with h | h
      · exact .inl ⟨j, h, h2, h3⟩
      · obtain rfl : j = n := by omega
        right
        rw [if_pos h2, h3]
        simp
theorem heldH_len {cs : List Ch} {al : List (Ac × Value)} {p : Nat → Bool} : ∀ n, (heldH cs al p n).length ≤ n
  | 0 => Nat.le_refl _
  | n + 1 => by
    have := heldH_len (cs := cs) (al := al) (p := p) n
    rw [heldH, List.length_append]
    split <;> simp <;> omega
theorem heldH_nodup {cs : List Ch} {al : List (Ac × Value)} {p : Nat → Bool} : ∀ n, ((heldH cs al p n).map (·.1)).Nodup
  | 0 => by simp [heldH]
  | n + 1 => by
    have ih := heldH_nodup (cs := cs) (al := al) (p := p) n
    rw [heldH, List.map_append]
    by_cases hp : p n = true
    · rw [if_pos hp]
      refine List.nodup_append.2 ⟨ih, by simp, fun a ha b hb e => ?_⟩
      subst e
      obtain ⟨x, hx, rfl⟩ := List.mem_map.1 ha
      obtain ⟨j, h1, h2, rfl⟩ := (mem_heldH n).1 hx
      simp only [List.map_cons, List.map_nil, List.mem_singleton] at hb
      exact msgH_ne h1 hb
    · rw [if_neg hp]
      simpa using ih
theorem hasB_held {cs : List Ch} {al : List (Ac × Value)} {p : Nat → Bool} {n i : Nat} {os : List Jh} (h : os.map plH = heldH cs al p n) (hi : i < n) : hasB os (msgH cs al i) = p i := by
  have h1 : hasB os (msgH cs al i) = true ↔ p i = true := by
    rw [hasB_iff, hasM_iff]
    have e : os.map (·.1) = (heldH cs al p n).map (·.1) := by
      rw [← h, List.map_map]
      rfl
    rw [e, List.mem_map]
    constructor
    · rintro ⟨x, hx, e⟩
      obtain ⟨j, h1, h2, rfl⟩ := (mem_heldH n).1 hx
      rcases Nat.lt_trichotomy j i with h3 | h3 | h3
      · exact absurd e (msgH_ne h3)
      · rw [← h3]; exact h2
      · exact absurd e.symm (msgH_ne h3)
    · intro hp
      exact ⟨_, (mem_heldH n).2 ⟨i, hi, hp, rfl⟩, rfl⟩
  cases hb : hasB os (msgH cs al i) <;> cases hp : p i <;> simp_all
theorem getF_low {cs : List Ch} (ho : OkL cs) {k : Ky} (hk : k.1 = 6 ∨ k.1 = 7) {d : Int} (h : getF cs k = some d) : 1 ≤ d ∧ d ≤ 5 := (ho.ok _ (getF_mem h)).six hk
theorem getF_low0 {cs : List Ch} (ho : OkL cs) {k : Ky} (hk : k.1 = 6 ∨ k.1 = 7) : 0 ≤ (getF cs k).getD 0 ∧ (getF cs k).getD 0 ≤ 5 := by
  cases h : getF cs k with
  | none => simp
  | some d =>
    have := getF_low ho hk h
    simp only [Option.getD_some]
    omega
theorem sendF_ticks {cs : List Ch} (ho : OkL cs) {hs : List Jh} {f t k l : Int} {x : St} (hk : 0 ≤ k) : (∀ u ∈ (sendF cs hs f t k l x).2.2, 1 ≤ u) ∧ ((sendF cs hs f t k l x).2.2).Pairwise (· ≤ ·) := by
  unfold sendF
  split
  · have h6 := getF_low0 ho (k := (6, f, t, (x.s (ix f t) : Int))) (.inl rfl)
    have hm : 1 ≤ max l 1 := Int.le_max_right _ _
    split
    · simp
    · split
      · simp
      · split
        · rename_i d h7
          have h8 := getF_low ho (.inr rfl) h7
          refine ⟨fun u hu => ?_, ?_⟩
          · simp only [List.mem_cons, List.not_mem_nil, or_false] at hu
            rcases hu with rfl | rfl <;> omega
          · simp only [List.pairwise_cons, List.mem_cons, List.not_mem_nil, or_false, forall_eq, List.Pairwise.nil, and_true, false_implies, implies_true]
            omega
        · refine ⟨fun u hu => ?_, by simp⟩
          simp only [List.mem_cons, List.not_mem_nil, or_false] at hu
          subst hu
          omega
  · simp
theorem gotH_ok {cs : List Ch} (ho : OkL cs) {al : List (Ac × Value)} {i : Nat} : (gotH cs al i).length ≤ 2 ∧ (∀ a ∈ gotH cs al i, 1 ≤ a.1 ∧ 0 ≤ a.2.1 ∧ a.2.1 ≤ 7 ∧ a.2.2.length ≤ 4) ∧ (gotH cs al i).Pairwise (fun a b => a.1 ≤ b.1) := by
  have h20 := modF_range (a := (acAt al i).n) (n := 20) (by omega)
  have h8 := modF_range (a := (acAt al i).n) (n := 8) (by omega)
  have ht := sendF_ticks ho (hs := []) (f := modF (acAt al i).a 3) (t := modF (acAt al i).b 3) (k := modF (acAt al i).n 20) (l := 1 + modF (acAt al i).ct 5) (x := stH cs al i) h20.1
  have hl := sendF_ts (cs := cs) (hs := []) (f := modF (acAt al i).a 3) (t := modF (acAt al i).b 3) (tick := modF (acAt al i).n 20) (lat := 1 + modF (acAt al i).ct 5) (x := stH cs al i)
  refine ⟨by unfold gotH; rw [List.length_map]; exact hl, fun a ha => ?_, ?_⟩
  · obtain ⟨u, hu, rfl⟩ := List.mem_map.1 ha
    refine ⟨ht.1 u hu, h8.1, by show modF _ 8 ≤ 7; omega, ?_⟩
    show (argH _).length ≤ 4
    unfold argH
    rw [List.length_take]
    omega
  · exact List.pairwise_map.2 ht.2
theorem valid_held {cs : List Ch} (ho : OkL cs) {al : List (Ac × Value)} {i : Nat} (hi : i ≤ 12) {h : Jh} (e : plH h = (msgH cs al i, gotH cs al i)) : validF h = true := by
  unfold plH at e
  rw [Prod.mk.injEq] at e
  obtain ⟨e1, e2⟩ := e
  have g := gotH_ok ho (al := al) (i := i)
  rw [← e2] at g
  have hle := stH_le (cs := cs) (al := al) (k := ixA (acAt al i)) i
  have g3 : h.2.1.Pairwise (fun a b => a.1.1 ≤ b.1.1) := (List.pairwise_map (f := fun x : Ja => x.1) (R := fun a b : Int × Int × List Int => a.1 ≤ b.1)).1 g.2.2
  have g4 : okArr 1 h.2.1 = true := okArr_all (fun j hj => (g.2.1 j.1 (List.mem_map.2 ⟨j, hj, rfl⟩)).2) (fun j hj => (g.2.1 j.1 (List.mem_map.2 ⟨j, hj, rfl⟩)).1) g3
  unfold validF
  rw [g4, Bool.and_true, decide_eq_true_iff, e1]
  · refine ⟨inC3 _, inC3 _, ?_, ?_, by have := g.1; rwa [List.length_map] at this⟩
    · show 0 ≤ (resH cs al i).1
      rw [resH_ord]
      omega
    · show (resH cs al i).1 ≤ 65535
      rw [resH_ord]
      omega
theorem held_errF {cs : List Ch} (ho : OkL cs) {al : List (Ac × Value)} {p : Nat → Bool} {n : Nat} (hn : n ≤ 12) {os : List Jh} (h : os.map plH = heldH cs al p n) : errF os = 0 ∧ ∀ h ∈ os, validF h = true := by
  have hv : ∀ h ∈ os, validF h = true := fun x hx => by
    have h1 : plH x ∈ heldH cs al p n := by rw [← h]; exact List.mem_map.2 ⟨x, hx, rfl⟩
    obtain ⟨j, hj, -, e⟩ := (mem_heldH n).1 h1
    exact valid_held ho (by omega) e
  refine ⟨?_, hv⟩
  have hl : os.length ≤ n := by
    have h1 := congrArg List.length h
    rw [List.length_map] at h1
    rw [h1]
    exact heldH_len n
  unfold errF
  rw [if_neg (by omega)]
  have hnd : (os.map (·.1)).Nodup := by
    have e : os.map (·.1) = (heldH cs al p n).map (·.1) := by
      rw [← h, List.map_map]
      rfl
    rw [e]
    exact heldH_nodup n
  have key : ∀ (l : List Jh) (seen : List Ms), (∀ h ∈ l, validF h = true) → (seen ++ l.map (·.1)).Nodup → errA seen l = 0 := by
    intro l
    induction l with
    | nil => intro seen _ _; rfl
    | cons x l ih =>
      intro seen h1 h2
      rw [errA, if_neg (by rw [h1 x (by simp)]; decide), if_neg (fun hm => ?_)]
      · exact ih _ (fun y hy => h1 y (by simp [hy])) (by simpa using h2)
      · rw [List.nodup_append] at h2
        exact h2.2.2 _ hm _ (by simp) rfl
  exact key os [] hv (by simpa using hnd)
/-- How many arrivals are held. -/
def cntP (l : List Ph) : Nat := (l.map fun x => x.2.length).sum
theorem timS_cnt : ∀ os : List Jh, (timS os).length = cntP (os.map plH)
  | [] => rfl
  | o :: os => by
    have ih := timS_cnt os
    unfold timS at *
    rw [List.flatMap_cons, List.length_append, timH_len, ih]
    unfold cntP plH
    simp
/-- The sends over again, with the holds: the state of the network that has them. -/
def st2 (cs : List Ch) (os : List Jh) (al : List (Ac × Value)) : Nat → St
  | 0 => St0
  | i + 1 => (sendH cs os (acAt al i) (st2 cs os al i)).1
theorem st2_s {cs : List Ch} {os : List Jh} {al : List (Ac × Value)} : ∀ i, (st2 cs os al i).s = (stH cs al i).s
  | 0 => rfl
  | i + 1 => by
    rw [st2, sendH_s.1, st2_s i, stH_s]
theorem st2_res {cs : List Ch} {al : List (Ac × Value)} {p : Nat → Bool} {n i : Nat} {os : List Jh} (h : os.map plH = heldH cs al p n) (hi : i < n) : (sendH cs os (acAt al i) (st2 cs os al i)).2 = if p i then ((resH cs al i).1, []) else resH cs al i := by
  have hb := hasB_held h hi
  have e : msgH cs al i = (modF (acAt al i).a 3, modF (acAt al i).b 3, ((st2 cs os al i).s (ix (modF (acAt al i).a 3) (modF (acAt al i).b 3)) : Int)) := by
    unfold msgH
    rw [resH_ord, st2_s]
    rfl
  rw [e] at hb
  cases hp : p i with
  | true =>
    rw [hp] at hb
    rw [if_pos rfl]
    have h1 := sendF_held (cs := cs) (k := modF (acAt al i).n 20) (l := 1 + modF (acAt al i).ct 5) (inC3 _) (inC3 _) hb
    have h2 : (resH cs al i).1 = ((st2 cs os al i).s (ix (modF (acAt al i).a 3) (modF (acAt al i).b 3)) : Int) := by rw [resH_ord, st2_s]; rfl
    rw [h2]
    exact h1
  | false =>
    rw [hp] at hb
    rw [if_neg (by simp)]
    rw [st2_s] at hb
    exact sendF_free (inC3 _) (inC3 _) (by rw [st2_s]) hb
end Go.Proofs.Ytehmpbaiefbemaa
