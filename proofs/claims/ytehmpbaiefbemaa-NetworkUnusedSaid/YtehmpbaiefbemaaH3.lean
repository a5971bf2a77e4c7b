/- The network's calls in plain terms. -/
import Derived.Test.YtehmpbaiefbemaaN15
namespace Go.Proofs.Ytehmpbaiefbemaa
/-- The number of the choice with a key. -/
def getF (cs : List Ch) (k : Ky) : Option Int := (cs.find? fun c => decide (c.1 = k)).map (·.2)
/-- The ordinals so far, and the keys that were consumed, in order. -/
structure St where
  s : Nat → Nat
  t : Nat → Nat
  d : Nat → Nat
  ks : List Ky
def eatF (cs : List Ch) (ks : List Ky) (k : Ky) : List Ky := if (getF cs k).isSome then insK k ks else ks
def inC (c : Int) : Prop := 0 ≤ c ∧ c < 8
instance (c : Int) : Decidable (inC c) := inferInstanceAs (Decidable (0 ≤ c ∧ c < 8))
def ix (f t : Int) : Nat := (8 * f + t).toNat
def hasB (hs : List Jh) (m : Ms) : Bool := hs.any fun h => decide (h.1 = m)
theorem hasB_iff {hs : List Jh} {m : Ms} : hasB hs m = true ↔ HasM hs m := by simp [hasB, HasM]
def sendF (cs : List Ch) (hs : List Jh) (f t tick lat : Int) (x : St) : St × Int × List Int :=
  if inC f ∧ inC t then
    if hasB hs (f, t, x.s (ix f t)) then ({ x with s := upd x.s (ix f t) (x.s (ix f t) + 1) }, x.s (ix f t), [])
    else match getF cs (5, f, t, x.s (ix f t)) with
      | some _ => ({ x with s := upd x.s (ix f t) (x.s (ix f t) + 1), ks := insK (5, f, t, x.s (ix f t)) x.ks }, x.s (ix f t), [])
      | none => match getF cs (7, f, t, x.s (ix f t)) with
        | some d => ({ x with s := upd x.s (ix f t) (x.s (ix f t) + 1), ks := insK (7, f, t, x.s (ix f t)) (eatF cs x.ks (6, f, t, x.s (ix f t))) }, x.s (ix f t),
            [tick + max lat 1 + (getF cs (6, f, t, x.s (ix f t))).getD 0, tick + max lat 1 + (getF cs (6, f, t, x.s (ix f t))).getD 0 + d])
        | none => ({ x with s := upd x.s (ix f t) (x.s (ix f t) + 1), ks := eatF cs x.ks (6, f, t, x.s (ix f t)) }, x.s (ix f t), [tick + max lat 1 + (getF cs (6, f, t, x.s (ix f t))).getD 0])
  else (x, -1, [])
def timF (cs : List Ch) (c due : Int) (x : St) : St × Int × Int :=
  if inC c then ({ x with t := upd x.t c.toNat (x.t c.toNat + 1), ks := eatF cs x.ks (9, c, 0, x.t c.toNat) }, x.t c.toNat, due + (getF cs (9, c, 0, x.t c.toNat)).getD 0)
  else (x, -1, due)
/-- The keys of the disk operations that fail. -/
def failK (cs : List Ch) (c : Int) (n : Nat) (count : Int) : List Ky := (cs.map (·.1)).filter fun k => decide (k.1 = 8 ∧ k.2.1 = c ∧ (n : Int) ≤ k.2.2.2 ∧ k.2.2.2 - n < count)
def diskF (cs : List Ch) (c count : Int) (x : St) : Int × List Int := if inC c then (x.d c.toNat, (failK cs c (x.d c.toNat) count).map (·.2.2.2)) else (-1, [])
def exeF (cs : List Ch) (c count : Int) (x : St) : St :=
  if inC c ∧ 0 < count then { x with d := upd x.d c.toNat (x.d c.toNat + count.toNat), ks := (failK cs c (x.d c.toNat) count).foldl (fun u k => insK k u) x.ks } else x
theorem getF_mem {cs : List Ch} {k : Ky} {v : Int} (h : getF cs k = some v) : (k, v) ∈ cs := by
  unfold getF at h
  rw [Option.map_eq_some_iff] at h
  obtain ⟨c, h1, rfl⟩ := h
  have h2 := List.find?_some h1
  have h3 := List.mem_of_find?_eq_some h1
  have : c.1 = k := of_decide_eq_true h2
  rw [← this]
  exact h3
theorem getF_some {cs : List Ch} {k : Ky} : (getF cs k).isSome = true ↔ k ∈ cs.map (·.1) := by
  unfold getF
  rw [Option.isSome_map, List.find?_isSome, List.mem_map]
  exact ⟨fun ⟨c, h, e⟩ => ⟨c, h, of_decide_eq_true e⟩, fun ⟨c, h, e⟩ => ⟨c, h, decide_eq_true e⟩⟩
theorem getF_none {cs : List Ch} {k : Ky} : getF cs k = none ↔ k ∉ cs.map (·.1) := by
  rw [← getF_some]
  cases getF cs k <;> simp
theorem eatF_asc {cs : List Ch} {ks : List Ky} {k : Ky} (h : Asc ks) : Asc (eatF cs ks k) := by
  unfold eatF
  split
  · exact insK_asc h
  · exact h
theorem mem_eatF {cs : List Ch} {ks : List Ky} {k x : Ky} : x ∈ eatF cs ks k ↔ (x = k ∧ k ∈ cs.map (·.1)) ∨ x ∈ ks := by
  unfold eatF
  split
  · rename_i h
    rw [getF_some] at h
    rw [mem_insK]
    simp [h]
  · rename_i h
    rw [getF_some] at h
    simp [h]
theorem mem_foldI {x : Ky} : ∀ (l ks : List Ky), x ∈ l.foldl (fun u k => insK k u) ks ↔ x ∈ l ∨ x ∈ ks
  | [], ks => by simp
  | k :: l, ks => by
    rw [List.foldl_cons, mem_foldI l, mem_insK, List.mem_cons]
    constructor
    · rintro (h | h | h) <;> simp [h]
    · rintro ((h | h) | h) <;> simp [h]
theorem foldI_asc : ∀ (l ks : List Ky), Asc ks → Asc (l.foldl (fun u k => insK k u) ks)
  | [], _, h => h
  | _ :: l, _, h => foldI_asc l _ (insK_asc h)
theorem mem_foldE {cs : List Ch} {x : Ky} : ∀ (l ks : List Ky), x ∈ l.foldl (fun u k => eatF cs u k) ks ↔ (x ∈ l ∧ x ∈ cs.map (·.1)) ∨ x ∈ ks
  | [], ks => by simp
  | k :: l, ks => by
    rw [List.foldl_cons, mem_foldE l, mem_eatF, List.mem_cons]
    constructor
    · rintro (⟨h1, h2⟩ | ⟨rfl, h2⟩ | h)
      · exact .inl ⟨.inr h1, h2⟩
      · exact .inl ⟨.inl rfl, h2⟩
      · exact .inr h
    · rintro (⟨rfl | h1, h2⟩ | h)
      · exact .inr (.inl ⟨rfl, h2⟩)
      · exact .inl ⟨h1, h2⟩
      · exact .inr (.inr h)
theorem foldE_asc {cs : List Ch} : ∀ (l ks : List Ky), Asc ks → Asc (l.foldl (fun u k => eatF cs u k) ks)
  | [], _, h => h
  | _ :: l, _, h => foldE_asc l _ (eatF_asc h)
/-- The keys of the next count disk operations of a component. -/
def nextK (c : Int) (n count : Nat) : List Ky := (List.range count).map fun i => (8, c, 0, ((n + i : Nat) : Int))
/-- Disk operations have no second number. -/
def Disk0 (cs : List Ch) : Prop := ∀ c ∈ cs, c.1.1 = 8 → c.1.2.2.1 = 0
theorem OkL.disk0 {cs : List Ch} (h : OkL cs) : Disk0 cs := fun c hc h8 => (h.ok c hc).key.pair (by omega) (by omega) (by omega) (by omega)
theorem mem_fail {cs : List Ch} (hd : Disk0 cs) {c : Int} {n : Nat} {count : Int} {k : Ky} : k ∈ failK cs c n count ↔ k ∈ nextK c n count.toNat ∧ k ∈ cs.map (·.1) := by
  unfold failK nextK
  rw [List.mem_filter]
  constructor
  · rintro ⟨h1, h2⟩
    have h2 := of_decide_eq_true h2
    obtain ⟨a, b, x, y⟩ := h2
    obtain ⟨z, hz, rfl⟩ := List.mem_map.1 h1
    have h0 := hd z hz a
    refine ⟨List.mem_map.2 ⟨(z.1.2.2.2 - n).toNat, by rw [List.mem_range]; omega, ?_⟩, h1⟩
    rw [← a, ← b, ← h0]
    have e : ((n + (z.1.2.2.2 - (n : Int)).toNat : Nat) : Int) = z.1.2.2.2 := by omega
    rw [e]
  · rintro ⟨h0, h1⟩
    obtain ⟨i, hi, rfl⟩ := List.mem_map.1 h0
    refine ⟨h1, decide_eq_true ⟨rfl, rfl, ?_, ?_⟩⟩
    · show (n : Int) ≤ ((n + i : Nat) : Int); omega
    · rw [List.mem_range] at hi
      show ((n + i : Nat) : Int) - n < count; omega
/-- What fails, by the reference: one key after the other is asked for. -/
theorem exe_keys {cs : List Ch} (hd : Disk0 cs) {c : Int} {n : Nat} {count : Int} {ks : List Ky} (h : Asc ks) : (nextK c n count.toNat).foldl (fun u k => eatF cs u k) ks = (failK cs c n count).foldl (fun u k => insK k u) ks :=
  asc_ext (foldE_asc _ _ h) (foldI_asc _ _ h) fun s => by rw [mem_foldE, mem_foldI, mem_fail hd]
theorem nextK_asc (c : Int) (n count : Nat) : Asc (nextK c n count) := by
  unfold nextK Asc
  rw [List.pairwise_map]
  refine List.Pairwise.imp ?_ List.pairwise_lt_range
  intro a b hab
  unfold klt
  right
  refine ⟨rfl, .inr ⟨rfl, .inr ⟨rfl, ?_⟩⟩⟩
  show ((n + a : Nat) : Int) < ((n + b : Nat) : Int)
  omega
theorem fail_eq {cs : List Ch} (ha : AscC cs) (hd : Disk0 cs) {c : Int} {n : Nat} {count : Int} : (nextK c n count.toNat).filter (fun k => (getF cs k).isSome) = failK cs c n count :=
  asc_ext (List.Pairwise.filter _ (nextK_asc _ _ _)) (List.Pairwise.filter _ ha) fun s => by
    rw [List.mem_filter, mem_fail hd, getF_some]
end Go.Proofs.Ytehmpbaiefbemaa
