/- Two networks side by side; the states of plays compared. -/
import Derived.Test.YtehmpbaiefbemaaGreatN56
import Derived.Test.YtehmpbaiefbemaaGreatN43
namespace Go.Proofs.YtehmpbaiefbemaaGreat
theorem Exc.over {g r g' r' : Nat} {a b c : World} (h : Exc g r a b) (k : Exc g' r' b c) (hg : a.heap.size ≤ g') (hr : a.heap.size ≤ r') : Exc g r a c :=
  ⟨k.os.trans h.os, k.tape.trans h.tape, k.output.trans h.output, Nat.le_trans h.size k.size, fun i hi h1 h2 => (k.block i (Nat.lt_of_lt_of_le hi h.size) (by omega) (by omega)).trans (h.block i hi h1 h2)⟩
theorem Net.side {w w' : World} {g r : Nat} {cv hv : Value} {cs : List Ch} {hs : List Jh} {x : St} (h : Net w g r cv hv cs hs x) (hb : w'.heap[g]? = w.heap[g]?) (hm : w'.heap[r]? = w.heap[r]?) (hc : Stay g r (fun W => CsAt W cv cs) w') (hh : Stay g r (fun W => HsAt W hv hs) w') : Net w' g r cv hv cs hs x := by
  obtain ⟨us, m1, m2⟩ := h.map
  exact ⟨(blkOf_kept hb).trans h.blk, ⟨us, m1.kept hm, m2⟩, hc, hh, h.ne⟩
theorem os_small {os hs : List Jh} (h : os.map plH = hs.map plH) (ho : ∀ h ∈ hs, OkH h) : ∀ h ∈ os, h.2.1.length ≤ 1000 ∧ ∀ j ∈ h.2.1, j.1.2.2.length ≤ 4 := by
  intro o hm
  have h1 : plH o ∈ hs.map plH := by rw [← h]; exact List.mem_map.2 ⟨o, hm, rfl⟩
  obtain ⟨k, hk, e⟩ := List.mem_map.1 h1
  have e2 : k.2.1.map (·.1) = o.2.1.map (·.1) := congrArg Prod.snd e
  have ok := ho k hk
  refine ⟨by have h3 := congrArg List.length e2; simp only [List.length_map] at h3; have := ok.len; omega, fun j hj => ?_⟩
  have h4 : j.1 ∈ k.2.1.map (·.1) := by rw [e2]; exact List.mem_map.2 ⟨j, hj, rfl⟩
  obtain ⟨i, hi, e3⟩ := List.mem_map.1 h4
  rw [← e3]
  exact (ok.each i hi).2.2.2.2
theorem hasB_pl {os hs : List Jh} (h : os.map plH = hs.map plH) (m : Ms) : hasB os m = hasB hs m := by
  have e : hasB os m = true ↔ hasB hs m = true := by rw [hasB_iff, hasB_iff, hasM_pl h, hasM_iff]
  cases h1 : hasB os m <;> cases h2 : hasB hs m <;> simp_all
theorem sendF_pl {cs : List Ch} {os hs : List Jh} (h : os.map plH = hs.map plH) (f t tick lat : Int) (x : St) : sendF cs os f t tick lat x = sendF cs hs f t tick lat x := by
  unfold sendF
  simp only [hasB_pl h]
theorem agrF_same {cs : List Ch} {os hs : List Jh} (h : os.map plH = hs.map plH) (a : Ac) (x : St) : agrF cs os cs hs a x := by
  unfold agrF
  split
  · rfl
  · split
    · exact ⟨rfl, rfl⟩
    · split
      · rfl
      · exact sendF_pl h _ _ _ _ _
theorem inv0 (cs : List Ch) : Inv cs St0 0 := ⟨by simp [Asc], by simp, fun i => ⟨Nat.le_refl _, Nat.le_refl _, Nat.le_refl _⟩⟩
theorem doF_sub {cs : List Ch} {hs : List Jh} {a : Ac} {x : St} : ∀ k ∈ x.ks, k ∈ (doF cs hs a x).ks := by
  intro k hk
  have he : ∀ (ks : List Ky) (z : Ky), k ∈ ks → k ∈ eatF cs ks z := fun ks z h => mem_eatF.2 (.inr h)
  have hi : ∀ (ks : List Ky) (z : Ky), k ∈ ks → k ∈ insK z ks := fun ks z h => mem_insK.2 (.inr h)
  unfold doF
  split
  · unfold timF
    split
    · exact he _ _ hk
    · exact hk
  · split
    · unfold exeF
      split
      · exact (mem_foldI _ _).2 (.inr hk)
      · exact hk
    · split
      · exact he _ _ hk
      · unfold sendF
        split
        · split
          · exact hk
          · split
            · exact hi _ _ hk
            · split
              · exact hi _ _ (he _ _ hk)
              · exact he _ _ hk
        · exact hk
theorem stF_sub {cs : List Ch} {hs : List Jh} {al : List (Ac × Value)} {x : St} : ∀ i, i ≤ al.length → ∀ k ∈ x.ks, k ∈ (stF cs hs al x i).ks
  | 0, _, k, hk => hk
  | i + 1, hi, k, hk => by
    rw [stF_succ (by omega)]
    exact doF_sub k (stF_sub i (by omega) k hk)
theorem asc_same {l m : List Ky} (h : Asc l) (k : Asc m) (hs : ∀ x ∈ l, x ∈ m) (e : l.length = m.length) : l = m := by
  refine asc_ext h k fun s => ⟨hs s, fun hm => ?_⟩
  by_cases hl : s ∈ l
  · exact hl
  · have h1 := nodup_len (s :: l) m (List.nodup_cons.2 ⟨hl, h.nodup⟩) fun x hx => by
      rcases List.mem_cons.1 hx with rfl | hx
      · exact hm
      · exact hs x hx
    rw [List.length_cons] at h1
    omega
theorem eqSt_self (x : St) : eqSt x x = true := by
  unfold eqSt
  rw [eqAA_self, eqA_self, eqA_self]
  simp
/-- Equality of states, as the law reckons it. -/
theorem eqSt_len {y z : St} (h : Asc y.ks) (k : Asc z.ks) (hs : ∀ x ∈ y.ks, x ∈ z.ks) : eqSt y z = (eqAA y.s z.s && (eqA y.t z.t 8 && (eqA y.d z.d 8 && decide (y.ks.length = z.ks.length)))) := by
  have e : decide (y.ks = z.ks) = decide (y.ks.length = z.ks.length) := decide_eq_decide.2 ⟨fun e => by rw [e], fun e => asc_same h k hs e⟩
  unfold eqSt
  rw [e]
end Go.Proofs.YtehmpbaiefbemaaGreat
