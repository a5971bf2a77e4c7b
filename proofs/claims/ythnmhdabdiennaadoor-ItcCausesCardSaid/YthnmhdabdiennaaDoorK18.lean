/- Four rows of a call's own: stamps, numbers, stamps, numbers; stores into them and appends to them. -/
import Derived.Test.YthnmhdabdiennaaDoorK17
import Derived.Deep.AppendLies
namespace Go.Proofs.YthnmhdabdiennaaDoor
open Go.RowKit
theorem Apart.symm {a b : Value} (h : Apart a b) : Apart b a := by
  rcases h with h | h
  · cases hb : b.ownBlock with
    | none => exact .inl hb
    | some g => exact .inr (by rw [h, hb]; simp)
  · exact .inr fun e => h e.symm
/-- A row whose cells may be written while trees stay. -/
def Plain (w : World) (row : Option Nat) : Prop := ∀ g, row = some g → ∃ T, typ w g = some T ∧ T ≠ 77 ∧ T ≠ 103
theorem StRow.plain {w : World} {B : Nat} {v : Value} {L : List StT} (h : StRow w B v L) : Plain w v.ownBlock := fun g hg => by
  obtain ⟨ps, h1, _⟩ := h
  exact ⟨31, own_typ h1 g hg, by decide, by decide⟩
theorem NumRow.plain {w : World} {B : Nat} {v : Value} {L : List Nat} (h : NumRow w B v L) : Plain w v.ownBlock := fun g hg => ⟨33, own_typ h g hg, by decide, by decide⟩
theorem StRow.kept {w w' : World} {B : Nat} {v : Value} {L : List StT} {row : Option Nat} (h : StRow w B v L) (hg : w.grownBy w' row) (hne : v.ownBlock = none ∨ v.ownBlock ≠ row) (hp : Plain w row) : StRow w' B v L := by
  obtain ⟨ps, h1, h2⟩ := h
  exact ⟨ps, h1.kept hg hne, h2.kp (Kp.grown hg hp)⟩
theorem NumRow.kept {w w' : World} {B : Nat} {v : Value} {L : List Nat} {row : Option Nat} (h : NumRow w B v L) (hg : w.grownBy w' row) (hne : v.ownBlock = none ∨ v.ownBlock ≠ row) : NumRow w' B v L := World.ownsRow.kept h hg hne
theorem StRow.apart {w : World} {B B' : Nat} {v v' : Value} {L : List StT} {ns : List Nat} (h : StRow w B v L) (h' : NumRow w B' v' ns) : Apart v v' := by
  obtain ⟨ps, h1, _⟩ := h
  exact own_apart h1 h' (by decide)
structure Rows4 (w : World) (B : Nat) (vs ve va vp : Value) (L : List StT) (ns : List Nat) (R : List StT) (rs : List Nat) : Prop where
  s : StRow w B vs L
  e : NumRow w B ve ns
  a : StRow w B va R
  p : NumRow w B vp rs
  sa : Apart va vs
  ep : Apart vp ve
section
variable {w w' : World} {B : Nat} {vs ve va vp : Value} {L R : List StT} {ns rs : List Nat}
theorem Rows4.ext (h : Rows4 w B vs ve va vp L ns R rs) (k : Ext w w') : Rows4 w' B vs ve va vp L ns R rs := ⟨h.s.ext k, h.e.ext k, h.a.ext k, h.p.ext k, h.sa, h.ep⟩
/-- A stamp is stored. -/
theorem Rows4.putS {g n cap j : Nat} {q : Option Addr × Option Addr} {s : StT} (h : Rows4 w B (.slice (some ⟨g, 0, none⟩) n cap) ve va vp L ns R rs) (hn : n = L.length) (hq : PtAt w q s) :
    Rows4 ((w.setCell ⟨g, j * 2, none⟩ (.pointer q.1)).setCell ⟨g, j * 2 + 1, none⟩ (.pointer q.2)) B (.slice (some ⟨g, 0, none⟩) n cap) ve va vp (L.set j s) ns R rs := by
  subst hn
  obtain ⟨ps, h1, h2⟩ := h.s
  have pl : Plain w (some g) := h.s.plain
  obtain ⟨o1, g1⟩ := h1.stored (j * 2) (.pointer q.1)
  obtain ⟨o2, g2⟩ := o1.stored (j * 2 + 1) (.pointer q.2)
  have pl1 : Plain (w.setCell ⟨g, j * 2, none⟩ (.pointer q.1)) (some g) := fun x hx => ⟨31, own_typ o1 x hx, by decide, by decide⟩
  have kp := (Kp.grown g1 pl).trans (Kp.grown g2 pl1)
  have ae := (h.s.apart h.e).symm
  have ap := (h.s.apart h.p).symm
  refine ⟨⟨ps.set j q, ?_, (h2.kp kp).set (hq.kp kp)⟩, (h.e.kept g1 ae).kept g2 ae, (h.a.kept g1 h.sa pl).kept g2 h.sa pl1, (h.p.kept g1 ap).kept g2 ap, h.sa, h.ep⟩
  rw [flat_set] at o2
  rw [List.length_set]
  exact o2
theorem nums_set (ns : List Nat) (j m : Nat) : (nums ns).set j (.int .u64 m) = nums (ns.set j m) := by unfold nums; rw [List.map_set]
/-- A number is stored. -/
theorem Rows4.putN {g n cap j m : Nat} (h : Rows4 w B vs (.slice (some ⟨g, 0, none⟩) n cap) va vp L ns R rs) (hn : n = ns.length) :
    Rows4 (w.setCell ⟨g, j, none⟩ (.int .u64 m)) B vs (.slice (some ⟨g, 0, none⟩) n cap) va vp L (ns.set j m) R rs := by
  subst hn
  have h1 := h.e
  have pl : Plain w (some g) := h.e.plain
  obtain ⟨o1, g1⟩ := World.ownsRow.stored h1 j (.int .u64 m)
  rw [nums_set] at o1
  refine ⟨h.s.kept g1 (h.s.apart h.e) pl, ?_, h.a.kept g1 (h.a.apart h.e) pl, h.p.kept g1 h.ep, h.sa, h.ep⟩
  unfold NumRow
  rw [List.length_set]
  exact o1
theorem new_apart {v v' : Value} {g n cap H : Nat} (hat : v.ownBlock = some g ∨ g = H) (hlt : ∀ k, v'.ownBlock = some k → k < H) (h : Apart v' v) : Apart v' (.slice (some ⟨g, 0, none⟩) n cap) := by
  rcases hat with hat | rfl
  · rcases h with h | h
    · exact .inl h
    · exact .inr (by rw [hat] at h; exact h)
  · cases hv : v'.ownBlock with
    | none => exact .inl hv
    | some k => refine .inr ?_; rw [hv]; have := hlt k hv; simp only [Value.ownBlock, ne_eq, Option.some.injEq]; omega
theorem StRow.lt (h : StRow w B vs L) : ∀ k, vs.ownBlock = some k → k < w.heap.size := fun k hk => by
  obtain ⟨ps, h1, _⟩ := h
  exact (h1.lt k hk).2
theorem NumRow.lt (h : NumRow w B ve ns) : ∀ k, ve.ownBlock = some k → k < w.heap.size := fun k hk => (World.ownsRow.lt h k hk).2
/-- What an append of a stamp leaves. -/
theorem Rows4.appS {n g cap H : Nat} {q : Option Addr × Option Addr} {s : StT} {ps : Ptrs} (h : Rows4 w B vs ve va vp L ns R rs) (hp : PtsAt w ps L) (hq : PtAt w q s)
    (hown : w'.ownsRow B 31 2 (.slice (some ⟨g, 0, none⟩) (n + 1) cap) (n + 1) (flat ps ++ [.pointer q.1, .pointer q.2])) (hg : w.grownBy w' vs.ownBlock) (hat : vs.ownBlock = some g ∨ g = H) (hH : w.heap.size = H) (hn : n = L.length) :
    Rows4 w' B (.slice (some ⟨g, 0, none⟩) (n + 1) cap) ve va vp (L ++ [s]) ns R rs := by
  subst hH hn
  have pl := h.s.plain
  have kp := Kp.grown hg pl
  have ae := (h.s.apart h.e).symm
  have ap := (h.s.apart h.p).symm
  refine ⟨⟨ps ++ [q], ?_, (hp.kp kp).snoc (hq.kp kp)⟩, h.e.kept hg ae, h.a.kept hg h.sa pl, h.p.kept hg ap, new_apart hat h.a.lt h.sa, h.ep⟩
  rw [flat_append, List.length_append]
  exact hown
theorem Rows4.appA {n g cap H : Nat} {q : Option Addr × Option Addr} {s : StT} {ps : Ptrs} (h : Rows4 w B vs ve va vp L ns R rs) (hp : PtsAt w ps R) (hq : PtAt w q s)
    (hown : w'.ownsRow B 31 2 (.slice (some ⟨g, 0, none⟩) (n + 1) cap) (n + 1) (flat ps ++ [.pointer q.1, .pointer q.2])) (hg : w.grownBy w' va.ownBlock) (hat : va.ownBlock = some g ∨ g = H) (hH : w.heap.size = H) (hn : n = R.length) :
    Rows4 w' B vs ve (.slice (some ⟨g, 0, none⟩) (n + 1) cap) vp L ns (R ++ [s]) rs := by
  subst hH hn
  have pl := h.a.plain
  have kp := Kp.grown hg pl
  have ae := (h.a.apart h.e).symm
  have ap := (h.a.apart h.p).symm
  refine ⟨h.s.kept hg h.sa.symm pl, h.e.kept hg ae, ⟨ps ++ [q], ?_, (hp.kp kp).snoc (hq.kp kp)⟩, h.p.kept hg ap, (new_apart hat h.s.lt h.sa.symm).symm, h.ep⟩
  rw [flat_append, List.length_append]
  exact hown
theorem nums_snoc (ns : List Nat) (m : Nat) : nums (ns ++ [m]) = nums ns ++ [.int .u64 m] := by simp [nums]
theorem Rows4.appN {n g cap m H : Nat} (h : Rows4 w B vs ve va vp L ns R rs)
    (hown : w'.ownsRow B 33 1 (.slice (some ⟨g, 0, none⟩) (n + 1) cap) (n + 1) (nums ns ++ [.int .u64 m])) (hg : w.grownBy w' ve.ownBlock) (hat : ve.ownBlock = some g ∨ g = H) (hH : w.heap.size = H) (hn : n = ns.length) :
    Rows4 w' B vs (.slice (some ⟨g, 0, none⟩) (n + 1) cap) va vp L (ns ++ [m]) R rs := by
  subst hH hn
  have pl := h.e.plain
  refine ⟨h.s.kept hg (h.s.apart h.e) pl, ?_, h.a.kept hg (h.a.apart h.e) pl, h.p.kept hg h.ep, h.sa, new_apart hat h.p.lt h.ep⟩
  unfold NumRow
  rw [nums_snoc, List.length_append]
  exact hown
theorem Rows4.appP {n g cap m H : Nat} (h : Rows4 w B vs ve va vp L ns R rs)
    (hown : w'.ownsRow B 33 1 (.slice (some ⟨g, 0, none⟩) (n + 1) cap) (n + 1) (nums rs ++ [.int .u64 m])) (hg : w.grownBy w' vp.ownBlock) (hat : vp.ownBlock = some g ∨ g = H) (hH : w.heap.size = H) (hn : n = rs.length) :
    Rows4 w' B vs ve va (.slice (some ⟨g, 0, none⟩) (n + 1) cap) L ns R (rs ++ [m]) := by
  subst hH hn
  have pl := h.p.plain
  refine ⟨h.s.kept hg (h.s.apart h.p) pl, h.e.kept hg h.ep.symm, h.a.kept hg (h.a.apart h.p) pl, ?_, h.sa, (new_apart hat h.e.lt h.ep.symm).symm⟩
  unfold NumRow
  rw [nums_snoc, List.length_append]
  exact hown
/-- Both slices are cut. -/
theorem Rows4.cut {g cap g' cap' n n' m : Nat} (h : Rows4 w B (.slice (some ⟨g, 0, none⟩) n cap) (.slice (some ⟨g', 0, none⟩) n' cap') va vp L ns R rs) (hn : n = L.length) (hn' : n' = ns.length) (hm : m ≤ n) (hm' : m ≤ n') :
    Rows4 w B (.slice (some ⟨g, 0, none⟩) m cap) (.slice (some ⟨g', 0, none⟩) m cap') va vp (L.take m) (ns.take m) R rs := by
  subst hn hn'
  obtain ⟨ps, h1, h2⟩ := h.s
  refine ⟨⟨ps.take m, ?_, h2.take m⟩, ?_, h.a, h.p, h.sa, h.ep⟩
  · rw [List.length_take, Nat.min_eq_left hm, ← flat_take]
    exact own_len_cap h1 rfl m hm
  · unfold NumRow
    have := own_len_cap h.e rfl m hm'
    rw [List.length_take, Nat.min_eq_left hm']
    unfold nums at this ⊢
    rw [List.map_take]
    simpa using this
/-- The stamp at a place: its cells. -/
theorem StRow.at_ {g n cap j : Nat} {s : StT} (h : StRow w B (.slice (some ⟨g, 0, none⟩) n cap) L) (hn : n = L.length) (hs : L[j]? = some s) :
    ∃ q : Option Addr × Option Addr, w.cell? ⟨g, j * 2, none⟩ = some (.pointer q.1) ∧ w.cell? ⟨g, j * 2 + 1, none⟩ = some (.pointer q.2) ∧ w.frozen? ⟨g, j * 2, none⟩ = false ∧ w.frozen? ⟨g, j * 2 + 1, none⟩ = false ∧ PtAt w q s ∧ g < w.heap.size := by
  subst hn
  have hj : j < L.length := (List.getElem?_eq_some_iff.1 hs).1
  obtain ⟨ps, h1, h2⟩ := h
  obtain ⟨q, hq, hp⟩ := h2.get hs
  refine ⟨q, ?_, ?_, h1.frozenAt _, h1.frozenAt _, hp, (h1.lt g rfl).2⟩
  · rw [h1.cellAt _ (by omega), flat_get0, hq]; rfl
  · rw [h1.cellAt _ (by omega), flat_get1, hq]; rfl
theorem NumRow.at_ {g n cap j m : Nat} (h : NumRow w B (.slice (some ⟨g, 0, none⟩) n cap) ns) (hn : n = ns.length) (hs : ns[j]? = some m) :
    w.cell? ⟨g, j, none⟩ = some (.int .u64 m) ∧ w.frozen? ⟨g, j, none⟩ = false ∧ g < w.heap.size := by
  subst hn
  have hj : j < ns.length := (List.getElem?_eq_some_iff.1 hs).1
  refine ⟨?_, World.ownsRow.frozenAt h _, (World.ownsRow.lt h g rfl).2⟩
  rw [World.ownsRow.cellAt h _ (by omega)]
  simp [nums, hs]
end
end Go.Proofs.YthnmhdabdiennaaDoor
