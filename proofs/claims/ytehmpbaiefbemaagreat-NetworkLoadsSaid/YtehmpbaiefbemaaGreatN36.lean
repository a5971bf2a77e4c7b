/- One call of both: the program's network and the reference's side by side. -/
import Derived.Test.YtehmpbaiefbemaaGreatN35
namespace Go.Proofs.YtehmpbaiefbemaaGreat
open Go.RowKit
/-- A call. -/
structure Ac where
  kd : Int
  a : Int
  b : Int
  n : Int
  ct : Int
  args : List Int
abbrev acV (a : Ac) (v : Value) : Value := .agg #[iV a.kd, iV a.a, iV a.b, iV a.n, iV a.ct, v]
def encA (x : Ac × Value) : List Value := [iV x.1.kd, iV x.1.a, iV x.1.b, iV x.1.n, iV x.1.ct, x.2]
def cF (a : Ac) : Int := modF a.a 4 - Int.tdiv (modF a.n 9) 8
def keyA (a : Ac) : Ky := ((modF a.a 11).toNat, modF a.b 3, modF a.ct 3, modF a.n 4)
/-- What a call leaves. -/
def doF (cs : List Ch) (hs : List Jh) (a : Ac) (x : St) : St :=
  if modF a.kd 6 = 3 then (timF cs (cF a) (modF a.b 50) x).1
  else if modF a.kd 6 = 4 then exeF cs (cF a) (modF a.b 4 - 1) x
  else if modF a.kd 6 = 5 then eatS cs x (keyA a)
  else (sendF cs hs (cF a) (modF a.b 3) (modF a.n 20) (modF a.ct 6 - 1) x).1
/-- Two sets of choices and holds say the same to a call. -/
def agrF (cp : List Ch) (os : List Jh) (cs : List Ch) (hs : List Jh) (a : Ac) (x : St) : Prop :=
  if modF a.kd 6 = 3 then timF cp (cF a) (modF a.b 50) x = timF cs (cF a) (modF a.b 50) x
  else if modF a.kd 6 = 4 then diskF cp (cF a) (modF a.ct 8 - 1) x = diskF cs (cF a) (modF a.ct 8 - 1) x ∧ exeF cp (cF a) (modF a.b 4 - 1) x = exeF cs (cF a) (modF a.b 4 - 1) x
  else if modF a.kd 6 = 5 then eatS cp x (keyA a) = eatS cs x (keyA a)
  else sendF cp os (cF a) (modF a.b 3) (modF a.n 20) (modF a.ct 6 - 1) x = sendF cs hs (cF a) (modF a.b 3) (modF a.n 20) (modF a.ct 6 - 1) x
structure Both (w : World) (g r B : Nat) (cv hv lv kh kv : Value) (cp cs : List Ch) (os hs : List Jh) (x : St) : Prop where
  net : Net w g r cv hv cp os x
  rc : Stay g r (fun W => CsAt W lv cs) w
  rh : Stay g r (fun W => HsAt W kh hs) w
  rk : Row 4 w B 58 kv (x.ks.map encK)
  gB : g < w.heap.size
  rB : r < w.heap.size
  Bw : B ≤ w.heap.size
structure Good (cp cs : List Ch) (x : St) : Prop where
  ascP : AscC cp
  ascR : AscC cs
  d0R : Disk0 cs
  smP : Sm cp
  smR : Sm cs
  keyP : KeyS cp
  lenP : cp.length ≤ 1000
  asc : Asc x.ks
  ksl : x.ks.length ≤ 900
  bd : Bd x 50000
def RetDo (g r B : Nat) (cv hv lv kh : Value) (cp cs : List Ch) (os hs : List Jh) (y : St) (w : World) (e : Ending) (w' : World) : Prop :=
  ∃ kv, e = .returned (.tuple #[.agg (NV lv kh y.s y.t y.d kv), .bool true]) ∧ Both w' g r B cv hv lv kh kv cp cs os hs y ∧ Exc g r w w'
theorem Exc.setRow {g r : Nat} {w w' : World} (h : Exc g r w w') {b : Nat} (hb : w.heap.size ≤ b) (cs : Array Value) : Exc g r w (w'.setRow b cs) :=
  ⟨h.os, h.tape, h.output, by rw [setRow_size]; exact h.size, fun k hk h1 h2 => by rw [setRow_other _ _ _ _ (by omega)]; exact h.block k hk h1 h2⟩
theorem Net.to {w w1 wz : World} {g r : Nat} {cv hv : Value} {cs : List Ch} {hs : List Jh} {x y : St} (h0 : Net w g r cv hv cs hs x) (h1 : Net w1 g r cv hv cs hs y) (hE : Exc g r w wz) (hg : wz.heap[g]? = w1.heap[g]?) (hr : wz.heap[r]? = w1.heap[r]?) : Net wz g r cv hv cs hs y := by
  obtain ⟨us, m1, m2⟩ := h1.map
  exact h0.exc hE ((blkOf_kept hg).trans h1.blk) ⟨us, m1.kept hr, m2⟩
theorem Exc.blk {g r : Nat} {w w' : World} (h : Exc g r w w') {b : Nat} (hb : b < w.heap.size) (h1 : b ≠ g) (h2 : b ≠ r) : blkOf w' b = blkOf w b := blkOf_kept (h.block b hb h1 h2)
theorem Exc.cellb {g r : Nat} {w w' : World} (h : Exc g r w w') {b i : Nat} {v : Value} (hc : w.cell? ⟨b, i, none⟩ = some v) (h1 : b ≠ g) (h2 : b ≠ r) : w'.cell? ⟨b, i, none⟩ = some v :=
  (cell_kept (h.block b (World.block_lt_of_cell? w _ hc) h1 h2)).trans hc
theorem Bd.mono {x : St} {n m : Nat} (h : Bd x n) (hm : n ≤ m) : Bd x m := fun i => ⟨Nat.le_trans (h i).1 hm, Nat.le_trans (h i).2.1 hm, Nat.le_trans (h i).2.2 hm⟩
theorem Row.apartN {w : World} {g r B e : Nat} {cv hv v : Value} {cs : List Ch} {hs : List Jh} {x : St} {us : List (List Value)} (h : Row 4 w B e v us) (hN : Net w g r cv hv cs hs x) : ∀ i, v.ownBlock = some i → i ≠ g ∧ i ≠ r := by
  intro i hi
  obtain ⟨ks, m1, -⟩ := hN.map
  obtain ⟨es, clock, m2, -⟩ := m1.at_
  rcases h.2.2 with ⟨rfl, _⟩ | ⟨b, cap, cur, rfl, _, hb, _, _, hz, _⟩
  · simp [Value.ownBlock] at hi
  · simp [Value.ownBlock] at hi
    subst hi
    refine ⟨fun e => ?_, fun e => ?_⟩
    · subst e
      have h1 := congrArg Array.size hN.blk
      rw [NV_size] at h1
      unfold blkOf at h1
      rw [hb] at h1
      simp at h1
      omega
    · subst e
      rw [hb] at m2
      cases m2
theorem Row.excN {w w' : World} {g r B e : Nat} {cv hv v : Value} {cs : List Ch} {hs : List Jh} {x : St} {us : List (List Value)} (h : Row 4 w B e v us) (hN : Net w g r cv hv cs hs x) (k : Exc g r w w') : Row 4 w' B e v us :=
  h.kept fun i hi => k.block i (h.lt i hi).2 (h.apartN hN i hi).1 (h.apartN hN i hi).2
end Go.Proofs.YtehmpbaiefbemaaGreat
