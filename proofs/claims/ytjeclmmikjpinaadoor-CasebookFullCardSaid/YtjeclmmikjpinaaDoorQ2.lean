/- The writers of numbers (num.put, PutUint), in the numbers of the seat of Redact. -/
import Derived.Test.YtjeclmmikjpinaaDoorQ1
import Derived.Deep.AppendLies
import Derived.OwnWalk
namespace Go.Proofs.YtjeclmmikjpinaaDoor
open Go.RowKit
attribute [local go_sem ↓] Go.wp_at_zero Go.wp_at_succ
theorem BytesAt.nil_ (w : World) (A : Option Addr) : BytesAt w A [] := fun h => absurd h (by simp)
theorem own_kept_ext {w w' : World} {B e size n : Nat} {v : Value} {xs : List Value} (h : w.ownsRow B e size v n xs) (k : Ext w w') : w'.ownsRow B e size v n xs := by
  refine ⟨h.1, ?_⟩
  rcases h.2 with h' | ⟨g, cap, cur, rfl, hb, hc, h3⟩
  · exact .inl h'
  · have hlt : g < w.heap.size := (Array.getElem?_eq_some_iff.1 hc).1
    exact .inr ⟨g, cap, cur, rfl, hb, by rw [k.block g hlt]; exact hc, h3⟩
theorem Tryd.info5 : (Tryd.prog.info? 5).map (fun i => (i.zero, i.size, i.bytes)) = some (some (.int .u8 0), 1, 1) := by kernel_rfl
def bytesV (xs : List UInt8) : List Value := xs.map fun b => .int .u8 ((b.toNat : Nat) : Int)
theorem bytesV_append (xs ys : List UInt8) : bytesV (xs ++ ys) = bytesV xs ++ bytesV ys := by simp [bytesV]
theorem bytesV_length (xs : List UInt8) : (bytesV xs).length = xs.length := by simp [bytesV]
theorem bytesV_get (xs : List UInt8) (j : Nat) : (bytesV xs)[j]? = xs[j]?.map fun b => .int .u8 ((b.toNat : Nat) : Int) := by simp [bytesV]
theorem bytesV_one (n : Nat) (h : n < 256) : bytesV [UInt8.ofNat n] = [.int .u8 (n : Int)] := by
  have : (UInt8.ofNat n).toNat = n := by simp; omega
  simp only [bytesV, List.map_cons, List.map_nil, this]
theorem bytesV_plain (xs : List UInt8) : ∀ u ∈ bytesV xs, u.oneCell' = true := by
  intro u hu
  obtain ⟨b, _, rfl⟩ := List.mem_map.1 hu
  rfl
/-- A row that was appended to: only its own block, and new ones, have changed; where it lies now. -/
structure Grw (w w' : World) (v v' : Value) : Prop where
  g : w.grownBy w' v.ownBlock
  at_ : v'.ownBlock = v.ownBlock ∨ ∃ k, v'.ownBlock = some k ∧ w.heap.size ≤ k
theorem Grw.refl (w : World) (v : Value) : Grw w w v v := ⟨⟨rfl, rfl, rfl, Nat.le_refl _, fun _ _ _ => rfl⟩, .inl rfl⟩
theorem Grw.trans {w w1 w2 : World} {v v1 v2 : Value} (h : Grw w w1 v v1) (k : Grw w1 w2 v1 v2) : Grw w w2 v v2 := by
  refine ⟨⟨k.g.os.trans h.g.os, k.g.tape.trans h.g.tape, k.g.output.trans h.g.output, Nat.le_trans h.g.size k.g.size, fun i hi hne => ?_⟩, ?_⟩
  · rw [k.g.block i (Nat.lt_of_lt_of_le hi h.g.size) ?_, h.g.block i hi hne]
    rcases h.at_ with e | ⟨g, e, hg⟩
    · rw [e]; exact hne
    · rw [e]; intro e'; injection e' with e'; omega
  · rcases k.at_ with e | ⟨g, e, hg⟩
    · rw [e]; exact h.at_
    · exact .inr ⟨g, e, Nat.le_trans h.g.size hg⟩
theorem Grw.ext {w w1 w2 : World} {v v1 : Value} (h : Ext w w1) (k : Grw w1 w2 v v1) : Grw w w2 v v1 := by
  refine ⟨⟨k.g.os.trans h.os, k.g.tape.trans h.tape, k.g.output.trans h.output, Nat.le_trans h.size k.g.size, fun i hi hne => ?_⟩, ?_⟩
  · rw [k.g.block i (h.lt _ hi) hne, h.block i hi]
  · rcases k.at_ with e | ⟨g, e, hg⟩
    · exact .inl e
    · exact .inr ⟨g, e, Nat.le_trans h.size hg⟩
/-- Behind an append. -/
theorem Grw.lies {w w' : World} {v : Value} {g n cap H : Nat} (hg : w.grownBy w' v.ownBlock) (hat : v.ownBlock = some g ∨ g = H) (hH : w.heap.size = H) : Grw w w' v (.slice (some ⟨g, 0, none⟩) n cap) := by
  refine ⟨hg, ?_⟩
  rcases hat with h | h
  · exact .inl h.symm
  · exact .inr ⟨g, rfl, by omega⟩
/-- Bytes in a row of the call's own. -/
def ByRow (w : World) (B : Nat) (v : Value) (xs : List UInt8) : Prop := w.ownsRow B 5 1 v xs.length (bytesV xs)
theorem ByRow.ext {w w' : World} {B : Nat} {v : Value} {xs : List UInt8} (h : ByRow w B v xs) (k : Ext w w') : ByRow w' B v xs := own_kept_ext h k
def RetRow (B : Nat) (v : Value) (ys : List UInt8) (w : World) (e : Ending) (w' : World) : Prop := ∃ v', e = .returned v' ∧ ByRow w' B v' ys ∧ Grw w w' v v'
theorem news1 {w : World} {B T : Nat} {x : Value} {fr : Nat × Nat} (h : w.heap[B]? = some (.cells #[x] T fr)) : ∀ j u, [x][j]? = some u → w.cell? ((⟨B, 0, none⟩ : Addr).add j) = some u := World.news_of_block (cs := #[x]) h
set_option maxRecDepth 100000 in
theorem or128 : ∀ x : Fin 256, x.val ||| 128 = x.val % 128 + 128 := by decide
theorem byte_or (m : Nat) : (m % 256 ||| 128 : Nat) = m % 128 + 128 := by
  have := or128 ⟨m % 256, Nat.mod_lt _ (by decide)⟩
  simp only [] at this
  rw [this]; omega
/-- What a row holds, read as bytes. -/
theorem ByRow.bytes {w : World} {B : Nat} {v : Value} {xs : List UInt8} (h : ByRow w B v xs) : ∃ A c, v = .slice A xs.length c ∧ BytesAt w A xs ∧ c ≤ maxLen := by
  have h' : w.ownsRow B 5 1 v xs.length (bytesV xs) := h
  rcases h'.2 with ⟨rfl, h0⟩ | ⟨g, cap, cur, rfl, hb, hc, h1, h2, h3, h4⟩
  · have : xs = [] := List.eq_nil_of_length_eq_zero h0
    subst this
    exact ⟨none, 0, rfl, BytesAt.nil_ _ _, by unfold maxLen; omega⟩
  · refine ⟨some ⟨g, 0, none⟩, cap, rfl, fun h0 => ⟨⟨g, 0, none⟩, rfl, (Array.getElem?_eq_some_iff.1 hc).1, fun j b hj => ?_⟩, h2⟩
    exact World.ownsRow.cells h rfl j _ (by rw [bytesV_get, hj]; rfl)
def RetNew (ys : List UInt8) (w : World) (e : Ending) (w' : World) : Prop := ∃ v', e = .returned v' ∧ ByRow w' w.heap.size v' ys ∧ Ext w w'
end Go.Proofs.YtjeclmmikjpinaaDoor
