/- Whole values of many cells: items (75), digests (48), salts (73). -/
import Derived.Test.YtjeclmmikjpinaaDoorR1
import Derived.Test.YtjeclmmikjpinaaDoorQ4
import Derived.Laws.Tables
import Derived.Laws.StructEq
import Derived.Deep.WholeRow
import Derived.Laws.Cover1
namespace Go.Proofs.YtjeclmmikjpinaaDoor
open Go.RowKit
/-- A string, as a value. -/
abbrev sV (s : List UInt8) : Value := .string ⟨s.toArray⟩
/-- Bytes as cells. -/
def idF (d : List UInt8) : Nat → Value := fun i => vU8 (((d.getD i 0).toNat : Nat) : Int)
/-- A digest's 32 cells. -/
abbrev idA (d : List UInt8) : Array Value := arV (idF d) 32
abbrev idV (d : List UInt8) : Value := .agg (idA d)
abbrev nilV : Value := .slice none 0 0
theorem ld48 (v : Value) : Instr.loadAt 27 v = ldS 27 v := by unfold ldS; rfl
theorem st48 (p v : Value) : Instr.storeAt 27 p v = stS 27 p v := by unfold stS; rfl
theorem al48 (h : Bool) (v : Value) : Instr.alloc 27 h v = alS 27 h v := by unfold alS; rfl
theorem bu48 (ps : Array (Nat × Value)) : Instr.build 27 ps = buS 27 ps := by unfold buS; rfl
theorem Tryd.size27 : (Tryd.prog.info? 27).map (·.size) = some 32 := by kernel_rfl
theorem Tryd.zero27 : (Tryd.prog.info? 27).map (·.zero) = some (some (idV [])) := by unfold idV idA arV idF; kernel_rfl
theorem run_al48 (w : World) (hp : Bool) (old : Value) (h : hp = true ∨ old = undef) : (alS 27 hp old).run Tryd.prog w = .ok (.pointer (some ⟨w.heap.size, 0, none⟩)) (w.alloc (.cells (idA []) 27)) := run_alloc Tryd.zero27 w hp old h
/-- A whole load, out of cells that are told by a function. -/
theorem run_ldF {w : World} {b o n : Nat} {f : Nat → Value} {ty : TypeId} {dd : TypeDesc} (hc : ∀ i, i < n → w.cell? ⟨b, o + i, none⟩ = some (f i)) (hu : Tryd.prog.underlying ty = some dd) (hd : dd.isRow = true) (hi : (Tryd.prog.info? ty).map (·.size) = some n) :
    (ldS ty (.pointer (some ⟨b, o, none⟩))).run Tryd.prog w = .ok (.agg (arV f n)) w := by
  have e : (arV f n).toList.toArray = arV f n := rfl
  rw [← e]
  unfold ldS
  refine run_loadAt_mid w b o ty _ _ (fun j v hv => ?_) hu hd (by rw [hi]; simp [arV_size])
  have hj : j < n := by
    rcases Nat.lt_or_ge j n with h' | h'
    · exact h'
    · rw [List.getElem?_eq_none (by simpa [arV_size] using h')] at hv; cases hv
  rw [Array.getElem?_toList, arV_at hj] at hv
  cases hv
  exact hc j hj
theorem run_ld48 {w : World} {b o : Nat} {f : Nat → Value} (hc : ∀ i, i < 32 → w.cell? ⟨b, o + i, none⟩ = some (f i)) : (ldS 27 (.pointer (some ⟨b, o, none⟩))).run Tryd.prog w = .ok (.agg (arV f 32)) w := run_ldF hc Tryd.underlying27 rfl Tryd.size27
theorem Bk.run_ld48 {w : World} {b : Nat} {f : Nat → Value} (h : Bk w b 32 f) : (ldS 27 (.pointer (some ⟨b, 0, none⟩))).run Tryd.prog w = .ok (.agg (arV f 32)) w := YtjeclmmikjpinaaDoor.run_ld48 fun i hi => by rw [Nat.zero_add]; exact h.cell hi
/-- A whole store into a block that was laid last. -/
theorem run_stNew {w : World} {n : Nat} {f g : Nat → Value} {ty : TypeId} (hi : (Tryd.prog.info? ty).map (·.size) = some n) (h1 : ∀ i, i < n → (g i).oneCell' = true) :
    (stS ty (.pointer (some ⟨w.heap.size, 0, none⟩)) (.agg (arV g n))).run Tryd.prog (w.alloc (.cells (arV f n) ty)) = .ok () (w.alloc (.cells (arV g n) ty)) := by
  unfold stS
  exact run_storeAt_new w ty _ _ (by rw [hi, arV_size]) (by rw [arV_size, arV_size]) (arV_cells h1)
theorem run_st48n (w : World) (f : Nat → Value) (d : List UInt8) : (stS 27 (.pointer (some ⟨w.heap.size, 0, none⟩)) (idV d)).run Tryd.prog (w.alloc (.cells (arV f 32) 27)) = .ok () (w.alloc (.cells (idA d) 27)) := run_stNew Tryd.size27 fun _ _ => rfl
theorem run_st48 {w : World} {g : Nat} {f : Nat → Value} (hb : Bk w g 32 f) (d : List UInt8) : (stS 27 (.pointer (some ⟨g, 0, none⟩)) (idV d)).run Tryd.prog w = .ok () (w.setCells g 0 (idA d).toList) := hb.store (o := 0) (by decide) Tryd.size27 (fun _ _ => rfl)
/-! ### Building an item -/
theorem fold_set (g : Nat → Value) (off n : Nat) : ∀ (l : List Value) (k m : Nat) (f : Nat → Value), (∀ j, j < l.length → l[j]? = some (g (k + j))) → l.length = m → (l.zipIdx k).foldl (fun cs (x : Value × Nat) => cs.setIfInBounds (off + x.2) x.1) (arV f n) = arV (fun i => if off + k ≤ i ∧ i < off + k + m then g (i - off) else f i) n
  | [], k, m, f, _, hm => by
    subst hm
    exact arV_congr fun i _ => by rw [if_neg (by rw [List.length_nil]; omega)]
  | v :: l, k, m, f, hl, hm => by
    subst hm
    have h0 : v = g k := by simpa using hl 0 (by simp)
    subst h0
    rw [List.zipIdx_cons, List.foldl_cons]
    show (l.zipIdx (k + 1)).foldl _ ((arV f n).setIfInBounds (off + k) (g k)) = _
    rw [arV_set, fold_set g off n l (k + 1) l.length _ (fun j hj => by
      have := hl (j + 1) (by simpa using hj)
      rw [List.getElem?_cons_succ] at this
      rw [this, Nat.add_assoc, Nat.add_comm 1 j]) rfl]
    refine arV_congr fun i _ => ?_
    unfold upd
    rw [List.length_cons]
    by_cases h1 : off + (k + 1) ≤ i ∧ i < off + (k + 1) + l.length
    · rw [if_pos h1, if_pos (by omega)]
    · rw [if_neg h1]
      by_cases h2 : i = off + k
      · subst h2
        rw [if_pos rfl, if_pos (by omega), Nat.add_sub_cancel_left]
      · rw [if_neg h2, if_neg (by omega)]
theorem fold_arV (f g : Nat → Value) (off n m : Nat) : (arV g m).zipIdx.foldl (fun cs (x : Value × Nat) => cs.setIfInBounds (off + x.2) x.1) (arV f n) = arV (fun i => if off ≤ i ∧ i < off + m then g (i - off) else f i) n := by
  have h := fold_set g off n (arV g m).toList 0 m f (fun j hj => by
    rw [Array.getElem?_toList, Nat.zero_add]
    rw [Array.length_toList, arV_size] at hj
    exact arV_at hj) (by rw [Array.length_toList, arV_size])
  rw [← Array.foldl_toList, Array.toList_zipIdx]
  exact h
theorem fill_one {p : Nat → Option (Nat × Nat)} {i off n : Nat} {f : Nat → Value} {v : Value} {rest : List (Nat × Value)} (hp : p i = some (off, 1)) (hv : v.cells = #[v]) (ho : off < n) : Instr.fill p (arV f n) ((i, v) :: rest) = Instr.fill p (arV (upd f off v) n) rest := by
  rw [Instr.fill, hp]
  simp only [hv, arV_size]
  rw [if_neg (by simp; omega)]
  show Instr.fill p ((arV f n).setIfInBounds (off + 0) v) rest = _
  rw [arV_set]
  rfl
theorem fill_arr {p : Nat → Option (Nat × Nat)} {i off n m : Nat} {f g : Nat → Value} {rest : List (Nat × Value)} (hp : p i = some (off, m)) (ho : off + m ≤ n) : Instr.fill p (arV f n) ((i, .agg (arV g m)) :: rest) = Instr.fill p (arV (fun j => if off ≤ j ∧ j < off + m then g (j - off) else f j) n) rest := by
  rw [Instr.fill, hp]
  have hc : (Value.agg (arV g m)).cells = arV g m := rfl
  simp only [hc, arV_size]
  rw [if_neg (by simp; omega)]
  rw [fold_arV]
theorem built48 : Tryd.prog.built 27 [] = some (idA []) := by unfold idA arV idF; kernel_rfl
theorem run_bu48 (w : World) : (buS 27 #[]).run Tryd.prog w = .ok (idV []) w := by
  unfold buS
  exact run_build w 27 _ _ built48
/-! ### Bytes in cells -/
theorem idF_at {d : List UInt8} {i : Nat} {b : UInt8} (h : d[i]? = some b) : idF d i = .int .u8 ((b.toNat : Nat) : Int) := by
  unfold idF
  rw [List.getD_eq_getElem?_getD, h]
  rfl
/-- Cells that hold bytes are bytes. -/
theorem bytes_of_cells {w : World} {g o n : Nat} {d : List UInt8} (hn : d.length = n) (hc : ∀ i, i < n → w.cell? ⟨g, o + i, none⟩ = some (idF d i)) : BytesAt w (some ⟨g, o, none⟩) d := fun h0 => by
  refine ⟨_, rfl, World.block_lt_of_cell? w _ (hc 0 (by omega)), fun j b hj => ?_⟩
  have hl : j < d.length := by
    rcases Nat.lt_or_ge j d.length with h | h
    · exact h
    · rw [List.getElem?_eq_none h] at hj; cases hj
  rw [addE, hc j (by omega), idF_at hj]
theorem cells_of_bytes {w : World} {A : Option Addr} {d : List UInt8} (h : BytesAt w A d) (h0 : 0 < d.length) : ∃ g o : Nat, A = some ⟨g, o, none⟩ ∧ g < w.heap.size ∧ ∀ i, i < d.length → w.cell? ⟨g, o + i, none⟩ = some (idF d i) := by
  obtain ⟨ad, e, hb, hc⟩ := h h0
  have hs : ad.spot = none := by
    have h1 := hc 0 _ (List.getElem?_eq_getElem h0)
    have h2 := spotless h1
    unfold Addr.add at h2
    split at h2
    · assumption
    · simp_all
  refine ⟨ad.block, ad.off, by rw [e]; cases ad; simp_all, hb, fun i hi => ?_⟩
  have := hc i _ (List.getElem?_eq_getElem hi)
  rw [idF_at (List.getElem?_eq_getElem hi), ← this]
  have ea : ad = ⟨ad.block, ad.off, none⟩ := by cases ad; simp_all
  rw [ea, addE]
end Go.Proofs.YtjeclmmikjpinaaDoor
