/- slices.SortFunc at a row of the call's own, whatever the elements. -/
import Derived.Test.YtjeclmmikjpinaaDoorR0
import Derived.Shelf.SlSortCmp.WholeK
import Derived.Shelf.SlSortCmp.NoneTotal
namespace Go.Proofs.YtjeclmmikjpinaaDoor
open Go.RowKit Go.Shelf Go.Sort
section
variable {α : Type} [Inhabited α]
theorem flatK_list (enc : α → List Value) (k : Nat) (hk : ∀ x, (enc x).length = k) (h0 : 0 < k) (d : Array α) : (flatK enc k d).toList = (d.toList.map enc).flatten := by
  have hw : Wide k (d.toList.map enc) := Wide.map hk _
  apply List.ext_getElem?
  intro t
  rcases Nat.lt_or_ge t (d.size * k) with h | h
  · have hj : t / k < d.size := (Nat.div_lt_iff_lt_mul h0).2 h
    have hi : t % k < k := Nat.mod_lt _ h0
    have e : t = t / k * k + t % k := by rw [Nat.mul_comm]; exact (Nat.div_add_mod t k).symm
    have r := hw.at_ (j := t / k) (i := t % k) (by simpa using hj) hi
    rw [← e] at r
    have g := get_flatK enc k d t h
    have hl : (flatK enc k d).toList[t]? = some ((enc d[t / k]!)[t % k]!) := by
      rw [Array.getElem?_toList, Array.getElem?_eq_getElem (by rw [size_flatK]; exact h), ← g, getElem!_pos _ t (by rw [size_flatK]; exact h)]
    have hg : (d.toList.map enc).getD (t / k) [] = enc d[t / k]! := by
      rw [List.getD_eq_getElem?_getD, List.getElem?_map, Array.getElem?_toList, Array.getElem?_eq_getElem hj, getElem!_pos d _ hj]
      rfl
    rw [hl, r, hg, List.getElem?_eq_getElem (by rw [hk]; exact hi), getElem!_pos _ _ (by rw [hk]; exact hi)]
  · rw [Array.getElem?_toList, Array.getElem?_eq_none (by rw [size_flatK]; exact h), List.getElem?_eq_none (by rw [hw.flat]; simpa using h)]
theorem sorted_block {w : World} {enc : α → List Value} {k g m : Nat} {d' : Array α} {os : Array Obj} {cur : Array Value} {e : Nat} (hb : w.heap[g]? = some (.cells cur e (0, 0))) :
    (sortWorldK enc k w g 0 m d' os).heap[g]? = some (.cells (putCells id 0 (flatK enc k d') cur) e (0, 0)) := by
  have hlt : g < w.heap.size := (Array.getElem?_eq_some_iff.1 hb).1
  unfold sortWorldK
  show ((Sort.putRow id (Sort.ahead w m) g 0 (flatK enc k d')).heap ++ os)[g]? = _
  rw [Array.getElem?_append_left (by rw [Sort.size_putRow]; exact hlt)]
  unfold Sort.putRow Sort.mapBlock
  simp only [Array.getElem?_modify, if_true]
  show Option.map (onCells _) w.heap[g]? = _
  rw [hb]
  rfl
theorem sorted_other {w : World} {enc : α → List Value} {k g m : Nat} {d' : Array α} {os : Array Obj} {b : Nat} (hb : b < w.heap.size) (hne : b ≠ g) : (sortWorldK enc k w g 0 m d' os).heap[b]? = w.heap[b]? := by
  unfold sortWorldK
  show ((Sort.putRow id (Sort.ahead w m) g 0 (flatK enc k d')).heap ++ os)[b]? = _
  rw [Array.getElem?_append_left (by rw [Sort.size_putRow]; exact hb)]
  unfold Sort.putRow Sort.mapBlock
  simp only [Array.getElem?_modify]
  rw [if_neg (Ne.symm hne)]
  rfl
theorem put_take (F cur : Array Value) (h : F.size ≤ cur.size) : (putCells id 0 F cur).toList.take F.size = F.toList := by
  apply List.ext_getElem?
  intro t
  rcases Nat.lt_or_ge t F.size with h1 | h1
  · rw [List.getElem?_take, if_pos h1, Array.getElem?_toList, Array.getElem?_toList]
    unfold putCells
    rw [Array.getElem?_mapIdx, Array.getElem?_eq_getElem (by omega), Array.getElem?_eq_getElem h1]
    simp only [Option.map_some]
    rw [if_pos ⟨Nat.zero_le _, by omega⟩, Nat.sub_zero, getElem!_pos F t h1]
    rfl
  · rw [List.getElem?_take, if_neg (by omega), Array.getElem?_toList, Array.getElem?_eq_none h1]
/-- slices.SortFunc: a permutation, sorted, in the same row. -/
theorem sort_row {ρ : Ren} (L : SlLaysF0.n6 Tryd.prog ρ) (k : Nat) (h0 : 0 < k) (aE : ∀ w, (isAgg (ρ.t 24)).run Tryd.prog w = .ok true w) (zE : ∀ w, (Go.sizeOf (ρ.t 24)).run Tryd.prog w = .ok k w) (enc : α → List Value) (hk : ∀ x, (enc x).length = k) (h1 : ∀ x, ∀ v ∈ enc x, v.oneCell' = true)
    (cf : α → α → Int) (hO : SWO (ltOf cf)) (g : Nat) (eg : ∀ args w, (callFunc g args).run Tryd.prog w = .ok (.enter g args) w) (l : List α) (w w0 : World) (B e : Nat) (t : Value) (hrow : Row k w B e t (l.map enc)) (hE : Ext w0 w) (hB : w0.heap.size ≤ B)
    (hcmp : ∀ (W : World) x y, Ext w0 W → (∀ b, b < w.heap.size → t.ownBlock ≠ some b → W.heap[b]? = w.heap[b]?) → Calls Tryd.prog g #[.agg (enc x).toArray, .agg (enc y).toArray] W (RetG (cf x y) W)) (hsz : l.length ≤ 100000) :
    Calls Tryd.prog (ρ.f 6) #[t, .func (.func g) #[] #[]] w fun e' w' => e' = .returned (.tuple #[]) ∧ Ext w0 w' ∧ (∀ b, b < w.heap.size → t.ownBlock ≠ some b → w'.heap[b]? = w.heap[b]?) ∧ ∃ l' : List α, l'.Perm l ∧ l'.Pairwise (fun x y => ltOf cf y x = false) ∧ Row k w' B e t (l'.map enc) := by
  have h' := hrow.2
  rcases h'.2 with ⟨rfl, hz⟩ | ⟨blk, cap, cur, rfl, hBb, hb, c1, c2, c3, c4⟩
  · have : l = [] := List.eq_nil_of_length_eq_zero (by simpa using hz)
    subst this
    refine (AnyF.slices_SortFunc_none (P := Tryd.prog) (ρ := ρ) { L with } none 0 _ w).mono ?_
    rintro e' w' ⟨rfl, rfl⟩
    exact ⟨rfl, hE, fun b _ _ => rfl, [], List.Perm.refl _, List.Pairwise.nil, hrow⟩
  · rw [List.length_map] at c1 ⊢
    have hblk : blk < w.heap.size := (Array.getElem?_eq_some_iff.1 hb).1
    have hds : l.toArray.size = l.length := by simp
    have hfl : (flatK enc k l.toArray).toList = (l.map enc).flatten := by rw [flatK_list enc k hk h0]
    have hH : HoldsK enc k w blk 0 l.toArray := fun j hj => by
      refine ⟨?_, ?_⟩
      · have := World.ownsRow.cells h' rfl j (flatK enc k l.toArray)[j]! (by
          rw [← hfl, Array.getElem?_toList, Array.getElem?_eq_getElem hj, getElem!_pos _ j hj])
        rw [add0] at this
        rw [Nat.zero_add]
        exact this
      · unfold World.frozen?
        rw [hb]
        simp
    have hcm : CmpLays Tryd.prog g #[] enc k cf blk 0 l.toArray.size w := fun m os dk _ x y => by
      refine (hcmp (sortWorldK enc k w blk 0 m dk os) x y ⟨hE.os, hE.tape, hE.output, Nat.le_trans hE.size (size_sortWorldK_c enc k w blk 0 m dk os), fun b hbb => ?_⟩ (fun b hbb hne => sorted_other hbb (fun e => hne (by rw [e]; rfl)))).mono ?_
      · rw [sorted_other (hE.lt _ hbb) (by omega)]
        exact hE.block b hbb
      · rintro e' w' ⟨rfl, hG⟩
        exact ⟨rfl, hG⟩
    have hs := AnyQ.slices_SortFunc L k aE zE enc hk h1 cf hO g #[] blk 0 cap l.toArray w eg hcm hH hblk (by rw [hds]; omega)
    rw [hds] at hs
    refine hs.mono ?_
    rintro e' w' ⟨rfl, d', n, os, hp, hsd, rfl⟩
    obtain ⟨p1, -, p3⟩ := hp
    rw [hds] at p1
    have hperm : d'.toList.Perm l := by
      have e1 : d'.extract 0 l.length = d' := by rw [← p1]; simp
      have e2 : l.toArray.extract 0 l.length = l.toArray := by
        have := Array.extract_size (xs := l.toArray)
        rwa [hds] at this
      rw [e1, e2] at p3
      exact p3
    have hll : d'.toList.length = l.length := hperm.length_eq
    have hfd : (flatK enc k d').size = l.length * k := by rw [size_flatK, p1]
    refine ⟨rfl, ⟨hE.os, hE.tape, hE.output, Nat.le_trans hE.size (size_sortWorldK_c enc k w blk 0 n d' os), fun b hbb => ?_⟩, fun b hbb hne => sorted_other hbb (fun e => hne (by rw [e]; rfl)), d'.toList, hperm, ?_, Wide.map hk _, ?_, .inr ⟨blk, cap, _, by rw [List.length_map, hll], hBb, sorted_block hb, by rw [List.length_map, hll]; exact c1, c2, by simp [putCells, c3], ?_⟩⟩
    · rw [sorted_other (hE.lt _ hbb) (by omega)]
      exact hE.block b hbb
    · rw [List.pairwise_iff_getElem]
      intro i j hi hj hij
      have := hsd i j (Nat.zero_le _) hij (by rw [← hll]; exact hj)
      rw [getElem!_pos d' i (by simpa using hi), getElem!_pos d' j (by simpa using hj)] at this
      exact this
    · rw [(Wide.map hk _).flat]
    · rw [List.length_map, hll, ← hfd, put_take _ _ (by rw [hfd, c3]; exact Nat.mul_le_mul_right _ c1), flatK_list enc k hk h0]
end
end Go.Proofs.YtjeclmmikjpinaaDoor
