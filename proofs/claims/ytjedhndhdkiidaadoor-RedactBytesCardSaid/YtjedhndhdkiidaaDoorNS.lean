/- A store into a variable's box leaves the slices as they are. -/
import Derived.Test.YtjedhndhdkiidaaDoorV25
namespace Go.Proofs.YtjedhndhdkiidaaDoor
open Go.RowKit
theorem VsAt.put1 {w : World} {A : Option Addr} {vs : List Value} {g : Nat} {f : Nat → Value} (h : VsAt w A vs) (hb : Bk w g 1 f) (hv : vs[0]? ≠ some (f 0)) (u : Value) : VsAt (w.setCell ⟨g, 0, none⟩ u) A vs := fun h0 => by
  obtain ⟨b, o, e, hl, hc⟩ := h h0
  have hne : b ≠ g := by
    rintro rfl
    have h1 := hc 0 _ (List.getElem?_eq_getElem h0)
    obtain ⟨T, eT⟩ := of_blkOf hb.pos
    rw [hb.2] at eT
    rw [cell_of_row w b (o + 0) _ T (0, 0) eT] at h1
    rcases Nat.eq_zero_or_pos o with rfl | ho
    · have h3 : (arV f 1)[0 + 0]? = some (f 0) := arV_at (by decide)
      rw [h3] at h1
      exact hv (by rw [List.getElem?_eq_getElem h0]; exact h1.symm)
    · rw [Array.getElem?_eq_none (by rw [arV_size]; omega)] at h1
      cases h1
  refine ⟨b, o, e, by simpa using hl, fun j x hj => ?_⟩
  have := hc j x hj
  have hh := Below.heap_setCell w ⟨g, 0, none⟩ u b hne
  unfold World.cell? at this ⊢
  dsimp only at this ⊢
  rw [hh]
  exact this
theorem Bk.set1 {w : World} {g : Nat} {f : Nat → Value} (h : Bk w g 1 f) (u : Value) : Bk (w.setCell ⟨g, 0, none⟩ u) g 1 (fun _ => u) := (h.set 0 u).congr fun i hi => by
  obtain rfl : i = 0 := by omega
  rfl
theorem SlB.put1 {w : World} {v : Value} {xs : List UInt8} {g : Nat} (h : SlB w v xs) (hb : Bk w g 1 (fun _ => nilV)) (u : Value) : SlB (w.setCell ⟨g, 0, none⟩ u) v xs := by
  obtain ⟨A, c, e, h1, h2, h3⟩ := h
  refine ⟨A, c, e, h1, h2, (h3.vs.put1 hb ?_ u).bytes⟩
  rw [bv_flat, bytesV_get]
  cases xs[0]? with
  | none => intro e; cases e
  | some y => intro e; cases e
theorem flat0 {us : List (List Value)} {x : Value} (h : 0 < us.length) (hx : (us.getD 0 [])[0]? = some x) : us.flatten[0]? = some x := by
  cases us with
  | nil => cases h
  | cons y l =>
    have hx' : y[0]? = some x := hx
    rw [List.flatten_cons, List.getElem?_append_left (by
      rcases Nat.eq_zero_or_pos y.length with h0 | h0
      · rw [List.getElem?_eq_none (by omega)] at hx'; cases hx'
      · exact h0)]
    exact hx'
theorem nostr {us : List (List Value)} (h : ∀ j, j < us.length → ∃ s, (us.getD j [])[0]? = some (Value.string s)) : us.flatten[0]? ≠ some nilV := by
  rcases Nat.eq_zero_or_pos us.length with h0 | h0
  · rw [List.eq_nil_of_length_eq_zero h0]; intro e; cases e
  · obtain ⟨s, hs⟩ := h 0 h0
    rw [flat0 h0 hs]
    intro e; cases e
theorem DsAt.put1 {w : World} {v : Value} {xs : List It} {g : Nat} (h : DsAt w v xs) (hb : Bk w g 1 (fun _ => nilV)) (u : Value) : DsAt (w.setCell ⟨g, 0, none⟩ u) v xs := by
  obtain ⟨us, ⟨⟨A, c, e, h1, h2, h3⟩, hw⟩, hl, hi⟩ := h
  refine ⟨us, ⟨⟨A, c, e, h1, h2, h3.put1 hb (nostr fun j hj => ?_) u⟩, hw⟩, hl, fun j hj => ?_⟩
  · obtain ⟨v', e', -⟩ := hi j (by omega)
    rw [e', Array.getElem?_toList, arV_at (by decide)]
    exact ⟨_, rfl⟩
  · obtain ⟨v', e', hs⟩ := hi j hj
    exact ⟨v', e', hs.put1 hb u⟩
theorem FsAt.put1 {w : World} {v : Value} {fs : List Fd} {g : Nat} (h : FsAt w v fs) (hb : Bk w g 1 (fun _ => nilV)) (u : Value) : FsAt (w.setCell ⟨g, 0, none⟩ u) v fs := by
  obtain ⟨us, ⟨⟨A, c, e, h1, h2, h3⟩, hw⟩, hl, hi⟩ := h
  refine ⟨us, ⟨⟨A, c, e, h1, h2, h3.put1 hb (nostr fun j hj => ?_) u⟩, hw⟩, hl, fun j hj => ?_⟩
  · obtain ⟨v', s', e', -⟩ := hi j (by omega)
    rw [e']
    exact ⟨_, rfl⟩
  · obtain ⟨v', s', e', hs, hs'⟩ := hi j hj
    exact ⟨v', s', e', hs.put1 hb u, hs'.put1 hb u⟩
theorem SsAt.put1 {w : World} {v : Value} {ss : List (List UInt8)} {g : Nat} (h : SsAt w v ss) (hb : Bk w g 1 (fun _ => nilV)) (u : Value) : SsAt (w.setCell ⟨g, 0, none⟩ u) v ss := by
  obtain ⟨⟨A, c, e, h1, h2, h3⟩, hw⟩ := h
  refine ⟨⟨A, c, e, h1, h2, h3.put1 hb (nostr fun j hj => ?_) u⟩, hw⟩
  rw [List.length_map] at hj
  rw [List.getD_eq_getElem?_getD, List.getElem?_map, List.getElem?_eq_getElem hj]
  exact ⟨_, rfl⟩
end Go.Proofs.YtjedhndhdkiidaaDoor
