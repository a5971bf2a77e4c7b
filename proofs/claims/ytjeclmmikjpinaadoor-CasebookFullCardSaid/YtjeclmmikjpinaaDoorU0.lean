/- Bytes, strings, blocks: what the texts share. -/
import Derived.Test.YtjeclmmikjpinaaDoorR4
import Derived.Test.YtjeclmmikjpinaaDoorR5
namespace Go.Proofs.YtjeclmmikjpinaaDoor
open Go.RowKit
attribute [local go_sem ↓] Go.wp_at_zero Go.wp_at_succ
theorem baSize (l : List UInt8) : (⟨l.toArray⟩ : ByteArray).size = l.length := by simp [ByteArray.size]
theorem baList (l : List UInt8) : (⟨l.toArray⟩ : ByteArray).toList = l := by rw [ByteArray.toList_eq]
theorem baGet (l : List UInt8) (k : Nat) (h : k < (⟨l.toArray⟩ : ByteArray).size) : (⟨l.toArray⟩ : ByteArray)[k] = l[k]'(by rw [baSize] at h; exact h) := rfl
attribute [local go_sem] baSize baList run_eqnil38
/-- Bytes behind a slice. -/
def SlB (w : World) (v : Value) (xs : List UInt8) : Prop := ∃ A c, v = .slice A xs.length c ∧ xs.length ≤ c ∧ c ≤ maxLen ∧ BytesAt w A xs
theorem SlB.ext {w w' : World} {v : Value} {xs : List UInt8} (h : SlB w v xs) (k : Ext w w') : SlB w' v xs := by
  obtain ⟨A, c, e, h1, h2, h3⟩ := h
  exact ⟨A, c, e, h1, h2, h3.ext k⟩
theorem SlB.nil (w : World) : SlB w nilV [] := ⟨none, 0, rfl, by simp, by unfold maxLen; omega, BytesAt.nil_ _ _⟩
theorem run_eqnil38n (w : World) (n c : Nat) : (binOp .eql 31 (.slice none n c) (.slice none 0 0)).run Tryd.prog w = .ok (.bool true) w := by
  have h0 : ∀ d, (Op.equalIn (d + 1) 31 (.slice none n c) (.slice none 0 0)).run Tryd.prog w = .ok true w := fun d => by
    simp [Op.equalIn, run_underlying Tryd.underlying31, Result.andThen]
  have h1 : (Op.equal 31 (.slice none n c) (.slice none 0 0)).run Tryd.prog w = .ok true w := h0 9999
  simp only [binOp, Sem.run_bind]
  rw [h1]
  rfl
attribute [local go_sem] run_eqnil38n
/-- Bytes are handed back. -/
def RetSl (xs : List UInt8) (w : World) (e : Ending) (w' : World) : Prop := ∃ v, e = .returned v ∧ SlB w' v xs ∧ Ext w w'
theorem SlB.of_row {w : World} {B : Nat} {v : Value} {xs : List UInt8} (h : Row 1 w B 5 v (bv xs)) : SlB w v xs := by
  obtain ⟨A, c, e, h1, h2, h3, -⟩ := h.bytes
  exact ⟨A, c, e, h2, h3, h1⟩
theorem RetBy.sl {xs : List UInt8} {w : World} {e : Ending} {w' : World} (h : RetBy xs w e w') : RetSl xs w e w' := by
  obtain ⟨v, e, h1, h2⟩ := h
  exact ⟨v, e, SlB.of_row h1, h2⟩
theorem clone55_any (xs : List UInt8) (v : Value) (w : World) (h : SlB w v xs) (hl : xs.length ≤ 1000000) : Calls Tryd.prog 20 #[v] w (RetSl xs w) := by
  obtain ⟨A, c, rfl, h1, h2, hb⟩ := h
  cases A with
  | some ad => exact (clone55_ok xs ad c w hb hl).mono fun e w' h => h.sl
  | none =>
    have hx : xs = [] := by
      rcases Nat.eq_zero_or_pos xs.length with h0 | h0
      · exact List.eq_nil_of_length_eq_zero h0
      · obtain ⟨ad, e, -⟩ := hb h0
        cases e
    subst hx
    clear hb h1 h2
    go_enter Tryd.func20, Tryd.ntmps20
    go_wp2_with fail
    go_ret
    exact ⟨nilV, rfl, SlB.nil _, Ext.refl _⟩
theorem row_by {w : World} {B : Nat} {v : Value} {xs : List UInt8} (h : Row 1 w B 5 v (bv xs)) : ByRow w B v xs := by
  have := h.2
  rw [bv_len, bv_flat] at this
  exact this
theorem by_row {w : World} {B : Nat} {v : Value} {xs : List UInt8} (h : ByRow w B v xs) : Row 1 w B 5 v (bv xs) := ⟨bv_wide xs, by rw [bv_len, bv_flat]; exact h⟩
theorem Ext.c1 {wd w' : World} {a : Addr} {u : Value} (h1 : wd.cell? a = some u) (h : Ext wd w') : Ext wd w' ∧ w'.cell? a = some u := ⟨h, h.cell h1⟩
theorem cell_far {w : World} {b g o k : Nat} {vs : List Value} {v : Value} (hg : g ≠ b) (h : w.cell? ⟨g, k, none⟩ = some v) : (w.setCells b o vs).cell? ⟨g, k, none⟩ = some v := by
  unfold World.cell? at h ⊢
  rw [setCells_far hg]
  exact h
theorem one_arV {f : Nat → Value} {n : Nat} (h : ∀ i, i < n → (f i).oneCell' = true) : ∀ v ∈ (arV f n).toList, v.oneCell' = true := by
  have := arV_cells h
  rw [Array.all_eq_true_iff_forall_mem] at this
  intro v hv
  exact this v (by simpa using hv)
theorem one_id (d : List UInt8) : ∀ v ∈ (arV (idF d) 32).toList, v.oneCell' = true := one_arV fun _ _ => rfl
theorem Bk.there {w : World} {g n m : Nat} {f h : Nat → Value} (hb : Bk w g n f) (hm : m ≤ n) : w.there g 0 (arV h m).toList.length := fun j hj => by
  rw [Array.length_toList, arV_size] at hj
  rw [Nat.zero_add]
  exact ⟨by rw [hb.cell (by omega)]; rfl, hb.frozen _⟩
theorem size_id (d : List UInt8) : Option.map (fun x => x.size) (Tryd.prog.info? 27) = some (arV (idF d) 32).toList.length := by
  rw [Array.length_toList, arV_size]
  exact Tryd.size27
theorem Bk.range {w : World} {g n : Nat} {f : Nat → Value} (hb : Bk w g n f) : w.rangeAt g 0 (arV f n).toList := fun j v hj => by
  have hl : j < n := by
    rcases Nat.lt_or_ge j n with h | h
    · exact h
    · rw [List.getElem?_eq_none (by rw [Array.length_toList, arV_size]; exact h)] at hj; cases hj
  rw [Array.getElem?_toList, arV_at hl] at hj
  cases hj
  rw [Nat.zero_add]
  exact hb.cell hl
/-- The block's elements have type T. -/
def TyB (w : World) (T b : Nat) : Prop := ∃ cs fr, w.heap[b]? = some (.cells cs T fr)
theorem TyB.kept {w w' : World} {T b : Nat} (h : TyB w T b) (k : w'.heap[b]? = w.heap[b]?) : TyB w' T b := by
  obtain ⟨cs, fr, e⟩ := h
  exact ⟨cs, fr, by rw [k, e]⟩
theorem TyB.ne {w : World} {T T' b b' : Nat} (h : TyB w T b) (k : TyB w T' b') (ht : T ≠ T') : b ≠ b' := by
  rintro rfl
  obtain ⟨cs, fr, e⟩ := h
  obtain ⟨cs', fr', e'⟩ := k
  rw [e] at e'
  cases e'
  exact ht rfl
theorem Row.ty {s : Nat} {w : World} {B e : Nat} {v : Value} {vs : List (List Value)} (h : Row s w B e v vs) : ∀ k, v.ownBlock = some k → TyB w e k := fun k hk => by
  rcases h.2.2 with ⟨rfl, _⟩ | ⟨g, cap, cur, rfl, hB, hg, _⟩
  · cases hk
  · cases hk
    exact ⟨cur, _, hg⟩
/-- Bytes in blocks of bytes from B on. -/
def SlN (w : World) (B : Nat) (v : Value) (xs : List UInt8) : Prop := ∃ A c, v = .slice A xs.length c ∧ xs.length ≤ c ∧ c ≤ maxLen ∧ BytesAt w A xs ∧ ∀ ad, A = some ad → B ≤ ad.block ∧ TyB w 5 ad.block
theorem SlN.sl {w : World} {B : Nat} {v : Value} {xs : List UInt8} (h : SlN w B v xs) : SlB w v xs := by
  obtain ⟨A, c, e, h1, h2, h3, -⟩ := h
  exact ⟨A, c, e, h1, h2, h3⟩
theorem TyB.lt {w : World} {T b : Nat} (h : TyB w T b) : b < w.heap.size := by
  obtain ⟨cs, fr, e⟩ := h
  exact (Array.getElem?_eq_some_iff.1 e).1
theorem SlN.ext {w w' : World} {B : Nat} {v : Value} {xs : List UInt8} (h : SlN w B v xs) (k : Ext w w') : SlN w' B v xs := by
  obtain ⟨A, c, e, h1, h2, h3, h4⟩ := h
  exact ⟨A, c, e, h1, h2, h3.ext k, fun ad ha => ⟨(h4 ad ha).1, (h4 ad ha).2.kept (k.block _ (h4 ad ha).2.lt)⟩⟩
theorem SlN.base {w : World} {B B' : Nat} {v : Value} {xs : List UInt8} (h : SlN w B v xs) (k : B' ≤ B) : SlN w B' v xs := by
  obtain ⟨A, c, e, h1, h2, h3, h4⟩ := h
  exact ⟨A, c, e, h1, h2, h3, fun ad ha => ⟨Nat.le_trans k (h4 ad ha).1, (h4 ad ha).2⟩⟩
/-- A change of other blocks. -/
theorem SlN.kept {w w' : World} {B : Nat} {v : Value} {xs : List UInt8} (h : SlN w B v xs) (k : ∀ b, B ≤ b → TyB w 5 b → w'.heap[b]? = w.heap[b]?) : SlN w' B v xs := by
  obtain ⟨A, c, e, h1, h2, h3, h4⟩ := h
  refine ⟨A, c, e, h1, h2, fun h0 => ?_, fun ad ha => ⟨(h4 ad ha).1, (h4 ad ha).2.kept (k _ (h4 ad ha).1 (h4 ad ha).2)⟩⟩
  obtain ⟨ad, ha, hb, hc⟩ := h3 h0
  refine ⟨ad, ha, ((h4 ad ha).2.kept (k _ (h4 ad ha).1 (h4 ad ha).2)).lt, fun j b hj => ?_⟩
  have := hc j b hj
  unfold World.cell? at this ⊢
  rw [block_of_add, k _ (h4 ad ha).1 (h4 ad ha).2]
  rw [block_of_add] at this
  exact this
/-- A change of a block ahead of B. -/
theorem SlN.far {w w' : World} {B g : Nat} {v : Value} {xs : List UInt8} (h : SlN w B v xs) (k : Exg g w w') (hg : g < B) : SlN w' B v xs := h.kept fun b hb ht => k.2.2.2.2 b ht.lt (by omega)
/-- A row of other elements that grows. -/
theorem SlN.grown {w w' : World} {B T : Nat} {v t : Value} {xs : List UInt8} (h : SlN w B v xs) (hg : w.grownBy w' t.ownBlock) (ht : ∀ k, t.ownBlock = some k → TyB w T k) (hT : T ≠ 5) : SlN w' B v xs := h.kept fun b _ hb => hg.block b hb.lt fun e => (hb.ne (ht b e.symm) (Ne.symm hT)) rfl
def RetSn (xs : List UInt8) (w : World) (e : Ending) (w' : World) : Prop := ∃ v, e = .returned v ∧ SlN w' w.heap.size v xs ∧ Ext w w'
theorem clone55_new (xs : List UInt8) (v : Value) (w : World) (h : SlB w v xs) (hl : xs.length ≤ 1000000) : Calls Tryd.prog 20 #[v] w (RetSn xs w) := by
  obtain ⟨A, c, rfl, h1, h2, hb⟩ := h
  cases A with
  | some ad =>
    refine (clone55_ok xs ad c w hb hl).mono ?_
    rintro e w' ⟨v, rfl, hr, hE⟩
    obtain ⟨A, c, e, k1, k2, k3, k4⟩ := hr.bytes
    exact ⟨v, rfl, ⟨A, c, e, k2, k3, k1, fun ad ha => ⟨(k4 ad ha).1, hr.ty _ (k4 ad ha).2.2⟩⟩, hE⟩
  | none =>
    have hx : xs = [] := by
      rcases Nat.eq_zero_or_pos xs.length with h0 | h0
      · exact List.eq_nil_of_length_eq_zero h0
      · obtain ⟨ad, e, -⟩ := hb h0
        cases e
    subst hx
    clear hb h1 h2
    go_enter Tryd.func20, Tryd.ntmps20
    go_wp2_with fail
    go_ret
    exact ⟨nilV, rfl, ⟨none, 0, rfl, by simp, by unfold maxLen; omega, BytesAt.nil_ _ _, fun ad h => by cases h⟩, Ext.refl _⟩
theorem arV3 {f : Nat → Value} {a b c : Value} (h0 : f 0 = a) (h1 : f 1 = b) (h2 : f 2 = c) : arV f 3 = #[a, b, c] := by
  subst h0 h1 h2
  exact (arV_ext (a := #[f 0, f 1, f 2]) (n := 3) rfl (fun i hi => by match i, hi with | 0, _ => rfl | 1, _ => rfl | 2, _ => rfl)).symm
@[irreducible] def bsS (t : TypeId) (n : Nat) (ps : Array (Nat × Value)) : Sem Value := Instr.buildSlice t n ps
theorem run_bs (t e m : Nat) (z : Array Value) (hu : Tryd.prog.underlying t = some (.slice e)) (hi : (Tryd.prog.info? e).map (fun i => (i.zero, i.size)) = some (some (.agg z), m)) (h0 : 0 < m) (hm : m ≤ 1000) (w : World) (f : Nat → Value) : (bsS t 1 #[(0, .agg (arV f m))]).run Tryd.prog w = .ok (.slice (some ⟨w.heap.size, 0, none⟩) 1 1) (w.alloc (.cells (arV f m) e)) := by
  obtain ⟨hz, hs⟩ := zero_of_info hi
  have hs' : ∀ w, (sizeOf e).run Tryd.prog w = .ok m w := fun w => by
    cases hq : Tryd.prog.info? e with
    | none => simp [hq] at hs
    | some i => simp [hq] at hs; simp [sizeOf, typeInfo, hq, hs]
  have hzc : (Value.agg z).cells = z := rfl
  have e1 : (Array.range (1 * m)).map (fun x => z[x % z.size]!) = arV (fun x => z[x % z.size]!) m := arV_ext (by simp) fun i hi => by simp [hi]
  have e2 : Instr.fill (fun i => some (i * m, m)) (arV (fun x => z[x % z.size]!) m) [(0, .agg (arV f m))] = some (arV f m) := by
    rw [fill_arr (off := 0) (m := m) (by simp) (by omega), Instr.fill]
    exact congrArg some (arV_congr fun i hi => by rw [if_pos (by omega), Nat.sub_zero])
  unfold bsS Instr.buildSlice
  have n1 : ¬ (1 * m > 2 ^ 24) := by omega
  have n2 : ¬ (1 * m = 0) := by omega
  simp only [Sem.run_bind, run_underlying hu, Result.andThen_ok, hs', n1, n2, if_false, hz, hzc, e1, e2, Sem.run_pure, newRow, run_newObj_alloc]
theorem Bk.new1 (w : World) (v : Value) (T : TypeId) : Bk (w.alloc (.cells #[v] T)) w.heap.size 1 (fun _ => v) := ⟨by decide, by
  rw [blkOf_new]
  exact arV_ext rfl fun i hi => by
    have : i = 0 := by omega
    subst this
    rfl⟩
theorem arV1 {f : Nat → Value} {a : Value} (h0 : f 0 = a) : arV f 1 = #[a] := by
  subst h0
  exact (arV_ext (a := #[f 0]) (n := 1) rfl (fun i hi => by
    have : i = 0 := by omega
    subst this
    rfl)).symm
theorem setCells_obj {g T : Nat} {fr : Nat × Nat} : ∀ (vs : List Value) (o : Nat) {w : World} {cs : Array Value}, w.heap[g]? = some (.cells cs T fr) → ∃ cs', (w.setCells g o vs).heap[g]? = some (.cells cs' T fr)
  | [], _, _, cs, h => ⟨cs, h⟩
  | v :: r, o, w, cs, h => setCells_obj r (o + 1) (w := w.setCell ⟨g, o, none⟩ v) (cs := cs.setIfInBounds o v) (by simp [World.setCell, Array.getElem?_modify, h])
theorem size_setCells (b : Nat) : ∀ (vs : List Value) (o : Nat) (w : World), (w.setCells b o vs).heap.size = w.heap.size
  | [], _, _ => rfl
  | v :: r, o, w => by
    show ((w.setCell ⟨b, o, none⟩ v).setCells b (o + 1) r).heap.size = _
    rw [size_setCells b r (o + 1)]
    unfold World.setCell
    split <;> simp
/-- An element is put into a row. -/
theorem Row.put {s : Nat} (h0 : 0 < s) {w : World} {B e g j : Nat} {v : Value} {us : List (List Value)} {x : List Value} (h : Row s w B e v us) (hg : v.ownBlock = some g) (hj : j < us.length) (hx : x.length = s) : Row s (w.setCells g (j * s) x) B e v (us.set j x) := by
  have h' := h.2
  rcases h'.2 with ⟨rfl, _⟩ | ⟨g', cap, cur, rfl, hB, hc, h1, h2, h3, h4⟩
  · cases hg
  obtain rfl : g' = g := by simpa [Value.ownBlock] using hg
  have hw : Wide s (us.set j x) := fun y hy => by
    rcases List.mem_or_eq_of_mem_set hy with h5 | h5
    · exact h.1 y h5
    · rw [h5]; exact hx
  obtain ⟨cs', hcs⟩ := setCells_obj x (j * s) hc
  have hBk : Bk w g' cur.size (fun i => cur.getD i undef) := ⟨by
    rw [h3]
    exact Nat.mul_pos (by omega) h0, by
    rw [blkOf_of hc]
    exact arV_ext rfl fun i hi => by simp [Array.getD, hi]⟩
  have hB2 := hBk.setCells x (j * s)
  have e2 : cs' = arV (updR (fun i => cur.getD i undef) (j * s) x.length fun i => x.getD i undef) cur.size := by
    have := hB2.2
    rw [blkOf_of hcs] at this
    exact this
  have hlen : us.length * s ≤ cur.size := by rw [h3]; exact Nat.mul_le_mul_right _ h1
  refine ⟨hw, hw.flat, .inr ⟨g', cap, cs', ?_, hB, hcs, by rw [List.length_set]; exact h1, h2, by rw [e2, arV_size, h3], ?_⟩⟩
  · rw [List.length_set]
  · rw [List.length_set]
    apply List.ext_getElem?
    intro i
    rw [List.getElem?_take]
    by_cases hi : i < us.length * s
    · rw [if_pos hi]
      have hjd : i / s < us.length := (Nat.div_lt_iff_lt_mul h0).2 hi
      have hrm : i % s < s := Nat.mod_lt _ h0
      have ei : i = i / s * s + i % s := by rw [Nat.mul_comm]; exact (Nat.div_add_mod i s).symm
      have r := hw.at_ (j := i / s) (i := i % s) (by rw [List.length_set]; exact hjd) hrm
      have r0 := h.1.at_ (j := i / s) (i := i % s) hjd hrm
      rw [← ei] at r r0
      rw [r, Array.getElem?_toList, e2, arV_at (by omega)]
      unfold updR
      by_cases hq : i / s = j
      · have h6 : (us.set j x).getD (i / s) [] = x := by rw [hq, List.getD_eq_getElem?_getD, List.getElem?_set_self hj]; rfl
        rw [h6, if_pos (by rw [← hq, hx]; omega)]
        have h7 : i - j * s = i % s := by rw [← hq]; omega
        show some (x.getD (i - j * s) undef) = x[i % s]?
        rw [h7, List.getD_eq_getElem?_getD, List.getElem?_eq_getElem (by rw [hx]; exact hrm)]
        rfl
      · have h6 : (us.set j x).getD (i / s) [] = us.getD (i / s) [] := by rw [List.getD_eq_getElem?_getD, List.getElem?_set_ne (Ne.symm hq), ← List.getD_eq_getElem?_getD]
        rw [h6, ← r0]
        have h8 : ¬ (j * s ≤ i ∧ i < j * s + x.length) := by
          rintro ⟨h9, h10⟩
          rw [hx] at h10
          apply hq
          exact Nat.div_eq_of_lt_le h9 (by rw [Nat.succ_mul]; exact h10)
        rw [if_neg h8]
        have h11 := congrArg (fun l => l[i]?) h4
        simp only [List.getElem?_take] at h11
        rw [if_pos hi, Array.getElem?_toList] at h11
        rw [← h11]
        simp [Array.getD, show i < cur.size by omega]
    · rw [if_neg hi, List.getElem?_eq_none (by rw [hw.flat, List.length_set]; omega)]
theorem getD_set {α : Type} {l : List α} {j i : Nat} {x d : α} (h : j < l.length) : (l.set j x).getD i d = if i = j then x else l.getD i d := by
  rw [List.getD_eq_getElem?_getD, List.getElem?_set]
  by_cases e : j = i
  · subst e
    rw [if_pos rfl, if_pos h, if_pos rfl]
    rfl
  · rw [if_neg e, if_neg (Ne.symm e), List.getD_eq_getElem?_getD]
theorem SlN.nil (w : World) (B : Nat) : SlN w B (.slice none 0 0) [] := ⟨none, 0, rfl, by simp, by unfold maxLen; omega, BytesAt.nil_ _ _, fun ad h => by cases h⟩
theorem map_set {α β : Type} (f : α → β) (l : List α) (j : Nat) (x : α) : (l.set j x).map f = (l.map f).set j (f x) := by
  apply List.ext_getElem?
  intro i
  rw [List.getElem?_map, List.getElem?_set, List.getElem?_set, List.length_map, List.getElem?_map]
  by_cases e : j = i
  · subst e
    rw [if_pos rfl, if_pos rfl]
    split <;> rfl
  · rw [if_neg e, if_neg e]
theorem Row.apart {s s' : Nat} {w w' : World} {B B' e1 e2 : Nat} {v1 v2 : Value} {us us' : List (List Value)} (h1 : Row s w B e1 v1 us) (h2 : Row s' w B' e2 v2 us') (he : e1 ≠ e2) (hg : w.grownBy w' v1.ownBlock) : Row s' w' B' e2 v2 us' :=
  h2.kept fun k hk => hg.block k (h2.lt k hk).2 fun e => ((h1.ty k e.symm).ne (h2.ty k hk) he) rfl
theorem TyB.set {w : World} {T b : Nat} (h : TyB w T b) (a : Addr) (v : Value) : TyB (w.setCell a v) T b := by
  obtain ⟨cs, fr, e⟩ := h
  obtain ⟨g, o, sp⟩ := a
  by_cases hg : g = b
  · subst hg
    cases sp with
    | none => exact ⟨cs.setIfInBounds o v, fr, by simp [World.setCell, Array.getElem?_modify, e]⟩
    | some x => exact ⟨cs, fr, by simp [World.setCell, Array.getElem?_modify, e]⟩
  · exact ⟨cs, fr, by rw [Below.heap_setCell w ⟨g, o, sp⟩ v b (Ne.symm hg)]; exact e⟩
theorem TyB.setCells {w : World} {T b : Nat} (h : TyB w T b) (vs : List Value) (o : Nat) : TyB (w.setCells b o vs) T b := by
  obtain ⟨cs, fr, e⟩ := h
  obtain ⟨cs', e'⟩ := setCells_obj vs o e
  exact ⟨cs', fr, e'⟩
theorem Row.slB {w : World} {B : Nat} {v : Value} {xs : List UInt8} (h : Row 1 w B 5 v (bv xs)) : SlB w v xs := by
  obtain ⟨A, c, e, k1, k2, k3, -⟩ := h.bytes
  exact ⟨A, c, e, k2, k3, k1⟩
/-- A block of another type is left alone by a row that grows. -/
theorem Bk.grownTy {w w' : World} {g n T B e : Nat} {f : Nat → Value} {v : Value} {s : Nat} {us : List (List Value)} (h : Bk w g n f) (ht : TyB w T g) (hr : Row s w B e v us) (he : e ≠ T) (hg : w.grownBy w' v.ownBlock) : Bk w' g n f ∧ TyB w' T g := by
  have hb : w'.heap[g]? = w.heap[g]? := hg.block _ h.lt fun e' => (hr.ty g e'.symm).ne ht he rfl
  exact ⟨h.kept hb, ht.kept hb⟩
theorem TyB.ext {w w' : World} {T g : Nat} (h : TyB w T g) (k : Ext w w') : TyB w' T g := h.kept (k.block g h.lt)
theorem TyB.new (w : World) (cs : Array Value) (T : Nat) : TyB (w.alloc (.cells cs T)) T w.heap.size := ⟨cs, _, heap_alloc_new w _⟩
theorem lt_of_same {w w' : World} {g : Nat} (h : w'.heap[g]? = w.heap[g]?) (hg : g < w.heap.size) : g < w'.heap.size := by
  rcases Nat.lt_or_ge g w'.heap.size with h' | h'
  · exact h'
  · rw [Array.getElem?_eq_none h', Array.getElem?_eq_getElem hg] at h; cases h
theorem Bk.set1 {w : World} {g : Nat} {f : Nat → Value} (h : Bk w g 1 f) (u : Value) : Bk (w.setCell ⟨g, 0, none⟩ u) g 1 (fun _ => u) := (h.set 0 u).congr fun i hi => by
  obtain rfl : i = 0 := by omega
  rfl
end Go.Proofs.YtjeclmmikjpinaaDoor
