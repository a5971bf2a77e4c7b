/- The walks over look and newSearch. -/
import Derived.Test.YtdcbejccplonjaaDoorB4
namespace Go.Proofs.YtdcbejccplonjaaDoor
open Go.RowKit
attribute [local go_sem ↓] Go.wp_at_zero Go.wp_at_succ
theorem and_u64 {a b : Nat} (ha : a < 18446744073709551616) (hb : b < 18446744073709551616) : bits .and .u64 (a : Int) (b : Int) = ((a &&& b : Nat) : Int) := bits_and_u64_nat a b ha hb
theorem andL {a b : Nat} (ha : a < 18446744073709551616) : a &&& b < 18446744073709551616 := Nat.lt_of_le_of_lt Nat.and_le_left ha
theorem andR {a b : Nat} (hb : b < 18446744073709551616) : a &&& b < 18446744073709551616 := Nat.lt_of_le_of_lt Nat.and_le_right hb
theorem orL {a b : Nat} (ha : a < 18446744073709551616) (hb : b < 18446744073709551616) : a ||| b < 18446744073709551616 := Nat.or_lt_two_pow (n := 64) ha hb
def RetNN (a b : Nat) (w : World) (e : Ending) (w' : World) : Prop := e = .returned (.tuple #[.int .i64 (a : Int), .int .i64 (b : Int)]) ∧ Ext w w'
theorem look_snoc (sets : List Nat) (A : Nat) (l : List Nat) (i : Nat) : look sets A (l ++ [i]) = lookS sets A (look sets A l) i := by simp [look]
theorem used_lt {sets : List Nat} {A : Nat} (hA : A < 2 ^ 64) (l : List Nat) : (look sets A l).2.2.1 < 18446744073709551616 := lt_of_bits (n := 64) fun i hi => bit_lt hA ((look_facts hA l).2.2.2.2.1 i hi)
set_option maxHeartbeats 4000000 in
theorem look_any (sets : List Nat) (A o g : Nat) (vs : Value) (w : World) (h0 : w.cell? ⟨g, 0, none⟩ = some vs) (h70 : w.cell? ⟨g, 70, none⟩ = some (uV o)) (h71 : w.cell? ⟨g, 71, none⟩ = some (uV A)) (hs : Us w vs sets) (hu : U64 sets)
    (ho : ∀ i, o.testBit i = true → i < sets.length) (ho64 : o < 18446744073709551616) (hA : A < 18446744073709551616) (hT : Tab w) :
    Calls Tryd.prog 46 #[.pointer (some ⟨g, 0, none⟩)] w (RetNN (look sets A (elems o)).1 (look sets A (elems o)).2.2.2 w) := by
  obtain ⟨S, cs, rfl, _, _, RS⟩ := hs.read
  have HR := Lib.hid RS
  have HT := Lib.hid hT
  have HU := Lib.hid hu
  have HO := Lib.hid ho
  have H0 := Lib.hid h0
  have H71 := Lib.hid h71
  clear RS hT hu ho hs
  have zg := World.block_lt_of_cell? _ _ h0
  go_enter Tryd.func46, Tryd.ntmps46
  go_wp2_with fail
  clear h0 h70 h71
  go_loopw [2, 3, 4, 5, 6] (fun p l f u q wr => ∃ (k : Nat) (dn : List Nat), k < 18446744073709551616 ∧ q = uV k ∧ elems o = dn ++ elems k ∧ p = iV ((look sets A dn).1 : Nat) ∧ f = iV ((look sets A dn).2.1 : Nat) ∧ u = uV (look sets A dn).2.2.1 ∧ l = iV ((look sets A dn).2.2.2 : Nat) ∧ Ext w wr) (fun _ _ _ _ q _ => (intOf q).toNat)
  case atStart => exact ⟨o, [], ho64, rfl, rfl, rfl, rfl, rfl, rfl, Ext.refl _⟩
  case round =>
    obtain ⟨k, dn, hk, rfl, he, rfl, rfl, rfl, rfl, hE⟩ := hrel
    have HE := Lib.hid he
    have HX := Lib.hid hE
    have LF := look_facts (sets := sets) hA dn
    have l2 := LF.2.1
    have l4 := LF.2.2.2.1
    have hdl : dn.length ≤ 64 := by
      have h1 := card_le64 o
      unfold card at h1
      rw [he, List.length_append] at h1
      omega
    have ul := used_lt (sets := sets) hA dn
    have LS := Lib.hid (look_snoc sets A dn)
    clear he hE LF
    by_cases hz : k = 0
    · subst hz
      have HD : Hid (elems o = dn) := by rw [HE.out, elems_zero, List.append_nil]; exact Lib.hid rfl
      have HF : Hid (look sets A (elems o) = look sets A dn) := by rw [HD.out]; exact Lib.hid rfl
      clear LS
      generalize look sets A dn = st at *
      go_wp2_with fail
      go_ret2
      refine ⟨?_, HX.out⟩
      rw [HF.out]
      rfl
    · have hst := Lib.hid (elems_step hz hk)
      have hc := ctz_lt hz hk
      have t0 : ((k : Int) != 0) = true := by simp; omega
      have wk : IntKind.u64.wrap ((k : Int) - 1) = ((k - 1 : Nat) : Int) := by rw [IntKind.wrap_u64]; omega
      have ek := and_u64 (a := k) (b := k - 1) hk (by omega)
      have TZ := Lib.hid (tz_any k wr hk (HT.out.ext HX.out))
      have hi : Lib.ctz 64 k < sets.length := by
        refine HO.out _ ?_
        have : Lib.ctz 64 k ∈ elems o := by rw [HE.out, hst.out]; simp
        exact (mem_elems.1 this).2
      obtain ⟨i, hci⟩ : ∃ i, Lib.ctz 64 k = i := ⟨_, rfl⟩
      rw [hci] at TZ hst hc hi
      clear hci
      obtain ⟨ad, rfl, c1⟩ := HR.out wr HX.out i hi
      obtain ⟨s, hsi⟩ : ∃ s, sets.getD i 0 = s := ⟨_, rfl⟩
      have sl := getD_lt HU.out i
      have LSi := Lib.hid (LS.out i)
      unfold lookS at LSi
      rw [hsi] at c1 sl LSi
      clear hsi LS
      have d0 := HX.out.cell H0.out
      have d71 := HX.out.cell H71.out
      have eA := and_u64 (a := s) (b := A) sl hA
      have al : s &&& A < 18446744073709551616 := andL sl
      generalize s &&& A = a at *
      have ON := Lib.hid (fun w => ones_any a w al)
      have cl := card_le64 a
      obtain ⟨⟨p, f, u, l⟩, hst'⟩ : ∃ st, look sets A dn = st := ⟨_, rfl⟩
      rw [hst'] at LSi ul l2 l4 ⊢
      clear hst'
      simp only [] at LSi ul l2 l4 ⊢
      have eu := and_u64 (a := a) (b := u) al ul
      have eo := u64_or_nat u a ul al
      have ez := beq0 (a &&& u)
      generalize card a = n at *
      go_wp2_with fail
      refine TZ.out.mono ?_
      rintro e1 w1 ⟨rfl, rfl⟩
      have q1 : (0 : Int) ≤ (i : Int) := by omega
      have q2 : (i : Int) < (sets.length : Int) := by omega
      go_wp2_with fail
      go_quiet (fail)
      go_wp2_with fail
      refine (ON.out _).mono ?_
      rintro e2 w2 ⟨rfl, rfl⟩
      have KL : k &&& (k - 1) < 18446744073709551616 := andL hk
      have KM : k &&& (k - 1) ≤ k - 1 := Nat.and_le_right
      have HE' : Hid (elems o = (dn ++ [i]) ++ elems (k &&& (k - 1))) := by rw [HE.out, hst.out]; simp [Hid]
      by_cases hzu : a &&& u = 0
      · rw [decide_eq_true hzu] at ez
        by_cases hn : n < f
        · have L' : Hid (look sets A (dn ++ [i]) = (i, n, u ||| a, l + 1)) := by
            have := LSi.out
            simp only [hn, hzu, if_true] at this
            exact this
          clear LSi hzu
          go_wp2_with fail
          exact ⟨⟨_, dn ++ [i], KL, rfl, HE'.out, by rw [L'.out], by rw [L'.out], by rw [L'.out], by rw [L'.out]; go_num, HX.out.drewN _⟩, by simp only [intOf]; omega⟩
        · have L' : Hid (look sets A (dn ++ [i]) = (p, f, u ||| a, l + 1)) := by
            have := LSi.out
            simp only [hn, hzu, if_true, if_false] at this
            exact this
          clear LSi hzu
          go_wp2_with fail
          exact ⟨⟨_, dn ++ [i], KL, rfl, HE'.out, by rw [L'.out], by rw [L'.out], by rw [L'.out], by rw [L'.out]; go_num, HX.out.drewN _⟩, by simp only [intOf]; omega⟩
      · rw [decide_eq_false hzu] at ez
        by_cases hn : n < f
        · have L' : Hid (look sets A (dn ++ [i]) = (i, n, u, l)) := by
            have := LSi.out
            simp only [hn, hzu, if_true, if_false] at this
            exact this
          clear LSi hzu
          go_wp2_with fail
          exact ⟨⟨_, dn ++ [i], KL, rfl, HE'.out, by rw [L'.out], by rw [L'.out], by rw [L'.out], by rw [L'.out], HX.out.drewN _⟩, by simp only [intOf]; omega⟩
        · have L' : Hid (look sets A (dn ++ [i]) = (p, f, u, l)) := by
            have := LSi.out
            simp only [hn, hzu, if_false] at this
            exact this
          clear LSi hzu
          go_wp2_with fail
          exact ⟨⟨_, dn ++ [i], KL, rfl, HE'.out, by rw [L'.out], by rw [L'.out], by rw [L'.out], by rw [L'.out], HX.out.drewN _⟩, by simp only [intOf]; omega⟩
/-- The cells of a search. -/
def srcF (vs : Value) (hv : Nat → Nat) (most limit : Nat) (vf ve vc : Value) (o A : Nat) (k : Nat) : Value :=
  if k = 0 then vs else if k < 65 then uV (hv (k - 1)) else if k = 65 then iV (most : Int) else if k = 66 then iV (limit : Int) else if k = 67 then vf else if k = 68 then ve else if k = 69 then vc else if k = 70 then uV o else uV A
structure SAt (w : World) (g : Nat) (f : Nat → Value) : Prop where
  lt : g < w.heap.size
  cell : ∀ k, k < 72 → w.cell? ⟨g, k, none⟩ = some (f k)
  free : ∀ k, k < 72 → w.frozen? ⟨g, k, none⟩ = false
theorem SAt.ext {w w' : World} {g : Nat} {f : Nat → Value} (h : SAt w g f) (k : Ext w w') : SAt w' g f :=
  ⟨k.lt _ h.lt, fun j hj => k.cell (h.cell j hj), fun j hj => by rw [k.both.2 g j h.lt]; exact h.free j hj⟩
theorem SAt.drewN {w : World} {g : Nat} {f : Nat → Value} (h : SAt w g f) (n : Nat) : SAt (w.drewN n) g f := h.ext ((Ext.refl _).drewN n)
theorem SAt.drew {w : World} {g : Nat} {f : Nat → Value} (h : SAt w g f) : SAt w.drew g f := h.ext (Ext.refl _).drew
theorem frozen_set (w : World) (a b : Addr) (v : Value) : (w.setCell a v).frozen? b = w.frozen? b := by simp
theorem SAt.set {w : World} {g : Nat} {f f' : Nat → Value} (h : SAt w g f) {k : Nat} (hk : k < 72) (v : Value) (hf : ∀ j, j < 72 → f' j = if j = k then v else f j) : SAt (w.setCell ⟨g, k, none⟩ v) g f' := by
  refine ⟨by simpa using h.lt, fun j hj => ?_, fun j hj => ?_⟩
  · rw [hf j hj]
    by_cases e : j = k
    · subst e
      rw [if_pos rfl]
      exact World.cell?_setCell_same _ _ _ (by rw [h.cell j hj])
    · rw [if_neg e, World.cell?_setCell_other _ _ _ _ (by intro e'; cases e'; exact e rfl)]
      exact h.cell j hj
  · rw [frozen_set]; exact h.free j hj
theorem zero60 : Tryd.zeroCells60.toList = (List.range 72).map (srcF (.slice none 0 0) (fun _ => 0) 0 0 (.slice none 0 0) (.slice none 0 0) (.slice none 0 0) 0 0) := by rfl
theorem SAt.new (w : World) (vs : Value) (most limit : Nat) : SAt (w.alloc (.cells (((Tryd.zeroCells60.setIfInBounds 0 vs).setIfInBounds 65 (.int .i64 (most : Int))).setIfInBounds 66 (.int .i64 (limit : Int))) 60)) w.heap.size (srcF vs (fun _ => 0) most limit (.slice none 0 0) (.slice none 0 0) (.slice none 0 0) 0 0) := by
  have hz : ∀ k, k < 72 → Tryd.zeroCells60[k]? = some (srcF (.slice none 0 0) (fun _ => 0) 0 0 (.slice none 0 0) (.slice none 0 0) (.slice none 0 0) 0 0 k) := fun k hk => by
    rw [← Array.getElem?_toList, zero60, List.getElem?_map, List.getElem?_range hk]; rfl
  have hsz : Tryd.zeroCells60.size = 72 := by rw [← Array.length_toList, zero60]; simp
  refine ⟨by simp, fun k hk => new_at _ _ _ _ _ ?_, fun k hk => ?_⟩
  · simp only [Array.getElem?_setIfInBounds, Array.size_setIfInBounds, hsz]
    by_cases h66 : 66 = k
    · subst h66; simp [srcF]
    · by_cases h65 : 65 = k
      · subst h65; simp [srcF]
      · by_cases h0 : 0 = k
        · subst h0; simp [srcF]
        · rw [if_neg h66, if_neg h65, if_neg h0, hz k hk]
          have a66 : ¬ k = 66 := fun e => h66 e.symm
          have a65 : ¬ k = 65 := fun e => h65 e.symm
          have a0 : ¬ k = 0 := fun e => h0 e.symm
          unfold srcF
          rw [if_neg a0, if_neg a0, if_neg a65, if_neg a66, if_neg a65, if_neg a66]
  · unfold World.frozen?; rw [heap_alloc_new]; simp
theorem take_getD {sets : List Nat} {i j : Nat} (h : j < i) : (sets.take i).getD j 0 = sets.getD j 0 := by
  rw [List.getD_eq_getElem?_getD, List.getD_eq_getElem?_getD, List.getElem?_take, if_pos h]
theorem hav_take {sets : List Nat} {i x : Nat} (h : i < sets.length) : hav (sets.take (i + 1)) x = if (sets.getD i 0).testBit x then hav (sets.take i) x ||| 2 ^ i else hav (sets.take i) x := by
  have l1 : (sets.take (i + 1)).length = i + 1 := by rw [List.length_take]; omega
  have l0 : (sets.take i).length = i := by rw [List.length_take]; omega
  refine ext_bit fun j => ?_
  rw [hav_bit, l1]
  constructor
  · rintro ⟨h1, h2⟩
    rw [take_getD h1] at h2
    rcases Nat.lt_or_ge j i with h3 | h3
    · have : (hav (sets.take i) x).testBit j = true := hav_bit.2 ⟨by omega, by rw [take_getD h3]; exact h2⟩
      split
      · exact or_pow_bit.2 (.inl this)
      · exact this
    · have : j = i := by omega
      subst this
      rw [if_pos h2]
      exact or_pow_bit.2 (.inr rfl)
  · intro hj
    have key : (hav (sets.take i) x).testBit j = true ∨ (j = i ∧ (sets.getD i 0).testBit x = true) := by
      split at hj
      · rename_i hb
        rcases or_pow_bit.1 hj with h1 | h1
        · exact .inl h1
        · exact .inr ⟨h1, hb⟩
      · exact .inl hj
    rcases key with h1 | ⟨h1, h2⟩
    · obtain ⟨h2, h3⟩ := hav_bit.1 h1
      rw [l0] at h2
      rw [take_getD h2] at h3
      exact ⟨by omega, by rw [take_getD (by omega)]; exact h3⟩
    · subst h1
      exact ⟨by omega, by rw [take_getD (by omega)]; exact h2⟩
theorem opn_take {sets : List Nat} {i : Nat} (h : i < sets.length) : opnF (sets.take (i + 1)) [] = opnF (sets.take i) [] ||| 2 ^ i := by
  have l1 : (sets.take (i + 1)).length = i + 1 := by rw [List.length_take]; omega
  have l0 : (sets.take i).length = i := by rw [List.length_take]; omega
  refine ext_bit fun j => ?_
  rw [or_pow_bit, opn_bit, opn_bit, l1, l0]
  simp
  omega
theorem orAll_take {sets : List Nat} {i : Nat} (h : i < sets.length) : orAll (sets.take (i + 1)) = orAll (sets.take i) ||| sets.getD i 0 := by
  rw [List.take_succ_eq_append_getElem h, orAll_append, List.getD_eq_getElem?_getD, List.getElem?_eq_getElem h]
  simp [orAll]
theorem heap_set {w : World} {a : Addr} {v : Value} {k : Nat} (h : a.block ≠ k) : (w.setCell a v).heap[k]? = w.heap[k]? := by
  unfold World.setCell
  simp only [Array.getElem?_modify, h, if_false]
theorem Row.set {w : World} {B e : Nat} {v : Value} {vs : List Value} (h : Row w B e v vs) {a : Addr} (ha : a.block < B) (u : Value) : Row (w.setCell a u) B e v vs := h.kept fun k hk => heap_set (by have := (h.lt k hk).1; omega)
theorem Row.drew {w : World} {B e : Nat} {v : Value} {vs : List Value} (h : Row w B e v vs) : Row w.drew B e v vs := h.ext (Ext.refl _).drew
theorem srcF_set70 {vs : Value} {hv : Nat → Nat} {most limit : Nat} {vf ve vc : Value} {o A o' : Nat} : ∀ j, j < 72 → srcF vs hv most limit vf ve vc o' A j = if j = 70 then uV o' else srcF vs hv most limit vf ve vc o A j := fun j hj => by
  unfold srcF
  by_cases h : j = 70
  · subst h; rfl
  · simp only [h, if_false]
theorem srcF_set71 {vs : Value} {hv : Nat → Nat} {most limit : Nat} {vf ve vc : Value} {o A A' : Nat} : ∀ j, j < 72 → srcF vs hv most limit vf ve vc o A' j = if j = 71 then uV A' else srcF vs hv most limit vf ve vc o A j := fun j hj => by
  unfold srcF
  by_cases h : j = 71
  · subst h; rfl
  · rw [if_neg h]
    have h1 : j < 71 := by omega
    by_cases a0 : j = 0
    · simp [a0]
    · by_cases a1 : j < 65
      · simp [a0, a1]
      · by_cases a2 : j = 65
        · simp [a2]
        · by_cases a3 : j = 66
          · simp [a3]
          · by_cases a4 : j = 67
            · simp [a4]
            · by_cases a5 : j = 68
              · simp [a5]
              · by_cases a6 : j = 69
                · simp [a6]
                · have : j = 70 := by omega
                  simp [this]
theorem srcF_setV {vs : Value} {hv hv' : Nat → Nat} {most limit : Nat} {vf ve vc : Value} {o A x y : Nat} (hx : x < 64) (h1 : hv' x = y) (h2 : ∀ z, z ≠ x → hv' z = hv z) : ∀ j, j < 72 → srcF vs hv' most limit vf ve vc o A j = if j = 1 + x then uV y else srcF vs hv most limit vf ve vc o A j := fun j hj => by
  unfold srcF
  by_cases h : j = 1 + x
  · subst h
    rw [if_pos rfl, if_neg (by omega), if_pos (by omega), show 1 + x - 1 = x by omega, h1]
  · rw [if_neg h]
    by_cases a0 : j = 0
    · simp [a0]
    · by_cases a1 : j < 65
      · simp only [a0, a1, if_true, if_false]
        rw [h2 (j - 1) (by omega)]
      · simp only [a0, a1, if_false]
theorem not_before {l : List Nat} (h : l.Nodup) {k : Nat} (hk : k < l.length) : l[k] ∉ l.take k := fun hm => by
  obtain ⟨j, hj, e⟩ := List.mem_iff_getElem.1 hm
  rw [List.length_take] at hj
  rw [List.getElem_take] at e
  have := (List.getElem_inj h).1 e
  omega
/-- The places while the elements of one more set are entered. -/
def havTo (hv : Nat → Nat) (i : Nat) (l : List Nat) (x : Nat) : Nat := if x ∈ l then hv x ||| 2 ^ i else hv x
theorem havTo_end {sets : List Nat} {i : Nat} (h : i < sets.length) (hu : sets.getD i 0 < 18446744073709551616) : havTo (hav (sets.take i)) i (elems (sets.getD i 0)) = hav (sets.take (i + 1)) := funext fun x => by
  unfold havTo
  rw [hav_take h]
  by_cases hb : (sets.getD i 0).testBit x = true
  · rw [if_pos ((mem_elems' hu).2 hb), if_pos hb]
  · rw [if_neg (fun hm => hb ((mem_elems' hu).1 hm)), if_neg hb]
def RetSearch (sets : List Nat) (vs : Value) (most limit : Nat) (w : World) (e : Ending) (w' : World) : Prop :=
  ∃ g, e = .returned (.pointer (some ⟨g, 0, none⟩)) ∧ w.heap.size ≤ g ∧ SAt w' g (srcF vs (hav sets) most limit (.slice none 0 0) (.slice none 0 0) (.slice none 0 0) (opnF sets []) (orAll sets)) ∧ Ext w w'
set_option maxRecDepth 100000 in
set_option maxHeartbeats 4000000 in
theorem newSearch_any (sets : List Nat) (vs : Value) (most limit : Nat) (w : World) (hs : Us w vs sets) (hu : U64 sets) (hl : sets.length ≤ 64) (hT : Tab w) : Calls Tryd.prog 33 #[vs, .int .i64 (most : Int), .int .i64 (limit : Int)] w (RetSearch sets vs most limit w) := by
  have HU := Lib.hid hu
  have HT := Lib.hid hT
  obtain ⟨S, cs, rfl, _, _, RS⟩ := hs.read
  have HR := Lib.hid RS
  clear RS hs hu hT
  go_enter Tryd.func33, Tryd.ntmps33
  go_wp2_with fail
  generalize hW : w.alloc (.cells (((Tryd.zeroCells60.setIfInBounds 0 (Value.slice S sets.length cs)).setIfInBounds 65 (.int .i64 (most : Int))).setIfInBounds 66 (.int .i64 (limit : Int))) 60) = w0
  have S0 := SAt.new w (Value.slice S sets.length cs) most limit
  rw [hW] at S0
  have E0 : Ext w w0 := by rw [← hW]; simp
  generalize hg : w.heap.size = g at S0 ⊢
  have HG := Lib.hid hg
  clear hW hg
  go_loopw [19] (fun i wr => ∃ k : Nat, k ≤ sets.length ∧ i = iV (k : Int) ∧ SAt wr g (srcF (Value.slice S sets.length cs) (hav (sets.take k)) most limit (.slice none 0 0) (.slice none 0 0) (.slice none 0 0) (opnF (sets.take k) []) (orAll (sets.take k))) ∧ Ext w wr) (fun i _ => sets.length - (intOf i).toNat)
  case atStart => exact ⟨0, by omega, rfl, S0, E0⟩
  case round =>
    obtain ⟨i, hi, rfl, hS, hE⟩ := hrel
    have HS := Lib.hid hS
    have HX := Lib.hid hE
    clear hS hE
    by_cases hlt : i < sets.length
    · obtain ⟨ad, rfl, c1⟩ := HR.out wr HX.out i hlt
      have HV := Lib.hid (havTo_end hlt (getD_lt HU.out i))
      have HO := Lib.hid (opn_take hlt)
      have HA := Lib.hid (orAll_take hlt)
      have lS := getD_lt HU.out i
      obtain ⟨s, hsi⟩ : ∃ s, sets.getD i 0 = s := ⟨_, rfl⟩
      rw [hsi] at c1 HV HA lS
      clear hsi
      have lO : opnF (sets.take i) [] < 18446744073709551616 := opn_lt (by rw [List.length_take]; omega)
      have lA : orAll (sets.take i) < 18446744073709551616 := orAll_lt fun x hx => HU.out x (List.mem_of_mem_take hx)
      have lV := Lib.hid (fun x => (show hav (sets.take i) x < 18446744073709551616 from hav_lt (by rw [List.length_take]; omega)))
      have d70 : wr.cell? ⟨g, 70, none⟩ = some (uV (opnF (sets.take i) [])) := HS.out.cell 70 (by omega)
      have d71 : wr.cell? ⟨g, 71, none⟩ = some (uV (orAll (sets.take i))) := HS.out.cell 71 (by omega)
      have f70 := HS.out.free 70 (by omega)
      have f71 := HS.out.free 71 (by omega)
      have hi64 : i < 64 := by omega
      generalize opnF (sets.take i) [] = o at *
      generalize orAll (sets.take i) = A at *
      have sh := powW hi64
      have eo := orP lO hi64
      have ea := u64_or_nat A s lA lS
      go_wp2_with fail
      go_region
      go_wp2_with fail
      have hgw : w.heap.size ≤ g := by rw [HG.out]; exact Nat.le_refl _
      generalize hW2 : ((wr.setCell ⟨g, 70, none⟩ (Value.int IntKind.u64 ((o ||| 2 ^ i : Nat) : Int))).setCell ⟨g, 71, none⟩ (Value.int IntKind.u64 ((A ||| s : Nat) : Int))).drew = w2
      have S2 : SAt w2 g (srcF (Value.slice (some ad) sets.length cs) (hav (sets.take i)) most limit (.slice none 0 0) (.slice none 0 0) (.slice none 0 0) (o ||| 2 ^ i) (A ||| s)) := by
        rw [← hW2]
        exact ((HS.out.set (by omega) _ srcF_set70).set (by omega) _ srcF_set71).drew
      have E2 : Ext w w2 := by
        rw [← hW2]
        exact ((HX.out.set hgw _).set hgw _).drew
      have hg2 : g < w2.heap.size := S2.lt
      have HS2 := Lib.hid S2
      clear hW2 S2 d70 d71 f70 f71
      refine (list_any s w2 lS (HT.out.ext E2)).mono ?_
      rintro e3 w3 ⟨v3, rfl, hr3, hE3⟩
      have HI := Lib.hid hr3
      have hI : Is w3 v3 (nI (elems s)) := hr3.sl
      obtain ⟨L, cl, rfl, _, _, _⟩ := hI.read
      have hln : (nI (elems s)).length = (elems s).length := by simp [nI]
      rw [hln] at HI ⊢
      have cle : (elems s).length ≤ 64 := card_le64 s
      clear hr3 hI hln
      go_wp2_with fail
      go_loopw [44] (fun j wx => ∃ k : Nat, k ≤ (elems s).length ∧ j = iV (k : Int) ∧ SAt wx g (srcF (Value.slice (some ad) sets.length cs) (havTo (hav (sets.take i)) i ((elems s).take k)) most limit (.slice none 0 0) (.slice none 0 0) (.slice none 0 0) (o ||| 2 ^ i) (A ||| s)) ∧ Row wx w2.heap.size 3 (Value.slice L (elems s).length cl) ((nI (elems s)).map iV) ∧ Ext w wx) (fun j _ => (elems s).length - (intOf j).toNat)
      case atStart => exact ⟨0, by omega, rfl, by
        have := HS2.out.ext hE3
        have e : havTo (hav (sets.take i)) i ((elems s).take 0) = hav (sets.take i) := funext fun x => by simp [havTo]
        rw [e]; exact this, HI.out, E2.trans hE3⟩
      case round =>
        obtain ⟨k, hk, rfl, hSx, hRx, hEx⟩ := hrel
        have HSx := Lib.hid hSx
        have HRx := Lib.hid hRx
        have HEx := Lib.hid hEx
        clear hSx hRx hEx
        by_cases hkl : k < (elems s).length
        · have hIx : Is wr (Value.slice L (elems s).length cl) (nI (elems s)) := HRx.out.sl
          obtain ⟨L', cl', e', _, _, RL⟩ := hIx.read
          simp only [Value.slice.injEq] at e'
          obtain ⟨rfl, -, rfl⟩ := e'
          obtain ⟨bd, rfl, c2⟩ := RL wr (Ext.refl _) k (by simp [nI]; exact hkl)
          have hxm : (elems s)[k] ∈ elems s := List.getElem_mem hkl
          obtain ⟨x64, -⟩ := mem_elems.1 hxm
          have ex : (nI (elems s)).getD k 0 = (((elems s)[k] : Nat) : Int) := by
            rw [List.getD_eq_getElem?_getD, nI, List.getElem?_map, List.getElem?_eq_getElem hkl]; rfl
          rw [ex] at c2
          have HTK : Hid ((elems s).take (k + 1) = (elems s).take k ++ [(elems s)[k]]) := Lib.hid (List.take_succ_eq_append_getElem hkl)
          have HND : Hid ((elems s)[k] ∉ (elems s).take k) := Lib.hid (not_before (elems_nodup s) hkl)
          generalize (elems s)[k] = x at *
          clear RL hIx ex hxm
          have d1 : wr.cell? ⟨g, 1 + x, none⟩ = some (uV (hav (sets.take i) x)) := by
            rw [HSx.out.cell (1 + x) (by omega)]
            unfold srcF
            rw [if_neg (by omega), if_pos (by omega), show 1 + x - 1 = x by omega]
            unfold havTo
            rw [if_neg HND.out]
          have f1 := HSx.out.free (1 + x) (by omega)
          have vl := lV.out x
          obtain ⟨h, hh⟩ : ∃ h, hav (sets.take i) x = h := ⟨_, rfl⟩
          have HH := Lib.hid hh
          rw [hh] at d1 vl
          clear hh
          have sh := powW hi64
          have ev := orP vl hi64
          have q1 : (0 : Int) ≤ (x : Int) := by omega
          have q2 : (x : Int) < 64 := by omega
          go_wp2_with fail
          go_region
          go_wp2_with fail
          have hgw : w.heap.size ≤ g := by rw [HG.out]; exact Nat.le_refl _
          refine ⟨⟨k + 1, by omega, by go_num, ?_, ?_, ?_⟩, by simp [intOf]; omega⟩
          · refine (HSx.out.set (by omega) _ (srcF_setV x64 ?_ ?_)).drew
            · rw [HTK.out]
              unfold havTo
              rw [if_pos (by simp), HH.out]
            · intro z hz
              rw [HTK.out]
              unfold havTo
              have : z ∈ (elems s).take k ++ [x] ↔ z ∈ (elems s).take k := by simp [hz]
              by_cases hm : z ∈ (elems s).take k
              · rw [if_pos hm, if_pos (this.2 hm)]
              · rw [if_neg hm, if_neg (fun h => hm (this.1 h))]
          · exact (HRx.out.set hg2 _).drew
          · exact (HEx.out.set hgw _).drew
        · obtain rfl : k = (elems s).length := by omega
          go_wp2_with fail
          refine ⟨⟨i + 1, by omega, by go_num, ?_, HEx.out⟩, by simp [intOf]; omega⟩
          have := HSx.out
          rw [List.take_length, HV.out] at this
          rw [HO.out, HA.out]
          exact this
    · obtain rfl : i = sets.length := by omega
      have HF : Hid (sets.take sets.length = sets) := Lib.hid List.take_length
      go_wp2_with fail
      go_ret
      refine ⟨g, rfl, by rw [HG.out]; exact Nat.le_refl _, ?_, HX.out⟩
      have := HS.out
      rw [HF.out] at this
      exact this
end Go.Proofs.YtdcbejccplonjaaDoor
