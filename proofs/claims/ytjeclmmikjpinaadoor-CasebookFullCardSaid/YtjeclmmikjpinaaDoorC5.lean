/- Add: a case is added to a casebook. -/
import Derived.Test.YtjeclmmikjpinaaDoorC4
import Derived.Laws.IdiomStrings
namespace Go.Proofs.YtjeclmmikjpinaaDoor
open Go.RowKit
open Go.ChangeMaps (setBlock)
open I (IdT EvT IdAt EvAt SeenAt StAt)
attribute [local go_sem ↓] Go.wp_at_zero Go.wp_at_succ
attribute [local go_sem ↓] ld48 st48 al48 bu48
attribute [local go_sem] run_al48 run_bu48 run_st48n
theorem conv938 (w : World) (s : List UInt8) (hs : s.length ≤ 1000000) : ∃ c w', (convert 9 31 (sV s)).run Tryd.prog w = .ok (.slice (some ⟨w.heap.size, 0, none⟩) s.length c) w' ∧ Ext w w' ∧ SlB w' (.slice (some ⟨w.heap.size, 0, none⟩) s.length c) s := by
  have h := run_bytes_of_string (P := Tryd.prog) w 9 31 5 ⟨s.toArray⟩ Tryd.underlying9 Tryd.underlying31 Tryd.underlying5
  rw [baSize] at h
  refine ⟨_, _, h, ((Ext.refl _).drew).alloc _, some ⟨w.heap.size, 0, none⟩, _, rfl, grownCap_ge _ _ _ _, grownCap_le_maxLen _ _ _ _ (by unfold maxLen; omega), ?_⟩
  refine bytes_of_cells rfl fun i hi => ?_
  have e : idF s i = .int .u8 ((s[i].toNat : Nat) : Int) := idF_at (List.getElem?_eq_getElem hi)
  rw [Nat.zero_add, e]
  show (w.drew.alloc _).cell? ⟨w.drew.heap.size, i, none⟩ = _
  rw [World.cell?_alloc_mark, bytesRow_at _ _ _ (by simpa using hi)]
  rfl
theorem res48t {fn : Func} {p u : Tmp} {tmps : Array Value} {w : World} {g : Nat} {f : Nat → Value} {x : Value} (h : fn.results = #[.cell p 27, .tmp u]) (hb : Bk w g 32 f) (hp : tmps.getD p undef = .pointer (some ⟨g, 0, none⟩)) (hx : tmps.getD u undef = x) : (results fn tmps).run Tryd.prog w = .ok (.tuple #[.agg (arV f 32), x]) w := by
  have hl := run_loadVar_mid (P := Tryd.prog) w g 0 27 (arV f 32).toList _ hb.range Tryd.underlying27 rfl (by rw [Tryd.size27, Array.length_toList, arV_size])
  rw [results_cell_tmp h, hp, hx]
  simp only [asAddr, Sem.run_pure, Result.andThen_ok, hl]
/-- What becomes of a case that is added: it is too long, or there, or there is no place, or it is kept. -/
def AddIs (i : IdT) (t : EvT) (ks : List (List UInt8)) (k : List UInt8) (n : Nat) (d : List UInt8) (c : Int) (t' : EvT) (ks' : List (List UInt8)) : Prop :=
  (4000 < n ∧ d = [] ∧ c = 3 ∧ t' = t ∧ ks' = ks) ∨ (n ≤ 4000 ∧ k ∈ ks ∧ d = k ∧ c = 0 ∧ t' = t ∧ ks' = ks) ∨
  (n ≤ 4000 ∧ k ∉ ks ∧ 256 ≤ ks.length ∧ d = [] ∧ c = 12 ∧ t' = t ∧ ks' = ks) ∨ (n ≤ 4000 ∧ k ∉ ks ∧ ks.length < 256 ∧ d = k ∧ c = 0 ∧ t' = I.eventT i t ∧ ks' = putM ks k)
def RetAdd (g r : Nat) (i : IdT) (t : EvT) (ks : List (List UInt8)) (k : List UInt8) (n : Nat) (w : World) (e : Ending) (w' : World) : Prop :=
  ∃ d c t' ks', e = .returned (.tuple #[idV d, .int .i64 c]) ∧ AddIs i t ks k n d c t' ks' ∧ BookAt w' g r i t' ks' ∧ Exc g r w w'
set_option maxRecDepth 100000 in
set_option maxHeartbeats 4000000 in
theorem add4_ok (g r : Nat) (i : IdT) (t : EvT) (ks : List (List UInt8)) (u : UInt8) (xs : List UInt8) (A : Option Addr) (n c : Nat) (w : World) (h : BookAt w g r i t ks) (hT : Tab w) (hb : BytesAt w A xs) (hn : xs.length = n) (hnc : n ≤ c) (hcm : c ≤ maxLen) (hnm : n ≤ 1000000)
    (hz : i.isZero = false) (hd : i.depth ≤ 1000000) (ht : t.top + 1 < 2 ^ 127) (hf : (I.eventT i t).fits = true) :
    Calls Tryd.prog 7 #[.pointer (some ⟨g, 0, none⟩), .agg #[.string ⟨#[u]⟩, .slice A n c]] w (RetAdd g r i t ks (partsF [[u], xs]) n w) := by
  obtain ⟨qi, qs, hbk, hs⟩ := h.st
  have HBK := Lib.hid h
  have HB := Lib.hid hbk
  have HT := Lib.hid hT
  have HS := Lib.hid hb
  have HN := Lib.hid (And.intro hn (And.intro hnc hcm))
  have HP := Lib.hid (And.intro hz (And.intro hd (And.intro ht hf)))
  have hgr : g < w.heap.size := h.ty.lt
  have h0w := hT.lt
  clear h hb hbk hs hz hd ht hf hT hn hnc hcm
  go_enter Tryd.func7, Tryd.ntmps7
  go_upto_region 1 with fail
  generalize hwE : w.alloc (.cells #[.string ⟨#[u]⟩, .slice A n c] 33) = wE
  have HEE : Hid (Ext w wE) := Lib.hid (by rw [← hwE]; exact (Ext.refl _).alloc _)
  have e0 : wE.cell? ⟨w.heap.size, 0, none⟩ = some (.string ⟨#[u]⟩) := by rw [← hwE]; exact new_at _ _ _ _ _ rfl
  have e1 : wE.cell? ⟨w.heap.size, 1, none⟩ = some (.slice A n c) := by rw [← hwE]; exact new_at _ _ _ _ _ rfl
  have sE : wE.heap.size = w.heap.size + 1 := by rw [← hwE]; simp
  clear hwE
  generalize hwB : wE.alloc (.cells (idA []) 27) = wB
  have HD : Hid (Bk wB (w.heap.size + 1) 32 (idF [])) := Lib.hid (by rw [← hwB, ← sE]; exact Bk.new (by decide))
  have HDT : Hid (TyB wB 27 (w.heap.size + 1)) := Lib.hid (by rw [← hwB, ← sE]; exact TyB.new _ _ _)
  have HEB : Hid (Ext wE wB) := Lib.hid (by rw [← hwB]; exact (Ext.refl _).alloc _)
  have sB : wB.heap.size = w.heap.size + 2 := by rw [← hwB]; simp; omega
  replace e0 := HEB.out.cell e0
  replace e1 := HEB.out.cell e1
  have HX0 : Hid (Ext w wB) := Lib.hid (HEE.out.trans HEB.out)
  clear hwB HEE HEB sE
  have CK := Lib.hid (check17_ok u A n c wB hnm)
  by_cases hn4 : n ≤ 4000
  · have hc : chkC n = 0 := if_pos hn4
    rw [hc] at CK
    go_wp2_with fail
    refine CK.out.mono ?_
    rintro _ w1 ⟨rfl, hE1⟩
    have HE1 := Lib.hid hE1
    obtain ⟨c3, w3, hcv, hE3, hS3⟩ := conv938 w1 [u] (by simp)
    have hcv : (convert 9 31 (.string ⟨#[u]⟩)).run Tryd.prog w1 = .ok (.slice (some ⟨w1.heap.size, 0, none⟩) 1 c3) w3 := hcv
    have HE3 := Lib.hid hE3
    have HS3 := Lib.hid hS3
    have e0' := hE1.cell e0
    have E0 := Lib.hid e0
    have E1 := Lib.hid e1
    have e1' := hE3.cell (hE1.cell e1)
    clear hE1 hE3 hS3 hc CK e0 e1
    go_wp2_with fail
    generalize hw4 : w3.alloc (.cells #[.slice (some ⟨w1.heap.size, 0, none⟩) 1 c3, .slice A n c] 31) = w4
    have HE4 : Hid (Ext wB w4) := Lib.hid (by rw [← hw4]; exact (HE1.out.trans HE3.out).alloc _)
    have HL4 : Hid (Sls w4 w3.heap.size [[u], xs]) := Lib.hid (by
      rw [← hw4]
      intro j x hj
      have hX : Ext w3 (w3.alloc (.cells #[.slice (some ⟨w1.heap.size, 0, none⟩) 1 c3, .slice A n c] 31)) := (Ext.refl _).alloc _
      rcases j with _ | _ | j
      · obtain rfl : [u] = x := by simpa using hj
        exact ⟨_, new_at _ _ _ _ _ rfl, HS3.out.ext hX⟩
      · obtain rfl : xs = x := by simpa using hj
        exact ⟨.slice A n c, new_at _ _ _ _ _ rfl, A, c, congrArg (fun m => Value.slice A m c) HN.out.1.symm, by rw [HN.out.1]; exact HN.out.2.1, HN.out.2.2, HS.out.ext ((HX0.out.trans (HE1.out.trans HE3.out)).trans hX)⟩
      · simp at hj)
    clear hw4 hcv HS3
    refine (parts_ok [[u], xs] w3.heap.size w4 HL4.out (HT.out.ext (HX0.out.trans HE4.out)) (by simp)).mono ?_
    rintro _ w5 ⟨rfl, hE5⟩
    have HE5 : Hid (Ext wB w5) := Lib.hid (HE4.out.trans hE5)
    have HKL : Hid ((partsF [[u], xs]).length = 32) := Lib.hid (partsF_len _)
    have e0 := HE5.out.cell E0.out
    have e1 := HE5.out.cell E1.out
    generalize partsF [[u], xs] = k at *
    clear hE5 HL4 e0' e1' HE4 HE3
    go_upto_region 7 with fail
    generalize hw6 : w5.alloc (.cells (idA k) 27) = w6
    have HK6 : Hid (Bk w6 w5.heap.size 32 (idF k)) := Lib.hid (by rw [← hw6]; exact Bk.new (by decide))
    have HE56 : Hid (Ext w5 w6) := Lib.hid (by rw [← hw6]; exact (Ext.refl _).alloc _)
    replace e0 := HE56.out.cell e0
    replace e1 := HE56.out.cell e1
    have s5 : w.heap.size + 2 ≤ w5.heap.size := by have := HE5.out.size; omega
    have HX6 : Hid (Ext w w6) := Lib.hid (HX0.out.trans (HE5.out.trans HE56.out))
    have HD6 : Hid (Bk w6 (w.heap.size + 1) 32 (idF [])) := Lib.hid (HD.out.ext (HE5.out.trans HE56.out))
    have HX6B : Hid (Ext wB w6) := Lib.hid (HE5.out.trans HE56.out)
    clear hw6 HE5 HE56
    have a2 := (HB.out.ext HX6.out).cell (k := 2) (by decide)
    simp only [bkF, if_false, Nat.reduceEqDiff] at a2
    have HM6 : Hid (Mk w6 r ks) := Lib.hid (HBK.out.mp.ext HX6.out)
    obtain ⟨v, ⟨vs, vA, vl, vc, rfl⟩, hlook⟩ := look_any HM6.out k HKL.out true
    have HLK := Lib.hid hlook
    have KB : Hid (∀ W, Ext w6 W → (fun w' => w'.cell? ⟨g, 2, none⟩ = some (.map (some r)) ∧ (ldS 27 (.pointer (some ⟨w5.heap.size, 0, none⟩))).run Tryd.prog w' = .ok (.agg (idA k)) w' ∧ (Instr.lookup 46 (.map (some r)) (.agg (idA k)) true).run Tryd.prog w' = .ok (.tuple #[.agg #[.string vs, .slice vA vl vc, .bool false], .bool (decide (k ∈ ks))]) w') W) := Lib.hid (fun W h => ⟨h.cell a2, (HK6.out.ext h).run_ld48, HLK.out W (h.block r HM6.out.lt)⟩)
    clear hlook a2
    refine wp_region_noPanic ?_
    refine wp_region_held_drew (S := (fun w' => w'.cell? ⟨g, 2, none⟩ = some (.map (some r)) ∧ (ldS 27 (.pointer (some ⟨w5.heap.size, 0, none⟩))).run Tryd.prog w' = .ok (.agg (idA k)) w' ∧ (Instr.lookup 46 (.map (some r)) (.agg (idA k)) true).run Tryd.prog w' = .ok (.tuple #[.agg #[.string vs, .slice vA vl vc, .bool false], .bool (decide (k ∈ ks))]) w')) (by kernel_rfl) ?_ (fun hHeld => ?_)
    · first | assumption | exact KB.out _ (by repeat (first | assumption | exact Ext.refl _ | apply Ext.alloc | apply Ext.drew | apply Ext.drewN))
    refine wpAnyH_take (i := 0) (v := ?_) (oper_at rfl) (by kernel_rfl) (by kernel_rfl) (by kernel_rfl) (fun _ _ _ h => h) (Or.inl ⟨by rfl, ?_⟩) hHeld ?_
    rotate_left
    · (intro ww hSw; (try dsimp only at hSw); go_simp; try (with_reducible rfl))
    try simp only [Act.put, List.setIfInBounds_toArray, List.set_cons_zero, List.set_cons_succ]
    refine wpAnyH_take (i := 1) (v := ?_) (oper_at rfl) (by kernel_rfl) (by kernel_rfl) (by kernel_rfl) (fun _ _ _ h => h) (Or.inl ⟨by rfl, ?_⟩) hHeld ?_
    rotate_left
    · (intro ww hSw; (try dsimp only at hSw); go_simp; try (with_reducible rfl))
    try simp only [Act.put, List.setIfInBounds_toArray, List.set_cons_zero, List.set_cons_succ]
    refine wpAnyH_take (i := 2) (v := ?_) (oper_at rfl) (by kernel_rfl) (by kernel_rfl) (by kernel_rfl) (fun _ _ _ h => h) (Or.inl ⟨by rfl, ?_⟩) hHeld ?_
    rotate_left
    · (intro ww hSw; (try dsimp only at hSw); go_simp; try (with_reducible rfl))
    try simp only [Act.put, List.setIfInBounds_toArray, List.set_cons_zero, List.set_cons_succ]
    refine wpAnyH_take (i := 3) (v := ?_) (oper_at rfl) (by kernel_rfl) (by kernel_rfl) (by kernel_rfl) (fun _ _ _ h => h) (Or.inl ⟨by rfl, ?_⟩) hHeld ?_
    rotate_left
    · (intro ww hSw; (try dsimp only at hSw); go_simp; try (with_reducible rfl))
    try simp only [Act.put, List.setIfInBounds_toArray, List.set_cons_zero, List.set_cons_succ]
    refine wpAnyH_take (i := 4) (v := ?_) (oper_at rfl) (by kernel_rfl) (by kernel_rfl) (by kernel_rfl) (fun _ _ _ h => h) (Or.inl ⟨by rfl, ?_⟩) hHeld ?_
    rotate_left
    · (intro ww hSw; (try dsimp only at hSw); go_simp; try (with_reducible rfl))
    try simp only [Act.put, List.setIfInBounds_toArray, List.set_cons_zero, List.set_cons_succ]
    refine wpAnyH_take (i := 5) (v := ?_) (oper_at rfl) (by kernel_rfl) (by kernel_rfl) (by kernel_rfl) (fun _ _ _ h => h) (Or.inl ⟨by rfl, ?_⟩) hHeld ?_
    rotate_left
    · (intro ww hSw; (try dsimp only at hSw); go_simp; try (with_reducible rfl))
    try simp only [Act.put, List.setIfInBounds_toArray, List.set_cons_zero, List.set_cons_succ]
    refine wpAnyH_take (i := 6) (v := ?_) (oper_at rfl) (by kernel_rfl) (by kernel_rfl) (by kernel_rfl) (fun _ _ _ h => h) (Or.inl ⟨by rfl, ?_⟩) hHeld ?_
    rotate_left
    · (intro ww hSw; (try dsimp only at hSw); go_simp; try (with_reducible rfl))
    try simp only [Act.put, List.setIfInBounds_toArray, List.set_cons_zero, List.set_cons_succ]
    refine wpAnyH_take (i := 7) (v := ?_) (oper_at rfl) (by kernel_rfl) (by kernel_rfl) (by kernel_rfl) (fun _ _ _ h => h) (Or.inl ⟨by rfl, ?_⟩) hHeld ?_
    rotate_left
    · (intro ww hSw; (try dsimp only at hSw); go_simp; try (with_reducible rfl))
    try simp only [Act.put, List.setIfInBounds_toArray, List.set_cons_zero, List.set_cons_succ]
    refine wpAnyH_take (i := 8) (v := ?_) (oper_at rfl) (by kernel_rfl) (by kernel_rfl) (by kernel_rfl) (fun _ _ _ h => h) (Or.inl ⟨by rfl, ?_⟩) hHeld ?_
    rotate_left
    · (intro ww hSw; (try dsimp only at hSw); go_simp; try (with_reducible rfl))
    try simp only [Act.put, List.setIfInBounds_toArray, List.set_cons_zero, List.set_cons_succ]
    refine wpAnyH_ready (rs := [9]) (by kernel_rfl) (by simp) (AllReadyH.cons (oper_at rfl) (fun K hK => ?_) AllReadyH.nil)
    go_simp
    refine hK.out _ _ ?_ (fun hHeld => ?_)
    · first | assumption | exact KB.out _ (by repeat (first | assumption | exact Ext.refl _ | apply Ext.alloc | apply Ext.drew | apply Ext.drewN))
    clear hK K
    try simp only [Act.put, List.setIfInBounds_toArray, List.set_cons_zero, List.set_cons_succ]
    refine wpAnyH_ready (rs := [10]) (by kernel_rfl) (by simp) (AllReadyH.cons (oper_at rfl) (fun K hK => ?_) AllReadyH.nil)
    go_simp
    refine hK.out _ _ ?_ (fun hHeld => ?_)
    · first | assumption | exact KB.out _ (by repeat (first | assumption | exact Ext.refl _ | apply Ext.alloc | apply Ext.drew | apply Ext.drewN))
    clear hK K
    try simp only [Act.put, List.setIfInBounds_toArray, List.set_cons_zero, List.set_cons_succ]
    refine wpAnyH_take (i := 11) (v := ?_) (oper_at rfl) (by kernel_rfl) (by kernel_rfl) (by kernel_rfl) (fun _ _ _ h => h) (Or.inl ⟨by rfl, ?_⟩) hHeld ?_
    rotate_left
    · (intro ww hSw; (try dsimp only at hSw); go_simp; try (with_reducible rfl))
    try simp only [Act.put, List.setIfInBounds_toArray, List.set_cons_zero, List.set_cons_succ]
    refine wpAnyH_done (by kernel_rfl) ?_ _
    refine NoPanic.normal ?_
    generalize hw7 : World.drew (World.alloc _ (.cells #[.string vs, .slice vA vl vc, .bool false] 53)) = w7
    have HE7 : Hid (Ext w6 w7) := Lib.hid (by rw [← hw7]; repeat (first | exact Ext.refl _ | apply Ext.alloc | apply Ext.drew))
    have HX7 : Hid (Ext w w7) := Lib.hid (HX6.out.trans HE7.out)
    clear hw7
    replace e0 := HE7.out.cell e0
    replace e1 := HE7.out.cell e1
    have HK7 : Hid (Bk w7 w5.heap.size 32 (idF k)) := Lib.hid (HK6.out.ext HE7.out)
    have HD7 : Hid (Bk w7 (w.heap.size + 1) 32 (idF [])) := Lib.hid (HD6.out.ext HE7.out)
    have HDT7 : Hid (TyB w7 27 (w.heap.size + 1)) := Lib.hid (HDT.out.ext (HX6B.out.trans HE7.out))
    have HBK7 : Hid (BookAt w7 g r i t ks) := Lib.hid (HBK.out.ext HX7.out)
    have hrl : r < w.heap.size := HBK.out.mp.lt
    have s7 : w5.heap.size < w7.heap.size := HK7.out.lt
    have l1 := HK7.out.run_ld48
    by_cases hk : k ∈ ks
    · rw [decide_eq_true hk]
      have l2 := run_st48 HD7.out k
      go_wp2_with fail
      exact bodyPost_ret (res48t Tryd.results7 (g := w.heap.size + 1) HD7.out.putAll rfl rfl) rfl ⟨k, 0, t, ks, rfl, .inr (.inl ⟨hn4, hk, rfl, rfl, rfl, rfl⟩), HBK7.out.exg (exg_setCells _ _ _ _) HDT7.out (by decide) (by decide) (by decide), (HX7.out.exc g r).setCells (Nat.le_succ _) _⟩
    · rw [decide_eq_false hk]
      have a2 := (HB.out.ext HX7.out).cell (k := 2) (by decide)
      simp only [bkF, if_false, Nat.reduceEqDiff] at a2
      have l3 := run_lenMk HBK7.out.mp
      obtain ⟨m, hm⟩ : ∃ m, ks.length = m := ⟨_, rfl⟩
      rw [hm] at l3
      by_cases h256 : 256 ≤ m
      · have q0 : (256 : Int) ≤ (m : Int) := by omega
        have l2 := run_st48 HD7.out []
        go_wp2_with fail
        exact bodyPost_ret (res48t Tryd.results7 (g := w.heap.size + 1) HD7.out.putAll rfl rfl) rfl ⟨[], 12, t, ks, rfl, .inr (.inr (.inl ⟨hn4, hk, by omega, rfl, rfl, rfl, rfl⟩)), HBK7.out.exg (exg_setCells _ _ _ _) HDT7.out (by decide) (by decide) (by decide), (HX7.out.exc g r).setCells (Nat.le_succ _) _⟩
      · have q0 : ¬ (256 : Int) ≤ (m : Int) := by omega
        go_upto_region 12 with fail
        clear l3 a2
        have KB2 : Hid (∀ W, Exc g r w7 W → (fun w' => w'.cell? ⟨w.heap.size, 0, none⟩ = some (.string ⟨#[u]⟩) ∧ w'.cell? ⟨w.heap.size, 1, none⟩ = some (.slice A n c) ∧ (ldS 27 (.pointer (some ⟨w5.heap.size, 0, none⟩))).run Tryd.prog w' = .ok (.agg (idA k)) w') W) := Lib.hid (fun W h => ⟨(cell_kept (h.block _ (by omega) (by omega) (by omega)) 0).trans e0, (cell_kept (h.block _ (by omega) (by omega) (by omega)) 1).trans e1, (HK7.out.exc h (by omega) (by omega)).run_ld48⟩)
        have HE1' := Lib.hid e1
        clear e0 e1 l1
        refine wp_region_noPanic ?_
        refine wp_region_held_drew (S := (fun w' => w'.cell? ⟨w.heap.size, 0, none⟩ = some (.string ⟨#[u]⟩) ∧ w'.cell? ⟨w.heap.size, 1, none⟩ = some (.slice A n c) ∧ (ldS 27 (.pointer (some ⟨w5.heap.size, 0, none⟩))).run Tryd.prog w' = .ok (.agg (idA k)) w')) (by kernel_rfl) ?_ (fun hHeld => ?_)
        · first | assumption | exact KB2.out _ (by first | assumption | exact ((Ext.refl _).drew).exc g r)
        refine wpAnyH_take (i := 0) (v := ?_) (oper_at rfl) (by kernel_rfl) (by kernel_rfl) (by kernel_rfl) (fun _ _ _ h => h) (Or.inl ⟨by rfl, ?_⟩) hHeld ?_
        rotate_left
        · (intro ww hSw; (try dsimp only at hSw); go_simp; try (with_reducible rfl))
        try simp only [Act.put, List.setIfInBounds_toArray, List.set_cons_zero, List.set_cons_succ]
        refine wpAnyH_take (i := 1) (v := ?_) (oper_at rfl) (by kernel_rfl) (by kernel_rfl) (by kernel_rfl) (fun _ _ _ h => h) (Or.inl ⟨by rfl, ?_⟩) hHeld ?_
        rotate_left
        · (intro ww hSw; (try dsimp only at hSw); go_simp; try (with_reducible rfl))
        try simp only [Act.put, List.setIfInBounds_toArray, List.set_cons_zero, List.set_cons_succ]
        refine wpAnyH_take (i := 2) (v := ?_) (oper_at rfl) (by kernel_rfl) (by kernel_rfl) (by kernel_rfl) (fun _ _ _ h => h) (Or.inl ⟨by rfl, ?_⟩) hHeld ?_
        rotate_left
        · (intro ww hSw; (try dsimp only at hSw); go_simp; try (with_reducible rfl))
        try simp only [Act.put, List.setIfInBounds_toArray, List.set_cons_zero, List.set_cons_succ]
        refine wpAnyH_take (i := 3) (v := ?_) (oper_at rfl) (by kernel_rfl) (by kernel_rfl) (by kernel_rfl) (fun _ _ _ h => h) (Or.inl ⟨by rfl, ?_⟩) hHeld ?_
        rotate_left
        · (intro ww hSw; (try dsimp only at hSw); go_simp; try (with_reducible rfl))
        try simp only [Act.put, List.setIfInBounds_toArray, List.set_cons_zero, List.set_cons_succ]
        refine wpAnyH_take (i := 4) (v := ?_) (oper_at rfl) (by kernel_rfl) (by kernel_rfl) (by kernel_rfl) (fun _ _ _ h => h) (Or.inl ⟨by rfl, ?_⟩) hHeld ?_
        rotate_left
        · (intro ww hSw; (try dsimp only at hSw); go_simp; try (with_reducible rfl))
        try simp only [Act.put, List.setIfInBounds_toArray, List.set_cons_zero, List.set_cons_succ]
        refine wpAnyH_take (i := 5) (v := ?_) (oper_at rfl) (by kernel_rfl) (by kernel_rfl) (by kernel_rfl) (fun _ _ _ h => h) (Or.inl ⟨by rfl, ?_⟩) hHeld ?_
        rotate_left
        · (intro ww hSw; (try dsimp only at hSw); go_simp; try (with_reducible rfl))
        try simp only [Act.put, List.setIfInBounds_toArray, List.set_cons_zero, List.set_cons_succ]
        refine wpAnyH_ready (rs := [6]) (by kernel_rfl) (by simp) (AllReadyH.cons (oper_at rfl) (fun K hK => ?_) AllReadyH.nil)
        go_simp
        go_at_call 20
        refine (clone55_any xs _ _ (show SlB w7.drew (.slice A n c) xs from ⟨A, c, congrArg (fun m => Value.slice A m c) HN.out.1.symm, by rw [HN.out.1]; exact HN.out.2.1, HN.out.2.2, HS.out.ext (HX7.out.trans ((Ext.refl _).drew))⟩) (by rw [HN.out.1]; exact hnm)).mono ?_
        rintro _ w8 ⟨_, rfl, ⟨A8, c8, rfl, h81, h82, h8b⟩, hE8⟩
        have hE78 : Ext w7 w8 := ((Ext.refl _).drew).trans hE8
        have hY8 : Exc g r w7 w8 := hE78.exc g r
        have HBK8 := Lib.hid (HBK7.out.ext hE78)
        clear h81 h82 h8b hE8 hE78
        try go_wp2_with fail
        refine hK.out _ _ ?_ (fun hHeld => ?_)
        · first | assumption | exact KB2.out _ (by first | assumption | exact ((Ext.refl _).drew).exc g r)
        clear hK K
        try simp only [Act.put, List.setIfInBounds_toArray, List.set_cons_zero, List.set_cons_succ]
        refine wpAnyH_take (i := 7) (v := ?_) (oper_at rfl) (by kernel_rfl) (by kernel_rfl) (by kernel_rfl) (fun _ _ _ h => h) (Or.inl ⟨by rfl, ?_⟩) hHeld ?_
        rotate_left
        · (intro ww hSw; (try dsimp only at hSw); go_simp; try (with_reducible rfl))
        try simp only [Act.put, List.setIfInBounds_toArray, List.set_cons_zero, List.set_cons_succ]
        refine wpAnyH_ready (rs := [8]) (by kernel_rfl) (by simp) (AllReadyH.cons (oper_at rfl) (fun K hK => ?_) AllReadyH.nil)
        go_simp
        go_at_call 19
        refine (change19_ok g r i t ks k _ A8 _ c8 w8 HBK8.out HKL.out HP.out.1 HP.out.2.1 HP.out.2.2.1 HP.out.2.2.2).mono ?_
        rintro _ w9 ⟨rfl, hB9, hX9⟩
        have hY9 : Exc g r w7 w9 := hY8.trans hX9
        have HBK9 := Lib.hid hB9
        clear hB9 hX9
        try go_wp2_with fail
        refine hK.out _ _ ?_ (fun hHeld => ?_)
        · first | assumption | exact KB2.out _ (by first | assumption | exact ((Ext.refl _).drew).exc g r)
        clear hK K
        try simp only [Act.put, List.setIfInBounds_toArray, List.set_cons_zero, List.set_cons_succ]
        refine wpAnyH_take (i := 9) (v := ?_) (oper_at rfl) (by kernel_rfl) (by kernel_rfl) (by kernel_rfl) (fun _ _ _ h => h) (Or.inl ⟨by rfl, ?_⟩) hHeld ?_
        rotate_left
        · (intro ww hSw; (try dsimp only at hSw); go_simp; try (with_reducible rfl))
        try simp only [Act.put, List.setIfInBounds_toArray, List.set_cons_zero, List.set_cons_succ]
        refine wpAnyH_done (by kernel_rfl) ?_ _
        refine NoPanic.normal ?_
        have HD9 : Hid (Bk w9 (w.heap.size + 1) 32 (idF [])) := Lib.hid (HD7.out.exc hY9 (by omega) (by omega))
        have l2 := run_st48 HD9.out k
        have l4 := (HK7.out.exc hY9 (by omega) (by omega)).run_ld48
        go_wp2_with fail
        exact bodyPost_ret (res48t Tryd.results7 (g := w.heap.size + 1) HD9.out.putAll rfl rfl) rfl ⟨k, 0, I.eventT i t, putM ks k, rfl, .inr (.inr (.inr ⟨hn4, hk, by omega, rfl, rfl, rfl, rfl⟩)), HBK9.out.exg (exg_setCells _ _ _ _) (HDT7.out.exc hY9 (by omega) (by omega)) (by decide) (by decide) (by decide), (HX7.out.then hY9).setCells (Nat.le_succ _) _⟩
  · have hc : chkC n = 3 := if_neg hn4
    rw [hc] at CK
    go_wp2_with fail
    refine CK.out.mono ?_
    rintro _ w1 ⟨rfl, hE1⟩
    have HE1 := Lib.hid hE1
    have HD1 : Hid (Bk w1 (w.heap.size + 1) 32 (idF [])) := Lib.hid (HD.out.ext hE1)
    clear hE1 hc CK
    have l2 := run_st48 HD1.out []
    go_wp2_with fail
    exact bodyPost_ret (res48t Tryd.results7 (g := w.heap.size + 1) HD1.out.putAll rfl rfl) rfl ⟨[], 3, t, ks, rfl, .inl ⟨by omega, rfl, rfl, rfl, rfl⟩, (HBK.out.ext (HX0.out.trans HE1.out)).exg (exg_setCells _ _ _ _) (HDT.out.ext HE1.out) (by decide) (by decide) (by decide), ((HX0.out.trans HE1.out).exc g r).setCells (Nat.le_succ _) _⟩
end Go.Proofs.YtjeclmmikjpinaaDoor
