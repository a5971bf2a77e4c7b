/- SortedFunc at the digests of a map; List. -/
import Derived.Test.YtjeclmmikjpinaaDoorC11
import Derived.Test.YtjeclmmikjpinaaDoorC10
import Derived.Test.YtjeclmmikjpinaaDoorN4
import Derived.Test.YtjeclmmikjpinaaDoorShelf
namespace Go.Proofs.YtjeclmmikjpinaaDoor
open Go.RowKit Go.Shelf Go.Sort
open I (IdT EvT)
attribute [local go_sem ↓] Go.wp_at_zero Go.wp_at_succ
attribute [local go_sem ↓] ld48 st48 al48 bu48
attribute [local go_sem] run_al48 run_bu48 run_st48n
theorem nodup_len {α : Type} [BEq α] [LawfulBEq α] : ∀ (us ks : List α), us.Nodup → (∀ k ∈ us, k ∈ ks) → us.length ≤ ks.length
  | [], _, _, _ => Nat.zero_le _
  | a :: us, ks, h, hs => by
    rw [List.nodup_cons] at h
    have h1 := hs a (by simp)
    have h2 := nodup_len us (ks.erase a) h.2 (fun k hk => by
      refine (List.mem_erase_of_ne ?_).2 (hs k (by simp [hk]))
      rintro rfl
      exact h.1 hk)
    rw [List.length_erase_of_mem h1] at h2
    have := List.length_pos_of_mem h1
    rw [List.length_cons]
    omega
instance : Inhabited Dg := ⟨⟨List.replicate 32 0, rfl⟩⟩
def encD (x : Dg) : List Value := idC x.1
theorem encD_len (x : Dg) : (encD x).length = 32 := idC_len x.1
theorem encD_one (x : Dg) : ∀ v ∈ encD x, v.oneCell' = true := one_id x.1
def cfD (x y : Dg) : Int := cmpS x.1 y.1
theorem cfD_lt {p q : Dg} : ltOf cfD p q = true ↔ p.1 < q.1 := by
  unfold ltOf cfD
  rw [decide_eq_true_iff]
  exact cmpS_neg
theorem cfD_swo : SWO (ltOf cfD) where
  irrefl x := by rw [Bool.eq_false_iff, ne_eq, cfD_lt]; exact slt_irrefl _
  trans x y z h k := by rw [cfD_lt] at *; exact slt_trans h k
  ntrans x y z h k := by
    rw [Bool.eq_false_iff, ne_eq, cfD_lt] at *
    intro hxz
    rcases slt_tri x.1 y.1 with h1 | h1 | h1
    · exact h h1
    · exact k (h1 ▸ hxz)
    · exact k (slt_trans h1 hxz)
theorem Tryd.isAgg27 (w : World) : (isAgg 27).run Tryd.prog w = .ok true w := by go_simp
theorem Tryd.sizeOf27 (w : World) : (Go.sizeOf 27).run Tryd.prog w = .ok 32 w := by kernel_rfl
theorem cmp25_enc (p q : Dg) (w : World) : Calls Tryd.prog 28 #[.agg (encD p).toArray, .agg (encD q).toArray] w (RetG (cfD p q) w) := cmp25_ok p.1 q.1 p.2 q.2 w
/-- The digests ascending, in an own row. -/
def RetLs (us : List (List UInt8)) (w : World) (e : Ending) (w' : World) : Prop := ∃ (v : Value) (ss : List (List UInt8)), e = .returned v ∧ Row 32 w' w.heap.size 27 v (ss.map idC) ∧ ss.Pairwise (· < ·) ∧ (∀ x, x ∈ ss ↔ x ∈ us) ∧ Ext w w'
theorem asc_of {ss : List Dg} (h : ss.Pairwise (fun x y => ltOf cfD y x = false)) (hn : (ss.map (·.1)).Nodup) : (ss.map (·.1)).Pairwise (· < ·) := by
  rw [List.pairwise_map]
  rw [List.nodup_iff_pairwise_ne, List.pairwise_map] at hn
  refine (h.and hn).imp ?_
  rintro a b ⟨h1, h2⟩
  rcases slt_tri a.1 b.1 with h3 | h3 | h3
  · exact h3
  · exact absurd h3 h2
  · rw [cfD_lt.2 h3] at h1
    cases h1
set_option maxRecDepth 100000 in
set_option maxHeartbeats 1000000 in
theorem sorted23_ok (Bm b : Nat) (us : List (List UInt8)) (hus : us.length ≤ 100000) (w : World) (hm : w.cell? ⟨Bm, 0, none⟩ = some (.map (some b))) (hown : Mk w b us) :
    Calls Tryd.prog 26 #[.func (.func 44) #[] #[.pointer (some ⟨Bm, 0, none⟩)], .func (.func 28) #[] #[]] w (RetLs us w) := by
  have C1 := Lib.hid (collect47_ok Bm b us (by omega) w hm hown)
  have HN := Lib.hid hown.nodup
  clear hm hown
  go_enter Tryd.func26, Tryd.ntmps26
  go_wp2_with fail
  refine C1.out.mono ?_
  rintro _ w1 ⟨v, ss, rfl, hr, hnd, hmem, hE⟩
  have hlen : ss.length ≤ us.length := by
    have h1 := nodup_len _ _ hnd (fun x hx => (hmem x).1 hx)
    rwa [List.length_map] at h1
  have CS := Lib.hid (sort_row Tryd.laysId 32 (by decide) Tryd.isAgg27 Tryd.sizeOf27 encD encD_len encD_one cfD cfD_swo 28 (enters_of Tryd.func28 (by kernel_rfl) rfl) ss w1 w w.heap.size 27 v hr hE (Nat.le_refl _) (fun W x y _ _ => cmp25_enc x y W) (by omega))
  have HND := Lib.hid hnd
  have HM := Lib.hid hmem
  clear hr hnd hmem hE hlen hus
  go_wp2_with fail
  refine CS.out.mono ?_
  rintro _ w2 ⟨rfl, hE2, -, l', hp, hs, hr2⟩
  go_wp2_with fail
  go_ret
  refine ⟨v, l'.map (·.1), rfl, by rw [List.map_map]; exact hr2, asc_of hs ((hp.map _).nodup_iff.2 HND.out), fun x => ?_, hE2⟩
  rw [(hp.map _).mem_iff]
  exact HM.out x
end Go.Proofs.YtjeclmmikjpinaaDoor
