/- The walk over awake. -/
import Derived.Test.YtehmpbaiefbemaaGreatN42
namespace Go.Proofs.YtehmpbaiefbemaaGreat
open Go.RowKit
attribute [local go_sem ↓] Go.wp_at_zero Go.wp_at_succ
attribute [local go_sem ↓] eq73 ld32 st32 al32
attribute [local go_sem] run_eq73 run_ld32 run_st32n run_al32 blkOf_drew blkOf_setRow_same blkOf_setRow_other NV_size blkOf_alloc blkOf_new
def rsA : List Raw := [⟨5, 0, 1, 0, 0, 2, nilS⟩, ⟨7, 2, 0, 1, 0, 0, nilS⟩]
def csA : List Ch := [((6, 0, 1, 0), 3), ((8, 2, 0, 1), 0)]
theorem chsA : chsF rsA = csA := by kernel_rfl
abbrev xA1 : St := ⟨upd Z 1 1, Z, Z, [(6, 0, 1, 0)]⟩
abbrev xA2 : St := ⟨upd (upd Z 1 1) 1 2, Z, Z, [(6, 0, 1, 0)]⟩
theorem sendA1 : sendF csA [] 0 1 2 2 St0 = (xA1, 0, [7]) := by kernel_rfl
theorem sendA2 : sendF csA [] 0 1 2 2 xA1 = (xA2, 1, [4]) := by kernel_rfl
theorem diskA : diskF csA 2 3 xA2 = (0, [1]) := by kernel_rfl
theorem bdA1 : Bd xA1 100000 := fun i => ⟨by show upd Z 1 1 i ≤ _; unfold upd; split <;> first | omega | exact Nat.zero_le _, Nat.zero_le _, Nat.zero_le _⟩
theorem bdA2 : Bd xA2 100000 := fun i => ⟨by
  show upd (upd Z 1 1) 1 2 i ≤ _
  unfold upd
  split
  · omega
  · show Z i ≤ _
    exact Nat.zero_le _, Nat.zero_le _, Nat.zero_le _⟩
theorem okA : OkL csA := by rw [← chsA]; exact (chsF_ok rsA).1
theorem bdA0 : Bd St0 100000 := fun _ => ⟨Nat.zero_le _, Nat.zero_le _, Nat.zero_le _⟩
theorem rawsA (w : World) : Raws (w.alloc (.cells #[kV 5, iV 0, iV 1, iV 0, iV 0, iV 2, nilS, kV 7, iV 2, iV 0, iV 1, iV 0, iV 0, nilS] 61)) (.slice (some ⟨w.heap.size, 0, none⟩) 2 2) rsA :=
  slC (us := rsA.map encR) rfl (Wide.map (f := encR) (fun _ => rfl) _) rfl rfl (by omega)
theorem hsNil (w : World) : HsAt w nilS [] := ⟨SlAt.nil _ _, by simp⟩
theorem argsNil (w : World) : ArgsAt w nilS [] := SlAt.nil _ _
theorem js_one {js : List Ja} {t h : Int} {xs : List Int} (e : js.map (·.1) = [t].map fun t => (t, h, xs)) : ∃ v, js = [((t, h, xs), v)] := by
  match js, e with
  | [j], e =>
    simp at e
    obtain ⟨a, v⟩ := j
    simp only [] at e
    exact ⟨v, by rw [← e]⟩
  | [], e => simp at e
  | _ :: _ :: _, e => simp at e
set_option maxRecDepth 100000 in
set_option maxHeartbeats 8000000 in
theorem awake10_any (w : World) : Calls Tryz.prog 6 #[] w (RetV (.bool true) w) := by
  have e1 : Ext w (w.alloc (.cells #[kV 5, iV 0, iV 1, iV 0, iV 0, iV 2, nilS, kV 7, iV 2, iV 0, iV 1, iV 0, iV 0, nilS] 61)) := (Ext.refl _).alloc _
  have CB : Calls Tryz.prog 5 #[.agg #[.slice (some ⟨w.heap.size, 0, none⟩) 2 2, .slice none 0 0]] (w.alloc (.cells #[.int .u8 5, iV 0, iV 1, iV 0, iV 0, iV 2, nilS, .int .u8 7, iV 2, iV 0, iV 1, iV 0, iV 0, nilS] 61)) _ := begin9_any rsA [] _ _ _ (rawsA w) (by intro r hr; simp [rsA] at hr; rcases hr with rfl | rfl <;> decide) (hsNil _)
  have HCB := Lib.hid CB
  have HE1 := Lib.hid e1
  clear CB e1
  go_enter Tryz.func6, Tryz.ntmps6
  go_wp2_with fail
  refine HCB.out.mono ?_
  rintro e2 w2 ⟨g, r, cv, hv, lv, kh, os, hs, rfl, hN, hrc, hrh, hpl, hok, hdis, hln, hg, hr, hE⟩
  rw [chsA] at hN hrc
  have h0 : hs = [] := by simpa using hln
  subst h0
  have h1 : os = [] := by simpa using hpl
  subst h1
  obtain ⟨Al, cl, rfl, -, -, -⟩ := hrc.now.read
  rw [List.length_map] at hrc ⊢
  obtain ⟨Ah, ch, rfl, -, -, -⟩ := hrh.now.sl.read
  rw [List.length_map] at hrh ⊢
  have hgw : w.heap.size ≤ g := Nat.le_trans HE1.out.size hg
  have hrw : w.heap.size ≤ r := Nat.le_trans HE1.out.size hr
  have HE2 := Lib.hid (HE1.out.trans hE)
  have HN2 := Lib.hid hN
  have hcl : csA.length = 2 := rfl
  rw [hcl]
  clear hN hrc hrh hpl hok hdis hln hE HCB
  go_upto_region 2 with fail
  generalize hw3 : (w2.alloc (.cells NV0 32)).setRow w2.heap.size _ = w3
  have hE3 : Ext w2 w3 := by rw [← hw3]; exact ((Ext.refl _).alloc _).setRow (Nat.le_refl _) _
  have d3 : blkOf w3 w2.heap.size = NV (.slice Al 2 cl) (.slice Ah 0 ch) Z Z Z nilS := by rw [← hw3]; exact blkOf_setRow_same (by rw [blkOf_new, NV_size])
  have n3 : w3.cell? ⟨w2.heap.size, 0, none⟩ = some (.slice Al 2 cl) := blkOf_cell (by rw [d3]; exact NV_0)
  have HE3 := Lib.hid (HE2.out.trans hE3)
  have HN3 := Lib.hid (HN2.out.ext hE3)
  have CS1 := Lib.hid (send12_any g r cv hv csA [] St0 0 1 5 2 2 [] nilS w3 HN3.out okA.asc (by decide) bdA0 okA.sm (by omega) (by omega) (by omega) (by omega) (fun W _ => argsNil W) (by simp))
  rw [sendA1] at CS1
  simp only [] at CS1
  clear hw3 hE3 d3 HN2 HE2
  go_wp2_with fail
  refine CS1.out.mono ?_
  rintro e4 w4 ⟨v4, js4, rfl, hj4, ha4, hN4, hE4⟩
  obtain ⟨u4, rfl⟩ := js_one hj4
  obtain ⟨A4, c4, e4, -, -⟩ := ha4.row.form
  rw [List.length_map, List.length_singleton] at e4
  subst e4
  have HN4 := Lib.hid hN4
  have HA4 := Lib.hid ha4
  have HE4 := Lib.hid hE4
  have CS2 := Lib.hid (send12_any g r cv hv csA [] xA1 0 1 5 2 2 [] nilS w4 hN4 okA.asc (by decide) bdA1 okA.sm (by omega) (by omega) (by omega) (by omega) (fun W _ => argsNil W) (by simp))
  rw [sendA2] at CS2
  simp only [] at CS2
  have hgl := HN3.out.lt
  have hrl := HN3.out.rlt
  clear hj4 hN4 ha4 hE4 CS1 n3
  go_wp2_with fail
  refine CS2.out.mono ?_
  rintro e5 w5 ⟨v5, js5, rfl, hj5, ha5, hN5, hE5⟩
  obtain ⟨u5, rfl⟩ := js_one hj5
  obtain ⟨A5, c5, e5, -, -⟩ := ha5.row.form
  rw [List.length_map, List.length_singleton] at e5
  subst e5
  have HN5 := Lib.hid hN5
  have HA5 := Lib.hid ha5
  have HA45 := Lib.hid (HA4.out.exc hE5 hgl hrl)
  have HE5 := Lib.hid (HE4.out.trans hE5)
  have CD := Lib.hid (disk24_any g r cv hv csA [] xA2 2 3 w5 hN5 (by decide) bdA2 okA.keyS)
  rw [diskA] at CD
  simp only [] at CD
  clear hj5 hN5 ha5 hE5 CS2 HA4 HE4
  go_wp2_with fail
  refine CD.out.mono ?_
  rintro e6 w6 ⟨v6, rfl, hr6, hE6⟩
  obtain ⟨A6, c6, rfl, -, -, R6⟩ := hr6.sl.read
  obtain ⟨A4', c4', e4', -, -, R4⟩ := (HA45.out.row.sl.ext hE6).read
  simp only [Value.slice.injEq] at e4'
  obtain ⟨rfl, -, rfl⟩ := e4'
  obtain ⟨A5', c5', e5', -, -, R5⟩ := (HA5.out.row.sl.ext hE6).read
  simp only [Value.slice.injEq] at e5'
  obtain ⟨rfl, -, rfl⟩ := e5'
  obtain ⟨p4, o4, rfl, hp4, q4⟩ := R4 w6 (Ext.refl _) 0 (by simp) (by omega)
  obtain ⟨p5, o5, rfl, hp5, q5⟩ := R5 w6 (Ext.refl _) 0 (by simp) (by omega)
  obtain ⟨p6, o6, rfl, hp6, q6⟩ := R6 w6 (Ext.refl _) 0 (by simp) (by omega)
  have r4 : w6.cell? ⟨p4, o4, none⟩ = some (iV 7) := by have h := q4 0 _ (by omega) rfl; (rw [Nat.zero_mul, Nat.add_zero] at h; exact h)
  have r5 : w6.cell? ⟨p5, o5, none⟩ = some (iV 4) := by have h := q5 0 _ (by omega) rfl; (rw [Nat.zero_mul, Nat.add_zero] at h; exact h)
  have r6 : w6.cell? ⟨p6, o6, none⟩ = some (iV 1) := by have h := q6 0 _ (by omega) rfl; (rw [Nat.zero_mul, Nat.add_zero] at h; exact h)
  have HE6 := Lib.hid ((HE5.out.trans (hE6.exc g r)).ext HE3.out hgw hrw)
  simp only [List.map_cons, List.map_nil, List.length_cons, List.length_nil]
  clear q4 q5 q6 R4 R5 R6 hr6 hE6 CD HA5 HA45
  go_wp2_with fail
  go_ret
  exact ⟨rfl, HE6.out⟩
end Go.Proofs.YtehmpbaiefbemaaGreat
