/- The walk over ItcPlays. -/
import Derived.Test.YthnmhdabdiennaaDoorR23
namespace Go.Proofs.YthnmhdabdiennaaDoor
open Go.RowKit
attribute [local go_sem ↓] Go.wp_at_zero Go.wp_at_succ
set_option maxRecDepth 100000 in
set_option maxHeartbeats 4000000 in
theorem plays_law (A : Option Addr) (n c : Nat) (w : World) (hn : n ≤ 9223372036854775807) (hA : ActsAt w A n) : Calls Tryd.prog 3 #[.slice A n c] w (RetB true w) := by
  have PL := Lib.hid (play_any A n c w hn hA)
  clear hA
  go_enter Tryd.func3, Tryd.ntmps3
  go_wp2_with fail
  refine PL.out.mono ?_
  rintro e1 w1 ⟨v, zs, rfl, hP, -, h0, hl, hE1⟩
  obtain ⟨⟨B, c', rfl, -, -, -⟩, -⟩ := hP
  go_wp2_with fail
  refine (awake_any w1).mono ?_
  rintro e2 w2 ⟨rfl, hE2⟩
  go_wp2_with fail
  go_ret
  exact ⟨rfl, hE1.trans hE2⟩
end Go.Proofs.YthnmhdabdiennaaDoor
