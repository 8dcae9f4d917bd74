/- ClockEnds: the walk. Conditions: none. -/
import Derived.Test.YtcmihfanlconhaaKn
import Derived.Test.YtcmihfanlconhaaRowl
import Derived.Deep.LoopGhost
namespace Go.Proofs.Ytcmihfanlconhaa
open Go.RowKit

set_option maxRecDepth 100000 in
set_option maxHeartbeats 1600000 in
theorem ends_law (w : World) (a : Int) (ha : IntKind.u8.min ≤ a ∧ a ≤ IntKind.u8.max) (ao : Option Addr) (n cap : Nat) (f : Nat → Int) (hn : n ≤ maxLen) (hf : ∀ i, i < n → IntKind.u8.min ≤ f i ∧ f i ≤ IntKind.u8.max)
    (hs : SlA w ao n 1 (fun i _ => .int .u8 (f i))) : Calls Try.prog 5 #[.int .u8 a, .slice ao n cap] w (Ret (.bool true) fun w' => Step [] w w') := by
  have ha0 : 0 ≤ a := ha.1
  have ha1 : a ≤ 255 := ha.2
  unfold maxLen at hn
  clear ha
  by_cases hlen : 40 < n
  · go_enter Try.func5, Try.ntmps5
    go_wp2_with (go_at_call 9; refine (known_any _).mono ?_; rintro e w1 ⟨rfl, s1⟩)
    go_ret
    exact ⟨rfl, s1⟩
  have hlen' : n ≤ 40 := by omega
  clear hlen
  go_enter Try.func5, Try.ntmps5
  go_wp2_with fail
  refine (known_any _).mono ?_
  rintro e w1 ⟨rfl, s1⟩
  go_wp2_with fail
  refine (new_ok _ (by omega) (by omega) _).mono ?_
  rintro e w2 ⟨rfl, s2, c2⟩
  have hb : w.heap.size ≤ w1.heap.size := s1.size
  have hinc : Step [] w w2 := s1.trans s2
  clear s1 s2
  generalize w1.heap.size = b at *
  have st0 : 0 ≤ 1099511627776 - a % 8 := by omega
  have st1 : 1099511627776 - a % 8 ≤ 1099511627776 := by omega
  generalize 1099511627776 - a % 8 = st at *
  go_wp2_with fail
  go_loopw [8] (fun i wr => ∃ (k : Nat) (now floor : Int), k ≤ n ∧ i = .int .i64 k ∧ 0 ≤ now ∧ now ≤ 1099511627776 ∧ 0 ≤ floor ∧ floor ≤ 1099511627776 ∧ Clk wr b now floor ∧ Step [] w wr) (fun i _ => n - (intOf i).toNat)
  case atStart => exact ⟨0, st, 0, Nat.zero_le _, rfl, st0, st1, by omega, by omega, c2, hinc⟩
  case round =>
    obtain ⟨k, now, floor, hk, rfl, hn0, hn1, hf0, hf1, hc, hst⟩ := hrel
    clear c2 hinc st0 st1
    by_cases hlt : k < n
    · obtain ⟨b', off, rfl, hcell⟩ := hs (by omega)
      have hck0 := hcell k hlt 0 (by omega)
      have hu0 : 0 ≤ f k := (hf k hlt).1
      have hu1 : f k ≤ 255 := (hf k hlt).2
      rw [show k * 1 + 0 = k by omega] at hck0
      have hck : wr.cell? ⟨b', off + k, none⟩ = some (.int .u8 (f k)) := hst.cell hck0 (by simp)
      clear hs hcell hck0 hf
      have h2 : f k % 2 = 0 ∨ f k % 2 = 1 := by omega
      rcases h2 with h2 | h2
      · have hT : (f k % 2 == 0) = true := by simp [h2]
        clear h2
        have b0 : 0 ≤ f k / 2 % 5 := by omega
        have b1 : f k / 2 % 5 ≤ 4 := by omega
        go_wp2_with fail
        refine (now_any hc).mono ?_
        rintro e w3 ⟨rfl, rfl⟩
        go_wp2_with fail
        by_cases hle : now + f k / 2 % 5 ≤ 1099511627776
        · refine (tick_ok hc _ (by omega) (by omega) (by omega) (by omega)).mono ?_
          rintro e w4 ⟨rfl, s4, c4⟩
          go_wp2_with fail
          go_roundw
          case rel => exact ⟨k + 1, _, _, by omega, by go_num, by omega, by omega, by omega, by omega, c4, (hst.weaken (by simp)).trans s4 |>.fresh (by simp [hb])⟩
          case measure => simp [intOf]; omega
        · refine (tick_no hc _ (by omega) (by omega) (by omega)).mono ?_
          rintro e w4 ⟨rfl, rfl⟩
          go_wp2_with (go_at_call 19; refine (now_any hc).mono ?_; rintro e w' ⟨rfl, rfl⟩)
          go_roundw
          case rel => exact ⟨k + 1, _, _, by omega, by go_num, hn0, hn1, hf0, hf1, hc, hst⟩
          case measure => simp [intOf]; omega
      · have hT : (f k % 2 == 0) = false := by simp [h2]
        clear h2
        go_wp2_with fail
        refine (floor_any hc).mono ?_
        rintro e w3 ⟨rfl, rfl⟩
        go_wp2_with fail
        by_cases hle : floor < 1099511627776
        · refine (issue_ok hc (by omega) (by omega)).mono ?_
          rintro e w4 ⟨rfl, s4, c4⟩
          have x0 : floor < mxi now (floor + 1) := by unfold mxi; split <;> omega
          have x1 : mxi now (floor + 1) ≤ 1099511627776 := by unfold mxi; split <;> omega
          generalize mxi now (floor + 1) = x at *
          go_wp2_with fail
          go_roundw
          case rel => exact ⟨k + 1, _, _, by omega, by go_num, hn0, hn1, by omega, by omega, c4, (hst.weaken (by simp)).trans s4 |>.fresh (by simp [hb])⟩
          case measure => simp [intOf]; omega
        · refine (issue_no hc (by omega)).mono ?_
          rintro e w4 ⟨rfl, rfl⟩
          go_wp2_with (go_at_call 20; refine (floor_any hc).mono ?_; rintro e w' ⟨rfl, rfl⟩)
          go_roundw
          case rel => exact ⟨k + 1, _, _, by omega, by go_num, hn0, hn1, hf0, hf1, hc, hst⟩
          case measure => simp [intOf]; omega
    · clear hs hf
      go_wp2_with (first
        | (go_at_call 19; refine (now_any hc).mono ?_; rintro e w' ⟨rfl, rfl⟩)
        | (go_at_call 20; refine (floor_any hc).mono ?_; rintro e w' ⟨rfl, rfl⟩))
      go_ret
      exact ⟨rfl, hst⟩
end Go.Proofs.Ytcmihfanlconhaa
