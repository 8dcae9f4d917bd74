/- ClockRises: the walk. Conditions: none. -/
import Derived.Test.YtcmihfanlconhaaKn
import Derived.Test.YtcmihfanlconhaaRowl
import Derived.Deep.LoopGhost
namespace Go.Proofs.Ytcmihfanlconhaa
open Go.RowKit

/-- A slice of n integers, as the law reads it. -/
def SlI (k : IntKind) (w : World) (ao : Option Addr) (n : Nat) (f : Nat → Int) : Prop :=
  0 < n → ∃ b off, ao = some ⟨b, off, none⟩ ∧ ∀ i, i < n → w.cell? ⟨b, off + i, none⟩ = some (.int k (f i)) ∧ k.min ≤ f i ∧ f i ≤ k.max

theorem SlA.ints {k : IntKind} {w : World} {ao : Option Addr} {n : Nat} {f : Nat → Int} (h : SlA w ao n 1 (fun i _ => .int k (f i))) (hf : ∀ i, i < n → k.min ≤ f i ∧ f i ≤ k.max) : SlI k w ao n f := fun hn => by
  obtain ⟨b, off, rfl, hx⟩ := h hn
  exact ⟨b, off, rfl, fun i hi => ⟨by have := hx i hi 0 (by omega); simpa using this, hf i hi⟩⟩

theorem third {x : Int} (h0 : 0 ≤ x) (h1 : x ≤ 65535) : IntKind.u16.wrap (x.tdiv 3) = x / 3 := by
  rw [Int.tdiv_eq_ediv_of_nonneg h0]
  simp only [IntKind.wrap_u16]
  omega
theorem third64 {x : Int} (h0 : 0 ≤ x) (h1 : x ≤ 65535) : wrap64 (x / 3) = x / 3 := by
  unfold wrap64
  omega

set_option maxRecDepth 100000 in
set_option maxHeartbeats 1600000 in
theorem rises_walk (a : Int) (ha0 : 0 ≤ a) (ha1 : a ≤ 65535) (ao : Option Addr) (n cap : Nat) (f : Nat → Int) (w : World) (hn : n ≤ 9223372036854775807) (hl : SlI .u16 w ao n f) :
    Calls Try.prog 4 #[.int .u16 a, .slice ao n cap] w (Ret (.bool true) fun w' => Step [] w w') := by
  by_cases hlen : 100 < n
  · go_enter Try.func4, Try.ntmps4
    go_wp2_with (go_at_call 9; refine (known_any _).mono ?_; rintro e w1 ⟨rfl, s1⟩)
    go_ret
    exact ⟨rfl, s1⟩
  have hlen' : n ≤ 100 := by omega
  clear hlen
  go_enter Try.func4, Try.ntmps4
  go_wp2_with fail
  refine (known_any _).mono ?_
  rintro e w1 ⟨rfl, s1⟩
  go_wp2_with fail
  refine (new_ok _ (by omega) (by omega) _).mono ?_
  rintro e w2 ⟨rfl, s2, c2⟩
  have hb : w.heap.size ≤ w1.heap.size := s1.size
  generalize w1.heap.size = b at *
  go_wp2_with fail
  have hs0 : Step [b] w2 w2 := Step.refl _ _
  have hinc : Step [] w w2 := s1.trans s2
  clear s1 s2
  go_loopw [7, 8] (fun last i wr => ∃ (k : Nat) (la now floor : Int), k ≤ n ∧ i = .int .i64 k ∧ last = .int .i64 la ∧ la ≤ floor ∧ 0 ≤ now ∧ now ≤ 70000 + 30000 * k ∧ 0 ≤ floor ∧ floor ≤ 70000 + 30000 * k ∧ Clk wr b now floor ∧ Step [b] w2 wr) (fun _ i _ => n - (intOf i).toNat)
  case atStart => exact ⟨0, 0, a, 0, Nat.zero_le _, rfl, rfl, by omega, by omega, by omega, by omega, by omega, c2, hs0⟩
  case round =>
    obtain ⟨k, la, now, floor, hk, rfl, rfl, hla, hn0, hn1, hf0, hf1, hc, hst⟩ := hrel
    clear c2 hs0
    by_cases hlt : k < n
    · obtain ⟨b', off, rfl, hcell⟩ := hl (by omega)
      obtain ⟨hck0, hw0, hw1⟩ := hcell k hlt
      have hbb : b' < w.heap.size := World.block_lt_of_cell? w ⟨b', off + k, none⟩ hck0
      have hck : wr.cell? ⟨b', off + k, none⟩ = some (.int .u16 (f k)) := hst.cell (hinc.cell hck0 (by simp)) (by simp; omega)
      have hu0 : 0 ≤ f k := hw0
      have hu1 : f k ≤ 65535 := hw1
      clear hl hcell hck0 hw0 hw1
      have h3 : f k % 3 = 0 ∨ f k % 3 = 1 ∨ f k % 3 = 2 := by omega
      rcases h3 with h3 | h3 | h3
      · have hT : (f k % 3 == 0) = true := by simp [h3]
        clear h3
        go_wp2_with fail
        rw [third hu0 hu1, third64 hu0 hu1]
        refine (tick_ok hc _ (by omega) (by omega) (by omega) (by omega)).mono ?_
        rintro e w3 ⟨rfl, s3, c3⟩
        rcases Int.lt_or_le (now + f k / 3) (floor + 1) with hm | hm
        all_goals
          go_wp2_with fail
          refine (floor_any c3).mono ?_
          rintro e w3' ⟨rfl, rfl⟩
          go_wp2_with fail
          refine (issue_ok c3 (by omega) (by omega)).mono ?_
          rintro e w4 ⟨rfl, s4, c4⟩
          first | rw [mxi_lt hm] at * | rw [mxi_ge hm] at *
          go_wp2_with (first
            | (go_at_call 19; refine (now_any c4).mono ?_; rintro e w' ⟨rfl, rfl⟩)
            | (go_at_call 20; refine (floor_any c4).mono ?_; rintro e w' ⟨rfl, rfl⟩))
          go_roundw
          case rel => exact ⟨k + 1, _, _, _, by omega, by go_num, rfl, Int.le_refl _, by omega, by omega, by omega, by omega, c4, hst.trans (s3.trans s4)⟩
          case measure => simp [intOf]; omega
      · have hT : (f k % 3 == 0) = false := by simp [h3]
        have hT' : (f k % 3 == 1) = true := by simp [h3]
        clear h3
        have e3 := third hu0 hu1
        have e64 := third64 hu0 hu1
        have e65 : IntKind.i64.wrap (f k / 3) = f k / 3 := IntWalk.i64_in _ (by omega)
        rcases Int.lt_or_le floor (f k / 3) with hm | hm
        · have hd : decide (floor < f k / 3) = true := decide_eq_true hm
          have hx : mxi floor (f k / 3) = f k / 3 := mxi_lt hm
          go_wp2_with fail
          refine (floor_any hc).mono ?_
          rintro e w3' ⟨rfl, rfl⟩
          go_wp2_with fail
          go_region_held3 (fun w' => w'.cell? ⟨b', off + k, none⟩ = some (.int .u16 (f k))) (first | go_keep | exact s3.cell hck (by simp; omega)) ((first
            | (go_at_call 17; refine (raise_any hc.drew _).mono ?_; rintro e w3 ⟨rfl, s3, c3⟩)
            | (go_at_call 20; refine (floor_any c3).mono ?_; rintro e w' ⟨rfl, rfl⟩)))
          all_goals try (exfalso; omega)
          all_goals
            rw [hx] at c3
            clear hx hd e3 e64 e65 hT hT'
            go_wp2_with fail
            go_roundw
            case rel => exact ⟨k + 1, _, _, _, by omega, by go_num, rfl, by omega, by omega, by omega, by omega, by omega, c3, hst.trans (s3.drew_left)⟩
            case measure => simp [intOf]; omega
        · have hd : decide (floor < f k / 3) = false := decide_eq_false (by omega)
          have hx : mxi floor (f k / 3) = floor := mxi_ge hm
          go_wp2_with fail
          refine (floor_any hc).mono ?_
          rintro e w3' ⟨rfl, rfl⟩
          go_wp2_with fail
          go_region_held3 (fun w' => w'.cell? ⟨b', off + k, none⟩ = some (.int .u16 (f k))) (first | go_keep | exact s3.cell hck (by simp; omega)) ((first
            | (go_at_call 17; refine (raise_any hc.drew _).mono ?_; rintro e w3 ⟨rfl, s3, c3⟩)
            | (go_at_call 20; refine (floor_any c3).mono ?_; rintro e w' ⟨rfl, rfl⟩)))
          all_goals try (exfalso; omega)
          all_goals
            rw [hx] at c3
            clear hx hd e3 e64 e65 hT hT'
            go_wp2_with fail
            go_roundw
            case rel => exact ⟨k + 1, _, _, _, by omega, by go_num, rfl, by omega, by omega, by omega, by omega, by omega, c3, hst.trans (s3.drew_left)⟩
            case measure => simp [intOf]; omega
      · have hT : (f k % 3 == 0) = false := by simp [h3]
        have hT' : (f k % 3 == 1) = false := by simp [h3]
        clear h3
        rcases Int.lt_or_le now (floor + 1) with hm | hm
        all_goals
          go_wp2_with fail
          refine (floor_any hc).mono ?_
          rintro e w3' ⟨rfl, rfl⟩
          go_wp2_with fail
          refine (issue_ok hc (by omega) (by omega)).mono ?_
          rintro e w4 ⟨rfl, s4, c4⟩
          first | rw [mxi_lt hm] at * | rw [mxi_ge hm] at *
          go_wp2_with (first
            | (go_at_call 19; refine (now_any c4).mono ?_; rintro e w' ⟨rfl, rfl⟩)
            | (go_at_call 20; refine (floor_any c4).mono ?_; rintro e w' ⟨rfl, rfl⟩))
          go_roundw
          case rel => exact ⟨k + 1, _, _, _, by omega, by go_num, rfl, Int.le_refl _, by omega, by omega, by omega, by omega, c4, hst.trans s4⟩
          case measure => simp [intOf]; omega
    · clear hl
      go_wp2_with fail
      go_ret
      exact ⟨rfl, (hinc.weaken (by simp)).trans hst |>.fresh (by simp [hb])⟩

theorem rises_law (w : World) (a : Int) (ha : IntKind.u16.min ≤ a ∧ a ≤ IntKind.u16.max) (ao : Option Addr) (n cap : Nat) (f : Nat → Int) (hn : n ≤ maxLen) (hf : ∀ i, i < n → IntKind.u16.min ≤ f i ∧ f i ≤ IntKind.u16.max)
    (hs : SlA w ao n 1 (fun i _ => .int .u16 (f i))) : Calls Try.prog 4 #[.int .u16 a, .slice ao n cap] w (Ret (.bool true) fun w' => Step [] w w') :=
  rises_walk a ha.1 ha.2 ao n cap f w hn (hs.ints hf)
end Go.Proofs.Ytcmihfanlconhaa
