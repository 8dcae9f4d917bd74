/- OtsSums: of two unlike digests neither's digits are all at least the other's. Conditions: none. -/
import Derived.Test.YtcmihfanlconhacORow
import Derived.Deep.QuietTactic
import Derived.BigQuiet
namespace Go.Proofs.Ytcmihfanlconhac
open Go.RowKit
theorem dig_lt (d : UInt64) (i : Nat) (h : i < 16) : (digitsL d).getD i 0 = digit d i := by simp [digitsL, List.getD, List.getElem?_append_left, h]
theorem dig_16 (d : UInt64) : (digitsL d).getD 16 0 = sumOf d 16 / 16 := by simp [digitsL, List.getD]
theorem dig_17 (d : UInt64) : (digitsL d).getD 17 0 = sumOf d 16 % 16 := by simp [digitsL, List.getD]
theorem sum_le (a b : UInt64) : ∀ k, (∀ i, i < k → digit a i ≤ digit b i) → sumOf b k ≤ sumOf a k ∧ (sumOf b k = sumOf a k → ∀ i, i < k → digit a i = digit b i)
  | 0, _ => ⟨Nat.le_refl _, fun _ i hi => by omega⟩
  | k + 1, h => by
    obtain ⟨h1, h2⟩ := sum_le a b k (fun i hi => h i (by omega))
    have h3 := h k (by omega)
    have h4 := digit_le b k
    simp only [sumOf]
    refine ⟨by omega, fun he i hi => ?_⟩
    by_cases hik : i = k
    · subst hik; omega
    · exact h2 (by omega) i (by omega)
theorem dig_eq (a b : UInt64) (h : ∀ i, i < 16 → digit a i = digit b i) : a = b := by
  have key : ∀ j, j ≤ 15 → a.toNat / 2 ^ (60 - 4 * j) = b.toNat / 2 ^ (60 - 4 * j) := by
    intro j
    induction j with
    | zero =>
      intro _
      have h0 := h 0 (by omega)
      unfold digit at h0
      have := a.toNat_lt
      have := b.toNat_lt
      omega
    | succ j ih =>
      intro hj
      have h1 := ih (by omega)
      have h2 := h (j + 1) (by omega)
      unfold digit at h2
      have e : ∀ x : Nat, x / 2 ^ (60 - 4 * j) = x / 2 ^ (60 - 4 * (j + 1)) / 16 := fun x => by
        rw [Nat.div_div_eq_div_mul]
        congr 1
        rw [show 60 - 4 * j = (60 - 4 * (j + 1)) + 4 by omega, Nat.pow_add]
      rw [e a.toNat, e b.toNat] at h1
      omega
  have := key 15 (by omega)
  simp at this
  exact UInt64.toNat.inj this
/-- Is one of the first digits of b less than a's? -/
def upB (a b : UInt64) (k : Nat) : Bool := (List.range k).any fun i => decide ((digitsL b).getD i 0 < (digitsL a).getD i 0)
theorem upB_succ (a b : UInt64) (k : Nat) : upB a b (k + 1) = (upB a b k || decide ((digitsL b).getD k 0 < (digitsL a).getD k 0)) := by
  simp [upB, List.range_succ]
theorem upB_all (a b : UInt64) (h : a ≠ b) : upB a b 18 = true := by
  unfold upB
  rw [List.any_eq_true]
  refine Classical.byContradiction fun hn => h ?_
  have hall : ∀ i, i < 18 → (digitsL a).getD i 0 ≤ (digitsL b).getD i 0 := fun i hi => by
    refine Nat.le_of_not_lt fun hlt => hn ⟨i, by simpa using hi, by simpa using hlt⟩
  have h16 := hall 16 (by omega)
  have h17 := hall 17 (by omega)
  rw [dig_16, dig_16] at h16
  rw [dig_17, dig_17] at h17
  obtain ⟨h1, h2⟩ := sum_le a b 16 (fun i hi => by have := hall i (by omega); rw [dig_lt a i hi, dig_lt b i hi] at this; exact this)
  exact dig_eq a b (h2 (by omega))

set_option maxRecDepth 100000 in
set_option maxHeartbeats 1600000 in
theorem sums_any {w : World} (a b : UInt64) (hab : a ≠ b) : Calls Try.prog 4 #[u a, u b] w (Ret' (.bool true) fun w' => Step [] w w') := by
  have hne : ((a.toNat : Int) == (b.toNat : Int)) = false := by rw [u_eq]; simpa using hab
  go_enter Try.func4, Try.ntmps4
  go_wp2_with fail
  refine known3.mono ?_
  rintro e w1 ⟨rfl, q1⟩
  go_wp2_with fail
  refine (digits_any a).mono ?_
  rintro e w2 ⟨rfl, q2⟩
  go_wp2_with fail
  refine (digits_any b).mono ?_
  rintro e w3 ⟨rfl, q3⟩
  have st3 := (q1.trans q2).trans q3
  have hla : (ci (digitsL a)).length = 18 := by simp [ci, digitsL_len]
  have hlb : (ci (digitsL b)).length = 18 := by simp [ci, digitsL_len]
  have oa := ci_one (digitsL a)
  have ob := ci_one (digitsL b)
  clear q1 q2 q3
  generalize hxa : ci (digitsL a) = xa at *
  generalize hxb : ci (digitsL b) = xb at *
  have HA := Lib.hid hxa
  have HB := Lib.hid hxb
  clear hxa hxb
  go_wp2_with (first | (with_reducible refine Stopped.load 34 rfl ?_) | (with_reducible refine Stopped.store 34 rfl ?_))
  refine Stopped.on ?_
  have R1 := (Row.new w3 zi18 34).step ((Step.refl [] _).alloc (.cells zi18 34)) (by simp)
  have R2 := Row.new (w3.alloc (.cells zi18 34)) zi18 34
  rw [show (w3.alloc (.cells zi18 34)).heap.size = w3.heap.size + 1 by simp] at R2
  have st4 := (st3.alloc (.cells zi18 34)).alloc (.cells zi18 34)
  have hw3 := st3.size
  have lz : zi18.toList.length = 18 := rfl
  generalize hz : zi18.toList = zs at *
  clear hz
  unfold zi18 at *
  generalize ((w3.alloc (.cells _ 34)).alloc (.cells _ 34)) = w4 at *
  obtain ⟨b1, hb1⟩ : ∃ b, b = w3.heap.size := ⟨_, rfl⟩
  obtain ⟨b2, hb2⟩ : ∃ b, b = b1 + 1 := ⟨_, rfl⟩
  rw [← hb1] at R1 R2 hw3 ⊢
  rw [← hb2] at R2 ⊢
  have h12 : b1 ≠ b2 := by omega
  have h21 : b2 ≠ b1 := by omega
  have h02 : w.heap.size ≤ b2 := by omega
  clear hb1 hb2 st3
  refine wpList_storeRow rfl 34 (.tmp 5) (.tmp 16) rfl (b := b1) rfl rfl R1 hla lz (by kernel_rfl) oa ?_
  intro w5 s5 r5
  have R25 := R2.step s5 (by simpa using h21)
  have st5 := st4.grow s5 (by simp; omega)
  clear R1 R2 s5 st4
  go_wp2_with (first | (with_reducible refine Stopped.load 34 rfl ?_) | (with_reducible refine Stopped.store 34 rfl ?_))
  refine Stopped.on ?_
  refine wpList_storeRow rfl 34 (.tmp 6) (.tmp 18) rfl (b := b2) rfl rfl R25 hlb lz (by kernel_rfl) ob ?_
  intro w6 s6 r6
  have r56 := r5.step s6 (by simpa using h12)
  have st6 := st5.grow s6 (by simp; omega)
  clear R25 r5 s6 st5 oa ob
  go_wp2_with fail
  rw [← HA.out] at r56
  rw [← HB.out] at r6
  go_loopw [7, 8, 9] (fun s7 s8 s9 wr => ∃ k : Nat, k ≤ 18 ∧ s7 = .bool (upB a b k) ∧ s8 = .bool (upB b a k) ∧ s9 = .int .i64 k ∧ Row wr b1 (ci (digitsL a)) ∧ Row wr b2 (ci (digitsL b)) ∧ Step [] w wr) (fun _ _ s9 _ => 18 - (intOf s9).toNat)
  case atStart => exact ⟨0, by omega, rfl, rfl, rfl, r56, r6, st6⟩
  case round =>
    obtain ⟨k, hk, rfl, rfl, rfl, ra, rb, hst⟩ := hrel
    clear r56 r6 st6
    by_cases hlt : k < 18
    · have da := ra.cell (ci_get (digitsL a) k (by rw [digitsL_len]; exact hlt))
      have db := rb.cell (ci_get (digitsL b) k (by rw [digitsL_len]; exact hlt))
      have ha := digitsL_le a k
      have hb := digitsL_le b k
      have HU : Hid (upB a b (k + 1) = (upB a b k || decide ((digitsL b).getD k 0 < (digitsL a).getD k 0))) := upB_succ a b k
      have HV : Hid (upB b a (k + 1) = (upB b a k || decide ((digitsL a).getD k 0 < (digitsL b).getD k 0))) := upB_succ b a k
      generalize (digitsL a).getD k 0 = x at *
      generalize (digitsL b).getD k 0 = y at *
      generalize upB a b k = p at *
      generalize upB b a k = q at *
      clear hne
      have h0 : (decide ((x : Int) < 0)) = false := decide_eq_false (by omega)
      have h15 : (decide ((15 : Int) < x)) = false := decide_eq_false (by omega)
      have hx0 : (0 : Int) ≤ x := by omega
      by_cases hxy : y < x
      · have t3 : decide (y < x) = true := decide_eq_true (by omega)
        have t4 : decide (x < y) = false := decide_eq_false (by omega)
        have g3 := t3
        have g4 := t4
        rw [g3] at HU
        rw [g4] at HV
        clear g3 g4 hxy
        try clear hyx
        cases p <;> cases q
        all_goals
          go_wp2_with fail
          go_quiet (fail)
          go_wp2_with fail
          go_quiet (fail)
          go_wp2_with fail
          go_roundw
          case rel => exact ⟨k + 1, by omega, by rw [HU.out]; first | rfl | simp, by rw [HV.out]; first | rfl | simp, by go_num, ra, rb, hst.drewN _⟩
          case measure => simp [intOf]; omega
      · by_cases hyx : x < y
        · have t3 : decide (y < x) = false := decide_eq_false (by omega)
          have t4 : decide (x < y) = true := decide_eq_true (by omega)
          have g3 := t3
          have g4 := t4
          rw [g3] at HU
          rw [g4] at HV
          clear g3 g4 hxy
          try clear hyx
          cases p <;> cases q
          all_goals
            go_wp2_with fail
            go_quiet (fail)
            go_wp2_with fail
            go_quiet (fail)
            go_wp2_with fail
            go_roundw
            case rel => exact ⟨k + 1, by omega, by rw [HU.out]; first | rfl | simp, by rw [HV.out]; first | rfl | simp, by go_num, ra, rb, hst.drewN _⟩
            case measure => simp [intOf]; omega
        · have t3 : decide (y < x) = false := decide_eq_false (by omega)
          have t4 : decide (x < y) = false := decide_eq_false (by omega)
          have g3 := t3
          have g4 := t4
          rw [g3] at HU
          rw [g4] at HV
          clear g3 g4 hxy
          try clear hyx
          cases p <;> cases q
          all_goals
            go_wp2_with fail
            go_quiet (fail)
            go_wp2_with fail
            go_quiet (fail)
            go_wp2_with fail
            go_roundw
            case rel => exact ⟨k + 1, by omega, by rw [HU.out]; first | rfl | simp, by rw [HV.out]; first | rfl | simp, by go_num, ra, rb, hst.drewN _⟩
            case measure => simp [intOf]; omega
    · obtain rfl : k = 18 := by omega
      have u1 := upB_all a b hab
      have u2 := upB_all b a (Ne.symm hab)
      clear ra rb hne
      go_wp2_with fail
      go_ret
      exact ⟨rfl, hst⟩
/-- .. in the form that the row asks. -/
theorem sums_row (w : World) (a : Int) (ha : IntKind.u64.min ≤ a ∧ a ≤ IntKind.u64.max) (b : Int) (hb : IntKind.u64.min ≤ b ∧ b ≤ IntKind.u64.max) :
    Calls Try.prog 4 #[.int .u64 a, .int .u64 b] w (Ret' (.bool true) fun w' => Step [] w w') := by
  obtain ⟨x, rfl⟩ := of_u64 ha
  obtain ⟨y, rfl⟩ := of_u64 hb
  by_cases hxy : x = y
  · subst hxy
    have heq : ((x.toNat : Int) == (x.toNat : Int)) = true := by simp
    go_enter Try.func4, Try.ntmps4
    go_wp2_with fail
    refine known3.mono ?_
    rintro e w1 ⟨rfl, q1⟩
    go_wp2_with fail
    go_ret
    exact ⟨rfl, q1⟩
  · exact sums_any x y hxy
end Go.Proofs.Ytcmihfanlconhac
