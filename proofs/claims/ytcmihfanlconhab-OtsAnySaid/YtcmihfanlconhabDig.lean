/- Signed once: digits. Conditions: none. -/
import Derived.Test.YtcmihfanlconhabOts
namespace Go.Proofs.Ytcmihfanlconhab
open Go.RowKit
/-- A digest's digit. -/
def digit (d : UInt64) (i : Nat) : Nat := d.toNat / 2 ^ (60 - 4 * i) % 16
def sumOf (d : UInt64) : Nat → Nat
  | 0 => 0
  | k + 1 => sumOf d k + 15 - digit d k
def digitsL (d : UInt64) : List Nat := (List.range 16).map (digit d) ++ [sumOf d 16 / 16, sumOf d 16 % 16]

theorem dig1_any {w : World} (n x : Int) (h0 : 0 ≤ n) (h1 : n ≤ 10000) (h2 : 0 ≤ x) (h3 : x ≤ 15) : Calls Try.prog 59 #[.int .i64 n, .int .i64 x] w fun e w' => e = .returned (.int .i64 (n + 15 - x)) ∧ w = w' := by
  go_enter Try.func59, Try.ntmps59
  go_wp2_with fail
  go_ret
  exact ⟨rfl, rfl⟩

def i18 : Array Value := #[.int .i64 0, .int .i64 0, .int .i64 0, .int .i64 0, .int .i64 0, .int .i64 0, .int .i64 0, .int .i64 0, .int .i64 0, .int .i64 0, .int .i64 0, .int .i64 0, .int .i64 0, .int .i64 0, .int .i64 0, .int .i64 0, .int .i64 0, .int .i64 0]
theorem digit_le (d : UInt64) (i : Nat) : digit d i ≤ 15 := by unfold digit; omega
theorem sumOf_le (d : UInt64) : ∀ k, sumOf d k ≤ 15 * k
  | 0 => by simp [sumOf]
  | k + 1 => by have := sumOf_le d k; simp only [sumOf]; omega
/-- The row behind so many digits. -/
def digR (d : UInt64) (k : Nat) : List Value := ci ((List.range k).map (digit d)) ++ List.replicate (18 - k) (.int .i64 0)
theorem digR_len (d : UInt64) (k : Nat) (hk : k ≤ 18) : (digR d k).length = 18 := by simp [digR, ci]; omega
theorem digR_set (d : UInt64) (k : Nat) (hk : k < 18) : (digR d k).set k (.int .i64 ((digit d k : Nat) : Int)) = digR d (k + 1) := by
  have h1 : (ci ((List.range k).map (digit d))).length = k := by simp [ci]
  unfold digR
  rw [List.set_append_right _ _ (by omega), h1, Nat.sub_self, show 18 - k = (18 - (k + 1)) + 1 by omega, List.replicate_succ, List.set_cons_zero, List.range_succ]
  simp [ci]
theorem digR_get (d : UInt64) (k i : Nat) (hi : i < k) : (digR d k)[i]? = some (.int .i64 ((digit d i : Nat) : Int)) := by
  unfold digR
  rw [List.getElem?_append_left (by simp [ci]; omega)]
  simp [ci, hi]
theorem digR_zero (d : UInt64) (k i : Nat) (hk : k ≤ i) (hi : i < 18) : (digR d k)[i]? = some (.int .i64 0) := by
  unfold digR
  rw [List.getElem?_append_right (by simp [ci]; omega), List.getElem?_replicate, if_pos (by simp [ci]; omega)]
theorem digR_end (d : UInt64) : ((digR d 16).set 16 (.int .i64 (((sumOf d 16 : Nat) : Int) / 16))).set 17 (.int .i64 (((sumOf d 16 : Nat) : Int) % 16)) = ci (digitsL d) := by
  unfold digR digitsL
  simp [ci, List.range_succ, List.replicate_succ]
theorem ci_one (xs : List Nat) : ∀ x ∈ ci xs, x.oneCell' = true := by
  intro x hx
  obtain ⟨y, _, rfl⟩ := List.mem_map.1 hx
  rfl
theorem digitsL_len (d : UInt64) : (digitsL d).length = 18 := by simp [digitsL]
theorem dig_and (z : Nat) (_h : z < 18446744073709551616) : bits .and .u64 (z : Int) 15 = ((z % 16 : Nat) : Int) := by
  unfold bits
  simp only [BitVec.toNat_and]
  have h1 : (BitVec.ofInt (IntKind.u64.bits) 15).toNat = 2 ^ 4 - 1 := rfl
  rw [h1, Nat.and_two_pow_sub_one_eq_mod]
  have h2 : (BitVec.ofInt (IntKind.u64.bits) (z : Int)).toNat = z % 2 ^ 64 := by simp [BitVec.ofInt_natCast]; rfl
  rw [h2, IntKind.wrap_u64]
  omega

set_option maxRecDepth 100000 in
theorem foldI_any {w : World} (d : UInt64) (b c : Nat) (xs : List Value) (hr : Row w b xs) (hx : ∀ i, i < 16 → xs[i]? = some (.int .i64 ((digit d i : Nat) : Int))) :
    Calls Try.prog 58 #[.slice (some ⟨b, 0, none⟩) 16 c, .int .i64 0, .func (.func 59) #[] #[]] w fun e w' => e = .returned (.int .i64 ((sumOf d 16 : Nat) : Int)) ∧ w = w' := by
  go_enter Try.func58, Try.ntmps58
  go_wp2_with fail
  go_loop [1, 8, 11] (fun s1 _ s11 => ∃ k : Nat, k ≤ 16 ∧ s1 = .int .i64 ((sumOf d k : Nat) : Int) ∧ s11 = .int .i64 k) (fun _ _ s11 => 16 - (intOf s11).toNat)
  case atStart => exact ⟨0, by omega, rfl, rfl⟩
  case round =>
    obtain ⟨k, hk, rfl, rfl⟩ := hrel
    by_cases hlt : k < 16
    · have dc := hr.cell (hx k hlt)
      have hs : Hid (sumOf d (k + 1) = sumOf d k + 15 - digit d k) := rfl
      have h1 := sumOf_le d k
      have h2 := digit_le d k
      generalize digit d k = y at *
      generalize sumOf d k = z at *
      clear hr hx
      go_wp2_with fail
      refine (dig1_any (z : Int) (y : Int) (by omega) (by omega) (by omega) (by omega)).mono ?_
      rintro e w1 ⟨rfl, rfl⟩
      go_wp2_with fail
      go_round
      case rel => exact ⟨k + 1, by omega, by rw [hs.out]; congr 1; omega, by go_num⟩
      case measure => simp [intOf]; omega
    · obtain rfl : k = 16 := by omega
      clear hr hx
      go_wp2_with fail
      go_ret
      exact ⟨rfl, rfl⟩

theorem dig_get (d : UInt64) (k : Nat) : wrap64 (bits .and .u64 ((d.toNat : Int) / 2 ^ (60 - 4 * k)) 15) = ((digit d k : Nat) : Int) := by
  have h1 : d.toNat / 2 ^ (60 - 4 * k) < 18446744073709551616 := Nat.lt_of_le_of_lt (Nat.div_le_self _ _) d.toNat_lt
  have h2 := dig_and (d.toNat / 2 ^ (60 - 4 * k)) h1
  rw [show ((d.toNat : Int) / 2 ^ (60 - 4 * k)) = ((d.toNat / 2 ^ (60 - 4 * k) : Nat) : Int) by simp, h2]
  unfold digit wrap64
  omega
set_option maxRecDepth 100000 in
theorem digits_any {w : World} (d : UInt64) : Calls Try.prog 30 #[u d] w fun e w' => e = .returned (.agg (ci (digitsL d)).toArray) ∧ Step [] w w' := by
  go_enter Try.func30, Try.ntmps30
  go_wp2_with fail
  have R1 := (Row.new w i18 64).step ((Step.refl [] _).alloc (.cells i18 64)) (by simp)
  have R2 := Row.new (w.alloc (.cells i18 64)) i18 64
  have st : Step [] w ((w.alloc (.cells i18 64)).alloc (.cells i18 64)) := ((Step.refl [] w).alloc _).alloc _
  have n1 : (w.alloc (.cells i18 64)).heap.size = w.heap.size + 1 := by simp
  rw [n1] at R2
  clear n1
  have R2' : Row ((w.alloc (.cells i18 64)).alloc (.cells i18 64)) (w.heap.size + 1) (digR d 0) := R2
  clear R2
  unfold i18 at *
  generalize ((w.alloc (.cells _ 64)).alloc (.cells _ 64)) = w1 at *
  obtain ⟨zs, hz⟩ : ∃ zs, zs = (#[.int .i64 0, .int .i64 0, .int .i64 0, .int .i64 0, .int .i64 0, .int .i64 0, .int .i64 0, .int .i64 0, .int .i64 0, .int .i64 0, .int .i64 0, .int .i64 0, .int .i64 0, .int .i64 0, .int .i64 0, .int .i64 0, .int .i64 0, .int .i64 0] : Array Value).toList := ⟨_, rfl⟩
  have R1' : Row w1 w.heap.size zs := by rw [hz]; exact R1
  have hzl : zs.length = 18 := by rw [hz]; rfl
  clear R1 hz
  obtain ⟨b1, hb1⟩ : ∃ b, b = w.heap.size := ⟨_, rfl⟩
  obtain ⟨b2, hb2⟩ : ∃ b, b = b1 + 1 := ⟨_, rfl⟩
  rw [← hb1] at R1' R2' ⊢
  rw [← hb2] at R2' ⊢
  have h01 : w.heap.size ≤ b1 := by omega
  have h02 : w.heap.size ≤ b2 := by omega
  have h12 : b1 ≠ b2 := by omega
  clear hb1 hb2
  go_loopw [4, 6] (fun _ s6 wr => ∃ k : Nat, k ≤ 16 ∧ s6 = .int .i64 k ∧ Row wr b2 (digR d k) ∧ Row wr b1 zs ∧ Step [] w wr) (fun _ s6 _ => 16 - (intOf s6).toNat)
  case atStart => exact ⟨0, by omega, rfl, R2', R1', st⟩
  case round =>
    obtain ⟨k, hk, rfl, r2, r1, hst⟩ := hrel
    clear R1' R2' st
    by_cases hlt : k < 16
    · have d5 := r2.cell (digR_zero d k k (Nat.le_refl _) (by omega))
      have f5 := r2.free k
      have r5 := r2.set k (.int .i64 ((digit d k : Nat) : Int))
      rw [digR_set d k (by omega)] at r5
      have s5 : Step [] w (wr.setCell ⟨b2, k, none⟩ (.int .i64 ((digit d k : Nat) : Int))) := hst.setCell _ (.inr h02) _
      have r6 : Row (wr.setCell ⟨b2, k, none⟩ (.int .i64 ((digit d k : Nat) : Int))) b1 zs := r1.step (m := [b2]) ((Step.refl _ _).setCell _ (.inl (by simp)) _) (by simpa using h12)
      clear r2 r1 hst
      go_wp2_with fail
      rw [dig_get d k]
      go_round
      case rel => exact ⟨k + 1, by omega, by go_num, r5, r6, s5⟩
      case measure => simp [intOf]; omega
    · obtain rfl : k = 16 := by omega
      go_wp2_with fail
      refine (foldI_any d b2 _ _ r2 (fun i hi => digR_get d 16 i hi)).mono ?_
      rintro e w3 ⟨rfl, rfl⟩
      have hs0 := sumOf_le d 16
      have d6 := r2.cell (digR_zero d 16 16 (by omega) (by omega))
      have f6 := r2.free 16
      have q1 := r2.set 16 (.int .i64 (((sumOf d 16 : Nat) : Int) / 16))
      have d7 := r2.cell (digR_zero d 16 17 (by omega) (by omega))
      have f7 := r2.free 17
      have q2 := q1.set 17 (.int .i64 (((sumOf d 16 : Nat) : Int) % 16))
      rw [digR_end] at q2
      have st2 : Step [b2] wr ((wr.setCell ⟨b2, 16, none⟩ (.int .i64 (((sumOf d 16 : Nat) : Int) / 16))).setCell ⟨b2, 17, none⟩ (.int .i64 (((sumOf d 16 : Nat) : Int) % 16))) := ((Step.refl _ _).setCell _ (.inl (by simp)) _).setCell _ (.inl (by simp)) _
      have r7 := r1.step st2 (by simpa using h12)
      have st3 : Step [] w ((wr.setCell ⟨b2, 16, none⟩ (.int .i64 (((sumOf d 16 : Nat) : Int) / 16))).setCell ⟨b2, 17, none⟩ (.int .i64 (((sumOf d 16 : Nat) : Int) % 16))) := hst.grow st2 (by simp; omega)
      clear r2 q1 st2 r1 hst
      generalize sumOf d 16 = z at *
      go_wp2_with (first | (with_reducible refine Stopped.load 64 rfl ?_) | (with_reducible refine Stopped.store 64 rfl ?_))
      refine Stopped.on ?_
      have hy : (ci (digitsL d)).length = 18 := by simp [ci, digitsL]
      refine wpList_loadRow rfl 64 (.tmp 3) rfl (b := b2) rfl q2 Try.underlying64 (by kernel_rfl) hy ?_
      go_wp2_with (first | (with_reducible refine Stopped.load 64 rfl ?_) | (with_reducible refine Stopped.store 64 rfl ?_))
      refine Stopped.on ?_
      refine wpList_storeRow rfl 64 (.tmp 2) (.tmp 27) rfl (b := b1) rfl rfl r7 hy hzl (by kernel_rfl) (ci_one _) ?_
      intro w5 s5 r5
      have st5 : Step [] w w5 := st3.grow s5 (by simp; omega)
      clear q2 r7 st3 s5 d6 f6 d7 f7
      go_wp2_with (with_reducible refine Stopped.load 64 rfl ?_)
      obtain ⟨T5, h5⟩ := r5
      have hsz : (Try.prog.info? 64).map (·.size) = some (ci (digitsL d)).toArray.size := by rw [show (ci (digitsL d)).toArray.size = 18 by simpa using hy]; kernel_rfl
      refine bodyPost_ret (results_cell_row rfl _ w5 b1 T5 (ci (digitsL d)).toArray (0, 0) (.array 18 3) (by first | rfl | simp) h5 Try.underlying64 rfl hsz) rfl ?_
      exact ⟨rfl, st5⟩
end Go.Proofs.Ytcmihfanlconhab
