/- The statements' own steps: the known numbers, the filled row. Conditions: sizes. -/
import Derived.Test.YtcmihfanlconhabClimb
namespace Go.Proofs.Ytcmihfanlconhab
open Go.RowKit

def Ret' (v : Value) (Q : World → Prop) (e : Ending) (w' : World) : Prop := e = .returned v ∧ Q w'
def l4 : List UInt64 := [1, 2, 3, 4]
def r4 : UInt64 := rootN 2 l4
def p4 : List UInt64 := pathL 2 2 l4
theorem k1 : ((r4.toNat : Int) == ((two mt (two mt 1 2) (two mt 3 4)).toNat : Int)) = true := by decide +kernel
theorem k2 : vf r4 3 2 2 p4 = true := by decide +kernel
theorem k3 : vf r4 3 3 2 p4 = false := by decide +kernel
theorem k4 : vf r4 2 2 2 p4 = false := by decide +kernel
theorem k5 : (((climb 3 2 p4).toNat : Int) == (r4.toNat : Int)) = true := by decide +kernel

theorem pow4 : Pow 4 2 := ⟨rfl, by decide⟩
theorem pow1 : Pow 1 0 := ⟨rfl, by decide⟩
theorem pow3 : ∀ h, ¬ Pow 3 h := by
  rintro h ⟨h1, h2⟩
  have : h = 0 ∨ h = 1 ∨ 2 ≤ h := by omega
  rcases this with rfl | rfl | h3
  · omega
  · omega
  · have := Nat.pow_le_pow_right (show 0 < 2 by decide) h3
    omega

set_option maxRecDepth 100000 in
set_option maxHeartbeats 1600000 in
theorem known4 {w : World} : Calls Try.prog 14 #[] w fun e w' => e = .returned (.bool true) ∧ Step [] w w' := by
  obtain ⟨i, hi, hz0, hz1, hz2⟩ := info_parts Try.infoD
  have q0 : Step [] w (w.alloc (.cells #[u 1, u 2, u 3, u 4] 36)) := (Step.refl _ _).alloc _
  have hl : Rd (w.alloc (.cells #[u 1, u 2, u 3, u 4] 36)) 1 (.slice (some ⟨w.heap.size, 0, none⟩) 4 4) 4 (cu l4) (some w.heap.size) := (Sl.one w 1 #[u 1, u 2, u 3, u 4] 36 4 rfl (by decide)).rd
  go_enter Try.func14, Try.ntmps14
  go_wp2_with fail
  refine (root_ok hl pow4).mono ?_
  rintro e w1 ⟨rfl, q1⟩
  have hl1 := hl.step q1 (by simp)
  have q1' := q0.trans q1
  clear hl q0 q1
  have R4 : Hid (rootN 2 l4 = r4) := rfl
  rw [R4.out]
  go_wp2_with fail
  refine (path_ok hl1 pow4 2 (by decide)).mono ?_
  rintro e w2 ⟨ap, cp, Bp, rfl, q2, hp⟩
  have hl2 := hl1.step q2 (by simp)
  have q2' := q1'.trans q2
  clear hl1 q1' q2
  go_wp2_with (with_reducible refine Stopped.slice rfl ?_)
  refine Stopped.on ?_
  refine wpList_rlc_hi rfl 39 (.tmp 24) (.const (.int .i64 3)) rfl 36 i 1 Try.underlying39 hi hz1 (n := 4) (xs := cu l4) (B := some w.heap.size) hl2 3 .i64 rfl (by decide) ?_
  intro ao3 c3 r3
  go_wp2_with fail
  refine (root_no (by decide) pow3).mono ?_
  rintro e w3 ⟨rfl, rfl⟩
  clear r3
  go_wp2_with fail
  refine (path_no hl2 (by decide) 4 (.inr (.inr (by decide)))).mono ?_
  rintro e w4 ⟨rfl, q4⟩
  have hl4 := hl2.step q4 (by simp)
  have hp4 := hp.step q4 (fun _ _ h => nomatch h)
  have q4' := q2'.trans q4
  clear hl2 q2' q4 hp
  go_wp2_with (with_reducible refine Stopped.slice rfl ?_)
  refine Stopped.on ?_
  refine wpList_rlc_hi rfl 39 (.tmp 35) (.const (.int .i64 1)) rfl 36 i 1 Try.underlying39 hi hz1 (n := 4) (xs := cu l4) (B := some w.heap.size) hl4 1 .i64 rfl (by decide) ?_
  intro ao5 c5 r5
  have r5' : Rd w4 1 (.slice ao5 1 c5) 1 (cu [1]) (some w.heap.size) := r5
  clear r5
  go_wp2_with fail
  refine (root_ok r5' pow1).mono ?_
  rintro e w5 ⟨rfl, q5⟩
  have hp5 := hp4.step q5 (fun _ _ h => nomatch h)
  have q5' := q4'.trans q5
  clear hl4 q4' q5 hp4 r5'
  have P4 : Hid (pathL 2 2 l4 = p4) := rfl
  rw [P4.out] at hp5
  have R1 : Hid (rootN 0 [1] = 1) := rfl
  rw [R1.out]
  obtain ⟨g1, o1, cap1, hv1, _, _, hc1⟩ := hp5.rd.at (by decide)
  cases hv1
  have d1 := hc1 0 (.int .u64 4) rfl
  rw [Nat.add_zero] at d1
  clear hc1
  have K1 := k1
  have K2 := k2
  have K3 := k3
  have K4 := k4
  have K5 := k5
  clear P4 R1 R4
  generalize r4 = r at *
  go_wp2_with fail
  refine (two_any ⟨#[109, 116]⟩ (by decide) 1 2).mono ?_
  rintro e w6 ⟨rfl, q6⟩
  go_wp2_with fail
  refine (two_any ⟨#[109, 116]⟩ (by decide) 3 4).mono ?_
  rintro e w7 ⟨rfl, q7⟩
  go_wp2_with fail
  refine (two_any ⟨#[109, 116]⟩ (by decide) _ _).mono ?_
  rintro e w8 ⟨rfl, q8⟩
  have hp8 := ((hp5.step q6 (fun _ _ h => nomatch h)).step q7 (fun _ _ h => nomatch h)).step q8 (fun _ _ h => nomatch h)
  have q8' := ((q5'.trans q6).trans q7).trans q8
  clear hp5 q5' q6 q7 q8 d1
  have K1' : ((r.toNat : Int) == ((two (ByteArray.mk #[109, 116]).data.toList (two (ByteArray.mk #[109, 116]).data.toList 1 2) (two (ByteArray.mk #[109, 116]).data.toList 3 4)).toNat : Int)) = true := K1
  clear K1
  go_wp2_with fail
  refine (verify_any r 3 2 hp8.rd (by decide)).mono ?_
  rintro e w9 ⟨he, q9⟩
  rw [K2] at he
  subst he
  have hp9 := hp8.step q9 (fun _ _ h => nomatch h)
  have q9' := q8'.trans q9
  clear hp8 q8' q9 K1' K2
  go_wp2_with fail
  refine (verify_any r 3 3 hp9.rd (by decide)).mono ?_
  rintro e w10 ⟨he, q10⟩
  rw [K3] at he
  subst he
  have hp10 := hp9.step q10 (fun _ _ h => nomatch h)
  have q10' := q9'.trans q10
  clear hp9 q9' q10 K3
  go_wp2_with fail
  refine (verify_any r 2 2 hp10.rd (by decide)).mono ?_
  rintro e w11 ⟨he, q11⟩
  rw [K4] at he
  subst he
  have hp11 := hp10.step q11 (fun _ _ h => nomatch h)
  have q11' := q10'.trans q11
  clear hp10 q10' q11 K4
  go_wp2_with fail
  refine (climb_any 3 2 hp11.rd (by decide)).mono ?_
  rintro e w12 ⟨rfl, q12⟩
  have q12' := q11'.trans q12
  clear hp11 q11' q12
  go_wp2_with fail
  go_ret
  exact ⟨rfl, q12'⟩

/-- The filled row. -/
def fillL (s : UInt64) (n : Nat) : List UInt64 := (List.range n).map fun i => two [120] s (UInt64.ofNat i)
theorem fillL_succ (s : UInt64) (k : Nat) : fillL s (k + 1) = fillL s k ++ [two [120] s (UInt64.ofNat k)] := by simp [fillL, List.range_succ]
theorem fillL_len (s : UInt64) (n : Nat) : (fillL s n).length = n := by simp [fillL]
theorem two_bound (h : Nat) (hh : h ≤ 8) : wrap64 (2 ^ h) = ((2 ^ h : Nat) : Int) := by
  have : h = 0 ∨ h = 1 ∨ h = 2 ∨ h = 3 ∨ h = 4 ∨ h = 5 ∨ h = 6 ∨ h = 7 ∨ h = 8 := by omega
  rcases this with h | h | h | h | h | h | h | h | h <;> subst h <;> decide +kernel
theorem of_u64 {a : Int} (h : IntKind.u64.min ≤ a ∧ a ≤ IntKind.u64.max) : ∃ x : UInt64, a = (x.toNat : Int) := by
  have h1 : IntKind.u64.min = 0 := by decide
  have h2 : IntKind.u64.max = 18446744073709551615 := by decide
  obtain ⟨n, rfl⟩ := Int.eq_ofNat_of_zero_le (h1 ▸ h.1)
  refine ⟨UInt64.ofNat n, ?_⟩
  rw [UInt64.toNat_ofNat_of_lt' (show n < UInt64.size by rw [h2] at h; unfold UInt64.size; omega)]
theorem of_u8 {a : Int} (h : IntKind.u8.min ≤ a ∧ a ≤ IntKind.u8.max) : ∃ n : Nat, a = (n : Int) ∧ n ≤ 255 := by
  have h1 : IntKind.u8.min = 0 := by decide
  have h2 : IntKind.u8.max = 255 := by decide
  obtain ⟨n, rfl⟩ := Int.eq_ofNat_of_zero_le (h1 ▸ h.1)
  exact ⟨n, rfl, by rw [h2] at h; omega⟩
end Go.Proofs.Ytcmihfanlconhab
