/- MerkleHolds: walked. -/
import Derived.Test.YtcmihfanlconhabM4
import Derived.Test.YtcmihfanlconhabPlainM
namespace Go.Proofs.Ytcmihfanlconhab
open Go.RowKit

set_option maxRecDepth 100000 in
set_option maxHeartbeats 1600000 in
theorem holds_any {w : World} (s : UInt64) (ht : Nat) (h8 : ht ≤ 255) (a : Nat) (ha8 : a ≤ 255) (b : Nat) (hb8 : b ≤ 255) : Calls Try.prog 5 #[u s, .int .u8 ht, .int .u8 a, .int .u8 b] w fun e w' => e = .returned (.bool true) ∧ Step [] w w' := by
  obtain ⟨i, hi, hz0, hz1, hz2⟩ := info_parts Try.infoD
  go_enter Try.func5, Try.ntmps5
  go_wp2_with fail
  refine known4.mono ?_
  rintro e w1 ⟨rfl, q1⟩
  go_wp2_with fail
  obtain ⟨h, hh⟩ : ∃ h, h = ht % 9 := ⟨_, rfl⟩
  rw [← hh]
  have hh8 : h ≤ 8 := by omega
  rw [two_bound h (by omega)]
  obtain ⟨N, hN⟩ : ∃ N, N = 2 ^ h := ⟨_, rfl⟩
  have hN2 : N ≤ 256 := by rw [hN]; exact Nat.pow_le_pow_right (n := 2) (by decide) hh8
  rw [← hN]
  have HN := Lib.hid hN
  clear hN
  go_loopw [11, 12] (fun s6 s7 wr => ∃ (k : Nat) (ao : Option Addr) (lx c : Nat) (B : Option Nat), k ≤ N ∧ s6 = .slice ao lx c ∧ k = lx ∧ s7 = .int .i64 k ∧ Sl wr 1 (.slice ao k c) k (cu (fillL s k)) B ∧ Step [] w wr ∧ ∀ g, B = some g → w.heap.size ≤ g) (fun _ s7 _ => N - (intOf s7).toNat)
  case atStart => exact ⟨0, none, 0, 0, none, Nat.zero_le _, rfl, rfl, rfl, Sl.nil _ _, q1, by simp⟩
  case round =>
    obtain ⟨k, ao, lx, c, B, hk, rfl, rfl, rfl, hs, hst, nB⟩ := hrel
    by_cases hlt : k < N
    · have hU := u_nat k (by omega)
      go_wp2_with fail
      refine (two_any ⟨#[120]⟩ (by decide) s (UInt64.ofNat k)).mono ?_
      rintro e w2 ⟨rfl, q2⟩
      go_wp2_with (at_builtin; refine Stopped.at ?_)
      refine Stopped.on ?_
      refine wpList_app rfl (.tmp 32) (.tmp 37) 39 rfl 36 i (.int .u64 0) 1 8 Try.underlying39 hi hz0 hz1 hz2 rfl (by decide) (n := k) (m := 1) (xs := cu (fillL s k)) (news := cu [two [120] s (UInt64.ofNat k)]) (B := B) (Bx := some w2.heap.size) ?c1 ?c2 ?c4 ?c5 ?c6 ?c3
      case c1 => exact (hs.step q2 (by simp)).alloc _
      case c2 => exact (Sl.one w2 1 #[u (two [120] s (UInt64.ofNat k))] 36 1 rfl (by decide)).rd
      case c4 => exact cu_one _
      case c5 => unfold maxLen; omega
      case c6 => omega
      intro v' w3 B3 hs3 hst3 hB3
      obtain ⟨ao3, cap3, rfl⟩ := hs3.form
      have hw2 := (hst.trans q2).size
      have st3 : Step [] w w3 := (hst.trans q2).grow (((Step.refl B.toList w2).alloc _).trans hst3) (by intro x hx; cases B with | none => simp at hx | some g' => simp at hx; subst hx; exact nB _ rfl)
      have nB3 : ∀ g, B3 = some g → w.heap.size ≤ g := by
        rintro g rfl
        rcases hB3 with hB3 | ⟨b, hb, hge⟩
        · exact nB g hB3.symm
        · cases hb; simp at hge; omega
      have s3 : Sl w3 1 (.slice ao3 (k + 1) cap3) (k + 1) (cu (fillL s (k + 1))) B3 := by rw [fillL_succ]; simpa [cu] using hs3
      clear hs3 hst3 hB3 hs hst nB q2 hU
      go_wp2_with fail
      go_round
      case rel => exact ⟨k + 1, ao3, _, cap3, B3, by omega, rfl, rfl, by go_num, s3, st3, nB3⟩
      case measure => simp [intOf]; omega
    · obtain rfl : k = N := by omega
      have hlen := fillL_len s k
      generalize fillL s k = L at *
      have hP : Pow k h := ⟨HN.out, by omega⟩
      have hk0 : 0 < k := by rw [HN.out]; exact Nat.two_pow_pos h
      obtain ⟨p, hp⟩ : ∃ p, p = a % k := ⟨_, rfl⟩
      obtain ⟨q, hq⟩ : ∃ q, q = b % k := ⟨_, rfl⟩
      have hpk : p < k := by rw [hp]; exact Nat.mod_lt _ hk0
      have hqk : q < k := by rw [hq]; exact Nat.mod_lt _ hk0
      have HC : Hid (climb (L.getD p 0) p (pathL h p L) = rootN h L) := climb_own h p L (by rw [hlen]; exact HN.out) (by rw [← HN.out]; exact hpk) (by omega)
      have hkz : ((k : Int) == 0) = false := by rw [beq_eq_false_iff_ne]; omega
      have hkz2 : (k : Int) ≠ 0 := by omega
      have htm : Int.tmod (a : Int) (k : Int) = (p : Int) := by rw [hp]; rfl
      have htm2 : Int.tmod (b : Int) (k : Int) = (q : Int) := by rw [hq]; rfl
      have hT : ((h : Int) == (ht : Int) % 9) = true := by rw [hh]; simp
      have hT2 : (h : Int) = (ht : Int) % 9 := by rw [hh]; simp
      clear HN hlt hk hh hp hq
      go_wp2_with fail
      go_quiet (fail)
      go_wp2_with fail
      refine (root_ok (hs.step (Step.drewN (Step.refl [] _) _) (by simp)).rd hP).mono ?_
      rintro e w2 ⟨rfl, q2⟩
      have hs2 : Sl w2 1 (.slice ao k c) k (cu L) B := hs.step (Step.drewN_left q2) (by simp)
      have st2 := hst.trans (Step.drewN_left q2)
      clear hs hst q2
      generalize rootN h L = r at *
      go_wp2_with fail
      refine (path_ok hs2.rd hP p hpk).mono ?_
      rintro e w3 ⟨ap, cp, Bp, rfl, q3, hp3⟩
      have hs3 := hs2.step q3 (by simp)
      have st3 := st2.trans q3
      clear hs2 st2 q3
      have hpl := pathL_len h p L
      have hpN : ((p : Nat) : Int) < 2 ^ h := by rw [hP.1] at hpk; exact_mod_cast hpk
      have hqN : ((q : Nat) : Int) < 2 ^ h := by rw [hP.1] at hqk; exact_mod_cast hqk
      obtain ⟨g2, o2, cap2, hv2, _, _, hc2⟩ := hs3.rd.at (by omega)
      cases hv2
      have d2 := hc2 p (u (L.getD p 0)) (cu_get _ _ (by omega))
      generalize pathL h p L = PP at *
      generalize L.getD p 0 = x at *
      have V1 : Hid (vf r x p h PP = true) := by
        unfold Hid vf
        rw [Int.toNat_natCast, HC.out, decide_eq_true ⟨by omega, by omega, hpN⟩]; simp
      have V2 : Hid (vf r x q h PP = (((climb x q PP).toNat : Int) == (r.toNat : Int))) := by
        unfold Hid vf
        rw [u_eq, Int.toNat_natCast, decide_eq_true ⟨by omega, by omega, hqN⟩, Bool.true_and]
      have hB : ((((climb x q PP).toNat : Int) == (r.toNat : Int)) == (((climb x q PP).toNat : Int) == (r.toNat : Int))) = true := beq_self_eq_true _
      have V3 : Hid (vf r x ((p : Int) + (k : Int)) h PP = false) := by
        rw [show ((p : Int) + (k : Int)) = ((p + k : Nat) : Int) by omega]
        unfold Hid vf
        rw [decide_eq_false, Bool.false_and]
        rintro ⟨_, _, h3⟩
        rw [hP.1] at h3
        have : p + 2 ^ h < 2 ^ h := by exact_mod_cast h3
        omega
      have e1 : IntKind.i64.wrap ((p : Int) + (k : Int)) = (p : Int) + (k : Int) := IntWalk.i64_in _ (by omega)
      have hp0 : (0 : Int) ≤ p := by omega
      have hp1 : (p : Int) < k := by omega
      have e2 : ((p : Int)).toNat = p := by omega
      clear hc2 hpN hqN hs3 HC
      go_wp2_with fail
      go_region_held3 (fun w' => w'.cell? ⟨g2, o2 + p, none⟩ = some (u x))
        (first | go_keep | exact t4.cell d2 (by simp) | exact t5.cell d2 (by simp) | exact t6.cell d2 (by simp) | exact t7.cell d2 (by simp))
        ((first
          | (go_at_call_of 24 (Value.int .i64 ((p : Nat) : Int)); refine (verify_any (w := w3.drew) r x p (hp3.step (Step.drew (Step.refl [] _)) (by simp)).rd (by omega)).mono ?_; rintro e w4 ⟨he, q4⟩; rw [V1.out] at he; subst he; have t4 := Step.drew_left q4)
          | (go_at_call_of 24 (Value.int .i64 ((q : Nat) : Int)); refine (verify_any r x q (hp3.step t4 (by simp)).rd (by omega)).mono ?_; rintro e w5 ⟨he, q5⟩; rw [V2.out] at he; subst he; have t5 := t4.trans q5)
          | (go_at_call 22; refine (climb_any x q (hp3.step t5 (by simp)).rd (by omega)).mono ?_; rintro e w6 ⟨rfl, q6⟩; have t6 := t5.trans q6)
          | (go_at_call_of 24 (Value.int .i64 ((p : Int) + (k : Int))); refine (verify_any r x ((p : Int) + (k : Int)) (hp3.step t6 (by simp)).rd (by omega)).mono ?_; rintro e w7 ⟨he, q7⟩; rw [V3.out] at he; subst he; have t7 := t6.trans q7)))
      all_goals
        go_wp2_with fail
        go_ret
        exact ⟨rfl, st3.trans t7⟩

/-- .. in the form that the row asks. -/
theorem holds_row (w : World) (a : Int) (ha : IntKind.u64.min ≤ a ∧ a ≤ IntKind.u64.max) (b : Int) (hb : IntKind.u8.min ≤ b ∧ b ≤ IntKind.u8.max)
    (c : Int) (hc : IntKind.u8.min ≤ c ∧ c ≤ IntKind.u8.max) (d : Int) (hd : IntKind.u8.min ≤ d ∧ d ≤ IntKind.u8.max) :
    Calls Try.prog 5 #[.int .u64 a, .int .u8 b, .int .u8 c, .int .u8 d] w (Ret' (.bool true) fun w' => Step [] w w') := by
  obtain ⟨s, rfl⟩ := of_u64 ha
  obtain ⟨h, rfl, h8⟩ := of_u8 hb
  obtain ⟨t, rfl, t8⟩ := of_u8 hc
  obtain ⟨x, rfl, x8⟩ := of_u8 hd
  exact holds_any s h h8 t t8 x x8
end Go.Proofs.Ytcmihfanlconhab
