/- MerkleHalves: walked. -/
import Derived.Test.YtcmihfanlconhabM4
import Derived.Test.YtcmihfanlconhabPlainM
namespace Go.Proofs.Ytcmihfanlconhab
open Go.RowKit

set_option maxRecDepth 100000 in
set_option maxHeartbeats 1600000 in
theorem halves_any {w : World} (s : UInt64) (ht : Nat) (h8 : ht ≤ 255) : Calls Try.prog 6 #[u s, .int .u8 ht] w fun e w' => e = .returned (.bool true) ∧ Step [] w w' := by
  obtain ⟨i, hi, hz0, hz1, hz2⟩ := info_parts Try.infoD
  go_enter Try.func6, Try.ntmps6
  go_wp2_with fail
  refine known4.mono ?_
  rintro e w1 ⟨rfl, q1⟩
  go_wp2_with fail
  obtain ⟨h, hh⟩ : ∃ h, h = 1 + ht % 8 := ⟨_, rfl⟩
  rw [← hh]
  have hh8 : h ≤ 8 := by omega
  rw [two_bound h hh8]
  obtain ⟨N, hN⟩ : ∃ N, N = 2 ^ h := ⟨_, rfl⟩
  have hN2 : N ≤ 256 := by rw [hN]; exact Nat.pow_le_pow_right (by decide) hh8
  rw [← hN]
  have HN := Lib.hid hN
  clear hN
  go_loopw [6, 7] (fun s6 s7 wr => ∃ (k : Nat) (ao : Option Addr) (lx c : Nat) (B : Option Nat), k ≤ N ∧ s6 = .slice ao lx c ∧ k = lx ∧ s7 = .int .i64 k ∧ Sl wr 1 (.slice ao k c) k (cu (fillL s k)) B ∧ Step [] w wr ∧ ∀ g, B = some g → w.heap.size ≤ g) (fun _ s7 _ => N - (intOf s7).toNat)
  case atStart => exact ⟨0, none, 0, 0, none, Nat.zero_le _, rfl, rfl, rfl, Sl.nil _ _, q1, by simp⟩
  case round =>
    obtain ⟨k, ao, lx, c, B, hk, rfl, rfl, rfl, hs, hst, nB⟩ := hrel
    by_cases hlt : k < N
    · have hU := u_nat k (by omega)
      go_wp2_with fail
      refine (two_any ⟨#[120]⟩ (by decide) s (UInt64.ofNat k)).mono ?_
      rintro e w2 ⟨rfl, q2⟩
      go_wp2_with (at_builtin; refine Stopped.at ?_)
      refine Stopped.on ?_
      refine wpList_app rfl (.tmp 28) (.tmp 33) 39 rfl 36 i (.int .u64 0) 1 8 Try.underlying39 hi hz0 hz1 hz2 rfl (by decide) (n := k) (m := 1) (xs := cu (fillL s k)) (news := cu [two [120] s (UInt64.ofNat k)]) (B := B) (Bx := some w2.heap.size) ?c1 ?c2 ?c4 ?c5 ?c6 ?c3
      case c1 => exact (hs.step q2 (by simp)).alloc _
      case c2 => exact (Sl.one w2 1 #[u (two [120] s (UInt64.ofNat k))] 36 1 rfl (by decide)).rd
      case c4 => exact cu_one _
      case c5 => unfold maxLen; omega
      case c6 => omega
      intro v' w3 B3 hs3 hst3 hB3
      obtain ⟨ao3, cap3, rfl⟩ := hs3.form
      have hw2 := (hst.trans q2).size
      have st3 : Step [] w w3 := (hst.trans q2).grow (((Step.refl B.toList w2).alloc _).trans hst3) (by intro x hx; cases B with | none => simp at hx | some g' => simp at hx; subst hx; exact nB _ rfl)
      have nB3 : ∀ g, B3 = some g → w.heap.size ≤ g := by
        rintro g rfl
        rcases hB3 with hB3 | ⟨b, hb, hge⟩
        · exact nB g hB3.symm
        · cases hb; simp at hge; omega
      have s3 : Sl w3 1 (.slice ao3 (k + 1) cap3) (k + 1) (cu (fillL s (k + 1))) B3 := by rw [fillL_succ]; simpa [cu] using hs3
      clear hs3 hst3 hB3 hs hst nB q2 hU
      go_wp2_with fail
      go_round
      case rel => exact ⟨k + 1, ao3, _, cap3, B3, by omega, rfl, rfl, by go_num, s3, st3, nB3⟩
      case measure => simp [intOf]; omega
    · obtain rfl : k = N := by omega
      have hlen := fillL_len s k
      generalize fillL s k = L at *
      obtain ⟨j, rfl⟩ : ∃ j, h = j + 1 := ⟨h - 1, by omega⟩
      have hk2 : k = 2 * 2 ^ j := by rw [HN.out, Nat.pow_succ, Nat.mul_comm]
      have hj : k / 2 = 2 ^ j := by omega
      have hP : Pow k (j + 1) := ⟨HN.out, by omega⟩
      have hP2 : Pow (k / 2) j := ⟨hj, by omega⟩
      have hla : (L.take (k / 2)).length = 2 ^ j := by simp; omega
      have hlb : (L.drop (k / 2)).length = 2 ^ j := by simp; omega
      have F1 : Hid (rootN (j + 1) L = two mt (rootN j (L.take (k / 2))) (rootN j (L.drop (k / 2)))) := by
        unfold Hid; rw [← root_halves j _ _ hla hlb, List.take_append_drop]
      have F2 : Hid ((pathL (j + 1) 0 L).getD j 0 = rootN j (L.drop (k / 2))) := by
        unfold Hid; rw [← path0_right j _ _ hla hlb, List.take_append_drop]
      have F3 : Hid ((pathL (j + 1) 0 L).getD 0 0 = L.getD 1 0) := rfl
      have hk1 : 1 < k := by have := Nat.one_le_two_pow (n := j); omega
      clear hla hlb hj hk2 HN hlt hk hh
      go_wp2_with (with_reducible refine Stopped.slice rfl ?_)
      refine Stopped.on ?_
      refine wpList_rlc_hi rfl 39 (.tmp 36) (.tmp 38) rfl 36 i 1 Try.underlying39 hi hz1 (n := k) (xs := cu L) (B := B) hs.rd (k / 2) .i64 rfl (by omega) ?_
      intro ao3 c3 r3
      rw [Nat.mul_one, cu, ← List.map_take] at r3
      go_wp2_with fail
      refine (root_ok r3 hP2).mono ?_
      rintro e w3 ⟨rfl, q3⟩
      have hs3 := hs.step q3 (by simp)
      have st3 := hst.trans q3
      clear r3 hs hst q3 nB
      generalize rootN j (L.take (k / 2)) = xa at *
      go_wp2_with (with_reducible refine Stopped.slice rfl ?_)
      refine Stopped.on ?_
      refine wpList_rlc_lo rfl 39 (.tmp 44) (.tmp 46) rfl 36 i 1 Try.underlying39 hi hz1 (n := k) (xs := cu L) (B := B) hs3.rd (k / 2) .i64 rfl (by omega) ?_
      intro ao4 c4 r4
      rw [Nat.mul_one, cu, ← List.map_drop] at r4
      have r4' : Rd w3 1 (.slice ao4 (k - k / 2) c4) (k - k / 2) (cu (L.drop (k / 2))) B := r4
      have hkk : k - k / 2 = k / 2 := by have := hP2.1; have := hP.1; rw [Nat.pow_succ] at this; omega
      rw [hkk] at r4'
      rw [hkk]
      clear r4 hkk
      go_wp2_with fail
      refine (root_ok r4' hP2).mono ?_
      rintro e w4 ⟨rfl, q4⟩
      have hs4 := hs3.step q4 (by simp)
      have st4 := st3.trans q4
      clear r4' hs3 st3 q4 hP2
      generalize rootN j (L.drop (k / 2)) = xb at *
      go_wp2_with fail
      refine (root_ok hs4.rd hP).mono ?_
      rintro e w5 ⟨rfl, q5⟩
      have hs5 := hs4.step q5 (by simp)
      have st5 := st4.trans q5
      clear hs4 st4 q5
      rw [F1.out]
      clear F1
      go_wp2_with fail
      refine (path_ok hs5.rd hP 0 (by omega)).mono ?_
      rintro e w6 ⟨ap, cp, Bp, rfl, q6, hp6⟩
      have hs6 := hs5.step q6 (by simp)
      have st6 := st5.trans q6
      have hpl := pathL_len (j + 1) 0 L
      clear hs5 st5 q6 hP
      generalize pathL (j + 1) 0 L = PL at *
      go_wp2_with fail
      have hj8 : j ≤ 8 := by omega
      obtain ⟨g1, o1, cap1, hv1, _, _, hc1⟩ := hp6.rd.at (by omega)
      cases hv1
      obtain ⟨g2, o2, cap2, hv2, _, _, hc2⟩ := hs6.rd.at (by omega)
      cases hv2
      have d1 := hc1 j (u (PL.getD j 0)) (cu_get _ _ (by omega))
      have d2 := hc1 0 (u (PL.getD 0 0)) (cu_get _ _ (by omega))
      have d3 := hc2 1 (u (L.getD 1 0)) (cu_get _ _ (by omega))
      rw [F2.out] at d1
      rw [F3.out] at d2
      rw [Nat.add_zero] at d2
      have K : (((two mt xa xb).toNat : Int) == ((two (ByteArray.mk #[109, 116]).data.toList xa xb).toNat : Int)) = true := by rw [beq_iff_eq]; rfl
      generalize L.getD 1 0 = y at *
      generalize hm : j + 1 = m at *
      have e1 : IntKind.i64.wrap ((m : Int) - 1) = (j : Int) := by rw [← hm]; exact (IntWalk.i64_in _ (by omega)).trans (by omega)
      have e2 : ((j : Int)).toNat = j := by omega
      have hjm : (j : Int) < m := by omega
      have hj0 : (0 : Int) ≤ j := by omega
      have hm0 : (0 : Int) < m := by omega
      have hm0n : 0 < m := by omega
      have hm0e : m ≠ 0 := by omega
      have hk1' : (1 : Int) < k := by omega
      clear hc1 hc2 hp6 hs6 F2 F3
      generalize two mt xa xb = z at *
      go_region_held3 (fun w' => w'.cell? ⟨g1, o1 + j, none⟩ = some (u xb) ∧ w'.cell? ⟨g1, o1, none⟩ = some (u y) ∧ w'.cell? ⟨g2, o2 + 1, none⟩ = some (u y))
        (first | go_keep | exact ⟨q7.cell d1 (by simp), q7.cell d2 (by simp), q7.cell d3 (by simp)⟩)
        ((first | (go_at_call 26; refine (two_any ⟨#[109, 116]⟩ (by decide) xa xb).mono ?_; rintro e w7 ⟨rfl, q7⟩)))
      all_goals
        go_wp2_with fail
        go_ret
        exact ⟨rfl, st6.trans (Step.drew_left q7)⟩

/-- .. in the form that the row asks. -/
theorem halves_row (w : World) (a : Int) (ha : IntKind.u64.min ≤ a ∧ a ≤ IntKind.u64.max) (b : Int) (hb : IntKind.u8.min ≤ b ∧ b ≤ IntKind.u8.max) :
    Calls Try.prog 6 #[.int .u64 a, .int .u8 b] w (Ret' (.bool true) fun w' => Step [] w w') := by
  obtain ⟨s, rfl⟩ := of_u64 ha
  obtain ⟨h, rfl, h8⟩ := of_u8 hb
  exact halves_any s h h8
end Go.Proofs.Ytcmihfanlconhab
