/- MerkleLeaf: walked. -/
import Derived.Test.YtcmihfanlconhabM4
import Derived.Test.YtcmihfanlconhabPlainM
namespace Go.Proofs.Ytcmihfanlconhab
open Go.RowKit

/-- An element is set. -/
theorem Sl.set {w : World} {g off n cap : Nat} {xs : List Value} {B : Option Nat} (h : Sl w 1 (.slice (some ⟨g, off, none⟩) n cap) n xs B) (p : Nat) (hp : p < n) (v : Value) :
    B = some g ∧ w.frozen? ⟨g, off + p, none⟩ = false ∧ Sl (w.setCell ⟨g, off + p, none⟩ v) 1 (.slice (some ⟨g, off, none⟩) n cap) n (xs.set p v) B := by
  have hl := h.1
  rcases h.2 with ⟨h, _⟩ | ⟨g', off', cap', cur, T, hv, hB, hg, h1, h2, h3, hx⟩
  · cases h
  · cases hv
    refine ⟨hB, free_of hg, by simpa using hl, .inr ⟨g, off, cap, cur.setIfInBounds (off + p) v, T, rfl, hB, heap_set v hg, h1, h2, by simpa using h3, fun j x hj => ?_⟩⟩
    rw [List.getElem?_set] at hj
    rw [Array.getElem?_setIfInBounds]
    by_cases hpj : p = j
    · subst hpj
      rw [if_pos rfl] at hj
      rw [if_pos rfl]
      split at hj
      · rw [if_pos (by omega)]; exact hj
      · cases hj
    · rw [if_neg hpj] at hj
      rw [if_neg (by omega)]
      exact hx j x hj
theorem cu_set (l : List UInt64) (p : Nat) (x : UInt64) : (cu l).set p (u x) = cu (l.set p x) := by simp [cu]

set_option maxRecDepth 100000 in
set_option maxHeartbeats 1600000 in
theorem leaf_any {w : World} (s : UInt64) (ht : Nat) (h8 : ht ≤ 255) (at_ : Nat) (ha8 : at_ ≤ 255) (oth : UInt64) : Calls Try.prog 7 #[u s, .int .u8 ht, .int .u8 at_, u oth] w fun e w' => e = .returned (.bool true) ∧ Step [] w w' := by
  obtain ⟨i, hi, hz0, hz1, hz2⟩ := info_parts Try.infoD
  go_enter Try.func7, Try.ntmps7
  go_wp2_with fail
  refine known4.mono ?_
  rintro e w1 ⟨rfl, q1⟩
  go_wp2_with fail
  obtain ⟨h, hh⟩ : ∃ h, h = ht % 7 := ⟨_, rfl⟩
  rw [← hh]
  have hh8 : h ≤ 6 := by omega
  rw [two_bound h (by omega)]
  obtain ⟨N, hN⟩ : ∃ N, N = 2 ^ h := ⟨_, rfl⟩
  have hN2 : N ≤ 64 := by rw [hN]; exact Nat.pow_le_pow_right (n := 2) (by decide) hh8
  rw [← hN]
  have HN := Lib.hid hN
  clear hN
  go_loopw [10, 11] (fun s6 s7 wr => ∃ (k : Nat) (ao : Option Addr) (lx c : Nat) (B : Option Nat), k ≤ N ∧ s6 = .slice ao lx c ∧ k = lx ∧ s7 = .int .i64 k ∧ Sl wr 1 (.slice ao k c) k (cu (fillL s k)) B ∧ Step [] w wr ∧ ∀ g, B = some g → w.heap.size ≤ g) (fun _ s7 _ => N - (intOf s7).toNat)
  case atStart => exact ⟨0, none, 0, 0, none, Nat.zero_le _, rfl, rfl, rfl, Sl.nil _ _, q1, by simp⟩
  case round =>
    obtain ⟨k, ao, lx, c, B, hk, rfl, rfl, rfl, hs, hst, nB⟩ := hrel
    by_cases hlt : k < N
    · have hU := u_nat k (by omega)
      go_wp2_with fail
      refine (two_any ⟨#[120]⟩ (by decide) s (UInt64.ofNat k)).mono ?_
      rintro e w2 ⟨rfl, q2⟩
      go_wp2_with (at_builtin; refine Stopped.at ?_)
      refine Stopped.on ?_
      refine wpList_app rfl (.tmp 31) (.tmp 36) 39 rfl 36 i (.int .u64 0) 1 8 Try.underlying39 hi hz0 hz1 hz2 rfl (by decide) (n := k) (m := 1) (xs := cu (fillL s k)) (news := cu [two [120] s (UInt64.ofNat k)]) (B := B) (Bx := some w2.heap.size) ?c1 ?c2 ?c4 ?c5 ?c6 ?c3
      case c1 => exact (hs.step q2 (by simp)).alloc _
      case c2 => exact (Sl.one w2 1 #[u (two [120] s (UInt64.ofNat k))] 36 1 rfl (by decide)).rd
      case c4 => exact cu_one _
      case c5 => unfold maxLen; omega
      case c6 => omega
      intro v' w3 B3 hs3 hst3 hB3
      obtain ⟨ao3, cap3, rfl⟩ := hs3.form
      have hw2 := (hst.trans q2).size
      have st3 : Step [] w w3 := (hst.trans q2).grow (((Step.refl B.toList w2).alloc _).trans hst3) (by intro x hx; cases B with | none => simp at hx | some g' => simp at hx; subst hx; exact nB _ rfl)
      have nB3 : ∀ g, B3 = some g → w.heap.size ≤ g := by
        rintro g rfl
        rcases hB3 with hB3 | ⟨b, hb, hge⟩
        · exact nB g hB3.symm
        · cases hb; simp at hge; omega
      have s3 : Sl w3 1 (.slice ao3 (k + 1) cap3) (k + 1) (cu (fillL s (k + 1))) B3 := by rw [fillL_succ]; simpa [cu] using hs3
      clear hs3 hst3 hB3 hs hst nB q2 hU
      go_wp2_with fail
      go_round
      case rel => exact ⟨k + 1, ao3, _, cap3, B3, by omega, rfl, rfl, by go_num, s3, st3, nB3⟩
      case measure => simp [intOf]; omega
    · obtain rfl : k = N := by omega
      have hlen := fillL_len s k
      generalize fillL s k = L at *
      have hP : Pow k h := ⟨HN.out, by omega⟩
      have hk0 : 0 < k := by rw [HN.out]; exact Nat.two_pow_pos h
      obtain ⟨p, hp⟩ : ∃ p, p = at_ % k := ⟨_, rfl⟩
      have hpk : p < k := by rw [hp]; exact Nat.mod_lt _ hk0
      have HC : Hid (climb oth p (pathL h p L) = rootN h (L.set p oth)) := climb_path h p L oth (by rw [hlen]; exact HN.out) (by rw [← HN.out]; exact hpk) (by omega)
      have hkz : ((k : Int) == 0) = false := by rw [beq_eq_false_iff_ne]; omega
      have hkz2 : (k : Int) ≠ 0 := by omega
      have HPE : Hid (p = at_ % k) := hp
      have htm : Int.tmod (at_ : Int) (k : Int) = (p : Int) := by rw [hp]; rfl
      clear HN hlt hk hh hp
      go_wp2_with fail
      refine (root_ok hs.rd hP).mono ?_
      rintro e w2 ⟨rfl, q2⟩
      have hs2 := hs.step q2 (by simp)
      have st2 := hst.trans q2
      clear hs hst q2
      generalize hr : rootN h L = r at *
      go_wp2_with fail
      refine (path_ok hs2.rd hP p hpk).mono ?_
      rintro e w3 ⟨ap, cp, Bp, rfl, q3, hp3⟩
      have hs3 := hs2.step q3 (by simp)
      have st3 := st2.trans q3
      clear hs2 st2 q3
      have hpl := pathL_len h p L
      have HV : Hid (vf r oth p h (pathL h p L) = (rootN h (L.set p oth) == r)) := by
        unfold Hid vf
        rw [Int.toNat_natCast, HC.out, decide_eq_true ⟨by omega, by omega, by rw [hP.1] at hpk; exact_mod_cast hpk⟩, Bool.true_and]
      generalize pathL h p L = PP at *
      go_wp2_with (at_builtin; refine Stopped.at ?_)
      refine Stopped.on ?_
      refine wpList_app rfl (.tmp 57) (.tmp 58) 39 rfl 36 i (.int .u64 0) 1 8 Try.underlying39 hi hz0 hz1 hz2 rfl (by decide) (n := 0) (m := k) (xs := []) (news := cu L) (B := some w3.heap.size) (Bx := B) ?d1 ?d2 ?d4 ?d5 ?d6 ?d3
      case d1 => exact ⟨rfl, .inr ⟨_, 0, 0, #[], 36, rfl, rfl, heap_new _ _, Nat.le_refl _, Nat.zero_le _, by simp, by simp⟩⟩
      case d2 => exact hs3.rd.alloc _
      case d4 => exact cu_one _
      case d5 => unfold maxLen; omega
      case d6 => omega
      intro v' w4 B4 hs4 hst4 hB4
      rw [Nat.zero_add] at hs4
      rw [List.nil_append] at hs4
      obtain ⟨g4, o4, cap4, rfl, hg4, hc4⟩ := hs4.at (by simp [cu]; omega)
      have hw3 := st3.size
      have st4 : Step [] w w4 := st3.grow (((Step.refl [w3.heap.size] w3).alloc _).trans hst4) (by simp; omega)
      have st4' : Step [] w3 w4 := (Step.refl [] w3).grow (((Step.refl [w3.heap.size] w3).alloc _).trans hst4) (by simp)
      have hp4 := hp3.step st4' (by simp)
      have ng4 : w3.heap.size ≤ g4 := by
        rcases hB4 with hB4 | ⟨b, hb, hge⟩
        · rw [hg4] at hB4; cases hB4; omega
        · rw [hg4] at hb; cases hb; simp at hge; omega
      have hBp : ∀ b, Bp = some b → b < w3.heap.size := hp3.lt
      obtain ⟨_, fz, hs5⟩ := hs4.set p hpk (u oth)
      rw [cu_set] at hs5
      have d4 := hc4 p (u (L.getD p 0)) (cu_get _ _ (by omega))
      have st5 : Step [] w (w4.setCell ⟨g4, o4 + p, none⟩ (u oth)) := st4.setCell _ (.inr (by show w.heap.size ≤ g4; omega)) _
      have hp5 : Sl (w4.setCell ⟨g4, o4 + p, none⟩ (u oth)) 1 (.slice ap h cp) h (cu PP) Bp := hp4.step ((Step.refl [g4] w4).setCell ⟨g4, o4 + p, none⟩ (.inl (by simp)) _) (by
        intro b hb
        have := hBp b hb
        simp; omega)
      generalize L.getD p 0 = old at *
      have hp0 : (0 : Int) ≤ p := by omega
      have hp1 : (p : Int) < k := by omega
      clear hc4 hs4 hst4 hB4 st4 st4' hp4 hp3 hs3 st3 hBp hg4
      go_wp2_with fail
      refine (root_ok hs5.rd hP).mono ?_
      rintro e w5 ⟨rfl, q5⟩
      have hp6 := hp5.step q5 (by simp)
      have st6 := st5.trans q5
      clear hs5 hp5 st5 q5 fz d4 ng4
      generalize rootN h (L.set p oth) = sr at *
      have K1 : (((climb oth p PP).toNat : Int) == (sr.toNat : Int)) = true := by rw [HC.out, beq_iff_eq]
      go_wp2_with fail
      refine (climb_any oth p hp6.rd (by omega)).mono ?_
      rintro e w6 ⟨rfl, q6⟩
      have hp7 := hp6.step q6 (by simp)
      have st7 := st6.trans q6
      clear hp6 st6 q6 HC
      go_wp2_with fail
      refine (verify_any r oth p hp7.rd (by omega)).mono ?_
      rintro e w7 ⟨he, q7⟩
      rw [HV.out] at he
      subst he
      have st8 := st7.trans q7
      clear hp7 st7 q7 HV
      go_wp2_with fail
      go_ret
      refine ⟨?_, st8⟩
      show Ending.returned (.bool ((sr == r) == ((sr.toNat : Int) == (r.toNat : Int)))) = _
      rw [u_eq, beq_self_eq_true]

/-- .. in the form that the row asks. -/
theorem leaf_row (w : World) (a : Int) (ha : IntKind.u64.min ≤ a ∧ a ≤ IntKind.u64.max) (b : Int) (hb : IntKind.u8.min ≤ b ∧ b ≤ IntKind.u8.max)
    (c : Int) (hc : IntKind.u8.min ≤ c ∧ c ≤ IntKind.u8.max) (d : Int) (hd : IntKind.u64.min ≤ d ∧ d ≤ IntKind.u64.max) :
    Calls Try.prog 7 #[.int .u64 a, .int .u8 b, .int .u8 c, .int .u64 d] w (Ret' (.bool true) fun w' => Step [] w w') := by
  obtain ⟨s, rfl⟩ := of_u64 ha
  obtain ⟨h, rfl, h8⟩ := of_u8 hb
  obtain ⟨t, rfl, t8⟩ := of_u8 hc
  obtain ⟨x, rfl⟩ := of_u64 hd
  exact leaf_any s h h8 t t8 x
end Go.Proofs.Ytcmihfanlconhab
