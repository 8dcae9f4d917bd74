/- ClockPlays: the walk. Conditions: none. -/
import Derived.Test.YtcmihfanlconhaaPl0
import Derived.Deep.CutBlock
import Derived.Deep.QuietTactic
import Derived.BigQuiet
namespace Go.Proofs.Ytcmihfanlconhaa
open Go.RowKit

theorem now_q {w : World} {b : Nat} {now floor : Int} (hc : Clk w b now floor) :
    Calls Try.prog 19 #[.pointer (some ⟨b, 0, none⟩)] w (fun e w' => e = .returned (.int .i64 now) ∧ w' = w) := (now_any hc).mono fun _ _ ⟨h, k⟩ => ⟨h, k.symm⟩
theorem floor_q {w : World} {b : Nat} {now floor : Int} (hc : Clk w b now floor) :
    Calls Try.prog 20 #[.pointer (some ⟨b, 0, none⟩)] w (fun e w' => e = .returned (.int .i64 floor) ∧ w' = w) := (floor_any hc).mono fun _ _ ⟨h, k⟩ => ⟨h, k.symm⟩

set_option maxRecDepth 100000 in
set_option maxHeartbeats 3200000 in
theorem plays_law (w : World) (a : Int) (_ha : IntKind.i64.min ≤ a ∧ a ≤ IntKind.i64.max) (ao : Option Addr) (n cap : Nat) (f g : Nat → Int) (hn : n ≤ maxLen) (hf : ∀ i, i < n → (IntKind.i64.min ≤ f i ∧ f i ≤ IntKind.i64.max) ∧ IntKind.i64.min ≤ g i ∧ g i ≤ IntKind.i64.max)
    (hs : SlA w ao n 2 (fun i j => if j = 0 then .int .i64 (f i) else .int .i64 (g i))) : Calls Try.prog 3 #[.int .i64 a, .slice ao n cap] w (Ret (.bool true) fun w' => Step [] w w') := by
  unfold maxLen at hn

  by_cases hlen : 100 < n
  · go_enter Try.func3, Try.ntmps3
    go_wp2_with (go_at_call 9; refine (known_any _).mono ?_; rintro e w1 ⟨rfl, s1⟩)
    go_ret
    exact ⟨rfl, s1⟩
  have hlen' : n ≤ 100 := by omega
  clear hlen
  have hab : (a < 0 ∨ 1099511627776 < a) ∨ (0 ≤ a ∧ a ≤ 1099511627776) := by omega
  rcases hab with hab | ⟨ha0, ha1⟩
  · go_enter Try.func3, Try.ntmps3
    go_wp2_with (first
      | (go_at_call 9; refine (known_any _).mono ?_; rintro e w1 ⟨rfl, s1⟩)
      | (go_at_call 10; refine (new_no a hab _).mono ?_; rintro e w1' ⟨rfl, rfl⟩)
      | (go_at_call 11; refine (rnew_no a hab _).mono ?_; rintro e w1' ⟨rfl, rfl⟩))
    go_ret
    exact ⟨rfl, s1⟩
  go_enter Try.func3, Try.ntmps3
  go_wp2_with fail
  refine (known_any _).mono ?_
  rintro e w1 ⟨rfl, s1⟩
  go_wp2_with fail
  refine (new_ok a ha0 ha1 _).mono ?_
  rintro e w2 ⟨rfl, s2, c2⟩
  go_wp2_with fail
  refine (rnew_ok a ha0 ha1 _).mono ?_
  rintro e w3 ⟨rfl, s3, r3⟩
  have ps : PS w w2.heap.size w3 w1.heap.size 0 a 0 := ⟨ha0, ha1, by omega, by omega, c2.step s3 (by simp), r3, by have := lt_size c2; omega, s1.size, by have := s1.size; have := s2.size; omega, s1.trans (s2.trans s3)⟩
  clear s1 s2 s3 c2 r3
  generalize w1.heap.size = b at *
  generalize w2.heap.size = bm at *
  go_wp2_with fail
  go_loopg [5, 9, 10] n (fun gk s5 s9 s10 wr => ∃ (k b : Nat) (la now floor : Int), gk = n - k ∧ k ≤ n ∧ s5 = .pointer (some ⟨b, 0, none⟩) ∧ s9 = .int .i64 la ∧ s10 = .int .i64 k ∧ PS w bm wr b la now floor)
  case atStart => exact ⟨0, b, 0, a, 0, rfl, Nat.zero_le _, rfl, rfl, rfl, ps⟩
  case round =>
    obtain ⟨k, b, la, now, floor, rfl, hk, rfl, rfl, rfl, ps⟩ := hrel
    by_cases hlt : k < n
    · obtain ⟨b', off, rfl, hcell⟩ := hs (by omega)
      have hc0 := ps.st.cell (hcell k hlt 0 (by omega)) (by simp)
      have hc1 := ps.st.cell (hcell k hlt 1 (by omega)) (by simp)
      have hg0 : -9223372036854775808 ≤ g k := (hf k hlt).2.1
      have hg1 : g k ≤ 9223372036854775807 := (hf k hlt).2.2
      have hbb : b' < w.heap.size := World.block_lt_of_cell? w ⟨b', off + (k * 2 + 0), none⟩ (hcell k hlt 0 (by omega))
      replace hc0 : wr.cell? ⟨b', off + k * 2, none⟩ = some (.int .i64 (f k)) := by simpa using hc0
      replace hc1 : wr.cell? ⟨b', off + k * 2 + 1, none⟩ = some (.int .i64 (g k)) := by simpa [Nat.add_assoc] using hc1
      clear hcell hs hf
      go_upto_block 2 with fail
      go_cut [5, 9] (fun s5 s9 wc => ∃ (b : Nat) (la now floor : Int), s5 = .pointer (some ⟨b, 0, none⟩) ∧ s9 = .int .i64 la ∧ PS w bm wc b la now floor)
      case first =>
        obtain ⟨n0, n1, f0, hla, hc, hr, hne, hb, hm, hst⟩ := ps
        have h1 : (f k = 1 ∨ f k = 2) ∨ (f k = 3 ∨ f k = 4) ∨ (f k ≠ 1 ∧ f k ≠ 2 ∧ f k ≠ 3 ∧ f k ≠ 4) := by omega
        rcases h1 with (h1 | h1) | (h1 | h1) | ⟨h1, h2, h3, h4⟩
        · have t1 : (f k == 1) = true := by simp [h1]
          clear h1
          by_cases hfl : floor < 1099511627776
          · go_wp2_with fail
            refine (issue_ok hc (by omega) (by omega)).mono ?_
            rintro e w4 ⟨rfl, s4, c4⟩
            go_wp2_with fail
            refine (rissue_ok (hr.step s4 (by simp; omega)) (by omega) (by omega)).mono ?_
            rintro e w5 ⟨rfl, s5, r5⟩
            have c5 := c4.step s5 (by simp; omega)
            have x0 : floor < mxi now (floor + 1) := by unfold mxi; split <;> omega
            have x1 : la < mxi now (floor + 1) := by omega
            generalize mxi now (floor + 1) = x at *
            go_wp2_with fail
            go_meet
            exact ⟨b, x, now, x, rfl, rfl, n0, n1, by omega, by omega, c5, r5, hne, hb, hm, ((hst.weaken (by simp)).trans ((s4.weaken (by simp)).trans (s5.weaken (by simp))) : Step [b, bm] w w5).fresh (by simp [hb, hm])⟩
          · go_wp2_with fail
            refine (issue_no hc (by omega)).mono ?_
            rintro e w4 ⟨rfl, rfl⟩
            go_wp2_with fail
            refine (rissue_no hr (by omega)).mono ?_
            rintro e w5 ⟨rfl, rfl⟩
            go_wp2_with fail
            go_meet
            exact ⟨b, la, now, floor, rfl, rfl, n0, n1, f0, hla, hc, hr, hne, hb, hm, hst⟩
        · have t1 : (f k == 1) = false := by simp [h1]
          have t2 : (f k == 2) = true := by simp [h1]
          clear h1
          by_cases hg : 0 ≤ g k ∧ g k ≤ 1099511627776 - now
          · go_wp2_with fail
            refine (tick_ok hc _ n0 n1 hg.1 hg.2).mono ?_
            rintro e w4 ⟨rfl, s4, c4⟩
            go_wp2_with fail
            refine (rtick_ok (hr.step s4 (by simp; omega)) _ n0 n1 hg.1 hg.2).mono ?_
            rintro e w5 ⟨rfl, s5, r5⟩
            have c5 := c4.step s5 (by simp; omega)
            go_wp2_with fail
            go_meet
            exact ⟨b, la, _, floor, rfl, rfl, by omega, by omega, f0, hla, c5, r5, hne, hb, hm, ((hst.weaken (by simp)).trans ((s4.weaken (by simp)).trans (s5.weaken (by simp))) : Step [b, bm] w w5).fresh (by simp [hb, hm])⟩
          · have hg' : g k < 0 ∨ 1099511627776 - now < g k := by omega
            clear hg
            go_wp2_with fail
            refine (tick_no hc _ n0 n1 hg').mono ?_
            rintro e w4 ⟨rfl, rfl⟩
            go_wp2_with fail
            refine (rtick_no hr _ n0 n1 hg').mono ?_
            rintro e w5 ⟨rfl, rfl⟩
            go_wp2_with fail
            go_meet
            exact ⟨b, la, now, floor, rfl, rfl, n0, n1, f0, hla, hc, hr, hne, hb, hm, hst⟩
        · have t1 : (f k == 1) = false := by simp [h1]
          have t2 : (f k == 2) = false := by simp [h1]
          have t3 : (f k == 3) = true := by simp [h1]
          clear h1
          go_wp2_with fail
          refine (rraise_any hr _).mono ?_
          rintro e w4 ⟨rfl, s4, r4⟩
          go_wp2_with fail
          refine (raise_any (hc.step s4 (by simp; omega)) _).mono ?_
          rintro e w5 ⟨rfl, s5, c5⟩
          have r5 := r4.step s5 (by simp; omega)
          have x0 : floor ≤ mxi floor (g k) := by unfold mxi; split <;> omega
          have x1 : g k ≤ mxi floor (g k) := by unfold mxi; split <;> omega
          generalize mxi floor (g k) = x at *
          generalize decide (floor < g k) = d at *
          have hd : (d != d) = false := by simp
          go_wp2_with fail
          all_goals
            go_meet
            exact ⟨b, _, now, x, rfl, rfl, n0, n1, by omega, by omega, c5, r5, hne, hb, hm, ((hst.weaken (by simp)).trans ((s4.weaken (by simp)).trans (s5.weaken (by simp))) : Step [b, bm] w w5).fresh (by simp [hb, hm])⟩
        · have t1 : (f k == 1) = false := by simp [h1]
          have t2 : (f k == 2) = false := by simp [h1]
          have t3 : (f k == 3) = false := by simp [h1]
          have t4 : (f k == 4) = true := by simp [h1]
          clear h1
          go_wp2_with fail
          refine (twin_any hc).mono ?_
          rintro e w4 ⟨rfl, s4, c4⟩
          have hbl := lt_size hc
          have hml := lt_size hr
          have q4 := hc.step s4 (by simp)
          have r4 := hr.step s4 (by simp)
          have hbt : w.heap.size ≤ wr.heap.size := hst.size
          have st4 := hst.trans s4
          clear hc hr hst s4
          generalize wr.heap.size = t at *
          go_wp2_with fail
          have hT : (1 ≤ 1099511627776 - now) ∨ ((1 : Int) < 0 ∨ 1099511627776 - now < 1) := by omega
          have hu : ∃ v, Calls Try.prog 14 #[.pointer (some ⟨b, 0, none⟩), .int .i64 1] w4 (Ret v fun w' => ∃ now', Step [b] w4 w' ∧ Clk w' b now' floor) := by
            rcases hT with hT | hT
            · exact ⟨_, (tick_ok q4 1 n0 n1 (by omega) hT).mono fun e w' ⟨h1, h2, h3⟩ => ⟨h1, _, h2, h3⟩⟩
            · exact ⟨_, (tick_no q4 1 n0 n1 hT).mono fun e w' ⟨h1, h2⟩ => ⟨h1, now, h2 ▸ Step.refl _ _, h2 ▸ q4⟩⟩
          obtain ⟨v, hu⟩ := hu
          refine hu.mono ?_
          rintro e w5 ⟨rfl, now', s5, q5⟩
          go_wp2_with fail
          have hi : ∃ v, Calls Try.prog 12 #[.pointer (some ⟨b, 0, none⟩)] w5 (Ret v fun w' => Step [b] w5 w') := by
            by_cases hfl : floor < 1099511627776
            · exact ⟨_, (issue_ok q5 f0 hfl).mono fun e w' ⟨h1, h2, h3⟩ => ⟨h1, h2⟩⟩
            · exact ⟨_, (issue_no q5 (by omega)).mono fun e w' ⟨h1, h2⟩ => ⟨h1, h2 ▸ Step.refl _ _⟩⟩
          obtain ⟨v', hi⟩ := hi
          refine hi.mono ?_
          rintro e w6 ⟨rfl, s6⟩
          go_wp2_with fail
          go_meet
          exact ⟨t, la, now, floor, rfl, rfl, n0, n1, f0, hla, (c4.step s5 (by simp; omega)).step s6 (by simp; omega), (r4.step s5 (by simp; omega)).step s6 (by simp; omega), by omega, hbt, hm, ((st4.weaken (by simp)).trans (s5.trans s6) : Step [b] w w6).fresh (by simp [hb])⟩
        · have t1 : (f k == 1) = false := by simp [h1]
          have t2 : (f k == 2) = false := by simp [h2]
          have t3 : (f k == 3) = false := by simp [h3]
          have t4 : (f k == 4) = false := by simp [h4]
          clear h1 h2 h3 h4
          go_wp2_with fail
          go_meet
          exact ⟨b, la, now, floor, rfl, rfl, n0, n1, f0, hla, hc, hr, hne, hb, hm, hst⟩
      case rest =>
        obtain ⟨b, la, now, floor, rfl, rfl, ps⟩ := hcut
        have r0 := ps.r.now
        have r1 := ps.r.floor
        go_wp2_with fail
        go_quiet ((first | (go_at_call 19; exact Calls.quiet_of_same (now_q ps.c)) | (go_at_call 20; exact Calls.quiet_of_same (floor_q ps.c))))
        go_wp2_with fail
        go_roundg (n - (k + 1))
        case measure => omega
        case rel => exact ⟨k + 1, b, la, now, floor, rfl, by omega, rfl, rfl, by go_num, ps.n0, ps.n1, ps.f0, ps.la, ps.c, ps.r, ps.ne, ps.hb, ps.hm, ps.st.drewN _⟩
    · clear hs hf
      go_wp2_with fail
      go_ret
      exact ⟨rfl, ps.st⟩
end Go.Proofs.Ytcmihfanlconhaa
