/- BoxWords: the walk. Conditions: none. -/
import Derived.Test.YtcmihfanlconhabBoxW
import Derived.Test.YtcmihfanlconhabBoxU
import Derived.Test.YtcmihfanlconhabRowl
import Derived.Deep.DeepCutAuto
import Derived.Deep.CutBlock
import Derived.Deep.RegionWith
import Derived.Lib.Hide
namespace Go.Proofs.Ytcmihfanlconhab
open Go.RowKit Go.Conc
theorem Try.infoS : (Try.prog.info? 9).map (fun i => (i.zero, i.size, i.bytes)) = some (some (.string ByteArray.empty), 1, 16) := by kernel_rfl
def Strs (X : List Value) : Prop := ∀ x ∈ X, ∃ z, x = Value.string z
theorem Strs.snoc {X : List Value} (h : Strs X) (s : ByteArray) : Strs (X ++ [.string s]) := by
  intro x hx
  rcases List.mem_append.1 hx with hx | hx
  · exact h x hx
  · simp at hx; exact ⟨s, hx⟩
theorem names_same {w : World} {a1 a2 : Option Addr} {n c1 c2 : Nat} {xs : List Value} {B1 B2 : Option Nat} (h1 : Rd w 1 (.slice a1 n c1) n xs B1) (h2 : Rd w 1 (.slice a2 n c2) n xs B2) (hI : Strs xs) (hn : n ≤ 1000000) :
    Calls Try.prog 13 #[.slice a1 n c1, .slice a2 n c2] w fun e w' => e = .returned (.bool true) ∧ Step [] w w' := by
  have hx : xs.length = n := by have := h1.1; simpa using this
  go_enter Try.func13, Try.ntmps13
  go_wp2_with fail
  go_loopg [5] n (fun gk s5 wr => ∃ k m : Nat, gk = n - k ∧ k ≤ n ∧ s5 = .int .i64 k ∧ wr = w.drewN m)
  case atStart => exact ⟨0, 0, rfl, Nat.zero_le _, rfl, rfl⟩
  case round =>
    obtain ⟨k, m, rfl, hk, rfl, rfl⟩ := hrel
    by_cases hlt : k < n
    · obtain ⟨g1, o1, cap1, hv1, _, _, hc1⟩ := h1.at (by omega)
      obtain ⟨g2, o2, cap2, hv2, _, _, hc2⟩ := h2.at (by omega)
      cases hv1
      cases hv2
      have hu : xs[k]? = some (xs[k]'(by omega)) := List.getElem?_eq_getElem _
      obtain ⟨z, hz⟩ := hI (xs[k]'(by omega)) (List.getElem_mem _)
      rw [hz] at hu
      have d1 := hc1 k _ hu
      have d2 := hc2 k _ hu
      clear hc1 hc2 hu h1 h2 hz
      go_wp2_with fail
      go_quiet (fail)
      go_wp2_with fail
      go_roundg (n - (k + 1))
      case measure => omega
      case rel => exact ⟨k + 1, _, rfl, by omega, by go_num, rfl⟩
    · clear h1 h2
      go_wp2_with fail
      go_ret
      exact ⟨rfl, (Step.refl _ _).drewN _⟩
set_option maxRecDepth 100000 in
set_option maxHeartbeats 3200000 in
theorem bwords_law (w : World) (ao : Option Addr) (n cap : Nat) (f : Nat → ByteArray) (_hn : n ≤ cap ∧ cap ≤ maxLen) (_hf : ∀ i, i < n → (f i).size ≤ maxLen) (hs : SlA w ao n 1 (fun i _ => .string (f i)))
    (a1 : Option Addr) (n1 cap1 : Nat) (g : Nat → Bool) (_hn1 : n1 ≤ cap1 ∧ cap1 ≤ maxLen) (hs1 : SlA w a1 n1 1 (fun i _ => .bool (g i))) (a : Int) (ha : IntKind.u8.min ≤ a ∧ a ≤ IntKind.u8.max) (b : Int) (hb : IntKind.u8.min ≤ b ∧ b ≤ IntKind.u8.max) :
    Calls Try.prog 3 #[.slice ao n cap, .slice a1 n1 cap1, .int .u8 a, .int .u8 b] w fun e w' => e = .returned (.bool true) ∧ Step [] w w' := by
  obtain ⟨ha0, ha1⟩ : 0 ≤ a ∧ a ≤ 255 := ha
  obtain ⟨hb0, hb1⟩ : 0 ≤ b ∧ b ≤ 255 := hb
  obtain ⟨i9, hi9, hz0, hz1, hz2⟩ := info_parts Try.infoS
  by_cases hlen : 60 < n
  · go_enter Try.func3, Try.ntmps3
    go_wp2_with fail
    refine known7_any.mono ?_
    rintro e w1 ⟨rfl, s1⟩
    go_wp2_with fail
    go_ret
    exact ⟨rfl, s1⟩
  by_cases hlen1 : n1 < n
  · go_enter Try.func3, Try.ntmps3
    go_wp2_with fail
    refine known7_any.mono ?_
    rintro e w1 ⟨rfl, s1⟩
    go_wp2_with fail
    go_ret
    exact ⟨rfl, s1⟩
  go_enter Try.func3, Try.ntmps3
  go_wp2_with fail
  refine known7_any.mono ?_
  rintro e w1 ⟨rfl, s1⟩
  go_wp2_with fail
  obtain ⟨A, hA, hA1, hA2⟩ : ∃ A : Nat, 1 + a % 8 = A ∧ 1 ≤ A ∧ A ≤ 8 := ⟨(1 + a % 8).toNat, by omega, by omega, by omega⟩
  obtain ⟨B, hB, hB1, hB2⟩ : ∃ B : Nat, 1 + b % 8 = B ∧ 1 ≤ B ∧ B ≤ 8 := ⟨(1 + b % 8).toNat, by omega, by omega, by omega⟩
  rw [hA, hB]
  refine (bnew_okS A B hA1 (by omega) hB1 (by omega)).mono ?_
  rintro e w2 ⟨bb, c1, c2, rfl, s2, b2, f0, f1, f2⟩
  have t0 := BW.start s1 s2 b2 f0 f1 f2
  clear s1 s2 b2 f0 f1 f2
  go_wp2_with fail
  go_loopg [13, 14, 15, 16] n (fun gk s13 s14 s15 s16 wr => ∃ (k : Nat) (P Q : List Value) (ap : Option Addr) (lp cp : Nat) (Bp : Option Nat) (aq : Option Addr) (lq cq : Nat) (Bq : Option Nat), gk = n - k ∧ k ≤ n ∧ s13 = .slice ap lp cp ∧ lp = P.length ∧ s14 = .slice aq lq cq ∧ lq = Q.length ∧ s15 = .int .i64 k ∧ Strs P ∧ Strs Q ∧ BW w wr 91 bb c1 c2 A B P Q P Q ap cp Bp aq cq Bq)
  case atStart => exact ⟨0, [], [], none, 0, 0, none, none, 0, 0, none, rfl, Nat.zero_le _, rfl, rfl, rfl, rfl, rfl, by simp [Strs], by simp [Strs], t0⟩
  case round =>
    obtain ⟨k, P, Q, ap, lp, cp, Bp, aq, lq, cq, Bq, rfl, hk, rfl, rfl, rfl, rfl, rfl, hP, hQ, t⟩ := hrel
    clear t0
    by_cases hlt : k < n
    · obtain ⟨b', off, rfl, hcell⟩ := hs (by omega)
      obtain ⟨b1', off1, rfl, hcell1⟩ := hs1 (by omega)
      have hw0 := hcell k hlt 0 (by omega)
      have hw1 := hcell1 k (by omega) 0 (by omega)
      replace hw0 : w.cell? ⟨b', off + k, none⟩ = some (.string (f k)) := by simpa using hw0
      replace hw1 : w.cell? ⟨b1', off1 + k, none⟩ = some (.bool (g k)) := by simpa using hw1
      clear hcell hcell1 hs hs1
      have hk1 : k < n1 := by omega
      have l1 := t.b.l1
      have l2 := t.b.l2
      cases hg : g k <;> rw [hg] at hw1 <;> have hc0 := t.s.cell hw0 (by simp) <;> have hc1 := t.s.cell hw1 (by simp)
      · by_cases hr : Q.length < B
        · skip
          go_wp2_with fail
          go_region_with (go_at_call 11; refine (bput_other_okS t.b.drew (.string (f k)) hr).mono ?_; rintro e w3 ⟨rfl, q, b3⟩)
          all_goals have t3 := t.box (Step.drew_left q) b3
          all_goals have hc2 := t3.s.cell hw0 (by simp)
          all_goals have hc3 := t3.s.cell hw1 (by simp)
          all_goals clear q b3 t hc0 hc1
          all_goals go_wp2_with (at_builtin; refine Stopped.at ?_)
          all_goals refine Stopped.on ?_
          all_goals refine wpList_app rfl (.tmp 101) (.tmp 106) 22 rfl 9 i9 (.string ByteArray.empty) 1 16 Try.underlying22 hi9 hz0 hz1 hz2 rfl (by decide) (n := Q.length) (m := 1) (xs := Q) (news := [.string (f k)]) (B := Bq) (Bx := some w3.heap.size) (t3.q.step ((Step.refl [] w3).alloc _) (by simp)) (Sl.one w3 1 #[.string (f k)] 9 1 rfl (by decide)).rd (by simp [Value.oneCell']) (by unfold maxLen; omega) (by omega) ?_
          all_goals intro v4 w4 B4 x4 q4 n4
          all_goals obtain ⟨ap4, lp4, cp4, rfl, hl4, t4⟩ := t3.appQ x4 q4 n4
          all_goals clear t3 x4 q4 n4 hc2 hc3
          all_goals go_wp2_with fail
          all_goals go_roundg (n - (k + 1))
          any_goals omega
          all_goals exact ⟨k + 1, P, Q ++ [.string (f k)], ap, _, cp, Bp, ap4, _, cp4, B4, rfl, by omega, rfl, rfl, rfl, by simp, by go_num, hP, hQ.snoc _, t4⟩
        · skip
          go_wp2_with fail
          go_region_with (go_at_call 11; refine (bput_other_noS t.b.drew (.string (f k)) (by omega)).mono ?_; rintro e w3 ⟨rfl, q, b3⟩)
          all_goals have t3 := t.box (Step.drew_left q) b3
          all_goals have hc2 := t3.s.cell hw0 (by simp)
          all_goals have hc3 := t3.s.cell hw1 (by simp)
          all_goals clear q b3 t hc0 hc1
          all_goals go_wp2_with fail
          all_goals go_roundg (n - (k + 1))
          any_goals omega
          all_goals exact ⟨k + 1, P, Q, ap, _, cp, Bp, aq, _, cq, Bq, rfl, by omega, rfl, rfl, rfl, rfl, by go_num, hP, hQ, t3⟩
      · by_cases hr : P.length < A
        · skip
          go_wp2_with fail
          go_region_with (go_at_call 11; refine (bput_first_okS t.b.drew (.string (f k)) hr).mono ?_; rintro e w3 ⟨rfl, q, b3⟩)
          all_goals have t3 := t.box (Step.drew_left q) b3
          all_goals have hc2 := t3.s.cell hw0 (by simp)
          all_goals have hc3 := t3.s.cell hw1 (by simp)
          all_goals clear q b3 t hc0 hc1
          all_goals go_wp2_with (at_builtin; refine Stopped.at ?_)
          all_goals refine Stopped.on ?_
          all_goals refine wpList_app rfl (.tmp 82) (.tmp 87) 22 rfl 9 i9 (.string ByteArray.empty) 1 16 Try.underlying22 hi9 hz0 hz1 hz2 rfl (by decide) (n := P.length) (m := 1) (xs := P) (news := [.string (f k)]) (B := Bp) (Bx := some w3.heap.size) (t3.p.step ((Step.refl [] w3).alloc _) (by simp)) (Sl.one w3 1 #[.string (f k)] 9 1 rfl (by decide)).rd (by simp [Value.oneCell']) (by unfold maxLen; omega) (by omega) ?_
          all_goals intro v4 w4 B4 x4 q4 n4
          all_goals obtain ⟨ap4, lp4, cp4, rfl, hl4, t4⟩ := t3.appP x4 q4 n4
          all_goals clear t3 x4 q4 n4 hc2 hc3
          all_goals go_wp2_with fail
          all_goals go_roundg (n - (k + 1))
          any_goals omega
          all_goals exact ⟨k + 1, P ++ [.string (f k)], Q, ap4, _, cp4, B4, aq, _, cq, Bq, rfl, by omega, rfl, by simp, rfl, rfl, by go_num, hP.snoc _, hQ, t4⟩
        · skip
          go_wp2_with fail
          go_region_with (go_at_call 11; refine (bput_first_noS t.b.drew (.string (f k)) (by omega)).mono ?_; rintro e w3 ⟨rfl, q, b3⟩)
          all_goals have t3 := t.box (Step.drew_left q) b3
          all_goals have hc2 := t3.s.cell hw0 (by simp)
          all_goals have hc3 := t3.s.cell hw1 (by simp)
          all_goals clear q b3 t hc0 hc1
          all_goals go_wp2_with fail
          all_goals go_roundg (n - (k + 1))
          any_goals omega
          all_goals exact ⟨k + 1, P, Q, ap, _, cp, Bp, aq, _, cq, Bq, rfl, by omega, rfl, rfl, rfl, rfl, by go_num, hP, hQ, t3⟩
    · have l1 := t.b.l1
      have l2 := t.b.l2
      have lt := t.b.lt
      have rp := t.p.rd
      have rq := t.q.rd
      have ndp := t.dp
      have ndq := t.dq
      have sw := t.s
      have fw := t.f
      have o0 : BO wr wr 91 bb c1 c2 A B P Q [] none 0 none := ⟨Step.refl _ _, t.b, Sl.nil _ _, by simp⟩
      clear t hs hs1
      go_wp2_with fail
      go_loopg [17, 18, 19, 20] 20 (fun gk s17 s18 s19 s20 wz => ∃ (i : Nat) (X Y O : List Value) (ao : Option Addr) (lo co : Nat) (Bo : Option Nat), gk = 20 - i ∧ i ≤ 20 ∧ s17 = .slice ao lo co ∧ lo = O.length ∧ s18 = .int .i64 i ∧ O ++ (X ++ Y) = P ++ Q ∧ (O.length = i ∨ (O.length < i ∧ X = [] ∧ Y = [])) ∧ BO wr wz 91 bb c1 c2 A B X Y O ao co Bo)
      case atStart => exact ⟨0, P, Q, [], none, 0, 0, none, rfl, by omega, rfl, rfl, rfl, by simp, .inl rfl, o0⟩
      case round =>
        obtain ⟨i, X, Y, O, ao, lo, co, Bo, rfl, hi, rfl, rfl, rfl, hO, hOi, t⟩ := hrel
        clear o0
        have hlen := congrArg List.length hO
        simp only [List.length_append] at hlen
        have hSt : Strs (O ++ (X ++ Y)) := by rw [hO]; exact fun x hx => (List.mem_append.1 hx).elim (hP x) (hQ x)
        by_cases hlt2 : i < 20
        · cases X with
          | cons x X =>
            simp only [List.length_cons] at hlen
            obtain ⟨z, rfl⟩ := hSt x (by simp)
            obtain rfl : i = O.length := hOi.elim (fun h => h.symm) (fun h => absurd h.2.1 (by simp))
            go_wp2_with fail
            refine (btake_firstS t.b).mono ?_
            rintro e w3 ⟨rfl, q, b3⟩
            have t3 := t.box lt q b3
            clear t q b3
            go_wp2_with (at_builtin; refine Stopped.at ?_)
            refine Stopped.on ?_
            refine wpList_app rfl (.tmp 120) (.tmp 122) 22 rfl 9 i9 (.string ByteArray.empty) 1 16 Try.underlying22 hi9 hz0 hz1 hz2 rfl (by decide) (n := O.length) (m := 1) (xs := O) (news := [.string z]) (B := Bo) (Bx := some w3.heap.size) (t3.o.step ((Step.refl [] w3).alloc _) (by simp)) (Sl.one w3 1 #[.string z] 9 1 rfl (by decide)).rd (by simp [Value.oneCell']) (by unfold maxLen; omega) (by omega) ?_
            intro v4 w4 B4 x4 q4 n4
            obtain ⟨ao4, lo4, co4, rfl, t4⟩ := t3.app lt x4 q4 n4
            obtain ⟨ao5, co5, hv⟩ := x4.form
            cases hv
            clear t3 x4 q4 n4
            have hgt : decide ((O.length : Int) < (O.length : Int) + 1) = true := decide_eq_true (by omega)
            go_wp2_with fail
            go_roundg (20 - (O.length + 1))
            case measure => omega
            case rel => exact ⟨O.length + 1, X, Y, O ++ [.string z], ao4, _, co4, B4, rfl, by omega, rfl, by simp, by go_num, by simpa using hO, .inl (by simp), t4⟩
          | nil =>
            cases Y with
            | cons x Y =>
              simp only [List.length_cons, List.length_nil] at hlen
              obtain ⟨z, rfl⟩ := hSt x (by simp)
              obtain rfl : i = O.length := hOi.elim (fun h => h.symm) (fun h => absurd h.2.2 (by simp))
              go_wp2_with fail
              refine (btake_otherS t.b).mono ?_
              rintro e w3 ⟨rfl, q, b3⟩
              have t3 := t.box lt q b3
              clear t q b3
              go_wp2_with (at_builtin; refine Stopped.at ?_)
              refine Stopped.on ?_
              refine wpList_app rfl (.tmp 120) (.tmp 122) 22 rfl 9 i9 (.string ByteArray.empty) 1 16 Try.underlying22 hi9 hz0 hz1 hz2 rfl (by decide) (n := O.length) (m := 1) (xs := O) (news := [.string z]) (B := Bo) (Bx := some w3.heap.size) (t3.o.step ((Step.refl [] w3).alloc _) (by simp)) (Sl.one w3 1 #[.string z] 9 1 rfl (by decide)).rd (by simp [Value.oneCell']) (by unfold maxLen; omega) (by omega) ?_
              intro v4 w4 B4 x4 q4 n4
              obtain ⟨ao4, lo4, co4, rfl, t4⟩ := t3.app lt x4 q4 n4
              obtain ⟨ao5, co5, hv⟩ := x4.form
              cases hv
              clear t3 x4 q4 n4
              have hgt : decide ((O.length : Int) < (O.length : Int) + 1) = true := decide_eq_true (by omega)
              go_wp2_with fail
              go_roundg (20 - (O.length + 1))
              case measure => omega
              case rel => exact ⟨O.length + 1, [], Y, O ++ [.string z], ao4, _, co4, B4, rfl, by omega, rfl, by simp, by go_num, by simpa using hO, .inl (by simp), t4⟩
            | nil =>
              have hOle : O.length ≤ i := by omega
              go_wp2_with fail
              refine (btake_noneS t.b).mono ?_
              rintro e w3 ⟨rfl, q, b3⟩
              have t3 := t.box lt q b3
              clear t q b3
              go_wp2_with fail
              go_roundg (20 - (i + 1))
              case measure => omega
              case rel => exact ⟨i + 1, [], [], O, ao, _, co, Bo, rfl, by omega, rfl, rfl, by go_num, hO, .inr ⟨by omega, rfl, rfl⟩, t3⟩
        · have hXY : X = [] ∧ Y = [] := by
            rcases hOi with h | h
            · omega
            · exact h.2
          obtain ⟨rfl, rfl⟩ := hXY
          have eO : O.length = P.length + Q.length := by simpa using hlen
          have hO' : O = P ++ Q := by simpa using hO
          have ho := t.o.rd
          rw [eO, hO'] at ho
          have rp1 := rp.step t.s (fun g hg => by have := ndp g hg; simp; omega)
          have rq1 := rq.step t.s (fun g hg => by have := ndq g hg; simp; omega)
          have g1 : Step [] w wr := sw.grow t.s (by simp; omega)
          have hP1 : ∀ x ∈ P, x.oneCell' = true := fun x hx => by obtain ⟨z, rfl⟩ := hP x hx; rfl
          have hQ1 : ∀ x ∈ Q, x.oneCell' = true := fun x hx => by obtain ⟨z, rfl⟩ := hQ x hx; rfl
          clear t rp rq ndp ndq sw fw hOi hSt hO
          rw [eO]
          go_wp2_with (at_builtin; refine Stopped.at ?_)
          refine Stopped.on ?_
          refine wpList_app rfl (.tmp 131) (.tmp 132) 22 rfl 9 i9 (.string ByteArray.empty) 1 16 Try.underlying22 hi9 hz0 hz1 hz2 rfl (by decide) (n := 0) (m := P.length) (xs := []) (news := P) (B := some wr.heap.size) (Bx := Bp) (Sl.one wr 1 #[] 9 0 rfl (by decide)) (rp1.alloc _) hP1 (by unfold maxLen; omega) (by omega) ?_
          intro v4 w4 B4 x4 q4 n4
          rw [Nat.zero_add, List.nil_append] at x4
          have g4 : Step [] wr w4 := (((Step.refl [wr.heap.size] wr).alloc _).trans q4).fresh (by simp)
          obtain ⟨ao4, co4, rfl⟩ := x4.form
          go_wp2_with (at_builtin; refine Stopped.at ?_)
          refine Stopped.on ?_
          refine wpList_app rfl (.tmp 133) (.tmp 134) 22 rfl 9 i9 (.string ByteArray.empty) 1 16 Try.underlying22 hi9 hz0 hz1 hz2 rfl (by decide) (n := P.length) (m := Q.length) (xs := P) (news := Q) (B := B4) (Bx := Bq) x4 (rq1.step g4 (by simp)) hQ1 (by unfold maxLen; omega) (by omega) ?_
          intro v5 w5 B5 x5 q5 n5
          have g5 : Step [] wr w5 := g4.grow q5 (fun x hx => by
            have hx := toList_mem hx
            subst hx
            rcases n4 with n4 | ⟨b, hb, hg⟩
            · cases n4; exact Nat.le_refl _
            · cases hb; simp at hg; omega)
          obtain ⟨ao5, co5, rfl⟩ := x5.form
          go_wp2_with fail
          refine (names_same (ho.step g5 (by simp)) x5.rd (fun x hx => (List.mem_append.1 hx).elim (hP x) (hQ x)) (by omega)).mono ?_
          rintro e w6 ⟨rfl, s6⟩
          have g6 := (g1.trans g5).trans s6
          clear x4 x5 q4 q5 n4 n5 g1 g4 g5 s6 ho rp1 rq1
          go_wp2_with fail
          go_ret
          exact ⟨rfl, g6⟩
end Go.Proofs.Ytcmihfanlconhab
