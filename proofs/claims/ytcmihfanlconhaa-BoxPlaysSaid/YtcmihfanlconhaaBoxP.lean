/- BoxPlays: the walk. Conditions: none. -/
import Derived.Test.YtcmihfanlconhaaBoxX
import Derived.Test.YtcmihfanlconhaaRowl
import Derived.Deep.DeepCutAuto
import Derived.Deep.CutBlock
import Derived.Lib.Hide
namespace Go.Proofs.Ytcmihfanlconhaa
open Go.RowKit Go.Conc
theorem Stopped.app {w : World} {ops : Array Oper} {rest : List Oper} {o : Oper} {a : Act} {Q : Exit → Act → World → Prop} {s x : Operand} {ts : Array TypeId} (_ : o.op = .call { callee := .builtin .append, args := #[s, x], argTypes := ts })
    (h : Stopped (wpList Try.prog ops Q (o :: rest) a w)) : wpList Try.prog ops Q (o :: rest) a w := h
theorem wpList_appG {P : Program} {w : World} {ops : Array Oper} {rest : List Oper} {o : Oper} {a : Act} {Q : Exit → Act → World → Prop} (hgd : Region.wanted o (yielded ops a.tmps) = true) (s x : Operand) (t : TypeId)
    (ho : o.op = .call { callee := .builtin .append, args := #[s, x], argTypes := #[t, t] })
    (e : TypeId) (i : TypeInfo) (z : Value) (sz by_ : Nat) (ht : P.underlying t = some (.slice e)) (hi : P.info? e = some i) (hz : i.zero = some z)
    (hsize : i.size = sz) (hby : i.bytes = by_) (hzs : z.cells.size = sz) (hsz : 0 < sz)
    {n m : Nat} {xs news : List Value} {B Bx : Option Nat} (hs : Sl w sz (a.eval s) n xs B) (hx : Rd w sz (a.eval x) m news Bx) (h1 : ∀ u ∈ news, u.oneCell' = true)
    (h63 : n + m ≤ maxLen) (hbytes : (n + m) * by_ ≤ 140737488355328)
    (h : ∀ v' w' B', Sl w' sz v' (n + m) (xs ++ news) B' → Step B.toList w w' → (B' = B ∨ ∃ b, B' = some b ∧ w.heap.size ≤ b) → wpList P ops Q rest (a.put o.dst v') w') : wpList P ops Q (o :: rest) a w :=
  wpList_step fun K hK => by
    rw [if_pos hgd]
    obtain ⟨v', w', B', hr, h2, h3, h4⟩ := append_run (P := P) w t o.type e i z sz by_ ht hi hz hsize hby hzs hsz hs hx h1 h63 hbytes
    unfold Oper.wp
    simp [execOp, ho, resolve, invoke, builtin, hr, Result.andThen]
    exact hK _ _ (h v' w' B' h2 h3 h4)
set_option maxRecDepth 100000 in
set_option maxHeartbeats 6400000 in
theorem bplays_law (w : World) (r0 : Int) (_hr0 : IntKind.i64.min ≤ r0 ∧ r0 ≤ IntKind.i64.max) (r1 : Int) (_hr1 : IntKind.i64.min ≤ r1 ∧ r1 ≤ IntKind.i64.max) (ao : Option Addr) (n cap : Nat) (f g : Nat → Int) (_hn : n ≤ cap ∧ cap ≤ maxLen) (hf : ∀ i, i < n → (IntKind.i64.min ≤ f i ∧ f i ≤ IntKind.i64.max) ∧ IntKind.i64.min ≤ g i ∧ g i ≤ IntKind.i64.max)
    (hs : SlA w ao n 2 (fun i j => if j = 0 then .int .i64 (f i) else .int .i64 (g i))) : Calls Try.prog 8 #[.int .i64 r0, .int .i64 r1, .slice ao n cap] w fun e w' => e = .returned (.bool true) ∧ Step [] w w' := by
  obtain ⟨i9, hi9, hz0, hz1, hz2⟩ := info_parts Try.infoI
  by_cases hlen : 300 < n
  · go_enter Try.func8, Try.ntmps8
    go_wp2_with fail
    refine known7_any.mono ?_
    rintro e w1 ⟨rfl, s1⟩
    go_wp2_with fail
    go_ret
    exact ⟨rfl, s1⟩
  by_cases hbad : r0 < 1 ∨ 256 < r0 ∨ r1 < 1 ∨ 256 < r1
  · go_enter Try.func8, Try.ntmps8
    go_wp2_with fail
    refine known7_any.mono ?_
    rintro e w1 ⟨rfl, s1⟩
    go_wp2_with fail
    refine (bnew_noI r0 r1 hbad).mono ?_
    rintro e w1' ⟨rfl, rfl⟩
    go_wp2_with fail
    all_goals first
      | (exfalso; simp at *; omega)
      | (go_ret; exact ⟨rfl, s1⟩)
  obtain ⟨A, rfl, hA1, hA2⟩ : ∃ A : Nat, r0 = A ∧ 1 ≤ A ∧ A ≤ 256 := ⟨r0.toNat, by omega, by omega, by omega⟩
  obtain ⟨B, rfl, hB1, hB2⟩ : ∃ B : Nat, r1 = B ∧ 1 ≤ B ∧ B ≤ 256 := ⟨r1.toNat, by omega, by omega, by omega⟩
  have q1 : (1 : Int) ≤ A := by omega
  have q2 : (A : Int) ≤ 256 := by omega
  have q3 : (1 : Int) ≤ B := by omega
  have q4 : (B : Int) ≤ 256 := by omega
  clear hbad
  go_enter Try.func8, Try.ntmps8
  go_wp2_with fail
  refine known7_any.mono ?_
  rintro e w1 ⟨rfl, s1⟩
  go_wp2_with fail
  refine (bnew_okI A B hA1 hA2 hB1 hB2).mono ?_
  rintro e w2 ⟨bb, c1, c2, rfl, s2, b2, f0, f1, f2⟩
  have t0 := BW.start s1 s2 b2 f0 f1 f2
  clear s1 s2 b2 f0 f1 f2
  go_wp2_with fail
  go_loopg [7, 9, 10, 11] n (fun gk s7 s9 s10 s11 wz => ∃ (k bb c1 c2 : Nat) (X Y : List Value) (ap : Option Addr) (lp cp : Nat) (Bp : Option Nat) (aq : Option Addr) (lq cq : Nat) (Bq : Option Nat), gk = n - k ∧ k ≤ n ∧ s7 = .pointer (some ⟨bb, 0, none⟩) ∧ s9 = .slice ap lp cp ∧ lp = X.length ∧ s10 = .slice aq lq cq ∧ lq = Y.length ∧ s11 = .int .i64 k ∧ Ints X ∧ Ints Y ∧ BW w wz 86 bb c1 c2 A B X Y X Y ap cp Bp aq cq Bq)
  case atStart => exact ⟨0, bb, c1, c2, [], [], none, 0, 0, none, none, 0, 0, none, rfl, Nat.zero_le _, rfl, rfl, rfl, rfl, rfl, rfl, Ints.nil, Ints.nil, t0⟩
  case round =>
    clear t0
    obtain ⟨k, bb, c1, c2, X, Y, ap, lp, cp, Bp, aq, lq, cq, Bq, rfl, hk, rfl, rfl, hlp, rfl, hlq, rfl, hX, hY, t⟩ := hrel
    subst hlp hlq
    by_cases hlt : k < n
    · obtain ⟨b', off, rfl, hcell⟩ := hs (by omega)
      have hc0 := t.s.cell (hcell k hlt 0 (by omega)) (by simp)
      have hc1 := t.s.cell (hcell k hlt 1 (by omega)) (by simp)
      have hg0 : -9223372036854775808 ≤ g k := (hf k hlt).2.1
      have hg1 : g k ≤ 9223372036854775807 := (hf k hlt).2.2
      replace hc0 : wr.cell? ⟨b', off + k * 2, none⟩ = some (.int .i64 (f k)) := by simpa using hc0
      replace hc1 : wr.cell? ⟨b', off + k * 2 + 1, none⟩ = some (.int .i64 (g k)) := by simpa [Nat.add_assoc] using hc1
      clear hcell hs hf
      go_upto_block 2 with fail
      go_cut [7, 9, 10] (fun s7 s9 s10 wc => ∃ (bb c1 c2 : Nat) (X Y : List Value) (ap : Option Addr) (lp cp : Nat) (Bp : Option Nat) (aq : Option Addr) (lq cq : Nat) (Bq : Option Nat), s7 = .pointer (some ⟨bb, 0, none⟩) ∧ s9 = .slice ap lp cp ∧ lp = X.length ∧ s10 = .slice aq lq cq ∧ lq = Y.length ∧ Ints X ∧ Ints Y ∧ BW w wc 86 bb c1 c2 A B X Y X Y ap cp Bp aq cq Bq)
      case first =>
        have l1 := t.b.l1
        have l2 := t.b.l2
        have h1 : (f k = 1 ∨ f k = 2 ∨ f k = 3) ∨ (f k = 4 ∨ f k = 5) ∨ (f k ≠ 1 ∧ f k ≠ 2 ∧ f k ≠ 3 ∧ f k ≠ 4 ∧ f k ≠ 5) := by omega
        rcases h1 with (h1 | h1 | h1) | (h1 | h1) | ⟨h1, h2, h3, h4, h5⟩
        · have t1 : (f k == 1) = true := by simp [h1]
          clear h1
          by_cases hr : Y.length < B
          · go_wp2_with fail
            refine (bput_other_okI t.b (.int .i64 (g k)) hr).mono ?_
            rintro e w3 ⟨rfl, q, b3⟩
            have z := t.box q b3
            clear q b3 t hc0 hc1
            go_wp2_with (at_builtin; refine Stopped.at ?_)
            refine Stopped.on ?_
            refine wpList_app rfl (.tmp 93) (.tmp 95) 54 rfl 3 i9 (.int .i64 0) 1 8 Try.underlying54 hi9 hz0 hz1 hz2 rfl (by decide) (n := Y.length) (m := 1) (xs := Y) (news := [.int .i64 (g k)]) (B := Bq) (Bx := some w3.heap.size) (z.q.step ((Step.refl [] w3).alloc _) (by simp)) (Sl.one w3 1 #[.int .i64 (g k)] 3 1 rfl (by decide)).rd (by simp [Value.oneCell']) (by unfold maxLen; omega) (by omega) ?_
            intro v4 w4 B4 x4 q4 n4
            obtain ⟨ap4, lp4, cp4, rfl, hl4, t4⟩ := z.appQ x4 q4 n4
            clear z x4 q4 n4
            go_wp2_with fail
            go_meet
            exact ⟨bb, c1, c2, X, Y ++ [.int .i64 (g k)], ap, _, cp, Bp, ap4, _, cp4, B4, rfl, rfl, rfl, rfl, by simp, hX, hY.snoc _, t4⟩
          · go_wp2_with fail
            refine (bput_other_noI t.b (.int .i64 (g k)) (by omega)).mono ?_
            rintro e w3 ⟨rfl, q, b3⟩
            have z := t.box q b3
            clear q b3 t hc0 hc1
            go_wp2_with fail
            go_meet
            exact ⟨bb, c1, c2, X, Y, ap, _, cp, Bp, aq, _, cq, Bq, rfl, rfl, rfl, rfl, rfl, hX, hY, z⟩
        · have t1 : (f k == 1) = false := by simp [h1]
          have t2 : (f k == 2) = true := by simp [h1]
          clear h1
          by_cases hr : X.length < A
          · go_wp2_with fail
            refine (bput_first_okI t.b (.int .i64 (g k)) hr).mono ?_
            rintro e w3 ⟨rfl, q, b3⟩
            have z := t.box q b3
            clear q b3 t hc0 hc1
            go_wp2_with (at_builtin; refine Stopped.at ?_)
            refine Stopped.on ?_
            refine wpList_app rfl (.tmp 119) (.tmp 121) 54 rfl 3 i9 (.int .i64 0) 1 8 Try.underlying54 hi9 hz0 hz1 hz2 rfl (by decide) (n := X.length) (m := 1) (xs := X) (news := [.int .i64 (g k)]) (B := Bp) (Bx := some w3.heap.size) (z.p.step ((Step.refl [] w3).alloc _) (by simp)) (Sl.one w3 1 #[.int .i64 (g k)] 3 1 rfl (by decide)).rd (by simp [Value.oneCell']) (by unfold maxLen; omega) (by omega) ?_
            intro v4 w4 B4 x4 q4 n4
            obtain ⟨ap4, lp4, cp4, rfl, hl4, t4⟩ := z.appP x4 q4 n4
            clear z x4 q4 n4
            go_wp2_with fail
            go_meet
            exact ⟨bb, c1, c2, X ++ [.int .i64 (g k)], Y, ap4, _, cp4, B4, aq, _, cq, Bq, rfl, rfl, by simp, rfl, rfl, hX.snoc _, hY, t4⟩
          · go_wp2_with fail
            refine (bput_first_noI t.b (.int .i64 (g k)) (by omega)).mono ?_
            rintro e w3 ⟨rfl, q, b3⟩
            have z := t.box q b3
            clear q b3 t hc0 hc1
            go_wp2_with fail
            go_meet
            exact ⟨bb, c1, c2, X, Y, ap, _, cp, Bp, aq, _, cq, Bq, rfl, rfl, rfl, rfl, rfl, hX, hY, z⟩
        · have t1 : (f k == 1) = false := by simp [h1]
          have t2 : (f k == 2) = false := by simp [h1]
          have t3 : (f k == 3) = true := by simp [h1]
          clear h1
          cases X with
          | cons x X =>
            obtain ⟨z, rfl⟩ := hX x (by simp)
            have hgt : decide ((0 : Int) < (X.length : Int) + 1) = true := decide_eq_true (by omega)
            obtain ⟨g5, o5, cap5, hv5, _, hc5⟩ := t.p.at (by simp)
            cases hv5
            have hc6 : wr.cell? ⟨g5, o5, none⟩ = some (.int .i64 z) := by simpa using hc5 0 (.int .i64 z) rfl
            have hl5 : g5 ≠ c1 ∧ g5 ≠ c2 := (t.dp g5 (by assumption)).2
            go_wp2_with fail
            refine (btake_firstI t.b).mono ?_
            rintro e w3 ⟨rfl, q, b3⟩
            have hc7 := q.cell hc6 (by simp; omega)
            have u := t.box q b3
            clear q b3 t hc0 hc1 hc5 hc6
            go_wp2_with (with_reducible refine Stopped.slice rfl ?_)
            refine Stopped.on ?_
            refine wpList_slc_lo rfl 54 (.tmp 148) (.const (.int .i64 1)) rfl 3 i9 1 Try.underlying54 hi9 hz1 (n := X.length + 1) (xs := .int .i64 z :: X) (B := Bp) ?c1 1 .i64 rfl (by omega) ?_
            case c1 => exact u.p
            intro ap5 cp5 hs5
            have hs6 : Sl w3 1 (.slice ap5 X.length cp5) X.length X Bp := by simpa using hs5
            have t5 := u.setP hs6 (Step.refl _ _) (.inl rfl)
            clear u hs5 hs6
            simp only [Nat.add_sub_cancel]
            go_wp2_with fail
            go_meet
            exact ⟨bb, c1, c2, X, Y, ap5, _, cp5, Bp, aq, _, cq, Bq, rfl, rfl, rfl, rfl, rfl, hX.tail, hY, t5⟩
          | nil =>
            cases Y with
            | cons x Y =>
              obtain ⟨z, rfl⟩ := hY x (by simp)
              have hgt : decide ((0 : Int) < (Y.length : Int) + 1) = true := decide_eq_true (by omega)
              obtain ⟨g5, o5, cap5, hv5, _, hc5⟩ := t.q.at (by simp)
              cases hv5
              have hc6 : wr.cell? ⟨g5, o5, none⟩ = some (.int .i64 z) := by simpa using hc5 0 (.int .i64 z) rfl
              have hl5 : g5 ≠ c1 ∧ g5 ≠ c2 := (t.dq g5 (by assumption)).2
              go_wp2_with fail
              refine (btake_otherI t.b).mono ?_
              rintro e w3 ⟨rfl, q, b3⟩
              have hc7 := q.cell hc6 (by simp; omega)
              have u := t.box q b3
              clear q b3 t hc0 hc1 hc5 hc6
              go_wp2_with (with_reducible refine Stopped.slice rfl ?_)
              refine Stopped.on ?_
              refine wpList_slc_lo rfl 54 (.tmp 163) (.const (.int .i64 1)) rfl 3 i9 1 Try.underlying54 hi9 hz1 (n := Y.length + 1) (xs := .int .i64 z :: Y) (B := Bq) ?c2 1 .i64 rfl (by omega) ?_
              case c2 => exact u.q
              intro ap5 cp5 hs5
              have hs6 : Sl w3 1 (.slice ap5 Y.length cp5) Y.length Y Bq := by simpa using hs5
              have t5 := u.setQ hs6 (Step.refl _ _) (.inl rfl)
              clear u hs5 hs6
              simp only [Nat.add_sub_cancel]
              go_wp2_with fail
              go_meet
              exact ⟨bb, c1, c2, [], Y, ap, _, cp, Bp, ap5, _, cp5, Bq, rfl, rfl, rfl, rfl, rfl, hX, hY.tail, t5⟩
            | nil =>
              go_wp2_with fail
              refine (btake_noneI t.b).mono ?_
              rintro e w3 ⟨rfl, q, b3⟩
              have z := t.box q b3
              clear q b3 t hc0 hc1
              go_wp2_with fail
              go_meet
              exact ⟨bb, c1, c2, [], [], ap, _, cp, Bp, aq, _, cq, Bq, rfl, rfl, rfl, rfl, rfl, hX, hY, z⟩
        · have t1 : (f k == 1) = false := by simp [h1]
          have t2 : (f k == 2) = false := by simp [h1]
          have t3 : (f k == 3) = false := by simp [h1]
          have t4 : (f k == 4) = true := by simp [h1]
          clear h1
          go_wp2_with fail
          refine (bclear_any t.b).mono ?_
          rintro e w3 ⟨rfl, q, b3⟩
          have z := (t.box q b3).nil
          clear q b3 t hc0 hc1
          go_wp2_with fail
          go_meet
          exact ⟨bb, c1, c2, [], [], none, 0, 0, none, none, 0, 0, none, rfl, rfl, rfl, rfl, rfl, Ints.nil, Ints.nil, z⟩
        · have t1 : (f k == 1) = false := by simp [h1]
          have t2 : (f k == 2) = false := by simp [h1]
          have t3 : (f k == 3) = false := by simp [h1]
          have t4 : (f k == 4) = false := by simp [h1]
          have t5 : (f k == 5) = true := by simp [h1]
          clear h1
          go_wp2_with fail
          refine (btwin_any t.b hX hY hA2 hB2).mono ?_
          rintro e w3 ⟨bt, d1, d2, rfl, q, b3, u3, f0, f1, f2⟩
          go_wp2_with fail
          refine (bput_any b3 (.int .i64 9)).mono ?_
          rintro e w4 ⟨v, X4, rfl, p4, b4⟩
          go_wp2_with fail
          refine (btake_any b4).mono ?_
          rintro e w5 ⟨v5, o5, X5, Y5, rfl, p5, b5⟩
          have lt := t.b.lt
          have u5 := u3.step (p4.trans p5) (by simp; omega) (by simp; omega) (by simp; omega)
          have z := t.twin (q.trans (p4.trans p5)) u5 f0 f1 f2
          clear q b3 u3 p4 p5 b4 b5 u5 t hc0 hc1 f0 f1 f2
          go_wp2_with fail
          go_meet
          exact ⟨bt, d1, d2, X, Y, ap, _, cp, Bp, aq, _, cq, Bq, rfl, rfl, rfl, rfl, rfl, hX, hY, z⟩
        · have t1 : (f k == 1) = false := by simp [h1]
          have t2 : (f k == 2) = false := by simp [h2]
          have t3 : (f k == 3) = false := by simp [h3]
          have t4 : (f k == 4) = false := by simp [h4]
          have t5 : (f k == 5) = false := by simp [h5]
          clear h1 h2 h3 h4 h5 hc0 hc1
          go_wp2_with fail
          go_meet
          exact ⟨bb, c1, c2, X, Y, ap, _, cp, Bp, aq, _, cq, Bq, rfl, rfl, rfl, rfl, rfl, hX, hY, t⟩
      case rest =>
        clear t hc0 hc1 ap cp Bp aq cq Bq bb c1 c2 X Y hX hY
        obtain ⟨bb, c1, c2, X, Y, ap, lp, cp, Bp, aq, lq, cq, Bq, rfl, rfl, hlp, rfl, hlq, hX, hY, t⟩ := hcut
        subst hlp hlq
        go_wp2_with fail
        refine (blen_any t.b).mono ?_
        rintro e w3 ⟨rfl, q, b3⟩
        have u := t.quiet q
        clear q b3 t
        go_wp2_with fail
        refine (ball_any u.b hX hY hA2 hB2).mono ?_
        rintro e w4 ⟨ao5, cp5, B5, rfl, q, b4, r5, fB⟩
        have t := u.box q b4
        have r5 := r5.rd
        have l1 := t.b.l1
        have l2 := t.b.l2
        clear q b4 u fB
        go_wp2_with (with_reducible refine Stopped.app rfl ?_)
        refine Stopped.on ?_
        refine wpList_appG rfl (.tmp 200) (.tmp 201) 54 rfl 3 i9 (.int .i64 0) 1 8 Try.underlying54 hi9 hz0 hz1 hz2 rfl (by decide) (n := 0) (m := X.length) (xs := []) (news := X) (B := some w4.heap.size) (Bx := Bp) (Sl.one w4 1 #[] 3 0 rfl (by decide)) (t.p.rd.alloc _) hX.one (by unfold maxLen; omega) (by omega) ?_
        intro v5 w5 B6 x5 q5 n5
        rw [Nat.zero_add, List.nil_append] at x5
        have g5 : Step [] w4 w5 := (((Step.refl [w4.heap.size] w4).alloc _).trans q5).fresh (by simp)
        obtain ⟨ao6, co6, rfl⟩ := x5.form
        go_wp2_with (with_reducible refine Stopped.app rfl ?_)
        refine Stopped.on ?_
        refine wpList_appG rfl (.tmp 202) (.tmp 203) 54 rfl 3 i9 (.int .i64 0) 1 8 Try.underlying54 hi9 hz0 hz1 hz2 rfl (by decide) (n := X.length) (m := Y.length) (xs := X) (news := Y) (B := B6) (Bx := Bq) x5 (t.q.rd.step g5 (by simp)) hY.one (by unfold maxLen; omega) (by omega) ?_
        intro v6 w6 B7 x6 q6 n6
        have g6 : Step [] w4 w6 := g5.grow q6 (fun x hx => by
          have hx := toList_mem hx
          subst hx
          rcases n5 with n5 | ⟨b, hb, hg⟩
          · cases n5; exact Nat.le_refl _
          · cases hb; simp at hg; omega)
        obtain ⟨ao7, co7, rfl⟩ := x6.form
        have r6 := r5.step g6 (by simp)
        clear q5 n5 g5 x5 q6 n6 r5
        go_wp2_with fail
        refine (ints_same r6 x6.rd (hX.app hY) (by omega)).mono ?_
        rintro e w7 ⟨rfl, s7⟩
        have z := t.quiet (g6.trans s7)
        clear g6 s7 r6 x6 t l1 l2
        go_wp2_with fail
        go_roundg (n - (k + 1))
        case measure => omega
        case rel => exact ⟨k + 1, bb, c1, c2, X, Y, ap, _, cp, Bp, aq, _, cq, Bq, rfl, by omega, rfl, rfl, rfl, rfl, rfl, by go_num, hX, hY, z⟩
    · have z := t.s
      clear t
      go_wp2_with fail
      go_ret
      exact ⟨rfl, z⟩
end Go.Proofs.Ytcmihfanlconhaa
