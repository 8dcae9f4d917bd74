/- WalPlays: the walk. Conditions: none. -/
import Derived.Test.YtcmihfanlconhaaWKn
import Derived.Test.YtcmihfanlconhaaRowl
import Derived.Deep.DeepCutAuto
import Derived.Deep.CutBlock
import Derived.Lib.Hide
namespace Go.Proofs.Ytcmihfanlconhaa
open Go.RowKit

/-- Between two rounds: the log, the law's own row, both alike. -/
structure WS (w : World) (room : Int) (wr : World) (b : Nat) (xs : List Int) (lasts : Nat) (B : Option Nat) (ax : Option Addr) (cx : Nat) (Bx : Option Nat) : Prop where
  l : WalR wr b room xs lasts B
  x : Sl wr 1 (.slice ax xs.length cx) xs.length (ci xs) Bx
  hb : w.heap.size ≤ b
  nB : New w B
  nx : New w Bx
  ap : ∀ g, Bx = some g → g ∉ b :: B.toList
  st : Step [] w wr

/-- 'append([]int{}, xs...)', the literal laid: what it makes. -/
theorem app_nil {w : World} {ops : Array Oper} {rest : List Oper} {o : Oper} {a : Act} {Q : Exit → Act → World → Prop} (hgd : o.guard = none) (s x : Operand)
    (ho : o.op = .call { callee := .builtin .append, args := #[s, x], argTypes := #[54, 54] })
    (hs : a.eval s = .slice (some ⟨w.heap.size, 0, none⟩) 0 0) {n : Nat} {xs : List Int} {B : Option Nat} (hx : Sl (w.alloc (.cells #[] 3)) 1 (a.eval x) n (ci xs) B) (hn : n ≤ 1000000)
    (h : ∀ ao c w' B', Sl w' 1 (.slice ao n c) n (ci xs) B' → Step [] w w' → (∀ g, B' = some g → w.heap.size ≤ g) → wpList Try.prog ops Q rest (a.put o.dst (.slice ao n c)) w') :
    wpList Try.prog ops Q (o :: rest) a (w.alloc (.cells #[] 3)) := by
  obtain ⟨i, hi, hz0, hz1, hz2⟩ := info_parts Try.info3
  refine wpList_app hgd s x 54 ho 3 i (.int .i64 0) 1 8 Try.underlying54 hi hz0 hz1 hz2 rfl (by decide) (n := 0) (m := n) (xs := []) (news := ci xs) (B := some w.heap.size) (Bx := B) ?_ hx (ci_one _) (by unfold maxLen; omega) (by omega) ?_
  · rw [hs]
    exact ⟨rfl, .inr ⟨_, 0, 0, #[], 3, rfl, rfl, heap_new _ _, Nat.le_refl _, Nat.zero_le _, by simp, by simp⟩⟩
  · intro v' w' B' hs' hst hB'
    rw [Nat.zero_add, List.nil_append] at hs'
    obtain ⟨ao', cap', rfl⟩ := hs'.form
    refine h ao' cap' w' B' hs' ((((Step.refl [w.heap.size] w).alloc (.cells #[] 3)).trans hst).fresh (by simp)) ?_
    rintro g rfl
    rcases hB' with hB' | ⟨b, hb, hge⟩
    · cases hB'; exact Nat.le_refl _
    · cases hb; simp at hge; omega

theorem WS.size {w : World} {room : Int} {wr : World} {b : Nat} {xs : List Int} {lasts : Nat} {B : Option Nat} {ax : Option Addr} {cx : Nat} {Bx : Option Nat} (h : WS w room wr b xs lasts B ax cx Bx) : xs.length ≤ 65536 ∧ lasts ≤ xs.length := by
  obtain ⟨_, _, _, _, h1, h2, _⟩ := h.l
  exact ⟨h2, h1⟩

theorem WalR.keep {w w' : World} {b : Nat} {room : Int} {xs : List Int} {lasts : Nat} {B : Option Nat} {m : List Nat} (h : WalR w b room xs lasts B) (s : Step m w w') (hm : ∀ x ∈ m, x ∉ b :: B.toList) : WalR w' b room xs lasts B :=
  h.step s (fun hb => hm b hb (by simp)) (fun g hg hx => hm g hx (by subst hg; simp))
theorem Sl.keep {w w' : World} {sz : Nat} {v : Value} {n : Nat} {xs : List Value} {B : Option Nat} {m : List Nat} (h : Sl w sz v n xs B) (s : Step m w w') (hm : ∀ g, B = some g → g ∉ m) : Sl w' sz v n xs B := h.step s hm
theorem fresh_apart {w : World} {b : Nat} {room : Int} {xs : List Int} {lasts : Nat} {B Bx : Option Nat} (h : WalR w b room xs lasts B) (hx : ∀ g, Bx = some g → w.heap.size ≤ g) : ∀ x ∈ Bx.toList, x ∉ b :: B.toList := by
  intro x hxx
  cases Bx with
  | none => simp at hxx
  | some g => simp at hxx; subst hxx; exact apart_of h (hx _ rfl)
theorem apart_none {b : Nat} {B Bx : Option Nat} (h : ∀ x ∈ Bx.toList, x ∉ b :: B.toList) : ∀ g, Bx = some g → g ∉ b :: B.toList := by
  rintro g rfl
  exact h g (by simp)
theorem old_apart {w : World} {sz : Nat} {v : Value} {n : Nat} {xs : List Value} {t : Nat} {B Bx : Option Nat} (h : Sl w sz v n xs Bx) (ht : w.heap.size ≤ t) (hB : ∀ g, B = some g → w.heap.size ≤ g) : ∀ g, Bx = some g → g ∉ t :: B.toList := by
  rintro g rfl hg
  have := h.lt g rfl
  cases B with
  | none => simp at hg; omega
  | some g' =>
    have := hB g' rfl
    simp at hg
    omega

set_option maxRecDepth 100000 in
set_option maxHeartbeats 6400000 in
theorem wplays_law (w : World) (r : Int) (_hr : IntKind.i64.min ≤ r ∧ r ≤ IntKind.i64.max) (ao : Option Addr) (n cap : Nat) (f g : Nat → Int) (hn : n ≤ maxLen) (hf : ∀ i, i < n → (IntKind.i64.min ≤ f i ∧ f i ≤ IntKind.i64.max) ∧ IntKind.i64.min ≤ g i ∧ g i ≤ IntKind.i64.max)
    (hs : SlA w ao n 2 (fun i j => if j = 0 then .int .i64 (f i) else .int .i64 (g i))) : Calls Try.prog 6 #[.int .i64 r, .slice ao n cap] w (Ret' (.bool true) fun w' => Step [] w w') := by
  unfold maxLen at hn
  by_cases hlen : 200 < n
  · go_enter Try.func6, Try.ntmps6
    go_wp2_with (go_at_call 21; refine (wknown_any _).mono ?_; rintro e w1 ⟨rfl, s1⟩)
    go_ret
    exact ⟨rfl, s1⟩
  have hlen' : n ≤ 200 := by omega
  clear hlen
  have hab : (r < 1 ∨ 65536 < r) ∨ (1 ≤ r ∧ r ≤ 65536) := by omega
  rcases hab with hab | ⟨hr0, hr1⟩
  · have hab' := hab
    rcases hab' with hab' | hab'
    · go_enter Try.func6, Try.ntmps6
      go_wp2_with (first
        | (go_at_call 21; refine (wknown_any _).mono ?_; rintro e w1 ⟨rfl, s1⟩)
        | (go_at_call 22; refine (wnew_no r hab _).mono ?_; rintro e w1' ⟨rfl, rfl⟩))
      go_ret
      exact ⟨rfl, s1⟩
    · have hr' : 1 ≤ r := by omega
      go_enter Try.func6, Try.ntmps6
      go_wp2_with (first
        | (go_at_call 21; refine (wknown_any _).mono ?_; rintro e w1 ⟨rfl, s1⟩)
        | (go_at_call 22; refine (wnew_no r hab _).mono ?_; rintro e w1' ⟨rfl, rfl⟩))
      go_ret
      exact ⟨rfl, s1⟩
  go_enter Try.func6, Try.ntmps6
  go_wp2_with fail
  refine (wknown_any _).mono ?_
  rintro e w1 ⟨rfl, s1⟩
  go_wp2_with fail
  refine (wnew_ok r hr0 hr1 _).mono ?_
  rintro e w2 ⟨rfl, s2, l2⟩
  have ws : WS w r w2 w1.heap.size [] 0 none none 0 none := ⟨l2, Sl.nil _ _, s1.size, .none, .none, by simp, s1.trans s2⟩
  clear s1 s2 l2
  generalize w1.heap.size = b at *
  go_wp2_with fail
  go_loopg [5, 7, 8, 9] n (fun gk s5 s7 s8 s9 wr => ∃ (k b : Nat) (xs : List Int) (lasts : Nat) (B : Option Nat) (ax : Option Addr) (lx cx : Nat) (Bx : Option Nat), gk = n - k ∧ k ≤ n ∧ s5 = .pointer (some ⟨b, 0, none⟩) ∧ s7 = .slice ax lx cx ∧ lx = xs.length ∧ s8 = .int .i64 lasts ∧ s9 = .int .i64 k ∧ WS w r wr b xs lasts B ax cx Bx)
  case atStart => exact ⟨0, b, [], 0, none, none, 0, 0, none, rfl, Nat.zero_le _, rfl, rfl, rfl, rfl, rfl, ws⟩
  case round =>
    obtain ⟨k, b, xs, lasts, B, ax, lx, cx, Bx, rfl, hk, rfl, rfl, hlx, rfl, rfl, ws⟩ := hrel
    by_cases hlt : k < n
    · obtain ⟨b', off, rfl, hcell⟩ := hs (by omega)
      have hc0 := ws.st.cell (hcell k hlt 0 (by omega)) (by simp)
      have hc1 := ws.st.cell (hcell k hlt 1 (by omega)) (by simp)
      have hg0 : -9223372036854775808 ≤ g k := (hf k hlt).2.1
      have hg1 : g k ≤ 9223372036854775807 := (hf k hlt).2.2
      replace hc0 : wr.cell? ⟨b', off + k * 2, none⟩ = some (.int .i64 (f k)) := by simpa using hc0
      replace hc1 : wr.cell? ⟨b', off + k * 2 + 1, none⟩ = some (.int .i64 (g k)) := by simpa [Nat.add_assoc] using hc1
      clear hcell hs hf
      subst hlx
      go_upto_block 2 with fail
      go_cut [5, 7, 8] (fun s5 s7 s8 wc => ∃ (b : Nat) (xs : List Int) (lasts : Nat) (B : Option Nat) (ax : Option Addr) (lx cx : Nat) (Bx : Option Nat), s5 = .pointer (some ⟨b, 0, none⟩) ∧ s7 = .slice ax lx cx ∧ lx = xs.length ∧ s8 = .int .i64 lasts ∧ WS w r wc b xs lasts B ax cx Bx)
      case first =>
        obtain ⟨z1, z2⟩ := ws.size
        obtain ⟨hl, hx, hb, nB, nx, ap, st⟩ := ws
        have h1 : (f k = 1 ∨ f k = 2 ∨ f k = 3) ∨ (f k = 4 ∨ f k = 5) ∨ (f k ≠ 1 ∧ f k ≠ 2 ∧ f k ≠ 3 ∧ f k ≠ 4 ∧ f k ≠ 5) := by omega
        rcases h1 with (h1 | h1 | h1) | (h1 | h1) | ⟨h1, h2, h3, h4, h5⟩
        · have t1 : (f k == 1) = true := by simp [h1]
          clear h1
          by_cases hfull : (xs.length : Int) < r
          · go_wp2_with fail
            refine (wappend_ok hl (g k) hfull hr1).mono ?_
            rintro e w3 ⟨B3, rfl, q, l3, n3⟩
            have x3 := hx.step q ap
            have nB3 := New.of nB st n3
            have s3 := st.grow q (New.mem hb nB)
            clear q n3 hl hx st nB ap hc0 hc1
            go_wp2_with (at_builtin; refine Stopped.at ?_)
            refine Stopped.on ?_
            refine app_nil rfl (.tmp 79) (.tmp 80) rfl rfl (B := Bx) (x3.alloc _) (by omega) ?_
            intro ao5 c5 w5 B5 x5 q n5
            have l5 := l3.step q (by simp) (by simp)
            have N5 := New.later s3 n5
            have s5 := s3.trans q
            have a5 : ∀ x ∈ B5.toList, x ∉ b :: B3.toList := fresh_apart l3 n5
            clear q n5 l3 s3 x3
            obtain ⟨i, hi, hz0, hz1, hz2⟩ := info_parts Try.info3
            go_wp2_with (at_builtin; refine Stopped.at ?_)
            refine Stopped.on ?_
            refine wpList_app rfl (.tmp 81) (.tmp 83) 54 rfl 3 i (.int .i64 0) 1 8 Try.underlying54 hi hz0 hz1 hz2 rfl (by decide) (n := xs.length) (m := 1) (xs := ci xs) (news := ci [g k]) (B := B5) (Bx := some w5.heap.size) (x5.alloc _) (Sl.one w5 1 #[.int .i64 (g k)] 3 1 rfl (by decide)) (ci_one _) (by unfold maxLen; omega) (by omega) ?_
            intro v6 w6 B6 x6 q n6
            have q' : Step B5.toList w5 w6 := (((Step.refl _ w5).alloc _)).trans q
            have l6 := l5.keep q' a5
            have n6' : B6 = B5 ∨ ∃ g, B6 = some g ∧ w5.heap.size ≤ g := by
              rcases n6 with n6 | ⟨g', h, h'⟩
              · exact .inl n6
              · exact .inr ⟨g', h, by simp at h'; omega⟩
            have N6 := New.of N5 s5 n6'
            have s6 := s5.grow q' (by intro x hx; cases B5 with | none => simp at hx | some g' => simp at hx; subst hx; exact N5 _ rfl)
            have a6 : ∀ x ∈ B6.toList, x ∉ b :: B3.toList := by
              rcases n6' with rfl | ⟨g', rfl, hg'⟩
              · exact a5
              · intro x hx; simp at hx; subst hx; exact apart_of l5 hg'
            obtain ⟨ao6, c6, rfl⟩ := x6.form
            clear q q' n6 n6' l5 s5 N5 a5 x5
            go_wp2_with fail
            go_meet
            refine ⟨b, xs ++ [g k], lasts, B3, ao6, _, c6, B6, rfl, rfl, by simp, rfl, l6, ?_, hb, nB3, N6, apart_none a6, s6⟩
            simpa [ci] using x6
          · go_wp2_with fail
            refine (wappend_full hl (g k) (by omega)).mono ?_
            rintro e w3 ⟨rfl, q, l3⟩
            have x3 := hx.step q (by simp)
            have s3 := st.trans q
            clear q hl hx st hc0 hc1
            go_wp2_with fail
            go_meet
            exact ⟨b, xs, lasts, B, ax, _, cx, Bx, rfl, rfl, rfl, rfl, l3, x3, hb, nB, nx, ap, s3⟩
        · have t1 : (f k == 1) = false := by simp [h1]
          have t2 : (f k == 2) = true := by simp [h1]
          clear h1
          go_wp2_with fail
          refine (wsync_any hl).mono ?_
          rintro e w3 ⟨rfl, q, l3⟩
          have x3 := hx.step q (fun g hg h => ap g hg (by simp at h; simp [h]))
          have s3 := st.grow q (by simp [hb])
          clear q hl hx st hc0 hc1
          go_wp2_with fail
          go_meet
          exact ⟨b, xs, xs.length, B, ax, _, cx, Bx, rfl, rfl, rfl, rfl, l3, x3, hb, nB, nx, ap, s3⟩
        · have t1 : (f k == 1) = false := by simp [h1]
          have t2 : (f k == 2) = false := by simp [h1]
          have t3 : (f k == 3) = true := by simp [h1]
          clear h1
          have hkl := kept_le (k := g k) z2
          have hln : lasts ≤ kept xs lasts (g k) := by unfold kept; omega
          go_wp2_with fail
          refine (wcrash_any hl (g k)).mono ?_
          rintro e w3 ⟨rfl, q, l3⟩
          have x3 := hx.step q (fun g' hg h => ap g' hg (by simp at h; simp [h]))
          have s3 := st.grow q (by simp [hb])
          clear q hl hx st hc0 hc1
          go_wp2_with (with_reducible refine Stopped.slice rfl ?_)
          all_goals
            refine Stopped.on ?_
            obtain ⟨i, hi, hz0, hz1, hz2⟩ := info_parts Try.info3
            refine wpList_slc_hi rfl 54 (.tmp 104) (.tmp 107) rfl 3 i 1 Try.underlying54 hi hz1 (n := xs.length) (xs := ci xs) (B := Bx) (x3.alloc _) (kept xs lasts (g k)) .i64 ?_ hkl ?_
            · show Value.int .i64 _ = _
              congr 1
              unfold kept
              split <;> omega
            intro ao4 c4 x4
            rw [Nat.mul_one, ci, ← List.map_take] at x4
            go_wp2_with (at_builtin; refine Stopped.at ?_)
            refine Stopped.on ?_
            refine app_nil rfl (.tmp 103) (.tmp 108) rfl rfl (B := Bx) x4 (by omega) ?_
            intro ao5 c5 w5 B5 x5 q n5
            have l5 := l3.step q (by simp) (by simp)
            have N5 := New.later s3 n5
            have s5 := s3.trans q
            have a5 : ∀ x ∈ B5.toList, x ∉ b :: B.toList := fresh_apart l3 n5
            clear q n5 l3 s3 x3 x4
            go_wp2_with fail
            go_meet
            have hlen : (xs.take (kept xs lasts (g k))).length = kept xs lasts (g k) := by rw [List.length_take, Nat.min_eq_left hkl]
            refine ⟨b, xs.take (kept xs lasts (g k)), kept xs lasts (g k), B, ao5, _, c5, B5, rfl, rfl, hlen.symm, rfl, l5, ?_, hb, nB, N5, apart_none a5, s5⟩
            rw [hlen]
            exact x5
        · have t1 : (f k == 1) = false := by simp [h1]
          have t2 : (f k == 2) = false := by simp [h1]
          have t3 : (f k == 3) = false := by simp [h1]
          have t4 : (f k == 4) = true := by simp [h1]
          clear h1
          have h4 : (g k < 1 ∨ (xs.length : Int) < g k) ∨ (1 ≤ g k ∧ g k ≤ xs.length ∧ (lasts : Int) < g k) ∨ (1 ≤ g k ∧ g k ≤ lasts) := by omega
          rcases h4 with h4 | ⟨h4, h5, h6⟩ | ⟨h4, h5⟩
          · have h4' := h4
            rcases h4' with h4' | h4'
            · go_wp2_with fail
              refine (wtrim_arg hl _ _ h4).mono ?_
              rintro e w3 ⟨rfl, rfl⟩
              go_wp2_with fail
              go_meet
              exact ⟨b, xs, lasts, B, ax, _, cx, Bx, rfl, rfl, rfl, rfl, hl, hx, hb, nB, nx, ap, st⟩
            · have h4'' : 1 ≤ g k := by omega
              go_wp2_with fail
              refine (wtrim_arg hl _ _ h4).mono ?_
              rintro e w3 ⟨rfl, rfl⟩
              go_wp2_with fail
              go_meet
              exact ⟨b, xs, lasts, B, ax, _, cx, Bx, rfl, rfl, rfl, rfl, hl, hx, hb, nB, nx, ap, st⟩
          · go_wp2_with fail
            refine (wtrim_state hl _ _ h4 h5 h6).mono ?_
            rintro e w3 ⟨rfl, rfl⟩
            go_wp2_with fail
            go_meet
            exact ⟨b, xs, lasts, B, ax, _, cx, Bx, rfl, rfl, rfl, rfl, hl, hx, hb, nB, nx, ap, st⟩
          · generalize g k = gk at *
            obtain ⟨q, rfl⟩ : ∃ q : Nat, gk = q := ⟨gk.toNat, by omega⟩
            go_wp2_with fail
            refine (wtrim_ok hl q _ (by omega) (by omega)).mono ?_
            rintro e w3 ⟨B3, rfl, st3, l3, n3⟩
            have x3 := hx.step st3 (fun g' hg h => ap g' hg (by simp at h; simp [h]))
            have s3 := st.grow st3 (by simp [hb])
            have nB3 : New w B3 := New.of .none st (.inr n3)
            clear st3 hl hx st hc0 hc1 n3
            obtain ⟨i, hi, hz0, hz1, hz2⟩ := info_parts Try.info3
            go_wp2_with (with_reducible refine Stopped.slice rfl ?_)
            refine Stopped.on ?_
            refine wpList_slc_lo rfl 54 (.tmp 122) (.tmp 123) rfl 3 i 1 Try.underlying54 hi hz1 (n := xs.length) (xs := ci xs) (B := Bx) (x3.alloc _) q .i64 rfl (by omega) ?_
            intro ao4 c4 x4
            rw [Nat.mul_one, ci, ← List.map_drop] at x4
            go_wp2_with (at_builtin; refine Stopped.at ?_)
            refine Stopped.on ?_
            refine wpList_app rfl (.tmp 121) (.tmp 124) 54 rfl 3 i (.int .i64 0) 1 8 Try.underlying54 hi hz0 hz1 hz2 rfl (by decide) (n := 1) (m := xs.length - q) (xs := ci [(q : Int)]) (news := ci (xs.drop q)) (B := some w3.heap.size) (Bx := Bx) (Sl.one w3 1 #[.int .i64 q] 3 1 rfl (by decide)) x4 (ci_one _) (by unfold maxLen; omega) (by omega) ?_
            intro v6 w6 B6 x6 st6 n6
            obtain ⟨ao6, c6, rfl⟩ := x6.form
            have st6' : Step [] w3 w6 := (((Step.refl [w3.heap.size] w3).alloc _).trans st6).fresh (by simp)
            have n6' : ∀ g, B6 = some g → w3.heap.size ≤ g := by
              rintro g' rfl
              rcases n6 with n6 | ⟨g2, h, h'⟩
              · cases n6; exact Nat.le_refl _
              · cases h; simp at h'; omega
            have a6 := fresh_apart l3 n6'
            have l6 := l3.step st6' (by simp) (by simp)
            have N6 := New.later s3 n6'
            have s6 := s3.trans st6'
            clear st6 st6' n6 n6' l3 s3 x3 x4
            go_wp2_with fail
            go_meet
            have hlen : ((q : Int) :: xs.drop q).length = 1 + (xs.length - q) := by simp; omega
            refine ⟨b, (q : Int) :: xs.drop q, lasts - (q - 1), B3, ao6, _, c6, B6, rfl, rfl, hlen.symm, by congr 1; omega, l6, ?_, hb, nB3, N6, apart_none a6, s6⟩
            rw [hlen]
            simpa [ci] using x6
        · have t1 : (f k == 1) = false := by simp [h1]
          have t2 : (f k == 2) = false := by simp [h1]
          have t3 : (f k == 3) = false := by simp [h1]
          have t4 : (f k == 4) = false := by simp [h1]
          have t5 : (f k == 5) = true := by simp [h1]
          clear h1
          go_wp2_with fail
          refine (wtwin_any hl).mono ?_
          rintro e w3 ⟨t, Bt, rfl, q, ht, l3, nt⟩
          have Nt := New.later st nt
          have htw : w.heap.size ≤ t := by have := st.size; omega
          have hbt : t ∉ b :: B.toList := apart_of hl ht
          have hBt : ∀ x ∈ Bt.toList, x ∉ b :: B.toList := fresh_apart hl nt
          have k3 := hl.step q (by simp) (by simp)
          have x3 := hx.step q (by simp)
          have apt := old_apart hx ht nt
          have s3 := st.trans q
          have z3 : wr.heap.size ≤ w3.heap.size := q.size
          clear q hl hx st hc0 hc1
          go_wp2_with fail
          have hap : Calls Try.prog 23 #[.pointer (some ⟨b, 0, none⟩), .int .i64 7] w3 fun e w' => ∃ v B' xs', e = .returned v ∧ Step (b :: B.toList) w3 w' ∧ WalR w' b r xs' lasts B' := by
            by_cases hfull : (xs.length : Int) < r
            · exact (wappend_ok k3 7 hfull hr1).mono fun e w' ⟨B', h1, h2, h3, h4⟩ => ⟨_, B', _, h1, h2, h3⟩
            · exact (wappend_full k3 7 (by omega)).mono fun e w' ⟨h1, h2, h3⟩ => ⟨_, B, xs, h1, h2.weaken (by simp), h3⟩
          refine hap.mono ?_
          rintro e w4 ⟨v4, B4, xs4, rfl, q, k4⟩
          have l4 := l3.keep q (by
            intro x hx hxx
            cases Bt with
            | none => simp at hxx; subst hxx; exact hbt hx
            | some g' =>
              simp at hxx
              rcases hxx with h0 | h0
              · exact hbt (h0 ▸ hx)
              · exact hBt x (by simp [h0]) hx)
          have x4 := x3.step q ap
          have s4 := s3.grow q (New.mem hb nB)
          clear q l3 x3 s3 k3 hap
          go_wp2_with fail
          refine (wcrash_any k4 0).mono ?_
          rintro e w5 ⟨rfl, q, _⟩
          have l5 := l4.keep q (by
            intro x hx hxx
            simp at hx
            cases Bt with
            | none => simp at hxx; exact hbt (by simp [← hxx, hx])
            | some g' =>
              simp at hxx
              rcases hxx with h0 | h0
              · exact hbt (by simp [← h0, hx])
              · exact hBt x (by simp [h0]) (by simp [hx]))
          have x5 := x4.step q (fun g' hg h => ap g' hg (by simp at h; simp [h]))
          have s5 := s4.grow q (by simp [hb])
          clear q l4 x4 s4 k4
          go_wp2_with fail
          go_meet
          exact ⟨t, xs, lasts, Bt, ax, _, cx, Bx, rfl, rfl, rfl, rfl, l5, x5, htw, Nt, nx, apt, s5⟩
        · have t1 : (f k == 1) = false := by simp [h1]
          have t2 : (f k == 2) = false := by simp [h2]
          have t3 : (f k == 3) = false := by simp [h3]
          have t4 : (f k == 4) = false := by simp [h4]
          have t5 : (f k == 5) = false := by simp [h5]
          clear h1 h2 h3 h4 h5
          go_wp2_with fail
          go_meet
          exact ⟨b, xs, lasts, B, ax, _, cx, Bx, rfl, rfl, rfl, rfl, hl, hx, hb, nB, nx, ap, st⟩
      case rest =>
        obtain ⟨b, xs, lasts, B, ax, lx, cx, Bx, rfl, rfl, rfl, rfl, ws⟩ := hcut
        obtain ⟨z1, z2⟩ := ws.size
        go_wp2_with fail
        refine (wall_any ws.l).mono ?_
        rintro e w3 ⟨ao3, cap3, B3, rfl, q, h3, n3⟩
        have l3 := ws.l.step q (by simp) (by simp)
        have x3 := ws.x.step q (by simp)
        have s3 := ws.st.trans q
        clear q
        go_wp2_with fail
        refine (ints_same h3 x3 (by omega)).mono ?_
        rintro e w4 ⟨rfl, m4, rfl⟩
        replace l3 := l3.drewN m4
        replace x3 : Sl (w3.drewN m4) 1 (.slice ax xs.length cx) xs.length (ci xs) Bx := x3
        replace s3 := s3.drewN m4
        clear h3 n3
        generalize w3.drewN m4 = w4 at *
        go_wp2_with fail
        refine (wlen_any l3).mono ?_
        rintro e w5 ⟨rfl, rfl⟩
        go_wp2_with fail
        refine (wwaits_any l3).mono ?_
        rintro e w6 ⟨rfl, m6, rfl⟩
        go_wp2_with fail
        go_roundg (n - (k + 1))
        case measure => omega
        case rel => exact ⟨k + 1, b, xs, lasts, B, ax, _, cx, Bx, rfl, by omega, rfl, rfl, rfl, rfl, by go_num, l3.drewN _, x3, ws.hb, ws.nB, ws.nx, ws.ap, s3.drewN _⟩
    · clear hs hf
      go_wp2_with fail
      go_ret
      exact ⟨rfl, ws.st⟩
end Go.Proofs.Ytcmihfanlconhaa
