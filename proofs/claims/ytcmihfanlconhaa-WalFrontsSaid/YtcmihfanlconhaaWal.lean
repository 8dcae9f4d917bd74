/- The log's functions: what each does. Conditions: at most 65536 records. -/
import Derived.Test.YtcmihfanlconhaaSl
import Derived.Test.YtcmihfanlconhaaProg
import Derived.Deep.RegionHeld3
import Derived.Deep.QuietTactic
import Derived.BigQuiet
import Derived.Deep.LoopGhost
import Derived.WalkSpells
namespace Go.Proofs.Ytcmihfanlconhaa
open Go.RowKit

def Ret' (v : Value) (Q : World → Prop) (e : Ending) (w' : World) : Prop := e = .returned v ∧ Q w'
def ci (xs : List Int) : List Value := xs.map (Value.int .i64)
theorem ci_one (xs : List Int) : ∀ u ∈ ci xs, u.oneCell' = true := by
  intro u hu
  obtain ⟨x, _, rfl⟩ := List.mem_map.1 hu
  rfl
theorem Try.info3 : (Try.prog.info? 3).map (fun i => (i.zero, i.size, i.bytes)) = some (some (.int .i64 0), 1, 8) := by kernel_rfl

/-- The log at block b; its records lie in block B. -/
def WalR (w : World) (b : Nat) (room : Int) (xs : List Int) (lasts : Nat) (B : Option Nat) : Prop :=
  ∃ ao cap, w.heap[b]? = some (.cells #[.int .i64 room, .slice ao xs.length cap, .int .i64 lasts] 82 (0, 0)) ∧ Sl w 1 (.slice ao xs.length cap) xs.length (ci xs) B ∧ lasts ≤ xs.length ∧ xs.length ≤ 65536 ∧ B ≠ some b

theorem WalR.step {w w' : World} {b : Nat} {room : Int} {xs : List Int} {lasts : Nat} {B : Option Nat} {m : List Nat} (h : WalR w b room xs lasts B) (s : Step m w w') (hb : b ∉ m) (hB : ∀ g, B = some g → g ∉ m) : WalR w' b room xs lasts B := by
  obtain ⟨ao, cap, h1, h2, h3, h4, h5⟩ := h
  exact ⟨ao, cap, s.heap h1 hb, h2.step s hB, h3, h4, h5⟩
theorem WalR.drewN {w : World} {b : Nat} {room : Int} {xs : List Int} {lasts : Nat} {B : Option Nat} (h : WalR w b room xs lasts B) (n : Nat) : WalR (w.drewN n) b room xs lasts B := h

set_option maxHeartbeats 400000 in
theorem wnew_ok (r : Int) (h0 : 1 ≤ r) (h1 : r ≤ 65536) (w : World) : Calls Try.prog 22 #[.int .i64 r] w
    (Ret' (.tuple #[.pointer (some ⟨w.heap.size, 0, none⟩), .int .i64 0]) fun w' => Step [] w w' ∧ WalR w' w.heap.size r [] 0 none) := by
  go_enter Try.func22, Try.ntmps22
  go_wp2
  go_ret2
  exact ⟨rfl, (Step.refl _ _).alloc _, none, 0, heap_new _ _, ⟨by simp [ci], .inl ⟨rfl, rfl, rfl⟩⟩, by simp, by simp, by simp⟩

set_option maxHeartbeats 400000 in
theorem wnew_no (r : Int) (h : r < 1 ∨ 65536 < r) (w : World) : Calls Try.prog 22 #[.int .i64 r] w
    (Ret' (.tuple #[.pointer none, .int .i64 1]) fun w' => w = w') := by
  rcases h with h | h
  · go_enter Try.func22, Try.ntmps22
    go_wp2
    go_ret2
    exact ⟨rfl, rfl⟩
  · have h' : 1 ≤ r := by omega
    go_enter Try.func22, Try.ntmps22
    go_wp2
    go_ret2
    exact ⟨rfl, rfl⟩

theorem nil54 (w : World) (a : Option Addr) (n c : Nat) : (binOp .eql 54 (.slice a n c) (.slice none 0 0)).run Try.prog w = .ok (.bool a.isNone) w :=
  Lib.run_eql_slice_nil w 54 3 a n c 0 0 Try.underlying54
theorem clone_any {w : World} {ao : Option Addr} {n cap : Nat} {xs : List Int} {B : Option Nat} (hs : Rd w 1 (.slice ao n cap) n (ci xs) B) (hn : n ≤ 1000000) :
    Calls Try.prog 41 #[.slice ao n cap] w fun e w' => ∃ ao' cap' B', e = .returned (.slice ao' n cap') ∧ Step [] w w' ∧ Sl w' 1 (.slice ao' n cap') n (ci xs) B' ∧ (∀ g, B' = some g → w.heap.size ≤ g) := by
  obtain ⟨i, hi, hz0, hz1, hz2⟩ := info_parts Try.info3
  by_cases h0 : ao = none
  · subst h0
    obtain ⟨hl, ao0, cap0, hv, h2, _, h4⟩ := hs
    cases hv
    have hn0 : n = 0 := by
      by_cases hn0 : n = 0
      · exact hn0
      · obtain ⟨_, _, h, _⟩ := h4 (by omega); cases h
    have hn54 := nil54
    go_enter Try.func41, Try.ntmps41
    go_wp2
    go_ret
    subst hn0
    exact ⟨none, 0, none, rfl, Step.refl _ _, ⟨hl, .inl ⟨rfl, rfl, rfl⟩⟩, by simp⟩
  · have hn54 := nil54
    have ho : ao.isNone = false := by cases ao <;> simp_all
    go_enter Try.func41, Try.ntmps41
    go_wp2_with (at_builtin; refine Stopped.at ?_)
    refine Stopped.on ?_
    refine wpList_app rfl (.tmp 5) (.tmp 6) 54 rfl 3 i (.int .i64 0) 1 8 Try.underlying54 hi hz0 hz1 hz2 rfl (by decide) (n := 0) (m := n) (xs := []) (news := ci xs) (B := some w.heap.size) (Bx := B) ?c1 ?c2 (ci_one _) (by unfold maxLen; omega) (by omega) ?c3
    case c1 => exact ⟨rfl, .inr ⟨_, 0, 0, #[], 3, rfl, rfl, heap_new _ _, Nat.le_refl _, Nat.zero_le _, by simp, by simp⟩⟩
    case c2 => exact hs.alloc _
    intro v' w' B' hs' hst hB'
    rw [Nat.zero_add] at hs'
    obtain ⟨ao', cap', rfl⟩ := hs'.form
    rw [List.nil_append] at hs'
    have hstep : Step [] w w' := (((Step.refl [] w).alloc (.cells #[] 3)).weaken (by simp : ∀ x ∈ ([] : List Nat), x ∈ [w.heap.size])).trans hst |>.fresh (by simp)
    have hfr : ∀ g, B' = some g → w.heap.size ≤ g := by
      rintro g rfl
      rcases hB' with hB' | ⟨b, hb, hge⟩
      · cases hB'; omega
      · cases hb; simp at hge; omega
    clear hst hs hB'
    go_wp2
    go_ret
    exact ⟨ao', cap', B', rfl, hstep, hs', hfr⟩

theorem WalR.cells {w : World} {b : Nat} {room : Int} {xs : List Int} {lasts : Nat} {B : Option Nat} (h : WalR w b room xs lasts B) :
    ∃ ao cap, w.cell? ⟨b, 0, none⟩ = some (.int .i64 room) ∧ w.cell? ⟨b, 1, none⟩ = some (.slice ao xs.length cap) ∧ w.cell? ⟨b, 2, none⟩ = some (.int .i64 lasts) ∧
      w.frozen? ⟨b, 1, none⟩ = false ∧ w.frozen? ⟨b, 2, none⟩ = false ∧
      w.heap[b]? = some (.cells #[.int .i64 room, .slice ao xs.length cap, .int .i64 lasts] 82 (0, 0)) ∧ Sl w 1 (.slice ao xs.length cap) xs.length (ci xs) B := by
  obtain ⟨ao, cap, h1, h2, _⟩ := h
  exact ⟨ao, cap, cell_of h1 rfl, cell_of h1 rfl, cell_of h1 rfl, free_of h1, free_of h1, h1, h2⟩

set_option maxHeartbeats 400000 in
theorem wappend_full {w : World} {b : Nat} {room : Int} {xs : List Int} {lasts : Nat} {B : Option Nat} (h : WalR w b room xs lasts B) (x : Int) (hf : room ≤ xs.length) :
    Calls Try.prog 23 #[.pointer (some ⟨b, 0, none⟩), .int .i64 x] w (Ret' (.int .i64 6) fun w' => Step [] w w' ∧ WalR w' b room xs lasts B) := by
  obtain ⟨ao, cap, c0, c1, c2, f1, f2, _, _⟩ := h.cells
  go_enter Try.func23, Try.ntmps23
  go_wp2_with fail
  go_quiet (fail)
  go_wp2_with fail
  go_ret
  exact ⟨rfl, (Step.refl _ _).drewN _, h.drewN _⟩

set_option maxHeartbeats 400000 in
theorem wappend_ok {w : World} {b : Nat} {room : Int} {xs : List Int} {lasts : Nat} {B : Option Nat} (h : WalR w b room xs lasts B) (x : Int) (hf : xs.length < room) (hr : room ≤ 65536) :
    Calls Try.prog 23 #[.pointer (some ⟨b, 0, none⟩), .int .i64 x] w fun e w' => ∃ B', Ret' (.int .i64 0) (fun w' => Step (b :: B.toList) w w' ∧ WalR w' b room (xs ++ [x]) lasts B' ∧ (B' = B ∨ ∃ g, B' = some g ∧ w.heap.size ≤ g)) e w' := by
  obtain ⟨i, hi, hz0, hz1, hz2⟩ := info_parts Try.info3
  obtain ⟨ao, cap, c0, c1, c2, f1, f2, hh, hs⟩ := h.cells
  have hlen : xs.length < 65536 := by omega
  have hbw := lt_size hh
  obtain ⟨_, _, _, _, hla, _, hne⟩ := h
  go_enter Try.func23, Try.ntmps23
  go_wp2_with fail
  go_quiet (fail)
  go_wp2_with (at_builtin; refine Stopped.at ?_)
  refine Stopped.on ?_
  refine wpList_app rfl (.tmp 19) (.tmp 21) 54 rfl 3 i (.int .i64 0) 1 8 Try.underlying54 hi hz0 hz1 hz2 rfl (by decide) (n := xs.length) (m := 1) (xs := ci xs) (news := ci [x]) (B := B) (Bx := some w.heap.size) ?c1 ?c2 ?c4 ?c5 ?c6 ?c3
  case c1 => exact Sl.alloc (w := w.drewN _) hs _
  case c2 => refine Sl.rd ?_; exact Sl.one _ 1 #[.int .i64 x] 3 1 rfl (by unfold maxLen; omega)
  case c4 => exact ci_one _
  case c5 => unfold maxLen; omega
  case c6 => omega
  intro v' w' B' hs' hst hB'
  obtain ⟨ao', cap', rfl⟩ := hs'.form
  have hbB : b ∉ B.toList := by cases B <;> simp; intro hx; subst hx; exact hne rfl
  have hh' := hst.heap (show (World.alloc (w.drewN nq) (.cells #[.int .i64 x] 3)).heap[b]? = _ from (Below.heap_alloc _ _ _ hbw).trans hh) hbB
  have g1 := cell_of (i := 1) hh' rfl
  have g2 : w'.frozen? ⟨b, 1, none⟩ = false := free_of hh'
  have hst' : Step (b :: B.toList) w w' := ((((Step.refl [] w).drewN nq).alloc (.cells #[.int .i64 x] 3)).weaken (by simp)).trans (hst.weaken (by intro x hx; exact List.mem_cons_of_mem _ hx))
  have hB2 : B' = B ∨ ∃ g, B' = some g ∧ w.heap.size ≤ g := by
    rcases hB' with hB' | ⟨g, hg, hge⟩
    · exact .inl hB'
    · exact .inr ⟨g, hg, by simp at hge; omega⟩
  have hB3 : B' ≠ some b := by
    rintro rfl
    rcases hB2 with h | ⟨g, hg, hge⟩
    · exact hne h.symm
    · cases hg; omega
  clear hB' hst hh hs c0 c1 c2 f1 f2
  go_wp2_with fail
  go_ret
  refine ⟨B', rfl, hst'.setCell _ (by simp) _, ⟨ao', cap', ?_, ?_, by simp; omega, by simp; omega, hB3⟩, hB2⟩
  · simpa using heap_set (i := 1) (.slice ao' (xs.length + 1) cap') hh'
  · have := hs'.step (((Step.refl [b] w').setCell ⟨b, 1, none⟩ (by simp) (.slice ao' (xs.length + 1) cap'))) (by rintro g rfl; simp; rintro rfl; exact hB3 rfl)
    simpa [ci] using this

set_option maxHeartbeats 400000 in
theorem wlen_any {w : World} {b : Nat} {room : Int} {xs : List Int} {lasts : Nat} {B : Option Nat} (h : WalR w b room xs lasts B) :
    Calls Try.prog 30 #[.pointer (some ⟨b, 0, none⟩)] w fun e w' => e = .returned (.int .i64 xs.length) ∧ w = w' := by
  obtain ⟨ao, cap, c0, c1, c2, f1, f2, _, _⟩ := h.cells
  clear h
  go_enter Try.func30, Try.ntmps30
  go_wp2_with fail
  go_ret
  exact ⟨rfl, rfl⟩

set_option maxHeartbeats 400000 in
theorem wwaits_any {w : World} {b : Nat} {room : Int} {xs : List Int} {lasts : Nat} {B : Option Nat} (h : WalR w b room xs lasts B) :
    Calls Try.prog 31 #[.pointer (some ⟨b, 0, none⟩)] w fun e w' => e = .returned (.int .i64 (xs.length - lasts)) ∧ ∃ n, w' = w.drewN n := by
  obtain ⟨ao, cap, c0, c1, c2, f1, f2, _, _⟩ := h.cells
  obtain ⟨_, _, _, _, hl, hm, _⟩ := h
  have e1 : IntKind.i64.wrap ((xs.length : Int) - lasts) = xs.length - lasts := IntWalk.i64_in _ (by omega)
  go_enter Try.func31, Try.ntmps31
  go_wp2_with fail
  go_quiet (fail)
  go_wp2_with fail
  go_ret
  exact ⟨rfl, _, rfl⟩

set_option maxHeartbeats 400000 in
theorem wsync_any {w : World} {b : Nat} {room : Int} {xs : List Int} {lasts : Nat} {B : Option Nat} (h : WalR w b room xs lasts B) :
    Calls Try.prog 24 #[.pointer (some ⟨b, 0, none⟩)] w (Ret' (.tuple #[]) fun w' => Step [b] w w' ∧ WalR w' b room xs xs.length B) := by
  obtain ⟨ao, cap, c0, c1, c2, f1, f2, hh, hs⟩ := h.cells
  obtain ⟨_, _, _, _, hl, hm, hne⟩ := h
  go_enter Try.func24, Try.ntmps24
  go_wp2_with fail
  go_end0
  refine ⟨rfl, (Step.refl _ _).setCell _ (by simp) _, ao, cap, heap_set (i := 2) _ hh, hs.step ((Step.refl [b] w).setCell _ (by simp) _) (by rintro g rfl; simp; rintro rfl; exact hne rfl), Nat.le_refl _, hm, hne⟩

theorem wall_any {w : World} {b : Nat} {room : Int} {xs : List Int} {lasts : Nat} {B : Option Nat} (h : WalR w b room xs lasts B) :
    Calls Try.prog 29 #[.pointer (some ⟨b, 0, none⟩)] w fun e w' => ∃ ao' cap' B', e = .returned (.slice ao' xs.length cap') ∧ Step [] w w' ∧ Sl w' 1 (.slice ao' xs.length cap') xs.length (ci xs) B' ∧ (∀ g, B' = some g → w.heap.size ≤ g) := by
  obtain ⟨ao, cap, c0, c1, c2, f1, f2, hh, hs⟩ := h.cells
  obtain ⟨_, _, _, _, hl, hm, hne⟩ := h
  go_enter Try.func29, Try.ntmps29
  go_wp2_with fail
  refine (clone_any hs.rd (by omega)).mono ?_
  rintro e w' ⟨ao', cap', B', rfl, h1, h2, h3⟩
  go_wp2_with fail
  go_ret
  exact ⟨ao', cap', B', rfl, h1, h2, h3⟩

/-- What a fall leaves. -/
def kept (xs : List Int) (lasts : Nat) (k : Int) : Nat := lasts + (if k < 0 then 0 else min k.toNat (xs.length - lasts))
theorem kept_le {xs : List Int} {lasts : Nat} {k : Int} (h : lasts ≤ xs.length) : kept xs lasts k ≤ xs.length := by unfold kept; split <;> omega

set_option maxHeartbeats 800000 in
theorem wcrash_core {w : World} {b : Nat} {room : Int} {xs : List Int} {lasts : Nat} {B : Option Nat} (h : WalR w b room xs lasts B) (k : Int) (n : Nat) (hkl : n ≤ xs.length) (hln : lasts ≤ n)
    (hcase : ((lasts : Int) + if (xs.length : Int) - lasts < if k < 0 then 0 else k then (xs.length : Int) - lasts else if k < 0 then 0 else k) = n) :
    Calls Try.prog 25 #[.pointer (some ⟨b, 0, none⟩), .int .i64 k] w (Ret' (.tuple #[]) fun w' => Step [b] w w' ∧ WalR w' b room (xs.take n) n B) := by
  obtain ⟨i, hi, hz0, hz1, hz2⟩ := info_parts Try.info3
  obtain ⟨ao, cap, c0, c1, c2, f1, f2, hh, hs⟩ := h.cells
  have hw := h
  obtain ⟨_, _, _, _, hl, hm, hne⟩ := h
  go_enter Try.func25, Try.ntmps25
  go_wp2_with fail
  go_quiet ((go_at_call 31; exact Calls.quiet_of (wwaits_any (hw.drewN _))))
  clear hcase
  generalize (if k < 0 then (0 : Int) else k) = z1
  generalize (if (xs.length : Int) - lasts < z1 then (xs.length : Int) - lasts else z1) = z2
  go_wp2_with (with_reducible refine Stopped.slice rfl ?_)
  refine Stopped.on ?_
  refine wpList_slc_hh rfl 54 (.tmp 19) (.tmp 20) (.tmp 21) rfl 3 i 1 Try.underlying54 hi hz1 (n := xs.length) (xs := ci xs) (B := B) ?c1 n .i64 .i64 rfl rfl hkl ?_
  case c1 => exact hs
  intro ao' c' hs'
  go_wp2_with fail
  have hW : WalR (World.setCell (w.drewN nq) ⟨b, 1, none⟩ (.slice ao' n c')) b room (xs.take n) lasts B := by
    refine ⟨ao', c', ?_, ?_, ?_, ?_, hne⟩
    · rw [List.length_take, Nat.min_eq_left hkl]
      exact heap_set (w := w.drewN nq) (i := 1) _ hh
    · rw [List.length_take, Nat.min_eq_left hkl]
      have := hs'.step ((Step.refl [b] (w.drewN nq)).setCell ⟨b, 1, none⟩ (by simp) (.slice ao' n c')) (by rintro g rfl; simp; rintro rfl; exact hne rfl)
      rw [ci, ← List.map_take] at this
      simpa [ci] using this
    · rw [List.length_take, Nat.min_eq_left hkl]; exact hln
    · rw [List.length_take]; omega
  refine (wsync_any hW).mono ?_
  rintro e w' ⟨rfl, h1, h2⟩
  go_wp2_with fail
  go_end0
  rw [List.length_take, Nat.min_eq_left hkl] at h2
  exact ⟨rfl, (((Step.refl [b] w).drewN nq).setCell _ (by simp) _).trans h1, h2⟩

theorem wcrash_any {w : World} {b : Nat} {room : Int} {xs : List Int} {lasts : Nat} {B : Option Nat} (h : WalR w b room xs lasts B) (k : Int) :
    Calls Try.prog 25 #[.pointer (some ⟨b, 0, none⟩), .int .i64 k] w (Ret' (.tuple #[]) fun w' => Step [b] w w' ∧ WalR w' b room (xs.take (kept xs lasts k)) (kept xs lasts k) B) := by
  have hl : lasts ≤ xs.length := by obtain ⟨_, _, _, _, hl, _⟩ := h; exact hl
  refine wcrash_core h k _ (kept_le hl) (by unfold kept; omega) ?_
  unfold kept
  split <;> split <;> (try split) <;> omega

set_option maxHeartbeats 400000 in
theorem wtrim_arg {w : World} {b : Nat} {room : Int} {xs : List Int} {lasts : Nat} {B : Option Nat} (h : WalR w b room xs lasts B) (n x : Int) (hn : n < 1 ∨ (xs.length : Int) < n) :
    Calls Try.prog 26 #[.pointer (some ⟨b, 0, none⟩), .int .i64 n, .int .i64 x] w (Ret' (.int .i64 1) fun w' => w = w') := by
  obtain ⟨ao, cap, c0, c1, c2, f1, f2, _, _⟩ := h.cells
  clear h
  rcases hn with hn | hn
  · go_enter Try.func26, Try.ntmps26
    go_wp2_with fail
    go_ret
    exact ⟨rfl, rfl⟩
  · have hn' : 1 ≤ n := by omega
    go_enter Try.func26, Try.ntmps26
    go_wp2_with fail
    go_ret
    exact ⟨rfl, rfl⟩

set_option maxHeartbeats 400000 in
theorem wtrim_state {w : World} {b : Nat} {room : Int} {xs : List Int} {lasts : Nat} {B : Option Nat} (h : WalR w b room xs lasts B) (n x : Int) (hn : 1 ≤ n) (hn1 : n ≤ xs.length) (hn2 : (lasts : Int) < n) :
    Calls Try.prog 26 #[.pointer (some ⟨b, 0, none⟩), .int .i64 n, .int .i64 x] w (Ret' (.int .i64 16) fun w' => w = w') := by
  obtain ⟨ao, cap, c0, c1, c2, f1, f2, _, _⟩ := h.cells
  clear h
  go_enter Try.func26, Try.ntmps26
  go_wp2_with fail
  go_ret
  exact ⟨rfl, rfl⟩

set_option maxHeartbeats 800000 in
theorem wtrim_ok {w : World} {b : Nat} {room : Int} {xs : List Int} {lasts : Nat} {B : Option Nat} (h : WalR w b room xs lasts B) (n : Nat) (x : Int) (hn : 1 ≤ n) (hn2 : n ≤ lasts) :
    Calls Try.prog 26 #[.pointer (some ⟨b, 0, none⟩), .int .i64 n, .int .i64 x] w fun e w' => ∃ B', Ret' (.int .i64 0) (fun w' => Step [b] w w' ∧ WalR w' b room (x :: xs.drop n) (lasts - (n - 1)) B' ∧ ∃ g, B' = some g ∧ w.heap.size ≤ g) e w' := by
  obtain ⟨i, hi, hz0, hz1, hz2⟩ := info_parts Try.info3
  obtain ⟨ao, cap, c0, c1, c2, f1, f2, hh, hs⟩ := h.cells
  obtain ⟨_, _, _, _, hl, hm, hne⟩ := h
  have hnx : n ≤ xs.length := by omega
  have hbw := lt_size hh
  go_enter Try.func26, Try.ntmps26
  go_wp2_with (with_reducible refine Stopped.slice rfl ?_)
  refine Stopped.on ?_
  refine wpList_slc_lo rfl 54 (.tmp 32) (.tmp 33) rfl 3 i 1 Try.underlying54 hi hz1 (n := xs.length) (xs := ci xs) (B := B) ?c1 n .i64 rfl hnx ?_
  case c1 => exact hs.alloc _
  intro ao' c' hs'
  go_wp2_with (at_builtin; refine Stopped.at ?_)
  refine Stopped.on ?_
  refine wpList_app rfl (.tmp 28) (.tmp 34) 54 rfl 3 i (.int .i64 0) 1 8 Try.underlying54 hi hz0 hz1 hz2 rfl (by decide) (n := 1) (m := xs.length - n) (xs := ci [x]) (news := ci (xs.drop n)) (B := some w.heap.size) (Bx := B) ?c1 ?c2 ?c4 ?c5 ?c6 ?c3
  case c1 => exact Sl.one w 1 #[.int .i64 x] 3 1 rfl (by unfold maxLen; omega)
  case c2 =>
    rw [Nat.mul_one] at hs'
    rw [ci, List.map_drop]
    exact hs'.rd
  case c4 => exact ci_one _
  case c5 => unfold maxLen; omega
  case c6 => omega
  intro v' w' B' hs2 hst hB'
  obtain ⟨ao2, cap2, rfl⟩ := hs2.form
  have hst0 : Step [] w w' := (((Step.refl [w.heap.size] w).alloc (.cells #[.int .i64 x] 3)).trans hst).fresh (by simp)
  have hh' := hst0.heap hh (by simp)
  have g1 := cell_of (i := 1) hh' rfl
  have g2 := cell_of (i := 2) hh' rfl
  have g3 : w'.frozen? ⟨b, 1, none⟩ = false := free_of hh'
  have g4 : w'.frozen? ⟨b, 2, none⟩ = false := free_of hh'
  have hB2 : ∃ g, B' = some g ∧ w.heap.size ≤ g := by
    rcases hB' with hB' | ⟨g, hg, hge⟩
    · exact ⟨_, hB', Nat.le_refl _⟩
    · exact ⟨g, hg, by simp at hge; omega⟩
  have hB3 : B' ≠ some b := by
    rintro rfl
    obtain ⟨g, hg, hge⟩ := hB2
    cases hg; omega
  have hlen : (x :: xs.drop n).length = 1 + (xs.length - n) := by simp; omega
  clear hB' hst hh hs c0 c1 c2 f1 f2 hs'
  go_wp2_with fail
  go_ret
  refine ⟨B', rfl, (hst0.weaken (by simp)).setCell _ (by simp) _ |>.setCell _ (by simp) _, ⟨ao2, cap2, ?_, ?_, by omega, by omega, hB3⟩, hB2⟩
  · have := heap_set (i := 2) (.int .i64 ((lasts : Int) - ((n : Int) - 1))) (heap_set (i := 1) (.slice ao2 (1 + (xs.length - n)) cap2) hh')
    rw [hlen]
    rw [show ((lasts : Int) - ((n : Int) - 1)) = ((lasts - (n - 1) : Nat) : Int) by omega] at this ⊢
    exact this
  · rw [hlen]
    have := hs2.step ((((Step.refl [b] w').setCell ⟨b, 1, none⟩ (by simp) (.slice ao2 (1 + (xs.length - n)) cap2))).setCell ⟨b, 2, none⟩ (by simp) (.int .i64 ((lasts : Int) - ((n : Int) - 1)))) (by rintro g rfl; simp; rintro rfl; exact hB3 rfl)
    simpa [ci] using this

set_option maxHeartbeats 800000 in
theorem wtwin_any {w : World} {b : Nat} {room : Int} {xs : List Int} {lasts : Nat} {B : Option Nat} (h : WalR w b room xs lasts B) :
    Calls Try.prog 27 #[.pointer (some ⟨b, 0, none⟩)] w fun e w' => ∃ t B', Ret' (.pointer (some ⟨t, 0, none⟩)) (fun w' => Step [] w w' ∧ w.heap.size ≤ t ∧ WalR w' t room xs lasts B' ∧ ∀ g, B' = some g → w.heap.size ≤ g) e w' := by
  obtain ⟨ao, cap, c0, c1, c2, f1, f2, hh, hs⟩ := h.cells
  obtain ⟨_, _, _, _, hl, hm, hne⟩ := h
  have hbw := lt_size hh
  go_enter Try.func27, Try.ntmps27
  go_wp2_with fail
  go_region_held3 (fun w' => w'.cell? ⟨b, 0, none⟩ = some (.int .i64 room) ∧ w'.cell? ⟨b, 1, none⟩ = some (.slice ao xs.length cap) ∧ w'.cell? ⟨b, 2, none⟩ = some (.int .i64 lasts))
    (first | go_keep | exact ⟨k1.cell c0 (by simp), k1.cell c1 (by simp), k1.cell c2 (by simp)⟩ | (simp only [World.cell?_alloc_past _ _ _ (Nat.lt_of_lt_of_le hbw k1.size)]; exact ⟨k1.cell c0 (by simp), k1.cell c1 (by simp), k1.cell c2 (by simp)⟩))
    ((first | (go_at_call 41; refine (clone_any (w := w.drew) (B := B) hs.rd (by omega)).mono ?_; rintro e w1 ⟨ao', cap', B', rfl, k1, k2, k3⟩)))
  go_wp2_with fail
  go_ret
  have hsz : w.heap.size ≤ w1.heap.size := k1.size
  have hne' : B' ≠ some w1.heap.size := by
    rintro rfl
    have := k2.lt _ rfl
    omega
  exact ⟨w1.heap.size, B', rfl, (Step.drew_left k1).alloc _, hsz, ⟨ao', cap', heap_new _ _, k2.alloc _, hl, hm, hne'⟩, k3⟩

/-- Two rows of the same numbers are told alike. -/
theorem ints_same {w : World} {a1 a2 : Option Addr} {n c1 c2 : Nat} {xs : List Int} {B1 B2 : Option Nat} (h1 : Rd w 1 (.slice a1 n c1) n (ci xs) B1) (h2 : Rd w 1 (.slice a2 n c2) n (ci xs) B2) (hn : n ≤ 1000000) :
    Calls Try.prog 28 #[.slice a1 n c1, .slice a2 n c2] w fun e w' => e = .returned (.bool true) ∧ ∃ m, w' = w.drewN m := by
  have hx : xs.length = n := by have := h1.1; simpa [ci] using this
  go_enter Try.func28, Try.ntmps28
  go_wp2_with fail
  go_loopg [5] n (fun gk s5 wr => ∃ k m : Nat, gk = n - k ∧ k ≤ n ∧ s5 = .int .i64 k ∧ wr = w.drewN m)
  case atStart => exact ⟨0, 0, rfl, Nat.zero_le _, rfl, rfl⟩
  case round =>
    obtain ⟨k, m, rfl, hk, rfl, rfl⟩ := hrel
    by_cases hlt : k < n
    · obtain ⟨g1, o1, cap1, hv1, _, _, hc1⟩ := h1.at (by omega)
      obtain ⟨g2, o2, cap2, hv2, _, _, hc2⟩ := h2.at (by omega)
      cases hv1
      cases hv2
      have hu : (ci xs)[k]? = some (.int .i64 (xs[k]'(by omega))) := by simp [ci, show k < xs.length by omega]
      have d1 := hc1 k _ hu
      have d2 := hc2 k _ hu
      clear hc1 hc2 hu h1 h2
      go_wp2_with fail
      go_quiet (fail)
      go_wp2_with fail
      go_roundg (n - (k + 1))
      case measure => omega
      case rel => exact ⟨k + 1, _, rfl, by omega, by go_num, rfl⟩
    · clear h1 h2
      go_wp2_with fail
      go_ret
      exact ⟨rfl, _, rfl⟩
end Go.Proofs.Ytcmihfanlconhaa
