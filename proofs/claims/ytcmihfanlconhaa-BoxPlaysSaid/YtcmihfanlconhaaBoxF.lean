/- The box: clear, a twin; rows alike. Conditions: sizes. -/
import Derived.Test.YtcmihfanlconhaaBoxE
import Derived.Deep.LoopGhost
namespace Go.Proofs.Ytcmihfanlconhaa
open Go.RowKit Go.Conc
theorem ints_same {w : World} {a1 a2 : Option Addr} {n c1 c2 : Nat} {xs : List Value} {B1 B2 : Option Nat} (h1 : Rd w 1 (.slice a1 n c1) n xs B1) (h2 : Rd w 1 (.slice a2 n c2) n xs B2) (hI : Ints xs) (hn : n ≤ 1000000) :
    Calls Try.prog 28 #[.slice a1 n c1, .slice a2 n c2] w fun e w' => e = .returned (.bool true) ∧ Step [] w w' := by
  have hx : xs.length = n := by have := h1.1; simpa using this
  go_enter Try.func28, Try.ntmps28
  go_wp2_with fail
  go_loopg [5] n (fun gk s5 wr => ∃ k m : Nat, gk = n - k ∧ k ≤ n ∧ s5 = .int .i64 k ∧ wr = w.drewN m)
  case atStart => exact ⟨0, 0, rfl, Nat.zero_le _, rfl, rfl⟩
  case round =>
    obtain ⟨k, m, rfl, hk, rfl, rfl⟩ := hrel
    by_cases hlt : k < n
    · obtain ⟨g1, o1, cap1, hv1, _, _, hc1⟩ := h1.at (by omega)
      obtain ⟨g2, o2, cap2, hv2, _, _, hc2⟩ := h2.at (by omega)
      cases hv1
      cases hv2
      have hu : xs[k]? = some (xs[k]'(by omega)) := List.getElem?_eq_getElem _
      obtain ⟨z, hz⟩ := hI (xs[k]'(by omega)) (List.getElem_mem _)
      rw [hz] at hu
      have d1 := hc1 k _ hu
      have d2 := hc2 k _ hu
      clear hc1 hc2 hu h1 h2 hz
      go_wp2_with fail
      go_quiet (fail)
      go_wp2_with fail
      go_roundg (n - (k + 1))
      case measure => omega
      case rel => exact ⟨k + 1, _, rfl, by omega, by go_num, rfl⟩
    · clear h1 h2
      go_wp2_with fail
      go_ret
      exact ⟨rfl, (Step.refl _ _).drewN _⟩
def Sum (w : World) (T : TypeId) (bb c1 c2 n1 n2 : Nat) (m : Nat) (w0 : World) : Prop := ∃ X Y : List Value, m = X.length + Y.length ∧ Bx w T bb c1 c2 n1 n2 X Y ∧ Step [c1, c2] w0 w
set_option maxRecDepth 100000 in
theorem bclear_any {w : World} {T : TypeId} {bb c1 c2 n1 n2 : Nat} {X Y : List Value} (hb : Bx w T bb c1 c2 n1 n2 X Y) :
    Calls Try.prog 36 #[.pointer (some ⟨bb, 0, none⟩)] w fun e w' => e = .returned (.tuple #[]) ∧ Step [c1, c2] w w' ∧ Bx w' T bb c1 c2 n1 n2 [] [] := by
  go_enter Try.func36, Try.ntmps36
  go_wp2_with fail
  go_loopg [2, 3] (X.length + Y.length) (fun gk s2 s3 wr => Sum wr T bb c1 c2 n1 n2 gk w)
  case atStart => exact ⟨X, Y, rfl, hb, Step.refl _ _⟩
  case round =>
    obtain ⟨X', Y', rfl, hb', hst⟩ := hrel
    cases X' with
    | cons x X' =>
      go_wp2_with fail
      refine (btake_firstI hb').mono ?_
      rintro e w1 ⟨rfl, q, h⟩
      go_wp2_with fail
      go_roundg (X'.length + Y'.length)
      case measure => simp
      case rel => exact ⟨X', Y', rfl, h, hst.trans q⟩
    | nil =>
      cases Y' with
      | cons y Y' =>
        go_wp2_with fail
        refine (btake_otherI hb').mono ?_
        rintro e w1 ⟨rfl, q, h⟩
        go_wp2_with fail
        go_roundg (Y'.length)
        case measure => simp
        case rel => exact ⟨[], Y', by simp, h, hst.trans q⟩
      | nil =>
        go_wp2_with fail
        refine (btake_noneI hb').mono ?_
        rintro e w1 ⟨rfl, q, h⟩
        go_wp2_with fail
        refine bodyPost_ret (v := .tuple #[]) (by simp [results, Try.f36, go_sem]) rfl ?_
        exact ⟨rfl, hst.trans q, h⟩
theorem take_cat_first (X Y : List Value) (k : Nat) (h : k < X.length) (v : Value) (hv : (X ++ Y)[k]? = some v) : X.take k ++ [v] = X.take (k + 1) := by
  rw [List.getElem?_append_left h, List.getElem?_eq_getElem h] at hv
  rw [List.take_succ_eq_append_getElem h, Option.some.inj hv]
theorem take_cat_second (X Y : List Value) (k : Nat) (h : ¬ k < X.length) (h2 : k < X.length + Y.length) (v : Value) (hv : (X ++ Y)[k]? = some v) : Y.take (k - X.length) ++ [v] = Y.take (k + 1 - X.length) := by
  rw [List.getElem?_append_right (by omega), List.getElem?_eq_getElem (by omega)] at hv
  rw [show k + 1 - X.length = (k - X.length) + 1 by omega, List.take_succ_eq_append_getElem (by omega), Option.some.inj hv]
theorem twin_new (w : World) (T : TypeId) (n1 n2 : Nat) : ∃ wr, wr = (((w.alloc (.chan n1 #[] false 0 0 false)).alloc (.chan n2 #[] false 0 0 false)).alloc (.cells #[.chan (some w.heap.size), .chan (some (w.heap.size + 1))] T)).drew ∧
    Step [] w wr ∧ ∃ e1 e2, w.heap.size ≤ e1 ∧ w.heap.size ≤ e2 ∧ Bx wr T (w.heap.size + 1 + 1) e1 e2 n1 n2 [] [] :=
  ⟨_, rfl, ((((Step.refl _ _).alloc _).alloc _).alloc _).drew, _, _, Nat.le_refl _, Nat.le_succ _, bx_make w T n1 n2⟩
theorem twin_new' (w : World) (T : TypeId) (n1 n2 : Nat) : ∃ wr, wr = (((w.alloc (.chan n2 #[] false 0 0 false)).alloc (.chan n1 #[] false 0 0 false)).alloc (.cells #[.chan (some (w.heap.size + 1)), .chan (some w.heap.size)] T)).drew ∧
    Step [] w wr ∧ ∃ e1 e2, w.heap.size ≤ e1 ∧ w.heap.size ≤ e2 ∧ Bx wr T (w.heap.size + 1 + 1) e1 e2 n1 n2 [] [] :=
  ⟨_, rfl, ((((Step.refl _ _).alloc _).alloc _).alloc _).drew, _, _, Nat.le_succ _, Nat.le_refl _, bx_make' w T n1 n2⟩
theorem fresh_not2 {B : Option Nat} {n c d : Nat} (h : ∀ g, B = some g → n ≤ g) (hc : c < n) (hd : d < n) : ∀ b, B = some b → b ∉ [c, d] := fun b hb => by
  have := h b hb
  simp
  omega
/-- So far: the first k are in the twin. -/
structure Tw (w0 w : World) (T : TypeId) (bb c1 c2 n1 n2 bt e1 e2 : Nat) (X Y : List Value) (k : Nat) (l : Value) (B : Option Nat) : Prop where
  step : Step [c1, c2] w0 w
  orig : Bx w T bb c1 c2 n1 n2 X Y
  twin : Bx w T bt e1 e2 n1 n2 (X.take k) (Y.take (k - X.length))
  list : Rd w 1 l (X.length + Y.length) (X ++ Y) B
theorem Tw.next {w0 w w' : World} {T : TypeId} {bb c1 c2 n1 n2 bt e1 e2 m : Nat} {X Y : List Value} {k : Nat} {l : Value} {B : Option Nat} (h : Tw w0 w T bb c1 c2 n1 n2 bt e1 e2 X Y k l B) (q : Step [e1, e2] w w')
    (f1 : w0.heap.size ≤ e1) (f2 : w0.heap.size ≤ e2) (g1 : e1 < m) (g2 : e2 < m) (hlt : bb < w0.heap.size ∧ c1 < w0.heap.size ∧ c2 < w0.heap.size) (fB : ∀ g, B = some g → m ≤ g)
    (ht : Bx w' T bt e1 e2 n1 n2 (X.take (k + 1)) (Y.take (k + 1 - X.length))) : Tw w0 w' T bb c1 c2 n1 n2 bt e1 e2 X Y (k + 1) l B := by
  have a : Step ([c1, c2] ++ [e1, e2]) w0 w' := (h.step.weaken (fun x hx => List.mem_append_left _ hx)).trans (q.weaken (fun x hx => List.mem_append_right _ hx))
  refine ⟨a.fresh (fun x hx => ?_), h.orig.step q ?_ ?_ ?_, ht, h.list.step q (fresh_not2 fB g1 g2)⟩
  · rcases List.mem_append.1 hx with hx | hx
    · exact .inl hx
    · simp at hx; exact .inr (by omega)
  · simp; omega
  · simp; omega
  · simp; omega
theorem tw_start {w wr wa : World} {T : TypeId} {bb c1 c2 n1 n2 bt e1 e2 : Nat} {X Y : List Value} {l : Value} {B : Option Nat} (hs : Step [] w wr) (q : Step [c1, c2] wr wa) (ht : Bx wr T bt e1 e2 n1 n2 [] []) (hb1 : Bx wa T bb c1 c2 n1 n2 X Y) (s1 : Rd wa 1 l (X.length + Y.length) (X ++ Y) B)
    (f0 : w.heap.size ≤ bt) (f1 : w.heap.size ≤ e1) (f2 : w.heap.size ≤ e2) (hlt : bb < w.heap.size ∧ c1 < w.heap.size ∧ c2 < w.heap.size) : Tw w wa T bb c1 c2 n1 n2 bt e1 e2 X Y 0 l B := by
  have h1 : bt ∉ [c1, c2] := by simp; omega
  have h2 : e1 ∉ [c1, c2] := by simp; omega
  have h3 : e2 ∉ [c1, c2] := by simp; omega
  exact ⟨(hs.weaken (by simp)).trans q, hb1, by simpa using ht.step q h1 h2 h3, s1⟩
set_option maxRecDepth 100000 in
set_option maxHeartbeats 1600000 in
theorem btwin_any {w : World} {bb c1 c2 n1 n2 : Nat} {X Y : List Value} (hb : Bx w 86 bb c1 c2 n1 n2 X Y) (hX : Ints X) (hY : Ints Y) (h1 : n1 ≤ 256) (h2 : n2 ≤ 256) :
    Calls Try.prog 37 #[.pointer (some ⟨bb, 0, none⟩)] w fun e w' => ∃ bt d1 d2, e = .returned (.pointer (some ⟨bt, 0, none⟩)) ∧ Step [c1, c2] w w' ∧ Bx w' 86 bb c1 c2 n1 n2 X Y ∧ Bx w' 86 bt d1 d2 n1 n2 X Y ∧ w.heap.size ≤ bt ∧ w.heap.size ≤ d1 ∧ w.heap.size ≤ d2 := by
  have d0 := cell_of (i := 0) hb.blk rfl
  have d1 := cell_of (i := 1) hb.blk rfl
  have hl1 := hb.l1
  have hl2 := hb.l2
  have m1 := fun w => mk_chanI w n1 h1
  have m2 := fun w => mk_chanI w n2 h2
  have z1 : ∀ m, Step [] w (w.alloc (.chan m #[] false 0 0 false)) := fun m => (Step.refl _ _).alloc _
  have a1 : ∀ m, (w.alloc (.chan m #[] false 0 0 false)).cell? ⟨bb, 0, none⟩ = some (.chan (some c1)) := fun m => (z1 m).cell d0 (by simp)
  have a2 : ∀ m, (w.alloc (.chan m #[] false 0 0 false)).cell? ⟨bb, 1, none⟩ = some (.chan (some c2)) := fun m => (z1 m).cell d1 (by simp)
  have k1 : (Builtin.cap_ #[84] 3 #[.chan (some c1)]).run Try.prog w.drew = .ok (.int .i64 (n1 : Int)) w.drew := cap_chan hb.drew.first 3
  have k2 : (Builtin.cap_ #[84] 3 #[.chan (some c2)]).run Try.prog w.drew = .ok (.int .i64 (n2 : Int)) w.drew := cap_chan hb.drew.second 3
  have k3 : ∀ m, (Builtin.cap_ #[84] 3 #[.chan (some c1)]).run Try.prog (w.alloc (.chan m #[] false 0 0 false)).drew = .ok (.int .i64 (n1 : Int)) (w.alloc (.chan m #[] false 0 0 false)).drew := fun m => cap_chan (hb.first.step (z1 m).drew (by simp)) 3
  have k4 : ∀ m, (Builtin.cap_ #[84] 3 #[.chan (some c2)]).run Try.prog (w.alloc (.chan m #[] false 0 0 false)).drew = .ok (.int .i64 (n2 : Int)) (w.alloc (.chan m #[] false 0 0 false)).drew := fun m => cap_chan (hb.second.step (z1 m).drew (by simp)) 3
  go_enter Try.func37, Try.ntmps37
  go_wp2_with fail
  go_region
  all_goals first
    | (obtain ⟨wr, hwr, hs, e1, e2, f1, f2, ht⟩ := twin_new w 86 n1 n2; rw [← hwr])
    | (obtain ⟨wr, hwr, hs, e1, e2, f1, f2, ht⟩ := twin_new' w 86 n1 n2; rw [← hwr])
  all_goals clear hwr k1 k2 k3 k4 a1 a2 z1 m1 m2 d0 d1
  all_goals have hlt := hb.lt
  all_goals have hlt' := ht.lt
  all_goals have hsz := hs.size
  all_goals have hb' := hb.step hs (by simp) (by simp) (by simp)
  all_goals generalize hbt : w.heap.size + 1 + 1 = bt at ht hlt' ⊢
  all_goals have hbt' : w.heap.size ≤ bt := by omega
  all_goals clear hbt
  all_goals go_wp2_with fail
  all_goals refine (ball_any hb' hX hY h1 h2).mono ?_
  all_goals rintro e wa ⟨ao, cp, B, rfl, q, hb1, s1, fB⟩
  all_goals go_wp2_with fail
  all_goals have t0 := tw_start hs q ht hb1 s1.rd hbt' f1 f2 hlt
  all_goals clear hs ht hb' q hb1 s1
  all_goals go_loopg [4, 5, 23] (X.length + Y.length) (fun gk s4 s5 s23 wz => ∃ k : Nat, gk = X.length + Y.length - k ∧ k ≤ X.length + Y.length ∧ s23 = .int .i64 k ∧ Tw w wz 86 bb c1 c2 n1 n2 bt e1 e2 X Y k (.slice ao (X.length + Y.length) cp) B)
  all_goals first
    | exact ⟨0, rfl, Nat.zero_le _, rfl, t0⟩
    | skip
  all_goals obtain ⟨k, rfl, hk, rfl, t⟩ := hrel
  all_goals have p0 := cell_of (i := 0) t.orig.blk rfl
  all_goals have L1 := len_chan t.orig.first 3
  all_goals by_cases hl : k < X.length + Y.length
  case pos =>
    obtain ⟨g, o, cap, hv, hB, _, hc⟩ := t.list.at (by omega)
    cases hv
    have hu : (X ++ Y)[k]? = some ((X ++ Y)[k]'(by simp; omega)) := List.getElem?_eq_getElem _
    obtain ⟨z, hz⟩ := (show Ints (X ++ Y) from fun x hx => (List.mem_append.1 hx).elim (hX x) (hY x)) ((X ++ Y)[k]'(by simp; omega)) (List.getElem_mem _)
    rw [hz] at hu
    have dk := hc k _ hu
    clear hc hz
    by_cases hx : k < X.length
    · go_wp2_with fail
      refine (bput_first_okI t.twin _ (by simp; omega)).mono ?_
      rintro e wb ⟨rfl, q, h⟩
      rw [take_cat_first X Y k hx _ hu, show Y.take (k - X.length) = Y.take (k + 1 - X.length) by simp [show k - X.length = 0 by omega, show k + 1 - X.length = 0 by omega]] at h
      have t' := t.next q f1 f2 hlt'.2.1 hlt'.2.2 hlt fB h
      clear h q t p0 L1 hu dk
      go_wp2_with fail
      go_roundg (X.length + Y.length - (k + 1))
      case measure => omega
      case rel => exact ⟨k + 1, rfl, by omega, by go_num, t'⟩
    · go_wp2_with fail
      refine (bput_other_okI t.twin _ (by simp; omega)).mono ?_
      rintro e wb ⟨rfl, q, h⟩
      rw [take_cat_second X Y k hx hl _ hu, show X.take k = X.take (k + 1) by rw [List.take_of_length_le (by omega), List.take_of_length_le (by omega)]] at h
      have t' := t.next q f1 f2 hlt'.2.1 hlt'.2.2 hlt fB h
      clear h q t p0 L1 hu dk
      go_wp2_with fail
      go_roundg (X.length + Y.length - (k + 1))
      case measure => omega
      case rel => exact ⟨k + 1, rfl, by omega, by go_num, t'⟩
  case neg =>
    have hk2 : k = X.length + Y.length := by omega
    go_wp2_with fail
    have tw := t.twin
    rw [List.take_of_length_le (by omega), List.take_of_length_le (by omega)] at tw
    go_ret
    exact ⟨_, _, _, rfl, t.step, t.orig, tw, hbt', f1, f2⟩
  case pos =>
    obtain ⟨g, o, cap, hv, hB, _, hc⟩ := t.list.at (by omega)
    cases hv
    have hu : (X ++ Y)[k]? = some ((X ++ Y)[k]'(by simp; omega)) := List.getElem?_eq_getElem _
    obtain ⟨z, hz⟩ := (show Ints (X ++ Y) from fun x hx => (List.mem_append.1 hx).elim (hX x) (hY x)) ((X ++ Y)[k]'(by simp; omega)) (List.getElem_mem _)
    rw [hz] at hu
    have dk := hc k _ hu
    clear hc hz
    by_cases hx : k < X.length
    · go_wp2_with fail
      refine (bput_first_okI t.twin _ (by simp; omega)).mono ?_
      rintro e wb ⟨rfl, q, h⟩
      rw [take_cat_first X Y k hx _ hu, show Y.take (k - X.length) = Y.take (k + 1 - X.length) by simp [show k - X.length = 0 by omega, show k + 1 - X.length = 0 by omega]] at h
      have t' := t.next q f1 f2 hlt'.2.1 hlt'.2.2 hlt fB h
      clear h q t p0 L1 hu dk
      go_wp2_with fail
      go_roundg (X.length + Y.length - (k + 1))
      case measure => omega
      case rel => exact ⟨k + 1, rfl, by omega, by go_num, t'⟩
    · go_wp2_with fail
      refine (bput_other_okI t.twin _ (by simp; omega)).mono ?_
      rintro e wb ⟨rfl, q, h⟩
      rw [take_cat_second X Y k hx hl _ hu, show X.take k = X.take (k + 1) by rw [List.take_of_length_le (by omega), List.take_of_length_le (by omega)]] at h
      have t' := t.next q f1 f2 hlt'.2.1 hlt'.2.2 hlt fB h
      clear h q t p0 L1 hu dk
      go_wp2_with fail
      go_roundg (X.length + Y.length - (k + 1))
      case measure => omega
      case rel => exact ⟨k + 1, rfl, by omega, by go_num, t'⟩
  case neg =>
    have hk2 : k = X.length + Y.length := by omega
    go_wp2_with fail
    have tw := t.twin
    rw [List.take_of_length_le (by omega), List.take_of_length_le (by omega)] at tw
    go_ret
    exact ⟨_, _, _, rfl, t.step, t.orig, tw, hbt', f1, f2⟩
end Go.Proofs.Ytcmihfanlconhaa
