/- The log's known answers. Conditions: none. -/
import Derived.Test.YtcmihfanlconhaaWal
namespace Go.Proofs.Ytcmihfanlconhaa
open Go.RowKit

/-- A block that came behind 'w'. -/
def New (w : World) (B : Option Nat) : Prop := ∀ g, B = some g → w.heap.size ≤ g
theorem New.none {w : World} : New w none := by intro g h; cases h
theorem New.of {w a : World} {B B' : Option Nat} (h : New w B) (hs : Step [] w a) (hB : B' = B ∨ ∃ g, B' = some g ∧ a.heap.size ≤ g) : New w B' := by
  have := hs.size
  rcases hB with rfl | ⟨g, rfl, hg⟩
  · exact h
  · intro g' h'; cases h'; omega
theorem New.later {w a : World} {B' : Option Nat} (hs : Step [] w a) (hB : ∀ g, B' = some g → a.heap.size ≤ g) : New w B' := by
  have := hs.size
  intro g h; have := hB g h; omega
theorem New.mem {w : World} {b : Nat} {B : Option Nat} (hb : w.heap.size ≤ b) (h : New w B) : ∀ x ∈ b :: B.toList, w.heap.size ≤ x := by
  intro x hx
  cases B with
  | none => simp at hx; omega
  | some g =>
    simp at hx
    rcases hx with rfl | rfl
    · exact hb
    · exact h _ rfl
theorem apart_of {w : World} {b x : Nat} {B : Option Nat} {room : Int} {xs : List Int} {lasts : Nat} (h : WalR w b room xs lasts B) (hx : w.heap.size ≤ x) : x ∉ b :: B.toList := by
  obtain ⟨ao, cap, h1, h2, _⟩ := h
  have hb := lt_size h1
  cases B with
  | none => simp; omega
  | some g =>
    have := h2.lt g rfl
    simp; omega

set_option maxRecDepth 100000 in
set_option maxHeartbeats 3200000 in
theorem wknown_any (w : World) : Calls Try.prog 21 #[] w (Ret' (.bool true) fun w' => Step [] w w') := by
  go_enter Try.func21, Try.ntmps21
  go_wp2_with fail
  refine (wnew_ok 3 (by omega) (by omega) _).mono ?_
  rintro e w1 ⟨rfl, s1, l1⟩
  generalize hb0 : w.heap.size = b at l1 ⊢
  have hb := Nat.le_of_eq hb0
  clear hb0
  go_wp2_with fail
  refine (wnew_no 0 (by omega) _).mono ?_
  rintro e w1' ⟨rfl, rfl⟩
  go_wp2_with fail
  refine (wappend_ok l1 1 (by simp) (by omega)).mono ?_
  rintro e w2 ⟨B2, rfl, q, l2, n2⟩
  replace l2 : WalR w2 b 3 [1] 0 B2 := l2
  have N2 := New.of .none s1 n2
  have s2 := s1.grow q (New.mem hb .none)
  clear q n2 l1 s1
  go_wp2_with fail
  refine (wsync_any l2).mono ?_
  rintro e w3 ⟨rfl, q, l3⟩
  replace l3 : WalR w3 b 3 [1] 1 B2 := l3
  have s3 := s2.grow q (by simp [hb])
  clear q l2 s2
  go_wp2_with fail
  refine (wappend_ok l3 2 (by simp) (by omega)).mono ?_
  rintro e w4 ⟨B4, rfl, q, l4, n4⟩
  replace l4 : WalR w4 b 3 [1, 2] 1 B4 := l4
  have N4 := New.of N2 s3 n4
  have s4 := s3.grow q (New.mem hb N2)
  clear q n4 l3 s3
  go_wp2_with fail
  refine (wappend_ok l4 3 (by simp) (by omega)).mono ?_
  rintro e w5 ⟨B5, rfl, q, l5, n5⟩
  replace l5 : WalR w5 b 3 [1, 2, 3] 1 B5 := l5
  have N5 := New.of N4 s4 n5
  have s5 := s4.grow q (New.mem hb N4)
  clear q n5 l4 s4
  go_wp2_with fail
  refine (wappend_full l5 4 (by simp)).mono ?_
  rintro e w6 ⟨rfl, q, l6⟩
  have s6 := s5.trans q
  clear q l5 s5
  go_wp2_with fail
  refine (wwaits_any l6).mono ?_
  rintro e w7 ⟨rfl, m, rfl⟩
  have s7 := s6.drewN m
  replace l6 := l6.drewN m
  generalize w6.drewN m = w7 at *
  go_wp2_with fail
  refine (wtwin_any l6).mono ?_
  rintro e w8 ⟨t, Bt, rfl, q, ht, l8, nt⟩
  have hbt : t ∉ b :: B5.toList := apart_of l6 ht
  have hBt : ∀ g, Bt = some g → g ∉ b :: B5.toList := fun g hg => apart_of l6 (nt g hg)
  have Nt := New.later s7 nt
  have htw : w.heap.size ≤ t := by have := s7.size; omega
  have k8 := l6.step q (by simp) (by simp)
  have s8 := s7.trans q
  clear q l6 s7 nt ht s6
  go_wp2_with fail
  refine (wcrash_any k8 1).mono ?_
  rintro e w9 ⟨rfl, q, k9⟩
  replace k9 : WalR w9 b 3 [1, 2] 2 B5 := k9
  have l9 := l8.step q (by intro h; exact hbt (by simp at h; simp [h])) (by intro g hg h; exact hBt g hg (by simp at h; simp [h]))
  have s9 := s8.grow q (by simp [hb])
  clear q l8 s8 k8
  go_wp2_with fail
  refine (wall_any k9).mono ?_
  rintro e w10 ⟨ao, cap, Bl, rfl, q, hl, nl⟩
  have k10 := k9.step q (by simp) (by simp)
  have l10 := l9.step q (by simp) (by simp)
  have hbl : ∀ g, Bl = some g → g ≠ b := fun g hg h => by have := nl g hg; obtain ⟨_, _, h1, _⟩ := k9; have := lt_size h1; omega
  have s10 := s9.trans q
  clear q l9 s9 k9
  go_wp2_with fail
  refine (wtrim_ok k10 2 9 (by omega) (by simp)).mono ?_
  rintro e w11 ⟨B11, rfl, q, k11, n11⟩
  replace k11 : WalR w11 b 3 [9] 1 B11 := k11
  have l11 := l10.step q (by intro h; exact hbt (by simp at h; simp [h])) (by intro g hg h; exact hBt g hg (by simp at h; simp [h]))
  have hl11 := hl.step q (by simpa using hbl)
  have s11 := s10.grow q (by simp [hb])
  clear q l10 s10 k10 hl n11
  go_wp2_with fail
  refine (ints_same (xs := [1, 2]) (hl11.alloc _).rd (Sl.one w11 1 #[.int .i64 1, .int .i64 2] 3 2 rfl (by decide)).rd (by decide)).mono ?_
  rintro e w12 ⟨rfl, m2, rfl⟩
  have q : Step [] w11 ((w11.alloc (.cells #[.int .i64 1, .int .i64 2] 3)).drewN m2) := ((Step.refl _ _).alloc _).drewN _
  have k12 := k11.step q (by simp) (by simp)
  have l12 := l11.step q (by simp) (by simp)
  have s12 := s11.trans q
  clear q k11 l11 s11 hl11
  generalize (w11.alloc (.cells #[.int .i64 1, .int .i64 2] 3)).drewN m2 = w12 at *
  go_wp2_with fail
  refine (wall_any k12).mono ?_
  rintro e w13 ⟨ao2, cap2, B13, rfl, q, hl13, nl2⟩
  have k13 := k12.step q (by simp) (by simp)
  have l13 := l12.step q (by simp) (by simp)
  have s13 := s12.trans q
  clear q k12 l12 s12
  go_wp2_with fail
  refine (ints_same (xs := [9]) (hl13.alloc _).rd (Sl.one w13 1 #[.int .i64 9] 3 1 rfl (by decide)).rd (by decide)).mono ?_
  rintro e w14 ⟨rfl, m3, rfl⟩
  have q : Step [] w13 ((w13.alloc (.cells #[.int .i64 9] 3)).drewN m3) := ((Step.refl _ _).alloc _).drewN _
  have k14 := k13.step q (by simp) (by simp)
  have l14 := l13.step q (by simp) (by simp)
  have s14 := s13.trans q
  clear q k13 l13 s13 hl13
  generalize (w13.alloc (.cells #[.int .i64 9] 3)).drewN m3 = w14 at *
  go_wp2_with fail
  refine (wlen_any k14).mono ?_
  rintro e w15 ⟨rfl, rfl⟩
  go_wp2_with fail
  refine (wwaits_any k14).mono ?_
  rintro e w16 ⟨rfl, m4, rfl⟩
  have s16 := s14.drewN m4
  have l16 := l14.drewN m4
  generalize w14.drewN m4 = w16 at *
  go_wp2_with fail
  refine (wlen_any l16).mono ?_
  rintro e w17 ⟨rfl, rfl⟩
  go_wp2_with fail
  refine (wtrim_state l16 2 0 (by omega) (by simp) (by omega)).mono ?_
  rintro e w18 ⟨rfl, rfl⟩
  go_wp2_with fail
  refine (wtrim_arg l16 0 0 (by omega)).mono ?_
  rintro e w19 ⟨rfl, rfl⟩
  go_wp2_with fail
  go_ret
  exact ⟨rfl, s16⟩
end Go.Proofs.Ytcmihfanlconhaa
