/- The box: how many, all. Conditions: sizes. -/
import Derived.Test.YtcmihfanlconhaaBoxD
import Derived.Deep.QuietTactic
import Derived.BigQuiet
import Derived.Deep.RegionHeld3
import Derived.Deep.RegionHeldLaw
namespace Go.Proofs.Ytcmihfanlconhaa
open Go.RowKit Go.Conc
theorem Ch.drewN {w : World} {c cap : Nat} {xs : List Value} (h : Ch w c cap xs) (n : Nat) : Ch (w.drewN n) c cap xs := h
theorem blen_any {w : World} {T : TypeId} {bb c1 c2 n1 n2 : Nat} {X Y : List Value} (hb : Bx w T bb c1 c2 n1 n2 X Y) :
    Calls Try.prog 38 #[.pointer (some ⟨bb, 0, none⟩)] w fun e w' => e = .returned (.tuple #[.int .i64 (X.length : Int), .int .i64 (Y.length : Int)]) ∧ Step [] w w' ∧ Bx w' T bb c1 c2 n1 n2 X Y := by
  have d0 := cell_of (i := 0) hb.blk rfl
  have d1 := cell_of (i := 1) hb.blk rfl
  have l1 := fun n => len_chan (hb.first.drewN n) 3
  have l2 := fun n => len_chan (hb.second.drewN n) 3
  go_enter Try.func38, Try.ntmps38
  go_wp2_with fail
  go_quiet (fail)
  go_wp2_with fail
  go_ret2
  exact ⟨rfl, (Step.refl _ _).drewN _, hb.blk, hb.first, hb.second, hb.ne, hb.l1, hb.l2⟩
theorem fresh_not {B : Option Nat} {n c : Nat} (h : ∀ g, B = some g → n ≤ g) (hc : c < n) : ∀ b, B = some b → b ∉ [c] := fun b hb => by
  have := h b hb
  simp
  omega
theorem fresh_notin {B : Option Nat} {n c : Nat} (h : ∀ g, B = some g → n ≤ g) (hc : c < n) : c ∉ B.toList := by
  intro hb
  cases B with
  | none => simp at hb
  | some g => simp at hb; have := h g rfl; omega
theorem fresh_in {B : Option Nat} {n : Nat} (h : ∀ g, B = some g → n ≤ g) : ∀ x ∈ B.toList, n ≤ x := by
  intro x hx
  cases B with
  | none => simp at hx
  | some g => simp at hx; subst hx; exact h _ rfl
def Ints (X : List Value) : Prop := ∀ x ∈ X, ∃ z, x = Value.int .i64 z
theorem Ints.one {X : List Value} (h : Ints X) : ∀ x ∈ X, x.oneCell' = true := by
  intro x hx
  obtain ⟨z, rfl⟩ := h x hx
  rfl
set_option maxRecDepth 100000 in
set_option maxHeartbeats 1600000 in
theorem ball_any {w : World} {T : TypeId} {bb c1 c2 n1 n2 : Nat} {X Y : List Value} (hb : Bx w T bb c1 c2 n1 n2 X Y) (hX : Ints X) (hY : Ints Y) (h1 : n1 ≤ 256) (h2 : n2 ≤ 256) :
    Calls Try.prog 39 #[.pointer (some ⟨bb, 0, none⟩)] w fun e w' => ∃ ao cp B, e = .returned (.slice ao (X.length + Y.length) cp) ∧ Step [c1, c2] w w' ∧ Bx w' T bb c1 c2 n1 n2 X Y ∧
      Sl w' 1 (.slice ao (X.length + Y.length) cp) (X.length + Y.length) (X ++ Y) B ∧ ∀ g, B = some g → w.heap.size ≤ g := by
  obtain ⟨i, hi, hz0, hz1, hz2⟩ := info_parts Try.infoI
  have d0 := cell_of (i := 0) hb.blk rfl
  have d1 := cell_of (i := 1) hb.blk rfl
  have hl1 := hb.l1
  have hl2 := hb.l2
  have hlt := hb.lt
  have e1 := hb.b1
  have e2 := hb.b2
  have ne := hb.ne
  have ne' := ne.symm
  go_enter Try.func39, Try.ntmps39
  go_wp2_with fail
  go_region_held_law (fun w' => w'.cell? ⟨bb, 0, none⟩ = some (.chan (some c1)) ∧ w'.cell? ⟨bb, 1, none⟩ = some (.chan (some c2)))
    (first | go_keep | exact ⟨q1.cell d0 (by simpa using e1), q1.cell d1 (by simpa using e1)⟩ | exact ⟨q2.cell (q1.cell d0 (by simpa using e1)) (by simpa using e2), q2.cell (q1.cell d1 (by simpa using e1)) (by simpa using e2)⟩ | exact ⟨q3.cell (q2.cell (q1.cell d0 (by simpa using e1)) (by simpa using e2)) (fresh_notin f1 hlt.1), q3.cell (q2.cell (q1.cell d1 (by simpa using e1)) (by simpa using e2)) (fresh_notin f1 hlt.1)⟩)
    (first
      | (refine step_app rfl (.tmp 7) (.tmp 12) 54 rfl 3 i (.int .i64 0) 1 8 Try.underlying54 hi hz0 hz1 hz2 rfl (by decide) (n := X.length) (m := Y.length) (xs := X) (news := Y) (B := B1) (Bx := B2) (s1.step q2 (fresh_not f1 hlt.2.2)) s2.rd hY.one (by unfold maxLen; omega) (by omega) ?_; rintro ao3 c3 w3 B3 s3 q3 n3)
      | (go_at_call_of 44 (Value.chan (some c1)); refine (row_any (w := w.drew) hb.first hl1 (by omega) hX).mono ?_; rintro e w1 ⟨ao1, cp1, B1, rfl, q1, ch1, s1, f1⟩)
      | (go_at_call_of 44 (Value.chan (some c2)); refine (row_any (hb.second.step (Step.drew_left q1) (by simpa using ne')) hl2 (by omega) hY).mono ?_; rintro e w2 ⟨ao2, cp2, B2, rfl, q2, ch2, s2, f2⟩))
  have hq : Step [c1, c2] w w2 := ((Step.drew_left q1).weaken (by simp)).trans (q2.weaken (by simp))
  have hq3 : Step [c1, c2] w w3 := by
    have a : Step ([c1, c2] ++ B1.toList) w w3 := (hq.weaken (fun x hx => List.mem_append_left _ hx)).trans (q3.weaken (fun x hx => List.mem_append_right _ hx))
    refine a.fresh (fun x hx => ?_)
    rcases List.mem_append.1 hx with hx | hx
    · exact .inl hx
    · exact .inr (fresh_in f1 x hx)
  have hf : ∀ g, B3 = some g → w.heap.size ≤ g := by
    rintro g rfl
    rcases n3 with n3 | ⟨b, hb', hge⟩
    · exact f1 g n3.symm
    · cases hb'; have := hq.size; omega
  have b1 := hb.drew.set_first q1 ch1 hl1
  have b2 := b1.set_second q2 ch2 hl2
  have b3 := b2.step q3 (fresh_notin f1 hlt.1) (fresh_notin f1 hlt.2.1) (fresh_notin f1 hlt.2.2)
  clear b1 b2 hq q1 q2 q3 s1 s2 f1 f2 n3 ch1 ch2 d0 d1
  go_wp2_with fail
  go_ret
  exact ⟨ao3, c3, by simp, hq3, b3, B3, s3, hf⟩
end Go.Proofs.Ytcmihfanlconhaa
