/- The box: all of a row. Conditions: sizes. -/
import Derived.Test.YtcmihfanlconhaaBoxA
import Derived.Test.YtcmihfanlconhaaSl
namespace Go.Proofs.Ytcmihfanlconhaa
open Go.RowKit Go.Conc
theorem Try.infoI : (Try.prog.info? 3).map (fun i => (i.zero, i.size, i.bytes)) = some (some (.int .i64 0), 1, 8) := by kernel_rfl
theorem len_chan {w : World} {c cap : Nat} {xs : List Value} (h : Ch w c cap xs) (r : TypeId) : (Builtin.len_ #[84] r #[.chan (some c)]).run Try.prog w = .ok (.int .i64 (xs.length : Int)) w := by
  obtain ⟨s, q, hh⟩ := h
  have hu : ∃ d e, Try.prog.underlying 84 = some (.chan d e) := ⟨_, _, Try.underlying84⟩
  obtain ⟨d, e, hu⟩ := hu
  simp [Builtin.len_, run_underlying hu, run_getObj_chan Try.prog w hh, goInt]
theorem cap_chan {w : World} {c cap : Nat} {xs : List Value} (h : Ch w c cap xs) (r : TypeId) : (Builtin.cap_ #[84] r #[.chan (some c)]).run Try.prog w = .ok (.int .i64 (cap : Int)) w := by
  obtain ⟨s, q, hh⟩ := h
  have hu : ∃ d e, Try.prog.underlying 84 = some (.chan d e) := ⟨_, _, Try.underlying84⟩
  obtain ⟨d, e, hu⟩ := hu
  simp [Builtin.cap_, run_underlying hu, run_getObj_chan Try.prog w hh, goInt]
theorem turn_succ (xs : List Value) (k : Nat) (h : k < xs.length) (x : Value) (hx : xs[k]? = some x) : xs.drop k ++ xs.take k = x :: (xs.drop (k + 1) ++ xs.take k) ∧ (xs.drop (k + 1) ++ xs.take k) ++ [x] = xs.drop (k + 1) ++ xs.take (k + 1) ∧ xs.take k ++ [x] = xs.take (k + 1) := by
  have e : xs[k] = x := by rw [List.getElem?_eq_getElem h] at hx; exact Option.some.inj hx
  refine ⟨?_, ?_, ?_⟩
  · rw [List.drop_eq_getElem_cons h, e]; rfl
  · rw [List.append_assoc, List.take_succ_eq_append_getElem h, e]
  · rw [List.take_succ_eq_append_getElem h, e]
/-- What stands at the head of the loop. -/
def RowI (xs : List Value) (c cap : Nat) (w0 : World) (a : Act) (w : World) : Prop :=
  ∃ (k : Nat) (ao : Option Addr) (lx c' : Nat) (B : Option Nat) (u4 u8 u9 u10 u11 u12 u13 u14 u15 u16 u17 : Value), k ≤ xs.length ∧ lx = k ∧
    a = ⟨#[.chan (some c), undef, .slice none 0 0, .slice ao lx c', u4, .chan (some c), .int .i64 (xs.length : Int), .int .i64 (k : Int), u8, u9, u10, u11, u12, u13, u14, u15, u16, u17, undef], []⟩ ∧
    Sl w 1 (.slice ao k c') k (xs.take k) B ∧ Ch w c cap (xs.drop k ++ xs.take k) ∧ Step [c] w0 w ∧ ∀ g, B = some g → w0.heap.size ≤ g
set_option maxRecDepth 100000 in
set_option maxHeartbeats 1600000 in
theorem row_any {w : World} {c cap : Nat} {xs : List Value} (h : Ch w c cap xs) (hc : xs.length ≤ cap) (hn : xs.length ≤ 100000) (h1 : ∀ x ∈ xs, ∃ z, x = Value.int .i64 z) :
    Calls Try.prog 44 #[.chan (some c)] w fun e w' => ∃ ao c' B, e = .returned (.slice ao xs.length c') ∧ Step [c] w w' ∧ Ch w' c cap xs ∧ Sl w' 1 (.slice ao xs.length c') xs.length xs B ∧ ∀ g, B = some g → w.heap.size ≤ g := by
  obtain ⟨i, hi, hz0, hz1, hz2⟩ := info_parts Try.infoI
  have hcw := h.lt
  have hlen := len_chan h 3
  refine calls_of_wpN Try.func44 rfl ?_
  simp only [Try.ntmps44, List.size_toArray, List.length_cons, List.length_nil, Nat.reduceAdd, Nat.reduceSub, Array.replicate_succ,
     Array.replicate_zero, List.push_toArray, List.append_toArray, List.nil_append, List.cons_append]
  refine wpN_seq (fun K hK => wpN_of_wp ?_)
  go_wp2_with fail
  refine wpN_seq (fun K hK => wpN_of_wp ?_)
  go_wp2_with fail
  refine wpN_seq (fun K hK => ?_)
  refine wpN_seq (fun K2 hK2 => wpN_of_wp ?_)
  go_wp2_with fail
  clear hlen
  refine wpN_block ?_
  refine wpN_loop (RowI xs c cap w) (fun a _ => xs.length - (intOf (a.tmps.getD 7 undef)).toNat) ?_ ?_
  · exact ⟨0, none, 0, 0, none, _, _, _, _, _, _, _, _, _, _, _, Nat.zero_le _, rfl, rfl, Sl.nil _ _, by simpa using h, Step.refl _ _, by simp⟩
  · rintro a wr ⟨k, ao, lx, c', B, u4, u8, u9, u10, u11, u12, u13, u14, u15, u16, u17, hk, rfl, rfl, hsl, hch, hst, hB⟩
    by_cases hlt : lx < xs.length
    · obtain ⟨x, hx⟩ : ∃ x, xs[lx]? = some x := ⟨_, List.getElem?_eq_getElem hlt⟩
      obtain ⟨t1, t2, t3⟩ := turn_succ xs lx hlt x hx
      obtain ⟨z, rfl⟩ := h1 x (List.mem_of_getElem? hx)
      have T3 := Lib.hid t3
      rw [t1] at hch
      obtain ⟨s, r, hh⟩ := hch
      have e1 := Ch.set ⟨s, r, hh⟩ (xs.drop (lx + 1) ++ xs.take lx) s (r + 1)
      have q1 := step_setChan (w := wr) (c := c) cap (xs.drop (lx + 1) ++ xs.take lx).toArray false s (r + 1) false
      have hB' : ∀ b, B = some b → b ∉ [c] := fun b hb => by have := hB b hb; simp; omega
      have hsl1 := hsl.step q1 hB'
      have hst1 := hst.trans q1
      obtain ⟨s1, r1, hh1⟩ := e1
      have hxs : ∀ t, (Value.int .i64 z :: t).toArray.extract 1 (Value.int .i64 z :: t).toArray.size = t.toArray := by simp
      have hxs' : ∀ t : List Value, (Value.int .i64 z :: t).toArray.getD 0 undef = Value.int .i64 z := by simp
      clear t1 t3 hsl hst q1
      refine wpN_seq (fun K3 hK3 => wpN_of_wp ?_)
      go_wp2_with fail
      refine wpN_seq (fun K4 hK4 => wpN_of_wp ?_)
      go_wp2_with fail
      refine wpN_seq (fun K5 hK5 => wpN_block ?_)
      refine wpN_seq (fun K6 hK6 => wpN_region ?_)
      refine wpR_value (i := 0) (rest := [1, 2]) (w' := wr) (v := .chan (some c)) (some 9) rfl rfl (by rfl) rfl ?_
      refine wpR_comm (i := 1) (rest := [2]) (some 10) rfl rfl (w1 := wr) (cases := #[rcase c (.int .i64 0)]) (blocking := true) (shape := .recv false) ?_ (fun fr cs es he => step_lone_recv_buf false he hh (by simp)) rfl ?_
      · go_simp
        rfl
      refine wpR_drop 2 ?_
      rw [hxs, hxs']
      simp only [got, Bool.false_eq_true, if_false]
      simp only [List.drop_succ_cons, List.drop_zero]
      simp only [Act.put, List.setIfInBounds_toArray, List.set_cons_zero, List.set_cons_succ]
      generalize hw1 : wr.setChan c cap (xs.drop (lx + 1) ++ xs.take lx).toArray false s (r + 1) false = w1 at *
      clear hw1
      go_wp2_with fail
      have hk5 : lx ≤ 100000 := by omega
      have hbb : ∀ x ∈ B.toList, x = c ∨ w.heap.size ≤ x := by
        intro y hy
        cases B with
        | none => simp at hy
        | some g => simp at hy; subst hy; exact .inr (hB _ rfl)
      have hcB : c ∉ B.toList := by
        intro hy
        cases B with
        | none => simp at hy
        | some g => simp at hy; subst hy; have := hB _ rfl; omega
      refine wpN_seq (fun K7 hK7 => wpN_of_wp ?_)
      go_wp2_with (at_builtin; refine Stopped.at ?_)
      refine Stopped.on ?_
      refine wpList_app rfl (.tmp 11) (.tmp 13) 54 rfl 3 i (.int .i64 0) 1 8 Try.underlying54 hi hz0 hz1 hz2 rfl (by decide) (n := lx) (m := 1) (xs := xs.take lx) (news := [Value.int .i64 z]) (B := B) (Bx := some w1.heap.size) ?_ ?_ (by intro y hy; cases List.mem_singleton.1 hy; rfl) (by unfold maxLen; omega) (by omega) ?_
      · exact hsl1.alloc _
      · exact (Sl.one w1 1 #[Value.int .i64 z] 3 1 rfl (by decide)).rd
      intro v' w2 B' s2 q2 n2
      go_wp2_with fail
      obtain ⟨ao2, c2, rfl⟩ := s2.form
      rw [T3.out] at s2
      have hch2 : Ch w2 c cap (xs.drop (lx + 1) ++ xs.take lx) := (Ch.step ⟨s1, r1, hh1⟩ ((Step.refl [] w1).alloc (.cells #[Value.int .i64 z] 3)) (by simp)).step q2 hcB
      have hst2 : Step [c] w w2 := by
        have a1 : Step [c] w (w1.alloc (.cells #[Value.int .i64 z] 3)) := hst1.alloc _
        have a2 : Step (c :: B.toList) w w2 := (a1.weaken (by simp)).trans (q2.weaken (by intro y hy; simp; right; simpa using hy))
        exact a2.fresh (fun y hy => by
          rcases List.mem_cons.1 hy with rfl | hy
          · exact .inl (by simp)
          · rcases hbb y hy with rfl | h
            · exact .inl (by simp)
            · exact .inr h)
      have hB2 : ∀ g, B' = some g → w.heap.size ≤ g := by
        rintro g rfl
        have hz := hst1.size
        rcases n2 with n2 | ⟨b, hb, hge⟩
        · exact hB g n2.symm
        · cases hb; simp at hge; omega
      clear hsl1 hst1 hh1 q2 n2 hbb hcB
      obtain ⟨s3, r3, hh3⟩ := hch2
      have e3 := Ch.set ⟨s3, r3, hh3⟩ ((xs.drop (lx + 1) ++ xs.take lx) ++ [Value.int .i64 z]) (s3 + 1) r3
      have q3 := step_setChan (w := w2) (c := c) cap ((xs.drop (lx + 1) ++ xs.take lx) ++ [Value.int .i64 z]).toArray false (s3 + 1) r3 false
      generalize hw5 : w2.setChan c cap ((xs.drop (lx + 1) ++ xs.take lx) ++ [Value.int .i64 z]).toArray false (s3 + 1) r3 false = w5 at *
      have HW := Lib.hid hw5
      clear hw5
      have s4 := s2.step q3 (fun b hb => by have := hB2 b hb; simp; omega)
      have st4 := hst2.trans q3
      rw [t2] at e3
      have hpush : (xs.drop (lx + 1) ++ xs.take lx).toArray.push (Value.int .i64 z) = ((xs.drop (lx + 1) ++ xs.take lx) ++ [Value.int .i64 z]).toArray := by simp
      have hroom : (xs.drop (lx + 1) ++ xs.take lx).toArray.size < cap := by simp; omega
      clear s2 q3 hst2
      go_wp2_with fail
      refine wpN_region ?_
      refine wpR_value (i := 0) (rest := [1, 2]) (w' := w2) (v := .chan (some c)) (some 15) rfl rfl (by rfl) rfl ?_
      refine wpR_value (i := 1) (rest := [2]) (w' := w2) (v := Value.int .i64 z) (some 16) rfl rfl (by rfl) rfl ?_
      refine wpR_comm (i := 2) (rest := []) none rfl rfl (w1 := w2) (cases := #[scase c (Value.int .i64 z) (.tuple #[])]) (blocking := true) (shape := .send) (by rfl) (fun fr cs es he => step_lone_send_room he hh3 hroom) rfl ?_
      rw [hpush, HW.out]
      refine wpR_nil ?_
      simp only [Act.put, List.setIfInBounds_toArray, List.set_cons_zero, List.set_cons_succ]
      go_wp2_with fail
      refine wpN_of_wp ?_
      go_wp2_with fail
      refine ⟨⟨lx + 1, ao2, _, c2, B', _, _, _, _, _, _, _, _, _, _, _, by omega, rfl, by go_num, s4, e3, st4, hB2⟩, ?_⟩
      simp [intOf]
      omega
    · have hkn : lx = xs.length := by omega
      subst hkn
      refine wpN_seq (fun K3 hK3 => wpN_of_wp ?_)
      go_wp2_with fail
      refine wpN_seq (fun K4 hK4 => wpN_of_wp ?_)
      go_wp2_with fail
      refine wpN_of_wp ?_
      go_wp2_with fail
      go_ret
      refine ⟨ao, c', B, rfl, hst, by simpa using hch, ?_, hB⟩
      simpa using hsl
end Go.Proofs.Ytcmihfanlconhaa
