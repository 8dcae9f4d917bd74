/- The box: put and take of a row of whole numbers. Conditions: none. -/
import Derived.Test.YtcmihfanlconhaaComm
import Derived.Lib.Hide
namespace Go.Proofs.Ytcmihfanlconhaa
open Go.RowKit Go.Conc
theorem put_roomI {w : World} {c cap : Nat} {xs : List Value} (h : Ch w c cap xs) (x : Value) (hc : xs.length < cap) :
    Calls Try.prog 42 #[.chan (some c), x] w fun e w' => e = .returned (.bool true) ∧ Step [c] w w' ∧ Ch w' c cap (xs ++ [x]) := by
  obtain ⟨s, r, hh⟩ := h
  have h2 := Ch.set ⟨s, r, hh⟩ (xs ++ [x]) (s + 1) r
  have hs := step_setChan (w := w) (c := c) cap (xs ++ [x]).toArray false (s + 1) r false
  refine calls_of_wpN Try.func42 rfl ?_
  simp only [Try.ntmps42, List.size_toArray, List.length_cons, List.length_nil, Nat.reduceAdd, Nat.reduceSub, Array.replicate_succ,
     Array.replicate_zero, List.push_toArray, List.append_toArray, List.nil_append, List.cons_append]
  refine wpN_seq (fun K hK => wpN_of_wp ?_)
  go_wp2_with fail
  refine wpN_seq (fun K hK => wpN_of_wp ?_)
  go_wp2_with fail
  refine wpN_seq (fun K hK => wpN_region ?_)
  refine wpR_comm (i := 0) (rest := [1, 2]) (some 7) rfl rfl (w1 := w) (cases := #[scase c x (.int .i64 0)]) (blocking := false) (shape := .select) ?_ (fun fr cs es he => step_lone_select_send_room he hh (by simpa using hc)) rfl ?_
  · go_simp
    rfl
  refine wpR_drop 1 ?_
  simp only [List.drop_succ_cons, List.drop_zero]
  simp only [Act.put, List.setIfInBounds_toArray, List.set_cons_zero, List.set_cons_succ]
  go_wp2_with fail
  refine wpN_of_wp ?_
  go_wp2_with fail
  go_ret
  exact ⟨rfl, hs, h2⟩
theorem put_fullI {w : World} {c cap : Nat} {xs : List Value} (h : Ch w c cap xs) (x : Value) (hc : cap ≤ xs.length) :
    Calls Try.prog 42 #[.chan (some c), x] w fun e w' => e = .returned (.bool false) ∧ w = w' := by
  obtain ⟨s, r, hh⟩ := h
  refine calls_of_wpN Try.func42 rfl ?_
  simp only [Try.ntmps42, List.size_toArray, List.length_cons, List.length_nil, Nat.reduceAdd, Nat.reduceSub, Array.replicate_succ,
     Array.replicate_zero, List.push_toArray, List.append_toArray, List.nil_append, List.cons_append]
  refine wpN_seq (fun K hK => wpN_of_wp ?_)
  go_wp2_with fail
  refine wpN_seq (fun K hK => wpN_of_wp ?_)
  go_wp2_with fail
  refine wpN_seq (fun K hK => wpN_region ?_)
  refine wpR_comm (i := 0) (rest := [1, 2]) (some 7) rfl rfl (w1 := w) (cases := #[scase c x (.int .i64 0)]) (blocking := false) (shape := .select) ?_ (fun fr cs es he => step_lone_select_send_full he hh (by simpa using hc)) rfl ?_
  · go_simp
    rfl
  refine wpR_drop 1 ?_
  simp only [List.drop_succ_cons, List.drop_zero]
  simp only [Act.put, List.setIfInBounds_toArray, List.set_cons_zero, List.set_cons_succ]
  go_wp2_with fail
  refine wpN_of_wp ?_
  go_wp2_with fail
  go_ret
  exact ⟨rfl, rfl⟩
theorem take_someI {w : World} {c cap : Nat} {y : Value} {ys : List Value} (h : Ch w c cap (y :: ys)) :
    Calls Try.prog 43 #[.chan (some c)] w fun e w' => e = .returned (.tuple #[y, .bool true]) ∧ Step [c] w w' ∧ Ch w' c cap ys := by
  obtain ⟨s, r, hh⟩ := h
  have h2 := Ch.set ⟨s, r, hh⟩ ys s (r + 1)
  have hs := step_setChan (w := w) (c := c) cap ys.toArray false s (r + 1) false
  refine calls_of_wpN Try.func43 rfl ?_
  simp only [Try.ntmps43, List.size_toArray, List.length_cons, List.length_nil, Nat.reduceAdd, Nat.reduceSub, Array.replicate_succ,
     Array.replicate_zero, List.push_toArray, List.append_toArray, List.nil_append, List.cons_append]
  refine wpN_seq (fun K hK => wpN_of_wp ?_)
  go_wp2_with fail
  refine wpN_seq (fun K hK => wpN_of_wp ?_)
  go_wp2_with fail
  refine wpN_seq (fun K hK => wpN_region ?_)
  refine wpR_comm (i := 0) (rest := [1, 2]) (some 7) rfl rfl (w1 := w) (cases := #[rcase c (.int .i64 0)]) (blocking := false) (shape := .select) ?_ (fun fr cs es he => step_lone_select_recv_buf he hh (by simp)) rfl ?_
  · go_simp
    rfl
  refine wpR_drop 1 ?_
  simp only [List.drop_succ_cons, List.drop_zero]
  simp only [Act.put, List.setIfInBounds_toArray, List.set_cons_zero, List.set_cons_succ]
  rw [show ((y :: ys).toArray.extract 1 (y :: ys).toArray.size) = ys.toArray by simp, show (y :: ys).toArray.getD 0 undef = y by simp]
  go_wp2_with fail
  refine wpN_of_wp ?_
  go_wp2_with fail
  go_ret2
  exact ⟨rfl, hs, h2⟩
theorem take_noneI {w : World} {c cap : Nat}   (h : Ch w c cap []) :
    Calls Try.prog 43 #[.chan (some c)] w fun e w' => e = .returned (.tuple #[.int .i64 0, .bool false]) ∧ w = w' := by
  obtain ⟨s, r, hh⟩ := h
  refine calls_of_wpN Try.func43 rfl ?_
  simp only [Try.ntmps43, List.size_toArray, List.length_cons, List.length_nil, Nat.reduceAdd, Nat.reduceSub, Array.replicate_succ,
     Array.replicate_zero, List.push_toArray, List.append_toArray, List.nil_append, List.cons_append]
  refine wpN_seq (fun K hK => wpN_of_wp ?_)
  go_wp2_with fail
  refine wpN_seq (fun K hK => wpN_of_wp ?_)
  go_wp2_with fail
  refine wpN_seq (fun K hK => wpN_region ?_)
  refine wpR_comm (i := 0) (rest := [1, 2]) (some 7) rfl rfl (w1 := w) (cases := #[rcase c (.int .i64 0)]) (blocking := false) (shape := .select) ?_ (fun fr cs es he => step_lone_select_default he hh) rfl ?_
  · go_simp
    rfl
  refine wpR_drop 1 ?_
  simp only [List.drop_succ_cons, List.drop_zero]
  simp only [Act.put, List.setIfInBounds_toArray, List.set_cons_zero, List.set_cons_succ]
  go_wp2_with fail
  refine wpN_of_wp ?_
  go_wp2_with fail
  go_ret2
  exact ⟨rfl, rfl⟩
end Go.Proofs.Ytcmihfanlconhaa
