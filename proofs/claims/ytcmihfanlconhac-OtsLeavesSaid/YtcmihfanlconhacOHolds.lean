/- OtsHolds: what is signed holds. Conditions: none. -/
import Derived.Test.YtcmihfanlconhacORow
namespace Go.Proofs.Ytcmihfanlconhac
open Go.RowKit
structure KI1 (b1 : Nat) (ls : List UInt64) (w0 w : World) : Prop where
  s : w.rangeAt b1 0 (cu ls)
  st : Step [] w0 w
theorem KI1.step {b1 : Nat} {ls : List UInt64} {w0 w w' : World} (h : KI1 b1 ls w0 w) (q : Step [] w w') : KI1 b1 ls w0 w' := ⟨fun j v hv => q.cell (h.s j v hv) (by simp), h.st.trans q⟩
theorem ver_sign {w : World} (l : List UInt64) (hl : l.length = 18) (d : UInt64) : Calls Try.prog 9 #[u (pubL l), .agg (cu (signL l d)).toArray, u d] w fun e w' => e = .returned (.bool true) ∧ Step [] w w' := by
  refine (ver_any (pubL l) (signL l d) (by rw [signL_len, hl]) d).mono ?_
  rintro e w' ⟨he, s⟩
  rw [rec_sign, beq_self_eq_true] at he
  exact ⟨he, s⟩
theorem fill_zero (L : List UInt64) (k : Nat) (hk : k < 18) (hl : L.length = 18) : (cu (L.take k) ++ List.replicate (18 - k) (Value.int .u64 0))[k]? = some (Value.int .u64 0) := by
  rw [List.getElem?_append_right (by simp [cu]; omega)]
  rw [List.getElem?_replicate, if_pos (by simp [cu]; omega)]
set_option maxRecDepth 100000 in
set_option maxHeartbeats 1600000 in
theorem holds_any {w : World} {ao : Option Addr} {n cap : Nat} {l : List UInt64} {B : Option Nat} (hr : Rd w 1 (.slice ao n cap) n (cu l) B) (hB0 : ∀ g, B = some g → g < w.heap.size) (d : UInt64) :
    Calls Try.prog 3 #[.slice ao n cap, u d] w (Ret' (.bool true) fun w' => Step [] w w') := by
  have hln : l.length = n := by have := hr.1; simpa [cu] using this
  have hm : n ≤ 9223372036854775807 := by obtain ⟨_, _, _, _, h1, h2, _⟩ := hr; unfold maxLen at h2; omega
  have HLN := Lib.hid hln
  clear hln
  by_cases h18 : n < 18
  · clear hr
    go_enter Try.func3, Try.ntmps3
    go_wp2_with fail
    refine known3.mono ?_
    rintro e w1 ⟨rfl, q1⟩
    go_wp2_with fail
    go_ret
    exact ⟨rfl, q1⟩
  · go_enter Try.func3, Try.ntmps3
    go_wp2_with fail
    refine known3.mono ?_
    rintro e w1 ⟨rfl, q1⟩
    have hr1 := hr.step q1 (by simp)
    clear hr
    go_wp2_with fail
    have R := Row.new w1 zu18 27
    have hr2 := hr1.alloc (.cells zu18 27)
    have st2 := q1.alloc (.cells zu18 27)
    have hw1 := q1.size
    clear hr1 q1
    unfold zu18 at *
    obtain ⟨L, hL⟩ : ∃ L, L = l.take 18 := ⟨_, rfl⟩
    have lL : L.length = 18 := by rw [hL]; simp [HLN.out]; omega
    have R0 : Row (w1.alloc (.cells #[.int .u64 0, .int .u64 0, .int .u64 0, .int .u64 0, .int .u64 0, .int .u64 0, .int .u64 0, .int .u64 0, .int .u64 0, .int .u64 0, .int .u64 0, .int .u64 0, .int .u64 0, .int .u64 0, .int .u64 0, .int .u64 0, .int .u64 0, .int .u64 0] 27)) w1.heap.size (cu (L.take 0) ++ List.replicate (18 - 0) (.int .u64 0)) := R
    clear R
    generalize (w1.alloc (.cells _ 27)) = w2 at *
    obtain ⟨b, hb⟩ : ∃ b, b = w1.heap.size := ⟨_, rfl⟩
    rw [← hb] at R0 hw1 ⊢
    clear hb
    have HL := Lib.hid hL
    clear hL
    go_loopw [6] (fun s6 wr => ∃ k : Nat, k ≤ 18 ∧ s6 = .int .i64 k ∧ Row wr b (cu (L.take k) ++ List.replicate (18 - k) (.int .u64 0)) ∧ Step [] w wr ∧ (Rd wr 1 (.slice ao n cap) n (cu l) B)) (fun s6 _ => 18 - (intOf s6).toNat)
    case atStart => exact ⟨0, by omega, rfl, R0, st2, hr2⟩
    case round =>
      obtain ⟨k, hk, rfl, rk, hst, hr3⟩ := hrel
      clear R0 st2 hr2
      by_cases hlt : k < 18
      · obtain ⟨g1, o1, cap1, hv1, hB, _, hc1⟩ := hr3.at (by omega)
        cases hv1
        have d1 := hc1 k (u (l.getD k 0)) (cu_get l k (by rw [HLN.out]; omega))
        have hkn : (k : Int) < n := by omega
        have hLk : L.getD k 0 = l.getD k 0 := by rw [HL.out]; simp [List.getD, hlt]
        have dk := rk.cell (fill_zero L k hlt lL)
        have fk := rk.free k
        have rs := rk.set k (u (l.getD k 0))
        rw [set_row L k 18 lL hlt _ hLk] at rs
        have sb : Step [b] wr (wr.setCell ⟨b, k, none⟩ (u (l.getD k 0))) := (Step.refl _ _).setCell _ (.inl (by simp)) _
        have sw := hst.grow sb (by simp; omega)
        have hr4 := hr3.step (m := [b]) ((Step.refl _ _).setCell ⟨b, k, none⟩ (.inl (by simp)) (u (l.getD k 0))) (fun g hg => by have := hB0 g hg; simp; omega)
        clear rk hst hr3 hc1 sb
        generalize l.getD k 0 = x at *
        go_wp2_with fail
        go_roundw
        case rel => exact ⟨k + 1, by omega, by go_num, rs, sw, hr4⟩
        case measure => simp [intOf]; omega
      · obtain rfl : k = 18 := by omega
        have rk' : Row wr b (cu L) := by
          rw [List.take_of_length_le (by omega)] at rk
          simpa using rk
        have g1 := rk'.range
        have us1 : Try.prog.underlying 27 = some (.array 18 25) := Try.underlying27
        have is1 : (Try.prog.info? 27).map (·.size) = some (cu L).length := by rw [show (cu L).length = 18 by simp [cu, lL]]; kernel_rfl
        clear rk rk' hr3
        go_wp2_with fail
        refine wp_region_grow (KI1 b L w) (by kernel_rfl) (by kernel_rfl) ⟨g1, hst.drew⟩ ?_
        repeat (first
          | (refine wpGrow_skip ?_ ?_; rfl; simp only [Act.put, List.setIfInBounds_toArray, List.set_cons_zero, List.set_cons_succ])
          | (refine wpGrow_load 27 (.tmp 5) rfl ?_ rfl (fun w h => h.s) us1 rfl is1 ?_; rfl; simp only [Act.put, List.setIfInBounds_toArray, List.set_cons_zero, List.set_cons_succ])
          | (apply wpGrow_run; rfl; (focus (intro w' hw'; go_simp; apply YV_value; exact hw')); simp only [Act.put, List.setIfInBounds_toArray, List.set_cons_zero, List.set_cons_succ])
          | (refine wpGrow_call ?_ (fun w' hw' => pub_any L lL) (fun _ _ h q => h.step q) ?_ ?_; rfl; (focus (intro w' hw'; go_simp; done)); simp only [Act.put, List.setIfInBounds_toArray, List.set_cons_zero, List.set_cons_succ])
          | (refine wpGrow_call ?_ (fun w' hw' => sign_any L lL d) (fun _ _ h q => h.step q) ?_ ?_; rfl; (focus (intro w' hw'; go_simp; done)); simp only [Act.put, List.setIfInBounds_toArray, List.set_cons_zero, List.set_cons_succ])
          | (refine wpGrow_call ?_ (fun w' hw' => ver_sign L lL d) (fun _ _ h q => h.step q) ?_ ?_; rfl; (focus (intro w' hw'; go_simp; done)); simp only [Act.put, List.setIfInBounds_toArray, List.set_cons_zero, List.set_cons_succ]))
        refine wpGrow_nil ?_
        intro w9 h9
        have st9 := h9.st
        clear h9
        go_wp2_with fail
        go_ret
        exact ⟨rfl, st9⟩
/-- .. in the form that the row asks. -/
theorem holds_row (w : World) (ao : Option Addr) (n cap : Nat) (f : Nat → Int) (hn : n ≤ cap ∧ cap ≤ maxLen) (hf : ∀ i, i < n → IntKind.u64.min ≤ f i ∧ f i ≤ IntKind.u64.max) (hs : SlA w ao n 1 (fun i _ => .int .u64 (f i)))
    (d : Int) (hd : IntKind.u64.min ≤ d ∧ d ≤ IntKind.u64.max) :
    Calls Try.prog 3 #[.slice ao n cap, .int .u64 d] w (Ret' (.bool true) fun w' => Step [] w w') := by
  obtain ⟨x, rfl⟩ := of_u64 hd
  obtain ⟨B, hB, hr⟩ := hs.rd_int hn
  obtain ⟨l, hl⟩ := cu_of_ints n f hf
  rw [hl] at hr
  exact holds_any hr hB x
end Go.Proofs.Ytcmihfanlconhac
