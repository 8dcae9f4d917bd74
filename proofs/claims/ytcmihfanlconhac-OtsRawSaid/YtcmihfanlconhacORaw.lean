/- OtsRaw: any signature leads back to some end. Conditions: none. -/
import Derived.Test.YtcmihfanlconhacOHolds
namespace Go.Proofs.Ytcmihfanlconhac
open Go.RowKit
theorem wpList_loadRowG {P : Program} {ops : Array Oper} {rest : List Oper} {op : Oper} {a : Act} {w : World} {Q : Exit → Act → World → Prop} (hgd : Region.wanted op (yielded ops a.tmps) = true) (ty : TypeId) (x : Operand) (ho : op.op = .load ty x)
    {b : Nat} (hx : a.eval x = .pointer (some ⟨b, 0, none⟩)) {xs : List Value} {n : Nat} {e : TypeId} (hc : Row w b xs)
    (hu : P.underlying ty = some (.array n e)) (hi : (P.info? ty).map (·.size) = some n) (hn : xs.length = n)
    (h : wpList P ops Q rest (a.put op.dst (.agg xs.toArray)) w) : wpList P ops Q (op :: rest) a w :=
  wpList_step fun K hK => by
    rw [if_pos hgd]
    exact wp_load_mid ty x ho b 0 hx xs (.array n e) hc.range hu rfl (by rw [hi, hn]) (hK _ _ h)
set_option maxRecDepth 100000 in
set_option maxHeartbeats 1600000 in
theorem raw_any {w : World} {ao : Option Addr} {n cap : Nat} {l : List UInt64} {B : Option Nat} (hr : Rd w 1 (.slice ao n cap) n (cu l) B) (hB0 : ∀ g, B = some g → g < w.heap.size) (d p : UInt64) :
    Calls Try.prog 5 #[.slice ao n cap, u d, u p] w (Ret' (.bool true) fun w' => Step [] w w') := by
  have hln : l.length = n := by have := hr.1; simpa [cu] using this
  have hm : n ≤ 9223372036854775807 := by obtain ⟨_, _, _, _, h1, h2, _⟩ := hr; unfold maxLen at h2; omega
  have HLN := Lib.hid hln
  clear hln
  by_cases h18 : n < 18
  · clear hr
    go_enter Try.func5, Try.ntmps5
    go_wp2_with fail
    refine known3.mono ?_
    rintro e w1 ⟨rfl, q1⟩
    go_wp2_with fail
    go_ret
    exact ⟨rfl, q1⟩
  · go_enter Try.func5, Try.ntmps5
    go_wp2_with fail
    refine known3.mono ?_
    rintro e w1 ⟨rfl, q1⟩
    have hr1 := hr.step q1 (by simp)
    clear hr
    go_wp2_with fail
    have R := (Row.new w1 zu18 31).step ((Step.refl [] _).alloc (.cells zu18 37)) (by simp)
    have T := Row.new (w1.alloc (.cells zu18 31)) zu18 37
    have hr2 := (hr1.alloc (.cells zu18 31)).alloc (.cells zu18 37)
    have st2 := (q1.alloc (.cells zu18 31)).alloc (.cells zu18 37)
    rw [show (w1.alloc (.cells zu18 31)).heap.size = w1.heap.size + 1 by simp] at T
    have hw1 := q1.size
    clear hr1 q1
    obtain ⟨L, hL⟩ : ∃ L, L = l.take 18 := ⟨_, rfl⟩
    have lL : L.length = 18 := by rw [hL]; simp [HLN.out]; omega
    have R0 : Row ((w1.alloc (.cells zu18 31)).alloc (.cells zu18 37)) w1.heap.size (cu (L.take 0) ++ List.replicate (18 - 0) (.int .u64 0)) := R
    have T0 : Row ((w1.alloc (.cells zu18 31)).alloc (.cells zu18 37)) (w1.heap.size + 1) (cu (L.take 0) ++ List.replicate (18 - 0) (.int .u64 0)) := T
    clear R T
    unfold zu18 at *
    generalize ((w1.alloc (.cells _ 31)).alloc (.cells _ 37)) = w2 at *
    obtain ⟨b, hb⟩ : ∃ b, b = w1.heap.size := ⟨_, rfl⟩
    obtain ⟨b2, hb2⟩ : ∃ b2, b2 = b + 1 := ⟨_, rfl⟩
    rw [← hb] at R0 T0 hw1 ⊢
    rw [← hb2] at T0 ⊢
    have hne : b ≠ b2 := by omega
    have hne' : b2 ≠ b := by omega
    have hw2 : w.heap.size ≤ b2 := by omega
    clear hb hb2
    have HL := Lib.hid hL
    clear hL
    have h18' : decide ((n : Int) < 18) = false := decide_eq_false (by omega)
    go_loopw [9] (fun s9 wr => ∃ k : Nat, k ≤ 18 ∧ s9 = .int .i64 k ∧ Row wr b (cu (L.take k) ++ List.replicate (18 - k) (.int .u64 0)) ∧ Row wr b2 (cu (L.take k) ++ List.replicate (18 - k) (.int .u64 0)) ∧ Step [] w wr ∧ (Rd wr 1 (.slice ao n cap) n (cu l) B)) (fun s9 _ => 18 - (intOf s9).toNat)
    case atStart => exact ⟨0, by omega, rfl, R0, T0, st2, hr2⟩
    case round =>
      obtain ⟨k, hk, rfl, rk, tk, hst, hr3⟩ := hrel
      clear R0 T0 st2 hr2
      by_cases hlt : k < 18
      · obtain ⟨g1, o1, cap1, hv1, hB, _, hc1⟩ := hr3.at (by omega)
        cases hv1
        have d1 := hc1 k (u (l.getD k 0)) (cu_get l k (by rw [HLN.out]; omega))
        have hkn : (k : Int) < n := by omega
        have hLk : L.getD k 0 = l.getD k 0 := by rw [HL.out]; simp [List.getD, hlt]
        have hg1 : g1 ≠ b := by have := hB0 g1 hB; omega
        have hg1' : b ≠ g1 := fun h => hg1 h.symm
        have dk := rk.cell (fill_zero L k hlt lL)
        have fk := rk.free k
        have ek := tk.cell (fill_zero L k hlt lL)
        have gk := tk.free k
        have rs := rk.set k (u (l.getD k 0))
        rw [set_row L k 18 lL hlt _ hLk] at rs
        have sb : Step [b] wr (wr.setCell ⟨b, k, none⟩ (u (l.getD k 0))) := (Step.refl _ _).setCell _ (.inl (by simp)) _
        have sw := hst.grow sb (by simp; omega)
        have ts := (tk.step sb (by simpa using hne')).set k (u (l.getD k 0))
        rw [set_row L k 18 lL hlt _ hLk] at ts
        have sb2 : Step [b2] (wr.setCell ⟨b, k, none⟩ (u (l.getD k 0))) ((wr.setCell ⟨b, k, none⟩ (u (l.getD k 0))).setCell ⟨b2, k, none⟩ (u (l.getD k 0))) := (Step.refl _ _).setCell _ (.inl (by simp)) _
        have rs2 := rs.step sb2 (by simpa using hne)
        have sw2 := sw.grow sb2 (by simp; omega)
        have hr4 := (hr3.step sb (fun g hg => by have := hB0 g hg; simp; omega)).step sb2 (fun g hg => by have := hB0 g hg; simp; omega)
        clear rk tk hst hr3 hc1 sb sb2 sw rs
        generalize l.getD k 0 = x at *
        go_wp2_with fail
        go_roundw
        case rel => exact ⟨k + 1, by omega, by go_num, rs2, ts, sw2, hr4⟩
        case measure => simp [intOf]; omega
      · obtain rfl : k = 18 := by omega
        have rk' : Row wr b (cu L) := by
          rw [List.take_of_length_le (by omega)] at rk
          simpa using rk
        have tk' : Row wr b2 (cu L) := by
          rw [List.take_of_length_le (by omega)] at tk
          simpa using tk
        have lc : (cu L).length = 18 := by simp [cu, lL]
        clear rk tk hr3
        go_wp2_with (first | (with_reducible refine Stopped.load 31 rfl ?_) | (with_reducible refine Stopped.load 37 rfl ?_))
        refine Stopped.on ?_
        refine wpList_loadRow rfl 31 (.tmp 7) rfl (b := b) rfl rk' Try.underlying31 (by kernel_rfl) lc ?_
        go_wp2_with fail
        refine (rec_any L lL d).mono ?_
        rintro e w3 ⟨rfl, q3⟩
        have rk3 := rk'.step q3 (by simp)
        have tk3 := tk'.step q3 (by simp)
        have st3 := hst.trans q3
        clear rk' tk' q3 hst
        go_wp2_with (first | (with_reducible refine Stopped.load 31 rfl ?_) | (with_reducible refine Stopped.load 37 rfl ?_))
        refine Stopped.on ?_
        refine wpList_loadRow rfl 37 (.tmp 8) rfl (b := b2) rfl tk3 Try.underlying37 (by kernel_rfl) lc ?_
        go_wp2_with fail
        refine (rrec_any L lL d).mono ?_
        rintro e w4 ⟨rfl, q4⟩
        have rk4 := rk3.step q4 (by simp)
        have st4 := st3.trans q4
        clear rk3 tk3 st3 q4
        have heq : (((recL L d).toNat : Int) == ((recL L d).toNat : Int)) = true := by simp
        go_wp2_with (first | (with_reducible refine Stopped.load 31 rfl ?_) | (with_reducible refine Stopped.load 37 rfl ?_))
        refine Stopped.on ?_
        refine wpList_loadRowG rfl 31 (.tmp 7) rfl (b := b) rfl rk4 Try.underlying31 (by kernel_rfl) lc ?_
        go_wp2_with fail
        refine (ver_any (recL L d) L lL d).mono ?_
        rintro e w5 ⟨he, q5⟩
        rw [beq_self_eq_true] at he
        subst he
        have rk5 := rk4.step q5 (by simp)
        have st5 := st4.trans q5
        clear rk4 st4 q5
        go_wp2_with (first | (with_reducible refine Stopped.load 31 rfl ?_) | (with_reducible refine Stopped.load 37 rfl ?_))
        refine Stopped.on ?_
        refine wpList_loadRowG rfl 31 (.tmp 7) rfl (b := b) rfl rk5 Try.underlying31 (by kernel_rfl) lc ?_
        go_wp2_with fail
        refine (ver_any p L lL d).mono ?_
        rintro e w6 ⟨he, q6⟩
        rw [← u_eq] at he
        subst he
        have st6 := st5.trans q6
        clear rk5 st5 q6 heq
        go_wp2_with fail
        go_ret
        refine ⟨?_, st6⟩
        simp
/-- .. in the form that the row asks. -/
theorem raw_row (w : World) (ao : Option Addr) (n cap : Nat) (f : Nat → Int) (hn : n ≤ cap ∧ cap ≤ maxLen) (hf : ∀ i, i < n → IntKind.u64.min ≤ f i ∧ f i ≤ IntKind.u64.max) (hs : SlA w ao n 1 (fun i _ => .int .u64 (f i)))
    (d : Int) (hd : IntKind.u64.min ≤ d ∧ d ≤ IntKind.u64.max) (p : Int) (hp : IntKind.u64.min ≤ p ∧ p ≤ IntKind.u64.max) :
    Calls Try.prog 5 #[.slice ao n cap, .int .u64 d, .int .u64 p] w (Ret' (.bool true) fun w' => Step [] w w') := by
  obtain ⟨x, rfl⟩ := of_u64 hd
  obtain ⟨y, rfl⟩ := of_u64 hp
  obtain ⟨B, hB, hr⟩ := hs.rd_int hn
  obtain ⟨l, hl⟩ := cu_of_ints n f hf
  rw [hl] at hr
  exact raw_any hr hB x y
end Go.Proofs.Ytcmihfanlconhac
