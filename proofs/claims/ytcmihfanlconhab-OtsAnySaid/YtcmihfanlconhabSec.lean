/- Signed once: the program's functions. Conditions: none. -/
import Derived.Test.YtcmihfanlconhabDig
namespace Go.Proofs.Ytcmihfanlconhab
open Go.RowKit
def f18 : List Value := List.replicate 18 (.bool false)
theorem Try.infoB : (Try.prog.info? 4).map (fun i => (i.zero, i.size, i.bytes)) = some (some (.bool false), 1, 1) := by kernel_rfl
set_option maxRecDepth 100000 in
theorem each_sec {w : World} (caps : Array Value) (g : Nat → UInt64)
    (hf : ∀ (w' : World) (k : Nat), k < 18 → Step [] w w' → Calls Try.prog 57 (#[.int .i64 k, .bool false] ++ caps) w' fun e w'' => e = .returned (u (g k)) ∧ Step [] w' w'') :
    Calls Try.prog 56 #[.agg f18.toArray, .func (.func 57) #[] caps] w fun e w' => e = .returned (.agg (cu ((List.range 18).map g)).toArray) ∧ Step [] w w' := by
  obtain ⟨i, hi, hz0, hz1, hz2⟩ := info_parts Try.infoB
  have hl : f18.length = 18 := rfl
  generalize hcs : f18 = cs at *
  go_enter Try.func56, Try.ntmps56
  go_wp2_with (first | (with_reducible refine Stopped.load 102 rfl ?_) | (with_reducible refine Stopped.store 59 rfl ?_))
  refine Stopped.on ?_
  have R0 := ((Row.new w cs.toArray 102).step ((Step.refl [] _).alloc (.cells z18 59)) (by simp)).step ((Step.refl [] _).alloc (.cells z18 59)) (by simp)
  have R1 := (Row.new (w.alloc (.cells cs.toArray 102)) z18 59).step ((Step.refl [] _).alloc (.cells z18 59)) (by simp)
  have R2 := Row.new ((w.alloc (.cells cs.toArray 102)).alloc (.cells z18 59)) z18 59
  have st : Step [] w (((w.alloc (.cells cs.toArray 102)).alloc (.cells z18 59)).alloc (.cells z18 59)) := (((Step.refl [] w).alloc _).alloc _).alloc _
  have n1 : (w.alloc (.cells cs.toArray 102)).heap.size = w.heap.size + 1 := by simp
  have n2 : ((w.alloc (.cells cs.toArray 102)).alloc (.cells z18 59)).heap.size = w.heap.size + 1 + 1 := by simp
  rw [n1] at R1
  rw [n2] at R2
  rw [show (cs.toArray).toList = cs by simp] at R0
  clear n1 n2
  unfold z18 at *
  generalize (((w.alloc (.cells cs.toArray 102)).alloc (.cells _ 59)).alloc (.cells _ 59)) = w1 at *
  obtain ⟨b0, e0⟩ : ∃ b, b = w.heap.size := ⟨_, rfl⟩
  rw [← e0] at R0 R1 R2 ⊢
  have hb0 : w.heap.size ≤ b0 := by omega
  clear e0
  refine wpList_loadRow rfl 102 (.tmp 2) rfl (b := b0) rfl R0 Try.underlying102 (by kernel_rfl) hl ?_
  go_wp2_with fail
  clear R0
  obtain ⟨zs, hz⟩ : ∃ zs, zs = (#[.int .u64 0, .int .u64 0, .int .u64 0, .int .u64 0, .int .u64 0, .int .u64 0, .int .u64 0, .int .u64 0, .int .u64 0, .int .u64 0, .int .u64 0, .int .u64 0, .int .u64 0, .int .u64 0, .int .u64 0, .int .u64 0, .int .u64 0, .int .u64 0] : Array Value).toList := ⟨_, rfl⟩
  have R1' : Row w1 (b0 + 1) zs := by rw [hz]; exact R1
  have hzl : zs.length = 18 := by rw [hz]; rfl
  clear R1 hz
  obtain ⟨b1, hb1⟩ : ∃ b, b = b0 + 1 := ⟨_, rfl⟩
  obtain ⟨b2, hb2⟩ : ∃ b, b = b1 + 1 := ⟨_, rfl⟩
  rw [← hb1] at R1' R2 ⊢
  rw [← hb2] at R2 ⊢
  have h01 : w.heap.size ≤ b1 := by omega
  have h02 : w.heap.size ≤ b2 := by omega
  have h12 : b1 ≠ b2 := by omega
  clear hb1 hb2 hb0
  go_loopw [6, 7, 9] (fun _ _ s9 wr => ∃ k : Nat, k ≤ 18 ∧ s9 = .int .i64 k ∧ Row wr b2 (cu (((List.range 18).map g).take k) ++ List.replicate (18 - k) (.int .u64 0)) ∧ Row wr b1 zs ∧ Step [] w wr) (fun _ _ s9 _ => 18 - (intOf s9).toNat)
  case atStart => exact ⟨0, by omega, rfl, R2, R1', st⟩
  case round =>
    obtain ⟨k, hk, rfl, r2, r1, hst⟩ := hrel
    clear R1' R2 st
    by_cases hlt : k < 18
    · have d0 : cs[k]? = some (.bool false) := by rw [← hcs]; unfold f18; rw [List.getElem?_replicate, if_pos (by omega)]
      have hix : ∀ W, (Instr.index 102 (.agg cs.toArray) (.int .i64 (k : Int))).run Try.prog W = .ok (.bool false) W := fun W => run_index_row W _ _ i 18 cs .i64 k _ Try.underlying102 hi hz1 _ Try.underlying4 rfl hlt d0
      have HF := hf wr k hlt hst
      have hml : ((List.range 18).map g).length = 18 := by simp
      have HG : Hid ((cu (((List.range 18).map g).take k) ++ List.replicate (18 - k) (Value.int .u64 0)).set k (u (g k)) = cu (((List.range 18).map g).take (k + 1)) ++ List.replicate (18 - (k + 1)) (Value.int .u64 0)) := set_row _ k 18 (by rw [hml]) hlt _ (by simp [List.getD, hlt])
      have dk : (cu (((List.range 18).map g).take k) ++ List.replicate (18 - k) (Value.int .u64 0))[k]? = some (Value.int .u64 0) := by
        rw [List.getElem?_append_right (by simp [cu]; omega)]
        rw [List.getElem?_replicate, if_pos (by simp [cu]; omega)]
      clear hf hml
      generalize g k = y at *
      go_wp2_with fail
      refine HF.mono ?_
      rintro e w2 ⟨rfl, q⟩
      have r2' := r2.step q (by simp)
      have r1' := r1.step q (by simp)
      have d5 := r2'.cell dk
      have f5 := r2'.free k
      have r5 := r2'.set k (u y)
      have s5 : Step [] w (w2.setCell ⟨b2, k, none⟩ (u y)) := (hst.trans q).setCell _ (.inr h02) _
      have r6 : Row (w2.setCell ⟨b2, k, none⟩ (u y)) b1 zs := r1'.step (m := [b2]) ((Step.refl _ _).setCell _ (.inl (by simp)) _) (by simpa using h12)
      rw [HG.out] at r5
      clear r2 r1 r2' r1' HF hst q dk
      go_wp2_with fail
      go_round
      case rel => exact ⟨k + 1, by omega, by go_num, r5, r6, s5⟩
      case measure => simp [intOf]; omega
    · have hml : ((List.range 18).map g).length = 18 := by simp
      have r3 : Row wr b2 (cu ((List.range 18).map g)) := by
        rw [show k = 18 by omega, List.take_of_length_le (by omega)] at r2
        simpa using r2
      clear r2 hf
      generalize hys : (List.range 18).map g = ys at *
      have hy : (cu ys).length = 18 := by simp [cu, hml]
      go_wp2_with (first | (with_reducible refine Stopped.load 59 rfl ?_) | (with_reducible refine Stopped.store 59 rfl ?_))
      refine Stopped.on ?_
      refine wpList_loadRow rfl 59 (.tmp 5) rfl (b := b2) rfl r3 Try.underlying59 (by kernel_rfl) hy ?_
      go_wp2_with (first | (with_reducible refine Stopped.load 59 rfl ?_) | (with_reducible refine Stopped.store 59 rfl ?_))
      refine Stopped.on ?_
      refine wpList_storeRow rfl 59 (.tmp 4) (.tmp 20) rfl (b := b1) rfl rfl r1 hy hzl (by kernel_rfl) (cu_one _) ?_
      intro w5 s5 r5
      have st5 : Step [] w w5 := hst.grow s5 (by simp; omega)
      clear r3 r1 hst s5
      go_wp2_with (with_reducible refine Stopped.load 59 rfl ?_)
      obtain ⟨T5, h5⟩ := r5
      have hsz : (Try.prog.info? 59).map (·.size) = some (cu ys).toArray.size := by rw [show (cu ys).toArray.size = 18 by simpa using hy]; kernel_rfl
      refine bodyPost_ret (results_cell_row rfl _ w5 b1 T5 (cu ys).toArray (0, 0) (.array 18 36) (by first | rfl | simp) h5 Try.underlying59 rfl hsz) rfl ?_
      exact ⟨by rw [hys], st5⟩


theorem Row.box (w : World) (cs : List Value) (T : TypeId) : Row (w.alloc (.cells cs.toArray T)) w.heap.size cs := by simpa using Row.new w cs.toArray T

/-- What ends come to. -/
def sPk : List UInt8 := [112, 107]
def foldK (l : List UInt64) (k : Nat) : UInt64 := (l.take k).foldl (two sPk) 0
def foldP (l : List UInt64) : UInt64 := foldK l 18
theorem foldK_succ (l : List UInt64) (k : Nat) (h : k < l.length) : foldK l (k + 1) = two sPk (foldK l k) (l.getD k 0) := by
  unfold foldK
  rw [take_snoc64 h, List.foldl_append]
  simp only [List.foldl_cons, List.foldl_nil]
  rw [show l[k] = l.getD k 0 by simp [List.getD, h]]
theorem folded1_any {w : World} (p x : UInt64) : Calls Try.prog 78 #[u p, u x] w fun e w' => e = .returned (u (two sPk p x)) ∧ Step [] w w' := by
  go_enter Try.func78, Try.ntmps78
  go_wp2_with fail
  refine (two_any ⟨#[112, 107]⟩ (by decide) p x).mono ?_
  rintro e w1 ⟨rfl, q⟩
  go_wp2_with fail
  go_ret
  exact ⟨rfl, q⟩
set_option maxRecDepth 100000 in
theorem foldD_any {w : World} (l : List UInt64) (hl : l.length = 18) (b c : Nat) (hr : Row w b (cu l)) :
    Calls Try.prog 77 #[.slice (some ⟨b, 0, none⟩) 18 c, u 0, .func (.func 78) #[] #[]] w fun e w' => e = .returned (u (foldP l)) ∧ Step [] w w' := by
  have HL := Lib.hid hl
  clear hl
  go_enter Try.func77, Try.ntmps77
  go_wp2_with fail
  go_loopw [1, 8, 11] (fun s1 _ s11 wr => ∃ k : Nat, k ≤ 18 ∧ s1 = u (foldK l k) ∧ s11 = .int .i64 k ∧ Step [] w wr) (fun _ _ s11 _ => 18 - (intOf s11).toNat)
  case atStart => exact ⟨0, by omega, rfl, rfl, Step.refl _ _⟩
  case round =>
    obtain ⟨k, hk, rfl, rfl, hst⟩ := hrel
    by_cases hlt : k < 18
    · have dc := (hr.step hst (by simp)).cell (cu_get l k (by rw [HL.out]; exact hlt))
      have HS : Hid (foldK l (k + 1) = two sPk (foldK l k) (l.getD k 0)) := foldK_succ l k (by rw [HL.out]; exact hlt)
      generalize l.getD k 0 = y at *
      generalize foldK l k = z at *
      clear hr
      go_wp2_with fail
      refine (folded1_any z y).mono ?_
      rintro e w1 ⟨rfl, q⟩
      go_wp2_with fail
      go_round
      case rel => exact ⟨k + 1, by omega, by rw [HS.out], by go_num, hst.trans q⟩
      case measure => simp [intOf]; omega
    · obtain rfl : k = 18 := by omega
      clear hr
      go_wp2_with fail
      go_ret
      exact ⟨rfl, hst⟩
set_option maxRecDepth 100000 in
theorem folded_any {w : World} (l : List UInt64) (hl : l.length = 18) : Calls Try.prog 63 #[.agg (cu l).toArray] w fun e w' => e = .returned (u (foldP l)) ∧ Step [] w w' := by
  have st := (Step.refl [] w).alloc (.cells (cu l).toArray 59)
  have R := Row.box w (cu l) 59
  generalize hcs : cu l = cs at *
  go_enter Try.func63, Try.ntmps63
  go_wp2_with fail
  rw [← hcs] at R
  refine (foldD_any l hl _ _ (hcs ▸ R)).mono ?_
  rintro e w1 ⟨rfl, q⟩
  go_wp2_with fail
  go_ret
  exact ⟨rfl, st.trans q⟩
end Go.Proofs.Ytcmihfanlconhab
