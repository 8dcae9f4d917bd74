/- Signed once: what the functions come to, the program's and the document's. Conditions: none. -/
import Derived.Test.YtcmihfanlconhabArr
namespace Go.Proofs.Ytcmihfanlconhab
open Go.RowKit

def sOt : UInt64 := sumT [111, 116] []
theorem pub1_any {w : World} (k : Int) (x : UInt64) : Calls Try.prog 64 #[.int .i64 k, u x] w fun e w' => e = .returned (u (chainN sOt 15 x)) ∧ Step [] w w' := by
  go_enter Try.func64, Try.ntmps64
  go_wp2_with fail
  refine (chain_any ⟨#[111, 116]⟩ (by decide) x 15).mono ?_
  rintro e w1 ⟨rfl, q⟩
  go_wp2_with fail
  go_ret
  exact ⟨rfl, q⟩

theorem Try.infoD : (Try.prog.info? 36).map (fun i => (i.zero, i.size, i.bytes)) = some (some (.int .u64 0), 1, 8) := by kernel_rfl
theorem cu_get (l : List UInt64) (j : Nat) (h : j < l.length) : (cu l)[j]? = some (u (l.getD j 0)) := by simp [cu, List.getD, h]
def z18 : Array Value := #[.int .u64 0, .int .u64 0, .int .u64 0, .int .u64 0, .int .u64 0, .int .u64 0, .int .u64 0, .int .u64 0, .int .u64 0, .int .u64 0, .int .u64 0, .int .u64 0, .int .u64 0, .int .u64 0, .int .u64 0, .int .u64 0, .int .u64 0, .int .u64 0]
theorem cu_one (xs : List UInt64) : ∀ x ∈ cu xs, x.oneCell' = true := by
  intro x hx
  obtain ⟨y, _, rfl⟩ := List.mem_map.1 hx
  rfl
theorem set_row (L : List UInt64) (k n : Nat) (hl : L.length = n) (hk : k < n) (y : UInt64) (hy : L.getD k 0 = y) : (cu (L.take k) ++ List.replicate (n - k) (Value.int .u64 0)).set k (u y) = cu (L.take (k + 1)) ++ List.replicate (n - (k + 1)) (Value.int .u64 0) := by
  have h1 : (cu (L.take k)).length = k := by simp [cu]; omega
  rw [List.set_append_right _ _ (by omega), h1, Nat.sub_self, show n - k = (n - (k + 1)) + 1 by omega, List.replicate_succ, List.set_cons_zero]
  have h2 : L.take (k + 1) = L.take k ++ [y] := by
    rw [take_snoc64 (by omega), ← hy]
    simp [List.getD, show k < L.length by omega]
  rw [h2]
  simp [cu]
set_option maxRecDepth 100000 in
theorem each_sign {w : World} (xs : List UInt64) (hx : xs.length = 18) (caps : Array Value) (g : Nat → UInt64 → UInt64)
    (hf : ∀ (w' : World) (k : Nat), k < 18 → Step [] w w' → Calls Try.prog 61 (#[.int .i64 k, u (xs.getD k 0)] ++ caps) w' fun e w'' => e = .returned (u (g k (xs.getD k 0))) ∧ Step [] w' w'') :
    Calls Try.prog 60 #[.agg (cu xs).toArray, .func (.func 61) #[] caps] w fun e w' => e = .returned (.agg (cu (xs.mapIdx g)).toArray) ∧ Step [] w w' := by
  obtain ⟨i, hi, hz0, hz1, hz2⟩ := info_parts Try.infoD
  have hl : (cu xs).length = 18 := by simp [cu, hx]
  generalize hcs : cu xs = cs at *
  go_enter Try.func60, Try.ntmps60
  go_wp2_with (first | (with_reducible refine Stopped.load 59 rfl ?_) | (with_reducible refine Stopped.store 59 rfl ?_))
  refine Stopped.on ?_
  have R0 := ((Row.new w cs.toArray 59).step ((Step.refl [] _).alloc (.cells z18 59)) (by simp)).step ((Step.refl [] _).alloc (.cells z18 59)) (by simp)
  have R1 := (Row.new (w.alloc (.cells cs.toArray 59)) z18 59).step ((Step.refl [] _).alloc (.cells z18 59)) (by simp)
  have R2 := Row.new ((w.alloc (.cells cs.toArray 59)).alloc (.cells z18 59)) z18 59
  have st : Step [] w (((w.alloc (.cells cs.toArray 59)).alloc (.cells z18 59)).alloc (.cells z18 59)) := (((Step.refl [] w).alloc _).alloc _).alloc _
  have n1 : (w.alloc (.cells cs.toArray 59)).heap.size = w.heap.size + 1 := by simp
  have n2 : ((w.alloc (.cells cs.toArray 59)).alloc (.cells z18 59)).heap.size = w.heap.size + 1 + 1 := by simp
  rw [n1] at R1
  rw [n2] at R2
  rw [show (cs.toArray).toList = cs by simp] at R0
  clear n1 n2
  unfold z18 at *
  generalize (((w.alloc (.cells cs.toArray 59)).alloc (.cells _ 59)).alloc (.cells _ 59)) = w1 at *
  obtain ⟨b0, e0⟩ : ∃ b, b = w.heap.size := ⟨_, rfl⟩
  rw [← e0] at R0 R1 R2 ⊢
  have hb0 : w.heap.size ≤ b0 := by omega
  clear e0
  refine wpList_loadRow rfl 59 (.tmp 2) rfl (b := b0) rfl R0 Try.underlying59 (by kernel_rfl) hl ?_
  go_wp2_with fail
  clear R0
  obtain ⟨zs, hz⟩ : ∃ zs, zs = (#[.int .u64 0, .int .u64 0, .int .u64 0, .int .u64 0, .int .u64 0, .int .u64 0, .int .u64 0, .int .u64 0, .int .u64 0, .int .u64 0, .int .u64 0, .int .u64 0, .int .u64 0, .int .u64 0, .int .u64 0, .int .u64 0, .int .u64 0, .int .u64 0] : Array Value).toList := ⟨_, rfl⟩
  have R1' : Row w1 (b0 + 1) zs := by rw [hz]; exact R1
  have hzl : zs.length = 18 := by rw [hz]; rfl
  clear R1 hz
  obtain ⟨b1, hb1⟩ : ∃ b, b = b0 + 1 := ⟨_, rfl⟩
  obtain ⟨b2, hb2⟩ : ∃ b, b = b1 + 1 := ⟨_, rfl⟩
  rw [← hb1] at R1' R2 ⊢
  rw [← hb2] at R2 ⊢
  have h01 : w.heap.size ≤ b1 := by omega
  have h02 : w.heap.size ≤ b2 := by omega
  have h12 : b1 ≠ b2 := by omega
  clear hb1 hb2 hb0
  go_loopw [6, 7, 9] (fun _ _ s9 wr => ∃ k : Nat, k ≤ 18 ∧ s9 = .int .i64 k ∧ Row wr b2 (cu ((xs.mapIdx g).take k) ++ List.replicate (18 - k) (.int .u64 0)) ∧ Row wr b1 zs ∧ Step [] w wr) (fun _ _ s9 _ => 18 - (intOf s9).toNat)
  case atStart => exact ⟨0, by omega, rfl, R2, R1', st⟩
  case round =>
    obtain ⟨k, hk, rfl, r2, r1, hst⟩ := hrel
    clear R1' R2 st
    by_cases hlt : k < 18
    · have d0 : cs[k]? = some (u (xs.getD k 0)) := by rw [← hcs]; exact cu_get xs k (by omega)
      have hix : ∀ W, (Instr.index 59 (.agg cs.toArray) (.int .i64 (k : Int))).run Try.prog W = .ok (u (xs.getD k 0)) W := fun W => run_index_row W _ _ i 18 cs .i64 k _ Try.underlying59 hi hz1 _ Try.underlying36 rfl hlt d0
      have HF := hf wr k hlt hst
      have hml : (xs.mapIdx g).length = 18 := by simp [hx]
      have HG : Hid ((cu ((xs.mapIdx g).take k) ++ List.replicate (18 - k) (Value.int .u64 0)).set k (u (g k (xs.getD k 0))) = cu ((xs.mapIdx g).take (k + 1)) ++ List.replicate (18 - (k + 1)) (Value.int .u64 0)) := set_row _ k 18 (by rw [hml]) hlt _ (by simp [List.getD, show k < xs.length by omega])
      have dk : (cu ((xs.mapIdx g).take k) ++ List.replicate (18 - k) (Value.int .u64 0))[k]? = some (Value.int .u64 0) := by
        rw [List.getElem?_append_right (by simp [cu, hx]; omega)]
        rw [List.getElem?_replicate, if_pos (by simp [cu, hx]; omega)]
      clear hf hml
      generalize g k (xs.getD k 0) = y at *
      generalize xs.getD k 0 = x at *
      go_wp2_with fail
      refine HF.mono ?_
      rintro e w2 ⟨rfl, q⟩
      have r2' := r2.step q (by simp)
      have r1' := r1.step q (by simp)
      have d5 := r2'.cell dk
      have f5 := r2'.free k
      have r5 := r2'.set k (u y)
      have s5 : Step [] w (w2.setCell ⟨b2, k, none⟩ (u y)) := (hst.trans q).setCell _ (.inr h02) _
      have r6 : Row (w2.setCell ⟨b2, k, none⟩ (u y)) b1 zs := r1'.step (m := [b2]) ((Step.refl _ _).setCell _ (.inl (by simp)) _) (by simpa using h12)
      rw [HG.out] at r5
      clear r2 r1 r2' r1' HF hst q dk
      go_wp2_with fail
      go_round
      case rel => exact ⟨k + 1, by omega, by go_num, r5, r6, s5⟩
      case measure => simp [intOf]; omega
    · have hml : (xs.mapIdx g).length = 18 := by simp [hx]
      have r3 : Row wr b2 (cu (xs.mapIdx g)) := by
        rw [show k = 18 by omega, List.take_of_length_le (by omega)] at r2
        simpa using r2
      clear r2 hf
      generalize hys : xs.mapIdx g = ys at *
      have hy : (cu ys).length = 18 := by simp [cu, hml]
      go_wp2_with (first | (with_reducible refine Stopped.load 59 rfl ?_) | (with_reducible refine Stopped.store 59 rfl ?_))
      refine Stopped.on ?_
      refine wpList_loadRow rfl 59 (.tmp 5) rfl (b := b2) rfl r3 Try.underlying59 (by kernel_rfl) hy ?_
      go_wp2_with (first | (with_reducible refine Stopped.load 59 rfl ?_) | (with_reducible refine Stopped.store 59 rfl ?_))
      refine Stopped.on ?_
      refine wpList_storeRow rfl 59 (.tmp 4) (.tmp 20) rfl (b := b1) rfl rfl r1 hy hzl (by kernel_rfl) (cu_one _) ?_
      intro w5 s5 r5
      have st5 : Step [] w w5 := hst.grow s5 (by simp; omega)
      clear r3 r1 hst s5
      go_wp2_with (with_reducible refine Stopped.load 59 rfl ?_)
      obtain ⟨T5, h5⟩ := r5
      have hsz : (Try.prog.info? 59).map (·.size) = some (cu ys).toArray.size := by rw [show (cu ys).toArray.size = 18 by simpa using hy]; kernel_rfl
      refine bodyPost_ret (results_cell_row rfl _ w5 b1 T5 (cu ys).toArray (0, 0) (.array 18 36) (by first | rfl | simp) h5 Try.underlying59 rfl hsz) rfl ?_
      exact ⟨by rw [hys], st5⟩

set_option maxRecDepth 100000 in
theorem each_pub {w : World} (xs : List UInt64) (hx : xs.length = 18) (caps : Array Value) (g : Nat → UInt64 → UInt64)
    (hf : ∀ (w' : World) (k : Nat), k < 18 → Step [] w w' → Calls Try.prog 64 (#[.int .i64 k, u (xs.getD k 0)] ++ caps) w' fun e w'' => e = .returned (u (g k (xs.getD k 0))) ∧ Step [] w' w'') :
    Calls Try.prog 60 #[.agg (cu xs).toArray, .func (.func 64) #[] caps] w fun e w' => e = .returned (.agg (cu (xs.mapIdx g)).toArray) ∧ Step [] w w' := by
  obtain ⟨i, hi, hz0, hz1, hz2⟩ := info_parts Try.infoD
  have hl : (cu xs).length = 18 := by simp [cu, hx]
  generalize hcs : cu xs = cs at *
  go_enter Try.func60, Try.ntmps60
  go_wp2_with (first | (with_reducible refine Stopped.load 59 rfl ?_) | (with_reducible refine Stopped.store 59 rfl ?_))
  refine Stopped.on ?_
  have R0 := ((Row.new w cs.toArray 59).step ((Step.refl [] _).alloc (.cells z18 59)) (by simp)).step ((Step.refl [] _).alloc (.cells z18 59)) (by simp)
  have R1 := (Row.new (w.alloc (.cells cs.toArray 59)) z18 59).step ((Step.refl [] _).alloc (.cells z18 59)) (by simp)
  have R2 := Row.new ((w.alloc (.cells cs.toArray 59)).alloc (.cells z18 59)) z18 59
  have st : Step [] w (((w.alloc (.cells cs.toArray 59)).alloc (.cells z18 59)).alloc (.cells z18 59)) := (((Step.refl [] w).alloc _).alloc _).alloc _
  have n1 : (w.alloc (.cells cs.toArray 59)).heap.size = w.heap.size + 1 := by simp
  have n2 : ((w.alloc (.cells cs.toArray 59)).alloc (.cells z18 59)).heap.size = w.heap.size + 1 + 1 := by simp
  rw [n1] at R1
  rw [n2] at R2
  rw [show (cs.toArray).toList = cs by simp] at R0
  clear n1 n2
  unfold z18 at *
  generalize (((w.alloc (.cells cs.toArray 59)).alloc (.cells _ 59)).alloc (.cells _ 59)) = w1 at *
  obtain ⟨b0, e0⟩ : ∃ b, b = w.heap.size := ⟨_, rfl⟩
  rw [← e0] at R0 R1 R2 ⊢
  have hb0 : w.heap.size ≤ b0 := by omega
  clear e0
  refine wpList_loadRow rfl 59 (.tmp 2) rfl (b := b0) rfl R0 Try.underlying59 (by kernel_rfl) hl ?_
  go_wp2_with fail
  clear R0
  obtain ⟨zs, hz⟩ : ∃ zs, zs = (#[.int .u64 0, .int .u64 0, .int .u64 0, .int .u64 0, .int .u64 0, .int .u64 0, .int .u64 0, .int .u64 0, .int .u64 0, .int .u64 0, .int .u64 0, .int .u64 0, .int .u64 0, .int .u64 0, .int .u64 0, .int .u64 0, .int .u64 0, .int .u64 0] : Array Value).toList := ⟨_, rfl⟩
  have R1' : Row w1 (b0 + 1) zs := by rw [hz]; exact R1
  have hzl : zs.length = 18 := by rw [hz]; rfl
  clear R1 hz
  obtain ⟨b1, hb1⟩ : ∃ b, b = b0 + 1 := ⟨_, rfl⟩
  obtain ⟨b2, hb2⟩ : ∃ b, b = b1 + 1 := ⟨_, rfl⟩
  rw [← hb1] at R1' R2 ⊢
  rw [← hb2] at R2 ⊢
  have h01 : w.heap.size ≤ b1 := by omega
  have h02 : w.heap.size ≤ b2 := by omega
  have h12 : b1 ≠ b2 := by omega
  clear hb1 hb2 hb0
  go_loopw [6, 7, 9] (fun _ _ s9 wr => ∃ k : Nat, k ≤ 18 ∧ s9 = .int .i64 k ∧ Row wr b2 (cu ((xs.mapIdx g).take k) ++ List.replicate (18 - k) (.int .u64 0)) ∧ Row wr b1 zs ∧ Step [] w wr) (fun _ _ s9 _ => 18 - (intOf s9).toNat)
  case atStart => exact ⟨0, by omega, rfl, R2, R1', st⟩
  case round =>
    obtain ⟨k, hk, rfl, r2, r1, hst⟩ := hrel
    clear R1' R2 st
    by_cases hlt : k < 18
    · have d0 : cs[k]? = some (u (xs.getD k 0)) := by rw [← hcs]; exact cu_get xs k (by omega)
      have hix : ∀ W, (Instr.index 59 (.agg cs.toArray) (.int .i64 (k : Int))).run Try.prog W = .ok (u (xs.getD k 0)) W := fun W => run_index_row W _ _ i 18 cs .i64 k _ Try.underlying59 hi hz1 _ Try.underlying36 rfl hlt d0
      have HF := hf wr k hlt hst
      have hml : (xs.mapIdx g).length = 18 := by simp [hx]
      have HG : Hid ((cu ((xs.mapIdx g).take k) ++ List.replicate (18 - k) (Value.int .u64 0)).set k (u (g k (xs.getD k 0))) = cu ((xs.mapIdx g).take (k + 1)) ++ List.replicate (18 - (k + 1)) (Value.int .u64 0)) := set_row _ k 18 (by rw [hml]) hlt _ (by simp [List.getD, show k < xs.length by omega])
      have dk : (cu ((xs.mapIdx g).take k) ++ List.replicate (18 - k) (Value.int .u64 0))[k]? = some (Value.int .u64 0) := by
        rw [List.getElem?_append_right (by simp [cu, hx]; omega)]
        rw [List.getElem?_replicate, if_pos (by simp [cu, hx]; omega)]
      clear hf hml
      generalize g k (xs.getD k 0) = y at *
      generalize xs.getD k 0 = x at *
      go_wp2_with fail
      refine HF.mono ?_
      rintro e w2 ⟨rfl, q⟩
      have r2' := r2.step q (by simp)
      have r1' := r1.step q (by simp)
      have d5 := r2'.cell dk
      have f5 := r2'.free k
      have r5 := r2'.set k (u y)
      have s5 : Step [] w (w2.setCell ⟨b2, k, none⟩ (u y)) := (hst.trans q).setCell _ (.inr h02) _
      have r6 : Row (w2.setCell ⟨b2, k, none⟩ (u y)) b1 zs := r1'.step (m := [b2]) ((Step.refl _ _).setCell _ (.inl (by simp)) _) (by simpa using h12)
      rw [HG.out] at r5
      clear r2 r1 r2' r1' HF hst q dk
      go_wp2_with fail
      go_round
      case rel => exact ⟨k + 1, by omega, by go_num, r5, r6, s5⟩
      case measure => simp [intOf]; omega
    · have hml : (xs.mapIdx g).length = 18 := by simp [hx]
      have r3 : Row wr b2 (cu (xs.mapIdx g)) := by
        rw [show k = 18 by omega, List.take_of_length_le (by omega)] at r2
        simpa using r2
      clear r2 hf
      generalize hys : xs.mapIdx g = ys at *
      have hy : (cu ys).length = 18 := by simp [cu, hml]
      go_wp2_with (first | (with_reducible refine Stopped.load 59 rfl ?_) | (with_reducible refine Stopped.store 59 rfl ?_))
      refine Stopped.on ?_
      refine wpList_loadRow rfl 59 (.tmp 5) rfl (b := b2) rfl r3 Try.underlying59 (by kernel_rfl) hy ?_
      go_wp2_with (first | (with_reducible refine Stopped.load 59 rfl ?_) | (with_reducible refine Stopped.store 59 rfl ?_))
      refine Stopped.on ?_
      refine wpList_storeRow rfl 59 (.tmp 4) (.tmp 20) rfl (b := b1) rfl rfl r1 hy hzl (by kernel_rfl) (cu_one _) ?_
      intro w5 s5 r5
      have st5 : Step [] w w5 := hst.grow s5 (by simp; omega)
      clear r3 r1 hst s5
      go_wp2_with (with_reducible refine Stopped.load 59 rfl ?_)
      obtain ⟨T5, h5⟩ := r5
      have hsz : (Try.prog.info? 59).map (·.size) = some (cu ys).toArray.size := by rw [show (cu ys).toArray.size = 18 by simpa using hy]; kernel_rfl
      refine bodyPost_ret (results_cell_row rfl _ w5 b1 T5 (cu ys).toArray (0, 0) (.array 18 36) (by first | rfl | simp) h5 Try.underlying59 rfl hsz) rfl ?_
      exact ⟨by rw [hys], st5⟩

set_option maxRecDepth 100000 in
theorem each_rec {w : World} (xs : List UInt64) (hx : xs.length = 18) (caps : Array Value) (g : Nat → UInt64 → UInt64)
    (hf : ∀ (w' : World) (k : Nat), k < 18 → Step [] w w' → Calls Try.prog 67 (#[.int .i64 k, u (xs.getD k 0)] ++ caps) w' fun e w'' => e = .returned (u (g k (xs.getD k 0))) ∧ Step [] w' w'') :
    Calls Try.prog 60 #[.agg (cu xs).toArray, .func (.func 67) #[] caps] w fun e w' => e = .returned (.agg (cu (xs.mapIdx g)).toArray) ∧ Step [] w w' := by
  obtain ⟨i, hi, hz0, hz1, hz2⟩ := info_parts Try.infoD
  have hl : (cu xs).length = 18 := by simp [cu, hx]
  generalize hcs : cu xs = cs at *
  go_enter Try.func60, Try.ntmps60
  go_wp2_with (first | (with_reducible refine Stopped.load 59 rfl ?_) | (with_reducible refine Stopped.store 59 rfl ?_))
  refine Stopped.on ?_
  have R0 := ((Row.new w cs.toArray 59).step ((Step.refl [] _).alloc (.cells z18 59)) (by simp)).step ((Step.refl [] _).alloc (.cells z18 59)) (by simp)
  have R1 := (Row.new (w.alloc (.cells cs.toArray 59)) z18 59).step ((Step.refl [] _).alloc (.cells z18 59)) (by simp)
  have R2 := Row.new ((w.alloc (.cells cs.toArray 59)).alloc (.cells z18 59)) z18 59
  have st : Step [] w (((w.alloc (.cells cs.toArray 59)).alloc (.cells z18 59)).alloc (.cells z18 59)) := (((Step.refl [] w).alloc _).alloc _).alloc _
  have n1 : (w.alloc (.cells cs.toArray 59)).heap.size = w.heap.size + 1 := by simp
  have n2 : ((w.alloc (.cells cs.toArray 59)).alloc (.cells z18 59)).heap.size = w.heap.size + 1 + 1 := by simp
  rw [n1] at R1
  rw [n2] at R2
  rw [show (cs.toArray).toList = cs by simp] at R0
  clear n1 n2
  unfold z18 at *
  generalize (((w.alloc (.cells cs.toArray 59)).alloc (.cells _ 59)).alloc (.cells _ 59)) = w1 at *
  obtain ⟨b0, e0⟩ : ∃ b, b = w.heap.size := ⟨_, rfl⟩
  rw [← e0] at R0 R1 R2 ⊢
  have hb0 : w.heap.size ≤ b0 := by omega
  clear e0
  refine wpList_loadRow rfl 59 (.tmp 2) rfl (b := b0) rfl R0 Try.underlying59 (by kernel_rfl) hl ?_
  go_wp2_with fail
  clear R0
  obtain ⟨zs, hz⟩ : ∃ zs, zs = (#[.int .u64 0, .int .u64 0, .int .u64 0, .int .u64 0, .int .u64 0, .int .u64 0, .int .u64 0, .int .u64 0, .int .u64 0, .int .u64 0, .int .u64 0, .int .u64 0, .int .u64 0, .int .u64 0, .int .u64 0, .int .u64 0, .int .u64 0, .int .u64 0] : Array Value).toList := ⟨_, rfl⟩
  have R1' : Row w1 (b0 + 1) zs := by rw [hz]; exact R1
  have hzl : zs.length = 18 := by rw [hz]; rfl
  clear R1 hz
  obtain ⟨b1, hb1⟩ : ∃ b, b = b0 + 1 := ⟨_, rfl⟩
  obtain ⟨b2, hb2⟩ : ∃ b, b = b1 + 1 := ⟨_, rfl⟩
  rw [← hb1] at R1' R2 ⊢
  rw [← hb2] at R2 ⊢
  have h01 : w.heap.size ≤ b1 := by omega
  have h02 : w.heap.size ≤ b2 := by omega
  have h12 : b1 ≠ b2 := by omega
  clear hb1 hb2 hb0
  go_loopw [6, 7, 9] (fun _ _ s9 wr => ∃ k : Nat, k ≤ 18 ∧ s9 = .int .i64 k ∧ Row wr b2 (cu ((xs.mapIdx g).take k) ++ List.replicate (18 - k) (.int .u64 0)) ∧ Row wr b1 zs ∧ Step [] w wr) (fun _ _ s9 _ => 18 - (intOf s9).toNat)
  case atStart => exact ⟨0, by omega, rfl, R2, R1', st⟩
  case round =>
    obtain ⟨k, hk, rfl, r2, r1, hst⟩ := hrel
    clear R1' R2 st
    by_cases hlt : k < 18
    · have d0 : cs[k]? = some (u (xs.getD k 0)) := by rw [← hcs]; exact cu_get xs k (by omega)
      have hix : ∀ W, (Instr.index 59 (.agg cs.toArray) (.int .i64 (k : Int))).run Try.prog W = .ok (u (xs.getD k 0)) W := fun W => run_index_row W _ _ i 18 cs .i64 k _ Try.underlying59 hi hz1 _ Try.underlying36 rfl hlt d0
      have HF := hf wr k hlt hst
      have hml : (xs.mapIdx g).length = 18 := by simp [hx]
      have HG : Hid ((cu ((xs.mapIdx g).take k) ++ List.replicate (18 - k) (Value.int .u64 0)).set k (u (g k (xs.getD k 0))) = cu ((xs.mapIdx g).take (k + 1)) ++ List.replicate (18 - (k + 1)) (Value.int .u64 0)) := set_row _ k 18 (by rw [hml]) hlt _ (by simp [List.getD, show k < xs.length by omega])
      have dk : (cu ((xs.mapIdx g).take k) ++ List.replicate (18 - k) (Value.int .u64 0))[k]? = some (Value.int .u64 0) := by
        rw [List.getElem?_append_right (by simp [cu, hx]; omega)]
        rw [List.getElem?_replicate, if_pos (by simp [cu, hx]; omega)]
      clear hf hml
      generalize g k (xs.getD k 0) = y at *
      generalize xs.getD k 0 = x at *
      go_wp2_with fail
      refine HF.mono ?_
      rintro e w2 ⟨rfl, q⟩
      have r2' := r2.step q (by simp)
      have r1' := r1.step q (by simp)
      have d5 := r2'.cell dk
      have f5 := r2'.free k
      have r5 := r2'.set k (u y)
      have s5 : Step [] w (w2.setCell ⟨b2, k, none⟩ (u y)) := (hst.trans q).setCell _ (.inr h02) _
      have r6 : Row (w2.setCell ⟨b2, k, none⟩ (u y)) b1 zs := r1'.step (m := [b2]) ((Step.refl _ _).setCell _ (.inl (by simp)) _) (by simpa using h12)
      rw [HG.out] at r5
      clear r2 r1 r2' r1' HF hst q dk
      go_wp2_with fail
      go_round
      case rel => exact ⟨k + 1, by omega, by go_num, r5, r6, s5⟩
      case measure => simp [intOf]; omega
    · have hml : (xs.mapIdx g).length = 18 := by simp [hx]
      have r3 : Row wr b2 (cu (xs.mapIdx g)) := by
        rw [show k = 18 by omega, List.take_of_length_le (by omega)] at r2
        simpa using r2
      clear r2 hf
      generalize hys : xs.mapIdx g = ys at *
      have hy : (cu ys).length = 18 := by simp [cu, hml]
      go_wp2_with (first | (with_reducible refine Stopped.load 59 rfl ?_) | (with_reducible refine Stopped.store 59 rfl ?_))
      refine Stopped.on ?_
      refine wpList_loadRow rfl 59 (.tmp 5) rfl (b := b2) rfl r3 Try.underlying59 (by kernel_rfl) hy ?_
      go_wp2_with (first | (with_reducible refine Stopped.load 59 rfl ?_) | (with_reducible refine Stopped.store 59 rfl ?_))
      refine Stopped.on ?_
      refine wpList_storeRow rfl 59 (.tmp 4) (.tmp 20) rfl (b := b1) rfl rfl r1 hy hzl (by kernel_rfl) (cu_one _) ?_
      intro w5 s5 r5
      have st5 : Step [] w w5 := hst.grow s5 (by simp; omega)
      clear r3 r1 hst s5
      go_wp2_with (with_reducible refine Stopped.load 59 rfl ?_)
      obtain ⟨T5, h5⟩ := r5
      have hsz : (Try.prog.info? 59).map (·.size) = some (cu ys).toArray.size := by rw [show (cu ys).toArray.size = 18 by simpa using hy]; kernel_rfl
      refine bodyPost_ret (results_cell_row rfl _ w5 b1 T5 (cu ys).toArray (0, 0) (.array 18 36) (by first | rfl | simp) h5 Try.underlying59 rfl hsz) rfl ?_
      exact ⟨by rw [hys], st5⟩

def ci (ds : List Nat) : List Value := ds.map fun (d : Nat) => Value.int .i64 (d : Int)
theorem ci_get (ds : List Nat) (j : Nat) (h : j < ds.length) : (ci ds)[j]? = some (.int .i64 ((ds.getD j 0 : Nat) : Int)) := by simp [ci, List.getD, h]
theorem sign1_any {w : World} {b : Nat} {ds : List Nat} (hr : Row w b (ci ds)) (hl : ds.length = 18) (k : Nat) (hk : k < 18) (x : UInt64) :
    Calls Try.prog 61 #[.int .i64 k, u x, .pointer (some ⟨b, 0, none⟩)] w fun e w' => e = .returned (u (chainN sOt (steps (ds.getD k 0 : Nat)) x)) ∧ Step [] w w' := by
  have d := hr.cell (ci_get ds k (by omega))
  generalize ds.getD k 0 = y at *
  clear hr
  have h0 : (0 : Int) ≤ k := by omega
  have h1 : (k : Int) < 18 := by omega
  go_enter Try.func61, Try.ntmps61
  go_wp2_with fail
  refine (chain_any ⟨#[111, 116]⟩ (by decide) x y).mono ?_
  rintro e w1 ⟨rfl, q⟩
  go_wp2_with fail
  go_ret
  exact ⟨rfl, q⟩
theorem rec1_any {w : World} {b : Nat} {ds : List Nat} (hr : Row w b (ci ds)) (hl : ds.length = 18) (hd : ∀ j, ds.getD j 0 ≤ 15) (k : Nat) (hk : k < 18) (x : UInt64) :
    Calls Try.prog 67 #[.int .i64 k, u x, .pointer (some ⟨b, 0, none⟩)] w fun e w' => e = .returned (u (chainN sOt (steps (15 - (ds.getD k 0 : Nat))) x)) ∧ Step [] w w' := by
  have d := hr.cell (ci_get ds k (by omega))
  have hy := hd k
  generalize ds.getD k 0 = y at *
  clear hr
  have h0 : (0 : Int) ≤ k := by omega
  have h1 : (k : Int) < 18 := by omega
  go_enter Try.func67, Try.ntmps67
  go_wp2_with fail
  refine (chain_any ⟨#[111, 116]⟩ (by decide) x _).mono ?_
  rintro e w1 ⟨rfl, q⟩
  go_wp2_with fail
  go_ret
  exact ⟨rfl, q⟩
end Go.Proofs.Ytcmihfanlconhab
