/- Signed once: secrets, public ends, signatures of the program. Conditions: none. -/
import Derived.Test.YtcmihfanlconhabSec
namespace Go.Proofs.Ytcmihfanlconhab
open Go.RowKit
theorem u_eq (a b : UInt64) : ((a.toNat : Int) == (b.toNat : Int)) = (a == b) := by
  rw [Bool.eq_iff_iff]
  simp only [beq_iff_eq]
  rw [Int.ofNat_inj, UInt64.toNat_inj]
def pubL (l : List UInt64) : UInt64 := foldP (l.mapIdx fun _ x => chainN sOt 15 x)
def signL (l : List UInt64) (d : UInt64) : List UInt64 := l.mapIdx fun k x => chainN sOt (steps ((digitsL d).getD k 0 : Nat)) x
def recL (l : List UInt64) (d : UInt64) : UInt64 := foldP (l.mapIdx fun k x => chainN sOt (steps (15 - ((digitsL d).getD k 0 : Nat))) x)
theorem digitsL_le (d : UInt64) (j : Nat) : (digitsL d).getD j 0 ≤ 15 := by
  by_cases hj : j < 18
  · have h0 := sumOf_le d 16
    by_cases h1 : j < 16
    · have : (digitsL d).getD j 0 = digit d j := by simp [digitsL, List.getD, List.getElem?_append_left, h1]
      rw [this]
      exact digit_le d j
    · have h2 : j = 16 ∨ j = 17 := by omega
      rcases h2 with rfl | rfl
      · have : (digitsL d).getD 16 0 = sumOf d 16 / 16 := by simp [digitsL, List.getD]
        rw [this]; omega
      · have : (digitsL d).getD 17 0 = sumOf d 16 % 16 := by simp [digitsL, List.getD]
        rw [this]; omega
  · have : (digitsL d).getD j 0 = 0 := by simp [List.getD, digitsL_len, hj]
    omega

set_option maxRecDepth 100000 in
theorem pub_any {w : World} (l : List UInt64) (hl : l.length = 18) : Calls Try.prog 34 #[.agg (cu l).toArray] w fun e w' => e = .returned (u (pubL l)) ∧ Step [] w w' := by
  have st := (Step.refl [] w).alloc (.cells (cu l).toArray 60)
  have R := Row.box w (cu l) 60
  have hc : (cu l).length = 18 := by simp [cu, hl]
  obtain ⟨cs, hcs⟩ : ∃ cs, cs = cu l := ⟨_, rfl⟩
  have HC := Lib.hid hcs
  rw [← hcs] at st R hc ⊢
  clear hcs
  go_enter Try.func34, Try.ntmps34
  go_wp2_with (with_reducible refine Stopped.load 60 rfl ?_)
  refine Stopped.on ?_
  refine wpList_loadRow rfl 60 (.tmp 1) rfl (b := w.heap.size) rfl R Try.underlying60 (by kernel_rfl) hc ?_
  clear R
  generalize w.alloc (.cells cs.toArray 60) = w1 at *
  go_wp2_with fail
  rw [HC.out]
  refine (each_pub (w := w1) l hl #[] (fun _ x => chainN sOt 15 x) (fun w' k hk s => pub1_any k _)).mono ?_
  rintro e w2 ⟨rfl, q⟩
  go_wp2_with fail
  refine (folded_any (l.mapIdx fun _ x => chainN sOt 15 x) (by simp [hl])).mono ?_
  rintro e w3 ⟨rfl, q2⟩
  go_wp2_with fail
  go_ret
  exact ⟨rfl, (st.trans q).trans q2⟩

/-- A row of 18 whole numbers, nought each. -/
def zi18 : Array Value := #[.int .i64 0, .int .i64 0, .int .i64 0, .int .i64 0, .int .i64 0, .int .i64 0, .int .i64 0, .int .i64 0, .int .i64 0, .int .i64 0, .int .i64 0, .int .i64 0, .int .i64 0, .int .i64 0, .int .i64 0, .int .i64 0, .int .i64 0, .int .i64 0]
/-- A store of a whole row into a block that was just made. -/
theorem wpList_storeFresh {P : Program} {ops : Array Oper} {rest : List Oper} {op : Oper} {a : Act} {w : World} {Q : Exit → Act → World → Prop} (hgd : op.guard = none) (ty : TypeId) (x y : Operand) (ho : op.op = .store ty x y)
    (zs : Array Value) (T : TypeId) (hx : a.eval x = .pointer (some ⟨w.heap.size, 0, none⟩)) {ys : List Value} {n : Nat} (hy : a.eval y = .agg ys.toArray) (hl : ys.length = n) (hl' : zs.size = n)
    (hi : (P.info? ty).map (·.size) = some n) (h1 : ∀ v ∈ ys, v.oneCell' = true)
    (h : ∀ w', Step [] w w' → Row w' w.heap.size ys → w.heap.size < w'.heap.size → wpList P ops Q rest (a.put op.dst undef) w') : wpList P ops Q (op :: rest) a (w.alloc (.cells zs T)) :=
  wpList_storeRow hgd ty x y ho hx hy (Row.new w zs T) hl (by simpa using hl') hi h1 (fun w' s r => h w' (((Step.refl [] w).alloc _).grow s (by simp)) r (by have := s.size; simp at this; omega))
theorem z18_list : z18.toList = List.replicate 18 (Value.int .u64 0) := rfl
set_option maxRecDepth 100000 in
theorem sign_any {w : World} (l : List UInt64) (hl : l.length = 18) (d : UInt64) : Calls Try.prog 32 #[.agg (cu l).toArray, u d] w fun e w' => e = .returned (.agg (cu (signL l d)).toArray) ∧ Step [] w w' := by
  have hc : (cu l).length = 18 := by simp [cu, hl]
  have R := (Row.box w (cu l) 60).step ((Step.refl [] _).alloc (.cells z18 67)) (by simp)
  have R1 := Row.new (w.alloc (.cells (cu l).toArray 60)) z18 67
  have st := ((Step.refl [] w).alloc (.cells (cu l).toArray 60)).alloc (.cells z18 67)
  rw [show (w.alloc (.cells (cu l).toArray 60)).heap.size = w.heap.size + 1 by simp] at R1
  obtain ⟨cs, hcs⟩ : ∃ cs, cs = cu l := ⟨_, rfl⟩
  have HC := Lib.hid hcs
  rw [← hcs] at st R R1 hc ⊢
  clear hcs
  go_enter Try.func32, Try.ntmps32
  go_wp2_with fail
  unfold z18 at *
  generalize (w.alloc (.cells cs.toArray 60)).alloc (.cells _ 67) = w1 at *
  obtain ⟨zs, hz⟩ : ∃ zs, zs = (#[.int .u64 0, .int .u64 0, .int .u64 0, .int .u64 0, .int .u64 0, .int .u64 0, .int .u64 0, .int .u64 0, .int .u64 0, .int .u64 0, .int .u64 0, .int .u64 0, .int .u64 0, .int .u64 0, .int .u64 0, .int .u64 0, .int .u64 0, .int .u64 0] : Array Value).toList := ⟨_, rfl⟩
  have R1' : Row w1 (w.heap.size + 1) zs := by rw [hz]; exact R1
  have hzl : zs.length = 18 := by rw [hz]; rfl
  clear R1 hz
  obtain ⟨b0, hb0⟩ : ∃ b, b = w.heap.size := ⟨_, rfl⟩
  obtain ⟨b1, hb1⟩ : ∃ b, b = b0 + 1 := ⟨_, rfl⟩
  rw [← hb0] at R R1' ⊢
  rw [← hb1] at R1' ⊢
  have h01 : w.heap.size ≤ b1 := by omega
  have h12 : b0 ≠ b1 := by omega
  clear hb0 hb1
  refine (digits_any d).mono ?_
  rintro e w2 ⟨rfl, q⟩
  have R2 := R.step q (by simp)
  have R12 := R1'.step q (by simp)
  have st2 := st.trans q
  clear R R1' st q
  have hdl : (ci (digitsL d)).length = 18 := by simp [ci, digitsL]
  obtain ⟨ds, hds⟩ : ∃ ds, ds = ci (digitsL d) := ⟨_, rfl⟩
  have HD := Lib.hid hds
  have hd1 : ∀ v ∈ ds, v.oneCell' = true := by rw [hds]; exact ci_one _
  rw [← hds] at hdl ⊢
  clear hds
  go_wp2_with (first | (with_reducible refine Stopped.load 60 rfl ?_) | (with_reducible refine Stopped.store 64 rfl ?_))
  refine Stopped.on ?_
  refine wpList_storeFresh rfl 64 (.tmp 5) (.tmp 7) rfl zi18 64 rfl rfl hdl rfl (by kernel_rfl) hd1 ?_
  intro w3 s3 r3 h3
  have R3 := R2.step s3 (by simp)
  have R13 := R12.step s3 (by simp)
  have st3 := st2.trans s3
  have hb2 := R12.lt
  clear R2 R12 st2 s3 hd1
  obtain ⟨b2, hb2'⟩ : ∃ b, b = w2.heap.size := ⟨_, rfl⟩
  rw [← hb2'] at r3 h3 hb2 ⊢
  clear hb2'
  go_wp2_with (first | (with_reducible refine Stopped.load 60 rfl ?_) | (with_reducible refine Stopped.store 64 rfl ?_))
  refine Stopped.on ?_
  refine wpList_loadRow rfl 60 (.tmp 2) rfl (b := b0) rfl R3 Try.underlying60 (by kernel_rfl) hc ?_
  go_wp2_with fail
  rw [HC.out]
  rw [HD.out] at r3
  refine (each_sign (w := w3) l hl #[.pointer (some ⟨b2, 0, none⟩)] (fun k x => chainN sOt (steps ((digitsL d).getD k 0 : Nat)) x) (fun w' k hk s => sign1_any (r3.step s (by simp)) (digitsL_len d) k hk _)).mono ?_
  rintro e w4 ⟨rfl, q4⟩
  have R14 := R13.step q4 (by simp)
  have st4 := st3.trans q4
  clear R13 st3 q4 R3 r3 h3 hb2 HC HD hdl hc
  have hs1 : (cu (l.mapIdx fun k x => chainN sOt (steps ((digitsL d).getD k 0 : Nat)) x)).length = 18 := by simp [cu, hl]
  have ho1 := cu_one (l.mapIdx fun k x => chainN sOt (steps ((digitsL d).getD k 0 : Nat)) x)
  have HS : Hid (cu (l.mapIdx fun k x => chainN sOt (steps ((digitsL d).getD k 0 : Nat)) x) = cu (signL l d)) := rfl
  generalize cu (l.mapIdx fun k x => chainN sOt (steps ((digitsL d).getD k 0 : Nat)) x) = ys at *
  go_wp2_with (with_reducible refine Stopped.store 67 rfl ?_)
  refine Stopped.on ?_
  refine wpList_storeRow rfl 67 (.tmp 4) (.tmp 10) rfl (b := b1) rfl rfl R14 hs1 hzl (by kernel_rfl) ho1 ?_
  intro w5 s5 r5
  have st5 : Step [] w w5 := st4.grow s5 (by simp; omega)
  clear R14 st4 s5
  go_wp2_with fail
  obtain ⟨T5, h5⟩ := r5
  have hsz : (Try.prog.info? 67).map (·.size) = some ys.toArray.size := by rw [show ys.toArray.size = 18 by simpa using hs1]; kernel_rfl
  refine bodyPost_ret (results_cell_row rfl _ w5 b1 T5 ys.toArray (0, 0) (.array 18 36) (by first | rfl | simp) h5 Try.underlying67 rfl hsz) rfl ?_
  exact ⟨by rw [HS.out], st5⟩

set_option maxRecDepth 100000 in
theorem rec_any {w : World} (l : List UInt64) (hl : l.length = 18) (d : UInt64) : Calls Try.prog 37 #[.agg (cu l).toArray, u d] w fun e w' => e = .returned (u (recL l d)) ∧ Step [] w w' := by
  have hc : (cu l).length = 18 := by simp [cu, hl]
  have R := Row.box w (cu l) 67
  have st := (Step.refl [] w).alloc (.cells (cu l).toArray 67)
  obtain ⟨cs, hcs⟩ : ∃ cs, cs = cu l := ⟨_, rfl⟩
  have HC := Lib.hid hcs
  rw [← hcs] at st R hc ⊢
  clear hcs
  go_enter Try.func37, Try.ntmps37
  go_wp2_with fail
  generalize w.alloc (.cells cs.toArray 67) = w1 at *
  obtain ⟨b0, hb0⟩ : ∃ b, b = w.heap.size := ⟨_, rfl⟩
  rw [← hb0] at R ⊢
  clear hb0
  refine (digits_any d).mono ?_
  rintro e w2 ⟨rfl, q⟩
  have R2 := R.step q (by simp)
  have st2 := st.trans q
  clear R st q
  have hdl : (ci (digitsL d)).length = 18 := by simp [ci, digitsL]
  obtain ⟨ds, hds⟩ : ∃ ds, ds = ci (digitsL d) := ⟨_, rfl⟩
  have HD := Lib.hid hds
  have hd1 : ∀ v ∈ ds, v.oneCell' = true := by rw [hds]; exact ci_one _
  rw [← hds] at hdl ⊢
  clear hds
  go_wp2_with (first | (with_reducible refine Stopped.load 67 rfl ?_) | (with_reducible refine Stopped.store 64 rfl ?_))
  refine Stopped.on ?_
  refine wpList_storeFresh rfl 64 (.tmp 5) (.tmp 7) rfl zi18 64 rfl rfl hdl rfl (by kernel_rfl) hd1 ?_
  intro w3 s3 r3 h3
  have R3 := R2.step s3 (by simp)
  have st3 := st2.trans s3
  clear R2 st2 s3 hd1
  obtain ⟨b2, hb2'⟩ : ∃ b, b = w2.heap.size := ⟨_, rfl⟩
  rw [← hb2'] at r3 h3 ⊢
  clear hb2'
  go_wp2_with (first | (with_reducible refine Stopped.load 67 rfl ?_) | (with_reducible refine Stopped.store 64 rfl ?_))
  refine Stopped.on ?_
  refine wpList_loadRow rfl 67 (.tmp 2) rfl (b := b0) rfl R3 Try.underlying67 (by kernel_rfl) hc ?_
  go_wp2_with fail
  rw [HC.out]
  rw [HD.out] at r3
  refine (each_rec (w := w3) l hl #[.pointer (some ⟨b2, 0, none⟩)] (fun k x => chainN sOt (steps (15 - ((digitsL d).getD k 0 : Nat))) x) (fun w' k hk s => rec1_any (r3.step s (by simp)) (digitsL_len d) (digitsL_le d) k hk _)).mono ?_
  rintro e w4 ⟨rfl, q4⟩
  have st4 := st3.trans q4
  clear st3 q4 R3 r3 h3 HC HD hdl hc
  go_wp2_with fail
  refine (folded_any (l.mapIdx fun k x => chainN sOt (steps (15 - ((digitsL d).getD k 0 : Nat))) x) (by simp [hl])).mono ?_
  rintro e w5 ⟨rfl, q5⟩
  go_wp2_with fail
  go_ret
  exact ⟨rfl, st4.trans q5⟩
set_option maxRecDepth 100000 in
theorem ver_any {w : World} (p : UInt64) (l : List UInt64) (hl : l.length = 18) (d : UInt64) : Calls Try.prog 55 #[u p, .agg (cu l).toArray, u d] w fun e w' => e = .returned (.bool (recL l d == p)) ∧ Step [] w w' := by
  have hc : (cu l).length = 18 := by simp [cu, hl]
  have R := Row.box w (cu l) 67
  have st := (Step.refl [] w).alloc (.cells (cu l).toArray 67)
  obtain ⟨cs, hcs⟩ : ∃ cs, cs = cu l := ⟨_, rfl⟩
  have HC := Lib.hid hcs
  rw [← hcs] at st R hc ⊢
  clear hcs
  go_enter Try.func55, Try.ntmps55
  go_wp2_with (with_reducible refine Stopped.load 67 rfl ?_)
  refine Stopped.on ?_
  refine wpList_loadRow rfl 67 (.tmp 4) rfl (b := w.heap.size) rfl R Try.underlying67 (by kernel_rfl) hc ?_
  clear R
  generalize w.alloc (.cells cs.toArray 67) = w1 at *
  go_wp2_with fail
  rw [HC.out]
  refine (rec_any l hl d).mono ?_
  rintro e w2 ⟨rfl, q⟩
  go_wp2_with fail
  go_ret
  refine ⟨?_, st.trans q⟩
  rw [u_eq]
  rfl

/-- A whole number as 64 bits. -/
def lf (n : Int) : UInt64 := UInt64.ofNat (n % 18446744073709551616).toNat
theorem lf_wrap (n : Int) : IntKind.u64.wrap n = ((lf n).toNat : Int) := by
  unfold lf
  rw [IntKind.wrap_u64, UInt64.toNat_ofNat_of_lt' (by show _ < 2 ^ 64; omega)]
  omega
theorem lf_nat (k : Nat) : lf (k : Int) = UInt64.ofNat k := by
  apply UInt64.toNat.inj
  unfold lf
  rw [UInt64.toNat_ofNat_of_lt' (by show _ < 2 ^ 64; omega), UInt64.toNat_ofNat']
  omega
theorem mul32 (a : UInt64) : IntKind.u64.wrap ((a.toNat : Int) * 32) = ((a * 32).toNat : Int) := by
  rw [UInt64.toNat_mul, IntKind.wrap_u64]
  rw [show (32 : UInt64).toNat = 32 from rfl]
  omega
theorem addE (a b : UInt64) : IntKind.u64.wrap ((a.toNat : Int) + (b.toNat : Int)) = ((a + b).toNat : Int) := by
  rw [UInt64.toNat_add, IntKind.wrap_u64]
  omega
def skAt (seed : UInt64) (leaf : Int) (k : Nat) : UInt64 := two [115, 107] seed (lf leaf * 32 + UInt64.ofNat k)
def secL (seed : UInt64) (leaf : Int) : List UInt64 := (List.range 18).map (skAt seed leaf)
theorem secL_len (seed : UInt64) (leaf : Int) : (secL seed leaf).length = 18 := by simp [secL]
theorem sec1_any {w : World} (seed : UInt64) (leaf : Int) {b0 b1 : Nat} (h0 : Row w b0 [u seed]) (h1 : Row w b1 [.int .i64 leaf]) (k : Nat) (hk : k < 18) :
    Calls Try.prog 57 #[.int .i64 k, .bool false, .pointer (some ⟨b0, 0, none⟩), .pointer (some ⟨b1, 0, none⟩)] w fun e w' => e = .returned (u (skAt seed leaf k)) ∧ Step [] w w' := by
  have d0 := h0.cell (i := 0) rfl
  have d1 := h1.cell (i := 0) rfl
  clear h0 h1
  go_enter Try.func57, Try.ntmps57
  go_wp2_with fail
  rw [show IntKind.u64.wrap (IntKind.u64.wrap (IntKind.u64.wrap leaf * 32) + (k : Int)) = ((lf leaf * 32 + UInt64.ofNat k).toNat : Int) by
    rw [lf_wrap leaf, mul32, show (k : Int) = ((UInt64.ofNat k).toNat : Int) by rw [UInt64.toNat_ofNat_of_lt' (by show _ < 2 ^ 64; omega)], addE]]
  refine (two_any ⟨#[115, 107]⟩ (by decide) seed _).mono ?_
  rintro e w1 ⟨rfl, q⟩
  go_wp2_with fail
  go_ret
  exact ⟨rfl, q⟩
set_option maxRecDepth 100000 in
theorem secrets_any {w : World} (seed : UInt64) (leaf : Int) : Calls Try.prog 28 #[u seed, .int .i64 leaf] w fun e w' => e = .returned (.agg (cu (secL seed leaf)).toArray) ∧ Step [] w w' := by
  have R0 := ((Row.box w [u seed] 35).step ((Step.refl [] _).alloc (.cells #[.int .i64 leaf] 3)) (by simp)).step ((Step.refl [] _).alloc (.cells z18 60)) (by simp)
  have R1 := (Row.box (w.alloc (.cells #[u seed] 35)) [.int .i64 leaf] 3).step ((Step.refl [] _).alloc (.cells z18 60)) (by simp)
  have R2 := Row.new ((w.alloc (.cells #[u seed] 35)).alloc (.cells #[.int .i64 leaf] 3)) z18 60
  have st := (((Step.refl [] w).alloc (.cells #[u seed] 35)).alloc (.cells #[.int .i64 leaf] 3)).alloc (.cells z18 60)
  rw [show (w.alloc (.cells #[u seed] 35)).heap.size = w.heap.size + 1 by simp] at R1
  rw [show ((w.alloc (.cells #[u seed] 35)).alloc (.cells #[.int .i64 leaf] 3)).heap.size = w.heap.size + 1 + 1 by simp] at R2
  go_enter Try.func28, Try.ntmps28
  go_wp2_with fail
  unfold z18 at *
  generalize ((w.alloc (.cells _ 35)).alloc (.cells _ 3)).alloc (.cells _ 60) = w1 at *
  obtain ⟨zs, hz⟩ : ∃ zs, zs = (#[.int .u64 0, .int .u64 0, .int .u64 0, .int .u64 0, .int .u64 0, .int .u64 0, .int .u64 0, .int .u64 0, .int .u64 0, .int .u64 0, .int .u64 0, .int .u64 0, .int .u64 0, .int .u64 0, .int .u64 0, .int .u64 0, .int .u64 0, .int .u64 0] : Array Value).toList := ⟨_, rfl⟩
  have R2' : Row w1 (w.heap.size + 1 + 1) zs := by rw [hz]; exact R2
  have hzl : zs.length = 18 := by rw [hz]; rfl
  clear R2 hz
  obtain ⟨b0, hb0⟩ : ∃ b, b = w.heap.size := ⟨_, rfl⟩
  obtain ⟨b1, hb1⟩ : ∃ b, b = b0 + 1 := ⟨_, rfl⟩
  obtain ⟨b2, hb2⟩ : ∃ b, b = b1 + 1 := ⟨_, rfl⟩
  rw [← hb0] at R0 R1 R2' ⊢
  rw [← hb1] at R1 R2' ⊢
  rw [← hb2] at R2' ⊢
  have h02 : w.heap.size ≤ b2 := by omega
  clear hb0 hb1 hb2
  refine (each_sec (w := w1) #[.pointer (some ⟨b0, 0, none⟩), .pointer (some ⟨b1, 0, none⟩)] (skAt seed leaf) (fun w' k hk s => sec1_any seed leaf (R0.step s (by simp)) (R1.step s (by simp)) k hk)).mono ?_
  rintro e w4 ⟨rfl, q4⟩
  have R14 := R2'.step q4 (by simp)
  have st4 := st.trans q4
  clear R2' st q4 R0 R1
  have hs1 : (cu ((List.range 18).map (skAt seed leaf))).length = 18 := by simp [cu]
  have ho1 := cu_one ((List.range 18).map (skAt seed leaf))
  have HS : Hid (cu ((List.range 18).map (skAt seed leaf)) = cu (secL seed leaf)) := rfl
  generalize cu ((List.range 18).map (skAt seed leaf)) = ys at *
  go_wp2_with (with_reducible refine Stopped.store 60 rfl ?_)
  refine Stopped.on ?_
  refine wpList_storeRow rfl 60 (.tmp 4) (.tmp 7) rfl (b := b2) rfl rfl R14 hs1 hzl (by kernel_rfl) ho1 ?_
  intro w5 s5 r5
  have st5 : Step [] w w5 := st4.grow s5 (by simp; omega)
  clear R14 st4 s5
  go_wp2_with fail
  obtain ⟨T5, h5⟩ := r5
  have hsz : (Try.prog.info? 60).map (·.size) = some ys.toArray.size := by rw [show ys.toArray.size = 18 by simpa using hs1]; kernel_rfl
  refine bodyPost_ret (results_cell_row rfl _ w5 b2 T5 ys.toArray (0, 0) (.array 18 36) (by first | rfl | simp) h5 Try.underlying60 rfl hsz) rfl ?_
  exact ⟨by rw [HS.out], st5⟩
end Go.Proofs.Ytcmihfanlconhab
