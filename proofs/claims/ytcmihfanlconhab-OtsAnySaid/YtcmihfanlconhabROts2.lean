/- The document's secrets, public end, signature; arrays turned to the document's. Conditions: none. -/
import Derived.Test.YtcmihfanlconhabKOts
import Derived.Test.YtcmihfanlconhabEqRow
import Derived.Test.YtcmihfanlconhabORow
import Derived.StillTailTactics
namespace Go.Proofs.Ytcmihfanlconhab
open Go.RowKit
theorem fill_zero (L : List UInt64) (k : Nat) (hk : k < 18) (hl : L.length = 18) : (cu (L.take k) ++ List.replicate (18 - k) (Value.int .u64 0))[k]? = some (Value.int .u64 0) := by
  rw [List.getElem?_append_right (by simp [cu]; omega)]
  rw [List.getElem?_replicate, if_pos (by simp [cu]; omega)]
theorem fill_full (L : List UInt64) (hl : L.length = 18) : cu (L.take 18) ++ List.replicate (18 - 18) (Value.int .u64 0) = cu L := by
  rw [List.take_of_length_le (by omega)]
  simp
set_option maxRecDepth 100000 in
theorem of_any {w : World} (l : List UInt64) (hl : l.length = 18) : Calls Try.prog 33 #[.agg (cu l).toArray] w fun e w' => e = .returned (.agg (cu l).toArray) ∧ Step [] w w' := by
  have R0 := ((Row.box w (cu l) 59).step ((Step.refl [] _).alloc (.cells zu18 62)) (by simp)).step ((Step.refl [] _).alloc (.cells zu18 62)) (by simp)
  have R1 := (Row.new (w.alloc (.cells (cu l).toArray 59)) zu18 62).step ((Step.refl [] _).alloc (.cells zu18 62)) (by simp)
  have R2 := Row.new ((w.alloc (.cells (cu l).toArray 59)).alloc (.cells zu18 62)) zu18 62
  have st := (((Step.refl [] w).alloc (.cells (cu l).toArray 59)).alloc (.cells zu18 62)).alloc (.cells zu18 62)
  rw [show (w.alloc (.cells (cu l).toArray 59)).heap.size = w.heap.size + 1 by simp] at R1
  rw [show ((w.alloc (.cells (cu l).toArray 59)).alloc (.cells zu18 62)).heap.size = w.heap.size + 1 + 1 by simp] at R2
  obtain ⟨cs, hcs⟩ : ∃ cs, cs = cu l := ⟨_, rfl⟩
  have HC := Lib.hid hcs
  rw [← hcs] at st R0 R1 R2 ⊢
  clear hcs
  go_enter Try.func33, Try.ntmps33
  go_wp2_with fail
  have R2' : Row (((w.alloc (.cells cs.toArray 59)).alloc (.cells zu18 62)).alloc (.cells zu18 62)) (w.heap.size + 1 + 1) (cu (l.take 0) ++ List.replicate (18 - 0) (.int .u64 0)) := R2
  clear R2
  unfold zu18 at *
  generalize ((w.alloc (.cells cs.toArray 59)).alloc (.cells _ 62)).alloc (.cells _ 62) = w1 at *
  obtain ⟨zs, hz⟩ : ∃ zs, zs = (#[.int .u64 0, .int .u64 0, .int .u64 0, .int .u64 0, .int .u64 0, .int .u64 0, .int .u64 0, .int .u64 0, .int .u64 0, .int .u64 0, .int .u64 0, .int .u64 0, .int .u64 0, .int .u64 0, .int .u64 0, .int .u64 0, .int .u64 0, .int .u64 0] : Array Value).toList := ⟨_, rfl⟩
  have R1' : Row w1 (w.heap.size + 1) zs := by rw [hz]; exact R1
  have hzl : zs.length = 18 := by rw [hz]; rfl
  clear R1 hz
  obtain ⟨b0, hb0⟩ : ∃ b, b = w.heap.size := ⟨_, rfl⟩
  obtain ⟨b1, hb1⟩ : ∃ b, b = b0 + 1 := ⟨_, rfl⟩
  obtain ⟨b2, hb2⟩ : ∃ b, b = b1 + 1 := ⟨_, rfl⟩
  rw [← hb0] at R0 R1' R2' ⊢
  rw [← hb1] at R1' R2' ⊢
  rw [← hb2] at R2' ⊢
  have h01 : w.heap.size ≤ b1 := by omega
  have h02 : w.heap.size ≤ b2 := by omega
  have h12 : b1 ≠ b2 := by omega
  have h20 : b0 ≠ b2 := by omega
  clear hb0 hb1 hb2
  rw [HC.out] at R0
  go_loopw [4] (fun s4 wr => ∃ k : Nat, k ≤ 18 ∧ s4 = .int .i64 k ∧ Row wr b2 (cu (l.take k) ++ List.replicate (18 - k) (.int .u64 0)) ∧ Row wr b1 zs ∧ Row wr b0 (cu l) ∧ Step [] w wr) (fun s4 _ => 18 - (intOf s4).toNat)
  case atStart => exact ⟨0, by omega, rfl, R2', R1', R0, st⟩
  case round =>
    obtain ⟨k, hk, rfl, r2, r1, r0, hst⟩ := hrel
    clear R2' R1' R0 st
    by_cases hlt : k < 18
    · have d1 := r0.cell (cu_get l k (by omega))
      have dk := r2.cell (fill_zero l k hlt hl)
      have fk := r2.free k
      have rs := r2.set k (u (l.getD k 0))
      rw [set_row l k 18 hl hlt _ rfl] at rs
      have sb : Step [b2] wr (wr.setCell ⟨b2, k, none⟩ (u (l.getD k 0))) := (Step.refl _ _).setCell _ (.inl (by simp)) _
      have sw := hst.grow sb (by simp; omega)
      have r1' := r1.step sb (by simpa using h12)
      have r0' := r0.step sb (by simpa using h20)
      clear r2 r1 r0 hst sb
      generalize l.getD k 0 = x at *
      go_wp2_with fail
      go_roundw
      case rel => exact ⟨k + 1, by omega, by go_num, rs, r1', r0', sw⟩
      case measure => simp [intOf]; omega
    · obtain rfl : k = 18 := by omega
      rw [fill_full l hl] at r2
      have hy : (cu l).length = 18 := by simp [cu, hl]
      go_wp2_with (first | (with_reducible refine Stopped.load 62 rfl ?_) | (with_reducible refine Stopped.store 62 rfl ?_))
      refine Stopped.on ?_
      refine wpList_loadRow rfl 62 (.tmp 3) rfl (b := b2) rfl r2 Try.underlying62 (by kernel_rfl) hy ?_
      go_wp2_with (first | (with_reducible refine Stopped.load 62 rfl ?_) | (with_reducible refine Stopped.store 62 rfl ?_))
      refine Stopped.on ?_
      refine wpList_storeRow rfl 62 (.tmp 2) (.tmp 14) rfl (b := b1) rfl rfl r1 hy hzl (by kernel_rfl) (cu_one _) ?_
      intro w5 s5 r5
      have st5 : Step [] w w5 := hst.grow s5 (by simp; omega)
      clear r2 r1 r0 hst s5
      go_wp2_with (with_reducible refine Stopped.load 62 rfl ?_)
      obtain ⟨T5, h5⟩ := r5
      have hsz : (Try.prog.info? 62).map (·.size) = some (cu l).toArray.size := by rw [show (cu l).toArray.size = 18 by simpa using hy]; kernel_rfl
      refine bodyPost_ret (results_cell_row rfl _ w5 b1 T5 (cu l).toArray (0, 0) (.array 18 35) (by first | rfl | simp) h5 Try.underlying62 rfl hsz) rfl ?_
      exact ⟨by rw [HC.out], st5⟩

set_option maxRecDepth 100000 in
theorem rsecrets_any {w : World} (seed : UInt64) (leaf : Int) : Calls Try.prog 29 #[u seed, .int .i64 leaf] w fun e w' => e = .returned (.agg (cu (secL seed leaf)).toArray) ∧ Step [] w w' := by
  have hl := secL_len seed leaf
  obtain ⟨l, hll⟩ : ∃ l, l = secL seed leaf := ⟨_, rfl⟩
  have HL := Lib.hid hll
  rw [← hll] at hl ⊢
  clear hll
  have R1 := (Row.new w zu18 62).step ((Step.refl [] _).alloc (.cells zu18 62)) (by simp)
  have R2 := Row.new (w.alloc (.cells zu18 62)) zu18 62
  have st := ((Step.refl [] w).alloc (.cells zu18 62)).alloc (.cells zu18 62)
  rw [show (w.alloc (.cells zu18 62)).heap.size = w.heap.size + 1 by simp] at R2
  go_enter Try.func29, Try.ntmps29
  go_wp2_with fail
  have R2' : Row ((w.alloc (.cells zu18 62)).alloc (.cells zu18 62)) (w.heap.size + 1) (cu (l.take 0) ++ List.replicate (18 - 0) (.int .u64 0)) := R2
  clear R2
  unfold zu18 at *
  generalize (w.alloc (.cells _ 62)).alloc (.cells _ 62) = w1 at *
  obtain ⟨zs, hz⟩ : ∃ zs, zs = (#[.int .u64 0, .int .u64 0, .int .u64 0, .int .u64 0, .int .u64 0, .int .u64 0, .int .u64 0, .int .u64 0, .int .u64 0, .int .u64 0, .int .u64 0, .int .u64 0, .int .u64 0, .int .u64 0, .int .u64 0, .int .u64 0, .int .u64 0, .int .u64 0] : Array Value).toList := ⟨_, rfl⟩
  have R1' : Row w1 (w.heap.size) zs := by rw [hz]; exact R1
  have hzl : zs.length = 18 := by rw [hz]; rfl
  clear R1 hz
  obtain ⟨b1, hb1⟩ : ∃ b, b = w.heap.size := ⟨_, rfl⟩
  obtain ⟨b2, hb2⟩ : ∃ b, b = b1 + 1 := ⟨_, rfl⟩
  rw [← hb1] at R1' R2' ⊢
  rw [← hb2] at R2' ⊢
  have h01 : w.heap.size ≤ b1 := by omega
  have h02 : w.heap.size ≤ b2 := by omega
  have h12 : b1 ≠ b2 := by omega
  clear hb1 hb2
  go_loopw [6] (fun s6 wr => ∃ k : Nat, k ≤ 18 ∧ s6 = .int .i64 k ∧ Row wr b2 (cu (l.take k) ++ List.replicate (18 - k) (.int .u64 0)) ∧ Row wr b1 zs ∧ Step [] w wr) (fun s6 _ => 18 - (intOf s6).toNat)
  case atStart => exact ⟨0, by omega, rfl, R2', R1', st⟩
  case round =>
    obtain ⟨k, hk, rfl, r2, r1, hst⟩ := hrel
    clear R2' R1' st
    by_cases hlt : k < 18
    · have dk := r2.cell (fill_zero l k hlt hl)
      have fk := r2.free k
      have hx : l.getD k 0 = skAt seed leaf k := by rw [HL.out]; simp [secL, List.getD, hlt]
      have rs := r2.set k (u (l.getD k 0))
      rw [set_row l k 18 hl hlt _ rfl] at rs
      have sb : Step [b2] wr (wr.setCell ⟨b2, k, none⟩ (u (l.getD k 0))) := (Step.refl _ _).setCell _ (.inl (by simp)) _
      have sw := hst.grow sb (by simp; omega)
      have r1' := r1.step sb (by simpa using h12)
      have HX : Hid (two (ByteArray.mk #[115, 107]).data.toList seed (lf leaf * 32 + UInt64.ofNat k) = l.getD k 0) := hx.symm
      clear r2 r1 hst sb hx
      generalize l.getD k 0 = x at *
      go_wp2_with fail
      rw [show IntKind.u64.wrap (IntKind.u64.wrap (IntKind.u64.wrap leaf * 32) + (k : Int)) = ((lf leaf * 32 + UInt64.ofNat k).toNat : Int) by
        rw [lf_wrap leaf, mul32, show (k : Int) = ((UInt64.ofNat k).toNat : Int) by rw [UInt64.toNat_ofNat_of_lt' (by show _ < 2 ^ 64; omega)], addE]]
      refine (rtwo_any ⟨#[115, 107]⟩ (by decide) seed _).mono ?_
      rintro e w3 ⟨rfl, rfl⟩
      rw [HX.out]
      go_wp2_with fail
      go_roundw
      case rel => exact ⟨k + 1, by omega, by go_num, rs, r1', sw⟩
      case measure => simp [intOf]; omega
    · obtain rfl : k = 18 := by omega
      rw [fill_full l hl] at r2
      have hy : (cu l).length = 18 := by simp [cu, hl]
      go_wp2_with (first | (with_reducible refine Stopped.load 62 rfl ?_) | (with_reducible refine Stopped.store 62 rfl ?_))
      refine Stopped.on ?_
      refine wpList_loadRow rfl 62 (.tmp 5) rfl (b := b2) rfl r2 Try.underlying62 (by kernel_rfl) hy ?_
      go_wp2_with (first | (with_reducible refine Stopped.load 62 rfl ?_) | (with_reducible refine Stopped.store 62 rfl ?_))
      refine Stopped.on ?_
      refine wpList_storeRow rfl 62 (.tmp 4) (.tmp 21) rfl (b := b1) rfl rfl r1 hy hzl (by kernel_rfl) (cu_one _) ?_
      intro w5 s5 r5
      have st5 : Step [] w w5 := hst.grow s5 (by simp; omega)
      clear r2 r1 hst s5
      go_wp2_with (with_reducible refine Stopped.load 62 rfl ?_)
      obtain ⟨T5, h5⟩ := r5
      have hsz : (Try.prog.info? 62).map (·.size) = some (cu l).toArray.size := by rw [show (cu l).toArray.size = 18 by simpa using hy]; kernel_rfl
      refine bodyPost_ret (results_cell_row rfl _ w5 b1 T5 (cu l).toArray (0, 0) (.array 18 35) (by first | rfl | simp) h5 Try.underlying62 rfl hsz) rfl ?_
      exact ⟨rfl, st5⟩

set_option maxRecDepth 100000 in
theorem rpub_any {w : World} (l : List UInt64) (hl : l.length = 18) : Calls Try.prog 35 #[.agg (cu l).toArray] w fun e w' => e = .returned (u (pubL l)) ∧ Step [] w w' := by
  have R := Row.box w (cu l) 62
  have st := (Step.refl [] w).alloc (.cells (cu l).toArray 62)
  obtain ⟨cs, hcs⟩ : ∃ cs, cs = cu l := ⟨_, rfl⟩
  have HC := Lib.hid hcs
  rw [← hcs] at st R ⊢
  clear hcs
  go_enter Try.func35, Try.ntmps35
  go_wp2_with fail
  generalize w.alloc (.cells cs.toArray 62) = w1 at *
  obtain ⟨b0, hb0⟩ : ∃ b, b = w.heap.size := ⟨_, rfl⟩
  rw [← hb0] at R ⊢
  have h00 : w.heap.size ≤ b0 := by omega
  clear hb0
  rw [HC.out] at R
  go_loopw [3] (fun s3 wr => ∃ k : Nat, k ≤ 18 ∧ s3 = .int .i64 k ∧ Row wr b0 (cu (turnR l (fun _ x => chainN sOt 15 x) k)) ∧ Step [] w wr) (fun s3 _ => 18 - (intOf s3).toNat)
  case atStart => exact ⟨0, by omega, rfl, R, st⟩
  case round =>
    obtain ⟨k, hk, rfl, rk, hst⟩ := hrel
    clear R st
    by_cases hlt : k < 18
    · have hkl : k < l.length := by omega
      have dx := rk.cell (cu_get _ k (by rw [turnR_len]; exact hkl))
      rw [turnR_at _ _ _ hkl] at dx
      have fx := rk.free k
      have rs := rk.set k (u (chainN sOt 15 (l.getD k 0)))
      rw [turnR_set l (fun _ x => chainN sOt 15 x) k hkl] at rs
      have sb : Step [b0] wr (wr.setCell ⟨b0, k, none⟩ (u (chainN sOt 15 (l.getD k 0)))) := (Step.refl _ _).setCell _ (.inl (by simp)) _
      have sw := hst.grow sb (by simp; omega)
      clear rk hst sb
      generalize l.getD k 0 = x at *
      go_wp2_with fail
      refine (rchain_any ⟨#[111, 116]⟩ (by decide) x 15).mono ?_
      rintro e w3 ⟨rfl, rfl⟩
      have HS : Hid (chainN (sumT (ByteArray.mk #[111, 116]).data.toList []) (steps 15) x = chainN sOt 15 x) := rfl
      rw [HS.out]
      go_wp2_with fail
      go_roundw
      case rel => exact ⟨k + 1, by omega, by go_num, rs, sw⟩
      case measure => simp [intOf]; omega
    · obtain rfl : k = 18 := by omega
      have hE := turnR_end l (fun _ x => chainN sOt 15 x)
      rw [hl] at hE
      rw [hE] at rk
      clear hE
      have hm : (l.mapIdx fun _ x => chainN sOt 15 x).length = 18 := by simp [hl]
      have hml : (cu (l.mapIdx fun _ x => chainN sOt 15 x)).length = 18 := by simp [cu, hl]
      have HR : Hid (foldP (l.mapIdx fun _ x => chainN sOt 15 x) = pubL l) := rfl
      generalize (l.mapIdx fun _ x => chainN sOt 15 x) = ms at *
      go_wp2_with (with_reducible refine Stopped.load 62 rfl ?_)
      refine Stopped.on ?_
      refine wpList_loadRow rfl 62 (.tmp 1) rfl (b := b0) rfl rk Try.underlying62 (by kernel_rfl) hml ?_
      clear rk
      go_wp2_with fail
      refine (rfold_any ms hm).mono ?_
      rintro e w5 ⟨rfl, q5⟩
      rw [HR.out]
      go_wp2_with fail
      go_ret
      exact ⟨rfl, hst.trans q5⟩
set_option maxRecDepth 100000 in
theorem rsign_any {w : World} (l : List UInt64) (hl : l.length = 18) (d : UInt64) : Calls Try.prog 36 #[.agg (cu l).toArray, u d] w fun e w' => e = .returned (.agg (cu (signL l d)).toArray) ∧ Step [] w w' := by
  have hc : (cu l).length = 18 := by simp [cu, hl]
  have R := (Row.box w (cu l) 62).step ((Step.refl [] _).alloc (.cells zu18 62)) (by simp)
  have R9 := Row.new (w.alloc (.cells (cu l).toArray 62)) zu18 62
  have st := ((Step.refl [] w).alloc (.cells (cu l).toArray 62)).alloc (.cells zu18 62)
  rw [show (w.alloc (.cells (cu l).toArray 62)).heap.size = w.heap.size + 1 by simp] at R9
  obtain ⟨cs, hcs⟩ : ∃ cs, cs = cu l := ⟨_, rfl⟩
  have HC := Lib.hid hcs
  rw [← hcs] at st R R9 hc ⊢
  clear hcs
  go_enter Try.func36, Try.ntmps36
  go_wp2_with fail
  unfold zu18 at *
  generalize (w.alloc (.cells cs.toArray 62)).alloc (.cells _ 62) = w1 at *
  obtain ⟨zs, hz⟩ : ∃ zs, zs = (#[.int .u64 0, .int .u64 0, .int .u64 0, .int .u64 0, .int .u64 0, .int .u64 0, .int .u64 0, .int .u64 0, .int .u64 0, .int .u64 0, .int .u64 0, .int .u64 0, .int .u64 0, .int .u64 0, .int .u64 0, .int .u64 0, .int .u64 0, .int .u64 0] : Array Value).toList := ⟨_, rfl⟩
  have R9' : Row w1 (w.heap.size + 1) zs := by rw [hz]; exact R9
  have hzl : zs.length = 18 := by rw [hz]; rfl
  clear R9 hz
  obtain ⟨b0, hb0⟩ : ∃ b, b = w.heap.size := ⟨_, rfl⟩
  obtain ⟨b9, hb9⟩ : ∃ b, b = b0 + 1 := ⟨_, rfl⟩
  rw [← hb0] at R R9' ⊢
  rw [← hb9] at R9' ⊢
  have h00 : w.heap.size ≤ b0 := by omega
  have h09 : w.heap.size ≤ b9 := by omega
  have h90 : b9 ≠ b0 := by omega
  clear hb0 hb9
  refine (rdigits_any d).mono ?_
  rintro e w2 ⟨rfl, q⟩
  have R2 := R.step q (by simp)
  have R92 := R9'.step q (by simp)
  have st2 := st.trans q
  clear R st q
  have hdl : (ci (digitsL d)).length = 18 := by simp [ci, digitsL]
  obtain ⟨ds, hds⟩ : ∃ ds, ds = ci (digitsL d) := ⟨_, rfl⟩
  have HD := Lib.hid hds
  have hd1 : ∀ v ∈ ds, v.oneCell' = true := by rw [hds]; exact ci_one _
  rw [← hds] at hdl ⊢
  clear hds
  go_wp2_with (first | (with_reducible refine Stopped.load 62 rfl ?_) | (with_reducible refine Stopped.store 64 rfl ?_))
  refine Stopped.on ?_
  refine wpList_storeFresh rfl 64 (.tmp 5) (.tmp 8) rfl zi18 64 rfl rfl hdl rfl (by kernel_rfl) hd1 ?_
  intro w3 s3 r3 h3
  have R3 := R2.step s3 (by simp)
  have R93 := R92.step s3 (by simp)
  have hne9 : b9 < w2.heap.size := R92.lt
  have st3 := st2.trans s3
  have hne : b0 < w2.heap.size := R2.lt
  clear R2 st2 s3 hd1
  obtain ⟨b2, hb2'⟩ : ∃ b, b = w2.heap.size := ⟨_, rfl⟩
  rw [← hb2'] at r3 h3 hne hne9 ⊢
  clear hb2'
  have h02 : b2 ≠ b0 := by omega
  have h92 : b9 ≠ b2 := by omega
  rw [HD.out] at r3
  rw [HC.out] at R3
  clear hne h3 HD hdl hc
  go_wp2_with fail
  go_loopw [6] (fun s6 wr => ∃ k : Nat, k ≤ 18 ∧ s6 = .int .i64 k ∧ Row wr b0 (cu (turnR l (fun k x => chainN sOt (steps ((digitsL d).getD k 0 : Nat)) x) k)) ∧ Row wr b2 (ci (digitsL d)) ∧ Row wr b9 zs ∧ Step [] w wr) (fun s6 _ => 18 - (intOf s6).toNat)
  case atStart => exact ⟨0, by omega, rfl, R3, r3, R93, st3⟩
  case round =>
    obtain ⟨k, hk, rfl, rk, rd, r9, hst⟩ := hrel
    clear R3 r3 R93 st3
    by_cases hlt : k < 18
    · have hkl : k < l.length := by omega
      have hy := digitsL_le d k
      have dd := rd.cell (ci_get (digitsL d) k (by rw [digitsL_len]; exact hlt))
      have dx := rk.cell (cu_get _ k (by rw [turnR_len]; exact hkl))
      rw [turnR_at _ _ _ hkl] at dx
      have fx := rk.free k
      have rs := rk.set k (u (chainN sOt (steps ((digitsL d).getD k 0 : Nat)) (l.getD k 0)))
      rw [turnR_set l (fun k x => chainN sOt (steps ((digitsL d).getD k 0 : Nat)) x) k hkl] at rs
      have sb : Step [b0] wr (wr.setCell ⟨b0, k, none⟩ (u (chainN sOt (steps ((digitsL d).getD k 0 : Nat)) (l.getD k 0)))) := (Step.refl _ _).setCell _ (.inl (by simp)) _
      have rd' := rd.step sb (by simpa using h02)
      have r9' := r9.step sb (by simpa using h90)
      have sw := hst.grow sb (by simp; omega)
      clear rk rd r9 hst sb
      generalize (digitsL d).getD k 0 = y at *
      generalize l.getD k 0 = x at *
      go_wp2_with fail
      refine wp_region_still_tail 9 (by kernel_rfl) (by kernel_rfl) ?_
      simp only [List.take_succ_cons, List.take_zero, List.drop_succ_cons, List.drop_zero]
      repeat still_step
      still_call ((rchain_any ⟨#[111, 116]⟩ (by decide) x (y : Int)).mono (fun e w' h => ⟨h.1, h.2.symm⟩))
      repeat still_step
      refine wpStill_nil ?_
      have e1 : ({ heap := wr.heap, tape := wr.tape, drawn := wr.drawn + 1, os := wr.os, output := wr.output } : World) = wr.drew := rfl
      rw [e1]
      clear e1
      have rs' := rs.drew
      have rd'' := rd'.drew
      have r9'' := r9'.drew
      have sw' := sw.drew
      have HS : Hid (sumT [111, 116] [] = sOt) := rfl
      rw [HS.out]
      go_wp2_with fail
      go_roundw
      case rel => exact ⟨k + 1, by omega, by go_num, rs', rd'', r9'', sw'⟩
      case measure => simp [intOf]; omega
    · obtain rfl : k = 18 := by omega
      have hE := turnR_end l (fun k x => chainN sOt (steps ((digitsL d).getD k 0 : Nat)) x)
      rw [hl] at hE
      rw [hE] at rk
      clear hE
      have hm : (l.mapIdx fun k x => chainN sOt (steps ((digitsL d).getD k 0 : Nat)) x).length = 18 := by simp [hl]
      have hml : (cu (l.mapIdx fun k x => chainN sOt (steps ((digitsL d).getD k 0 : Nat)) x)).length = 18 := by simp [cu, hl]
      have HR : Hid (cu (l.mapIdx fun k x => chainN sOt (steps ((digitsL d).getD k 0 : Nat)) x) = cu (signL l d)) := rfl
      generalize (l.mapIdx fun k x => chainN sOt (steps ((digitsL d).getD k 0 : Nat)) x) = ms at *
      go_wp2_with (first | (with_reducible refine Stopped.load 62 rfl ?_) | (with_reducible refine Stopped.store 62 rfl ?_))
      refine Stopped.on ?_
      refine wpList_loadRow rfl 62 (.tmp 2) rfl (b := b0) rfl rk Try.underlying62 (by kernel_rfl) hml ?_
      clear rk rd
      go_wp2_with (first | (with_reducible refine Stopped.load 62 rfl ?_) | (with_reducible refine Stopped.store 62 rfl ?_))
      refine Stopped.on ?_
      refine wpList_storeRow rfl 62 (.tmp 4) (.tmp 22) rfl (b := b9) rfl rfl r9 hml hzl (by kernel_rfl) (cu_one _) ?_
      intro w5 s5 r5
      have st5 : Step [] w w5 := hst.grow s5 (by simp; omega)
      clear r9 hst s5
      go_wp2_with (with_reducible refine Stopped.load 62 rfl ?_)
      obtain ⟨T5, h5⟩ := r5
      have hsz : (Try.prog.info? 62).map (·.size) = some (cu ms).toArray.size := by rw [show (cu ms).toArray.size = 18 by simpa using hml]; kernel_rfl
      refine bodyPost_ret (results_cell_row rfl _ w5 b9 T5 (cu ms).toArray (0, 0) (.array 18 35) (by first | rfl | simp) h5 Try.underlying62 rfl hsz) rfl ?_
      exact ⟨by rw [HR.out], st5⟩
end Go.Proofs.Ytcmihfanlconhab
