/- Signed once: the document's functions. Conditions: none. -/
import Derived.Test.YtcmihfanlconhabSig
import Derived.StillTailTactics
namespace Go.Proofs.Ytcmihfanlconhab
open Go.RowKit
set_option maxRecDepth 100000 in
theorem rfold_any {w : World} (l : List UInt64) (hl : l.length = 18) : Calls Try.prog 66 #[.agg (cu l).toArray] w fun e w' => e = .returned (u (foldP l)) ∧ Step [] w w' := by
  have st := (Step.refl [] w).alloc (.cells (cu l).toArray 62)
  have R := Row.box w (cu l) 62
  have HL := Lib.hid hl
  obtain ⟨cs, hcs⟩ : ∃ cs, cs = cu l := ⟨_, rfl⟩
  have HC := Lib.hid hcs
  rw [← hcs] at st R ⊢
  clear hcs hl
  go_enter Try.func66, Try.ntmps66
  go_wp2_with fail
  generalize w.alloc (.cells cs.toArray 62) = w1 at *
  obtain ⟨b0, hb0⟩ : ∃ b, b = w.heap.size := ⟨_, rfl⟩
  rw [← hb0] at R ⊢
  clear hb0
  go_loop [3, 4] (fun s3 s4 => ∃ k : Nat, k ≤ 18 ∧ s3 = u (foldK l k) ∧ s4 = .int .i64 k) (fun _ s4 => 18 - (intOf s4).toNat)
  case atStart => exact ⟨0, by omega, rfl, rfl⟩
  case round =>
    obtain ⟨k, hk, rfl, rfl⟩ := hrel
    by_cases hlt : k < 18
    · have dc := R.cell (i := k) (v := u (l.getD k 0)) (by rw [HC.out]; exact cu_get l k (by rw [HL.out]; exact hlt))
      have HS : Hid (foldK l (k + 1) = two sPk (foldK l k) (l.getD k 0)) := foldK_succ l k (by rw [HL.out]; exact hlt)
      generalize l.getD k 0 = y at *
      generalize foldK l k = z at *
      clear R
      go_wp2_with fail
      refine (rtwo_any ⟨#[112, 107]⟩ (by decide) z y).mono ?_
      rintro e w1 ⟨rfl, rfl⟩
      go_wp2_with fail
      go_round
      case rel => exact ⟨k + 1, by omega, by rw [HS.out]; rfl, by go_num⟩
      case measure => simp [intOf]; omega
    · obtain rfl : k = 18 := by omega
      clear R
      go_wp2_with fail
      go_ret
      exact ⟨rfl, st⟩

set_option maxRecDepth 100000 in
theorem rdigits_any {w : World} (d : UInt64) : Calls Try.prog 31 #[u d] w fun e w' => e = .returned (.agg (ci (digitsL d)).toArray) ∧ Step [] w w' := by
  go_enter Try.func31, Try.ntmps31
  go_wp2_with fail
  have R1 := (Row.new w i18 64).step ((Step.refl [] _).alloc (.cells i18 64)) (by simp)
  have R2 := Row.new (w.alloc (.cells i18 64)) i18 64
  have st : Step [] w ((w.alloc (.cells i18 64)).alloc (.cells i18 64)) := ((Step.refl [] w).alloc _).alloc _
  have n1 : (w.alloc (.cells i18 64)).heap.size = w.heap.size + 1 := by simp
  rw [n1] at R2
  clear n1
  have R2' : Row ((w.alloc (.cells i18 64)).alloc (.cells i18 64)) (w.heap.size + 1) (digR d 0) := R2
  clear R2
  unfold i18 at *
  generalize ((w.alloc (.cells _ 64)).alloc (.cells _ 64)) = w1 at *
  obtain ⟨zs, hz⟩ : ∃ zs, zs = (#[.int .i64 0, .int .i64 0, .int .i64 0, .int .i64 0, .int .i64 0, .int .i64 0, .int .i64 0, .int .i64 0, .int .i64 0, .int .i64 0, .int .i64 0, .int .i64 0, .int .i64 0, .int .i64 0, .int .i64 0, .int .i64 0, .int .i64 0, .int .i64 0] : Array Value).toList := ⟨_, rfl⟩
  have R1' : Row w1 w.heap.size zs := by rw [hz]; exact R1
  have hzl : zs.length = 18 := by rw [hz]; rfl
  clear R1 hz
  obtain ⟨b1, hb1⟩ : ∃ b, b = w.heap.size := ⟨_, rfl⟩
  obtain ⟨b2, hb2⟩ : ∃ b, b = b1 + 1 := ⟨_, rfl⟩
  rw [← hb1] at R1' R2' ⊢
  rw [← hb2] at R2' ⊢
  have h01 : w.heap.size ≤ b1 := by omega
  have h02 : w.heap.size ≤ b2 := by omega
  have h12 : b1 ≠ b2 := by omega
  clear hb1 hb2
  go_loopw [4, 5] (fun s4 s5 wr => ∃ k : Nat, k ≤ 16 ∧ s4 = .int .i64 ((sumOf d k : Nat) : Int) ∧ s5 = .int .i64 k ∧ Row wr b2 (digR d k) ∧ Row wr b1 zs ∧ Step [] w wr) (fun _ s5 _ => 16 - (intOf s5).toNat)
  case atStart => exact ⟨0, by omega, rfl, rfl, R2', R1', st⟩
  case round =>
    obtain ⟨k, hk, rfl, rfl, r2, r1, hst⟩ := hrel
    clear R1' R2' st
    by_cases hlt : k < 16
    · have d5 := r2.cell (digR_zero d k k (Nat.le_refl _) (by omega))
      have f5 := r2.free k
      have r5 := r2.set k (.int .i64 ((digit d k : Nat) : Int))
      rw [digR_set d k (by omega)] at r5
      have s5 : Step [] w (wr.setCell ⟨b2, k, none⟩ (.int .i64 ((digit d k : Nat) : Int))) := hst.setCell _ (.inr h02) _
      have r6 : Row (wr.setCell ⟨b2, k, none⟩ (.int .i64 ((digit d k : Nat) : Int))) b1 zs := r1.step (m := [b2]) ((Step.refl _ _).setCell _ (.inl (by simp)) _) (by simpa using h12)
      have hs : Hid (sumOf d (k + 1) = sumOf d k + 15 - digit d k) := rfl
      have h1 := sumOf_le d k
      have h2 := digit_le d k
      have hq : (wrap64 (bits .and .u64 ((d.toNat : Int) / 2 ^ (60 - 4 * k)) 15)) = ((digit d k : Nat) : Int) := dig_get d k
      have HQ := Lib.hid hq
      clear hq
      clear r2 r1 hst
      go_wp2_with fail
      rw [HQ.out]
      go_round
      case rel => exact ⟨k + 1, by omega, by rw [hs.out]; unfold wrap64; congr 1; omega, by go_num, r5, r6, s5⟩
      case measure => simp [intOf]; omega
    · obtain rfl : k = 16 := by omega
      have hs0 := sumOf_le d 16
      have d6 := r2.cell (digR_zero d 16 16 (by omega) (by omega))
      have f6 := r2.free 16
      have q1 := r2.set 16 (.int .i64 (((sumOf d 16 : Nat) : Int) / 16))
      have d7 := r2.cell (digR_zero d 16 17 (by omega) (by omega))
      have f7 := r2.free 17
      have q2 := q1.set 17 (.int .i64 (((sumOf d 16 : Nat) : Int) % 16))
      have q2' := (show _ from digR_end d) ▸ q2
      have st2 : Step [b2] wr ((wr.setCell ⟨b2, 16, none⟩ (.int .i64 (((sumOf d 16 : Nat) : Int) / 16))).setCell ⟨b2, 17, none⟩ (.int .i64 (((sumOf d 16 : Nat) : Int) % 16))) := ((Step.refl _ _).setCell _ (.inl (by simp)) _).setCell _ (.inl (by simp)) _
      have r7 := r1.step st2 (by simpa using h12)
      have st3 : Step [] w ((wr.setCell ⟨b2, 16, none⟩ (.int .i64 (((sumOf d 16 : Nat) : Int) / 16))).setCell ⟨b2, 17, none⟩ (.int .i64 (((sumOf d 16 : Nat) : Int) % 16))) := hst.grow st2 (by simp; omega)
      clear r2 q1 q2 st2 r1 hst
      generalize sumOf d 16 = z at *
      go_wp2_with (first | (with_reducible refine Stopped.load 64 rfl ?_) | (with_reducible refine Stopped.store 64 rfl ?_))
      refine Stopped.on ?_
      have hy : (ci (digitsL d)).length = 18 := by simp [ci, digitsL]
      refine wpList_loadRow rfl 64 (.tmp 3) rfl (b := b2) rfl q2' Try.underlying64 (by kernel_rfl) hy ?_
      go_wp2_with (first | (with_reducible refine Stopped.load 64 rfl ?_) | (with_reducible refine Stopped.store 64 rfl ?_))
      refine Stopped.on ?_
      refine wpList_storeRow rfl 64 (.tmp 2) (.tmp 32) rfl (b := b1) rfl rfl r7 hy hzl (by kernel_rfl) (ci_one _) ?_
      intro w5 s5 r5
      have st5 : Step [] w w5 := st3.grow s5 (by simp; omega)
      clear q2' r7 st3 s5 d6 f6 d7 f7
      go_wp2_with (with_reducible refine Stopped.load 64 rfl ?_)
      obtain ⟨T5, h5⟩ := r5
      have hsz : (Try.prog.info? 64).map (·.size) = some (ci (digitsL d)).toArray.size := by rw [show (ci (digitsL d)).toArray.size = 18 by simpa using hy]; kernel_rfl
      refine bodyPost_ret (results_cell_row rfl _ w5 b1 T5 (ci (digitsL d)).toArray (0, 0) (.array 18 3) (by first | rfl | simp) h5 Try.underlying64 rfl hsz) rfl ?_
      exact ⟨rfl, st5⟩

theorem mapIdx_take_len (l : List UInt64) (hl : l.length = 18) (g : Nat → UInt64 → UInt64) (k : Nat) (hk : k ≤ 18) : ((l.mapIdx g).take k ++ l.drop k).length = 18 := by simp; omega
/-- A row behind so many of its places turned. -/
def turnR (l : List UInt64) (g : Nat → UInt64 → UInt64) (k : Nat) : List UInt64 := (l.mapIdx g).take k ++ l.drop k
theorem turnR_len (l : List UInt64) (g : Nat → UInt64 → UInt64) (k : Nat) : (turnR l g k).length = l.length := by simp [turnR]; omega
theorem turnR_at (l : List UInt64) (g : Nat → UInt64 → UInt64) (k : Nat) (h : k < l.length) : (turnR l g k).getD k 0 = l.getD k 0 := by
  unfold turnR
  rw [List.getD_eq_getElem?_getD, List.getElem?_append_right (by simp; omega)]
  simp [List.getD_eq_getElem?_getD, show min k l.length = k by omega]
theorem turnR_set (l : List UInt64) (g : Nat → UInt64 → UInt64) (k : Nat) (h : k < l.length) : (cu (turnR l g k)).set k (u (g k (l.getD k 0))) = cu (turnR l g (k + 1)) := by
  unfold cu
  rw [← List.map_set]
  congr 1
  unfold turnR
  have h1 : ((l.mapIdx g).take k).length = k := by simp; omega
  have h2 : l.drop k = l[k] :: l.drop (k + 1) := by rw [List.drop_eq_getElem_cons h]
  have h3 : (l.mapIdx g).take (k + 1) = (l.mapIdx g).take k ++ [g k (l.getD k 0)] := by
    rw [List.take_succ_eq_append_getElem (by simpa using h)]
    simp [List.getD, h]
  rw [List.set_append_right _ _ (by omega), h1, Nat.sub_self, h2, List.set_cons_zero, h3]
  simp
theorem turnR_end (l : List UInt64) (g : Nat → UInt64 → UInt64) : turnR l g l.length = l.mapIdx g := by
  unfold turnR
  rw [List.take_of_length_le (by simp)]
  simp

set_option maxRecDepth 100000 in
theorem rrec_any {w : World} (l : List UInt64) (hl : l.length = 18) (d : UInt64) : Calls Try.prog 38 #[.agg (cu l).toArray, u d] w fun e w' => e = .returned (u (recL l d)) ∧ Step [] w w' := by
  have hc : (cu l).length = 18 := by simp [cu, hl]
  have R := Row.box w (cu l) 62
  have st := (Step.refl [] w).alloc (.cells (cu l).toArray 62)
  obtain ⟨cs, hcs⟩ : ∃ cs, cs = cu l := ⟨_, rfl⟩
  have HC := Lib.hid hcs
  rw [← hcs] at st R hc ⊢
  clear hcs
  go_enter Try.func38, Try.ntmps38
  go_wp2_with fail
  generalize w.alloc (.cells cs.toArray 62) = w1 at *
  obtain ⟨b0, hb0⟩ : ∃ b, b = w.heap.size := ⟨_, rfl⟩
  rw [← hb0] at R ⊢
  have h00 : w.heap.size ≤ b0 := by omega
  clear hb0
  refine (rdigits_any d).mono ?_
  rintro e w2 ⟨rfl, q⟩
  have R2 := R.step q (by simp)
  have st2 := st.trans q
  clear R st q
  have hdl : (ci (digitsL d)).length = 18 := by simp [ci, digitsL]
  obtain ⟨ds, hds⟩ : ∃ ds, ds = ci (digitsL d) := ⟨_, rfl⟩
  have HD := Lib.hid hds
  have hd1 : ∀ v ∈ ds, v.oneCell' = true := by rw [hds]; exact ci_one _
  rw [← hds] at hdl ⊢
  clear hds
  go_wp2_with (first | (with_reducible refine Stopped.load 62 rfl ?_) | (with_reducible refine Stopped.store 64 rfl ?_))
  refine Stopped.on ?_
  refine wpList_storeFresh rfl 64 (.tmp 5) (.tmp 8) rfl zi18 64 rfl rfl hdl rfl (by kernel_rfl) hd1 ?_
  intro w3 s3 r3 h3
  have R3 := R2.step s3 (by simp)
  have st3 := st2.trans s3
  have hne : b0 < w2.heap.size := R2.lt
  clear R2 st2 s3 hd1
  obtain ⟨b2, hb2'⟩ : ∃ b, b = w2.heap.size := ⟨_, rfl⟩
  rw [← hb2'] at r3 h3 hne ⊢
  clear hb2'
  have h02 : b2 ≠ b0 := by omega
  rw [HD.out] at r3
  rw [HC.out] at R3
  clear hne h3 HD hdl hc
  go_wp2_with fail
  go_loopw [6] (fun s6 wr => ∃ k : Nat, k ≤ 18 ∧ s6 = .int .i64 k ∧ Row wr b0 (cu (turnR l (fun k x => chainN sOt (steps (15 - ((digitsL d).getD k 0 : Nat))) x) k)) ∧ Row wr b2 (ci (digitsL d)) ∧ Step [] w wr) (fun s6 _ => 18 - (intOf s6).toNat)
  case atStart => exact ⟨0, by omega, rfl, R3, r3, st3⟩
  case round =>
    obtain ⟨k, hk, rfl, rk, rd, hst⟩ := hrel
    clear R3 r3 st3
    by_cases hlt : k < 18
    · have hkl : k < l.length := by omega
      have hy := digitsL_le d k
      have dd := rd.cell (ci_get (digitsL d) k (by rw [digitsL_len]; exact hlt))
      have dx := rk.cell (cu_get _ k (by rw [turnR_len]; exact hkl))
      rw [turnR_at _ _ _ hkl] at dx
      have fx := rk.free k
      have rs := rk.set k (u (chainN sOt (steps (15 - ((digitsL d).getD k 0 : Nat))) (l.getD k 0)))
      rw [turnR_set l (fun k x => chainN sOt (steps (15 - ((digitsL d).getD k 0 : Nat))) x) k hkl] at rs
      have sb : Step [b0] wr (wr.setCell ⟨b0, k, none⟩ (u (chainN sOt (steps (15 - ((digitsL d).getD k 0 : Nat))) (l.getD k 0)))) := (Step.refl _ _).setCell _ (.inl (by simp)) _
      have rd' := rd.step sb (by simpa using h02)
      have sw := hst.grow sb (by simp; omega)
      clear rk rd hst sb
      generalize (digitsL d).getD k 0 = y at *
      generalize l.getD k 0 = x at *
      go_wp2_with fail
      refine wp_region_still_tail 10 (by kernel_rfl) (by kernel_rfl) ?_
      simp only [List.take_succ_cons, List.take_zero, List.drop_succ_cons, List.drop_zero]
      repeat still_step
      rw [show IntKind.i64.wrap (15 - (y : Int)) = 15 - (y : Int) by rw [IntKind.wrap_i64]; omega]
      still_call ((rchain_any ⟨#[111, 116]⟩ (by decide) x _).mono (fun e w' h => ⟨h.1, h.2.symm⟩))
      repeat still_step
      refine wpStill_nil ?_
      have e1 : ({ heap := wr.heap, tape := wr.tape, drawn := wr.drawn + 1, os := wr.os, output := wr.output } : World) = wr.drew := rfl
      rw [e1]
      clear e1
      have rs' := rs.drew
      have rd'' := rd'.drew
      have sw' := sw.drew
      have HS : Hid (sumT [111, 116] [] = sOt) := rfl
      rw [HS.out]
      go_wp2_with fail
      go_roundw
      case rel => exact ⟨k + 1, by omega, by go_num, rs', rd'', sw'⟩
      case measure => simp [intOf]; omega
    · obtain rfl : k = 18 := by omega
      have hE := turnR_end l (fun k x => chainN sOt (steps (15 - ((digitsL d).getD k 0 : Nat))) x)
      rw [hl] at hE
      rw [hE] at rk
      clear hE
      have hm : (l.mapIdx fun k x => chainN sOt (steps (15 - ((digitsL d).getD k 0 : Nat))) x).length = 18 := by simp [hl]
      have hml : (cu (l.mapIdx fun k x => chainN sOt (steps (15 - ((digitsL d).getD k 0 : Nat))) x)).length = 18 := by simp [cu, hl]
      have HR : Hid (foldP (l.mapIdx fun k x => chainN sOt (steps (15 - ((digitsL d).getD k 0 : Nat))) x) = recL l d) := rfl
      generalize (l.mapIdx fun k x => chainN sOt (steps (15 - ((digitsL d).getD k 0 : Nat))) x) = ms at *
      go_wp2_with (with_reducible refine Stopped.load 62 rfl ?_)
      refine Stopped.on ?_
      refine wpList_loadRow rfl 62 (.tmp 2) rfl (b := b0) rfl rk Try.underlying62 (by kernel_rfl) hml ?_
      clear rk rd
      go_wp2_with fail
      refine (rfold_any ms hm).mono ?_
      rintro e w5 ⟨rfl, q5⟩
      rw [HR.out]
      go_wp2_with fail
      go_ret
      exact ⟨rfl, hst.trans q5⟩
end Go.Proofs.Ytcmihfanlconhab
