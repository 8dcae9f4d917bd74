/- The statements' known numbers hold. Conditions: none. -/
import Derived.Test.YtcmihfanlconhabROts
import Derived.Test.YtcmihfanlconhabPlainO
import Derived.Test.YtcmihfanlconhabGrow
import Derived.Deep.RegionWith
namespace Go.Proofs.Ytcmihfanlconhab
open Go.RowKit
def zu18 : Array Value := #[.int .u64 0, .int .u64 0, .int .u64 0, .int .u64 0, .int .u64 0, .int .u64 0, .int .u64 0, .int .u64 0, .int .u64 0, .int .u64 0, .int .u64 0, .int .u64 0, .int .u64 0, .int .u64 0, .int .u64 0, .int .u64 0, .int .u64 0, .int .u64 0]
theorem ver5 {w : World} (l : List UInt64) (hl : l.length = 18) (q : UInt64) (h : recL l 5 = q) : Calls Try.prog 55 #[u q, .agg (cu l).toArray, .int .u64 5] w fun e w' => e = .returned (.bool true) ∧ Step [] w w' := by
  refine (ver_any q l hl 5).mono ?_
  rintro e w' ⟨he, s⟩
  rw [h, beq_self_eq_true] at he
  exact ⟨he, s⟩
theorem ver6 {w : World} (l : List UInt64) (hl : l.length = 18) (q : UInt64) (h : (recL l 6 == q) = false) : Calls Try.prog 55 #[u q, .agg (cu l).toArray, .int .u64 6] w fun e w' => e = .returned (.bool false) ∧ Step [] w w' := by
  refine (ver_any q l hl 6).mono ?_
  rintro e w' ⟨he, s⟩
  rw [h] at he
  exact ⟨he, s⟩
theorem rec5 {w : World} (l : List UInt64) (hl : l.length = 18) (q : UInt64) (h : recL l 5 = q) : Calls Try.prog 37 #[.agg (cu l).toArray, .int .u64 5] w fun e w' => e = .returned (u q) ∧ Step [] w w' := by
  rw [← h]
  exact rec_any l hl 5
/-- What stands while the test is made. -/
structure KI3 (b1 b2 b3 : Nat) (ls lg : List UInt64) (y0 y1 : UInt64) (w0 w : World) : Prop where
  s : w.rangeAt b1 0 (cu ls)
  g : w.rangeAt b2 0 (cu lg)
  d14 : w.cell? ⟨b3, 14, none⟩ = some (.int .i64 1)
  d15 : w.cell? ⟨b3, 15, none⟩ = some (.int .i64 0)
  d16 : w.cell? ⟨b3, 16, none⟩ = some (.int .i64 14)
  d17 : w.cell? ⟨b3, 17, none⟩ = some (.int .i64 15)
  f0 : w.cell? ⟨b1, 0, none⟩ = some (u y0)
  f1 : w.cell? ⟨b1, 1, none⟩ = some (u y1)
  st : Step [] w0 w
theorem KI3.step {b1 b2 b3 : Nat} {ls lg : List UInt64} {y0 y1 : UInt64} {w0 w w' : World} (h : KI3 b1 b2 b3 ls lg y0 y1 w0 w) (q : Step [] w w') : KI3 b1 b2 b3 ls lg y0 y1 w0 w' :=
  ⟨fun j v hv => q.cell (h.s j v hv) (by simp), fun j v hv => q.cell (h.g j v hv) (by simp), q.cell h.d14 (by simp), q.cell h.d15 (by simp), q.cell h.d16 (by simp), q.cell h.d17 (by simp), q.cell h.f0 (by simp), q.cell h.f1 (by simp), h.st.trans q⟩
set_option maxRecDepth 100000 in
set_option maxHeartbeats 1600000 in
theorem known3 {w : World} : Calls Try.prog 27 #[] w fun e w' => e = .returned (.bool true) ∧ Step [] w w' := by
  go_enter Try.func27, Try.ntmps27
  go_wp2_with fail
  have e7 : Value.int .u64 7 = u 7 := rfl
  refine (secrets_any 7 3).mono ?_
  rintro e w1 ⟨rfl, q1⟩
  have HS : Hid (secL 7 3 = s73) := rfl
  rw [HS.out]
  have ls : s73.length = 18 := secL_len _ _
  have lsc : (cu s73).length = 18 := by simp [cu, ls]
  have os := cu_one s73
  go_wp2_with (first | (with_reducible refine Stopped.load 60 rfl ?_) | (with_reducible refine Stopped.store 60 rfl ?_))
  refine Stopped.on ?_
  refine wpList_storeFresh rfl 60 (.tmp 1) (.tmp 4) rfl zu18 60 rfl rfl lsc rfl (by kernel_rfl) os ?_
  intro w2 s2 r2 h2
  have st2 := q1.trans s2
  obtain ⟨b1, hb1⟩ : ∃ b, b = w1.heap.size := ⟨_, rfl⟩
  rw [← hb1] at r2 h2 ⊢
  clear hb1 q1 s2
  go_wp2_with (first | (with_reducible refine Stopped.load 60 rfl ?_) | (with_reducible refine Stopped.store 60 rfl ?_))
  refine Stopped.on ?_
  refine wpList_loadRow rfl 60 (.tmp 1) rfl (b := b1) rfl r2 Try.underlying60 (by kernel_rfl) lsc ?_
  go_wp2_with fail
  refine (sign_any s73 ls 5).mono ?_
  rintro e w3 ⟨rfl, q3⟩
  have HG : Hid (signL s73 5 = g5) := rfl
  rw [HG.out]
  have lg : g5.length = 18 := by rw [← HG.out, signL_len, ls]
  have lgc : (cu g5).length = 18 := by simp [cu, lg]
  have og := cu_one g5
  have r23 := r2.step q3 (by simp)
  have h23 := r23.lt
  have st3 := st2.trans q3
  clear r2 h2 st2 q3
  go_wp2_with (first | (with_reducible refine Stopped.load 67 rfl ?_) | (with_reducible refine Stopped.store 67 rfl ?_))
  refine Stopped.on ?_
  refine wpList_storeFresh rfl 67 (.tmp 2) (.tmp 6) rfl zu18 67 rfl rfl lgc rfl (by kernel_rfl) og ?_
  intro w4 s4 r4 h4
  have r24 := r23.step s4 (by simp)
  have st4 := st3.trans s4
  obtain ⟨b2, hb2⟩ : ∃ b, b = w3.heap.size := ⟨_, rfl⟩
  rw [← hb2] at r4 h4 h23 ⊢
  clear hb2 s4 st3 r23
  go_wp2_with fail
  refine (digits_any 16).mono ?_
  rintro e w5 ⟨rfl, q5⟩
  have HN : Hid (digitsL 16 = n16) := rfl
  rw [HN.out]
  have lnc : (ci n16).length = 18 := by rw [← HN.out]; simp [ci, digitsL_len]
  have on := ci_one n16
  have r25 := r24.step q5 (by simp)
  have r45 := r4.step q5 (by simp)
  have h45 := r45.lt
  have st5 := st4.trans q5
  clear r24 r4 h4 q5 st4
  go_wp2_with (first | (with_reducible refine Stopped.load 64 rfl ?_) | (with_reducible refine Stopped.store 64 rfl ?_))
  refine Stopped.on ?_
  refine wpList_storeFresh rfl 64 (.tmp 3) (.tmp 7) rfl zi18 64 rfl rfl lnc rfl (by kernel_rfl) on ?_
  intro w6 s6 r6 h6
  have r26 := r25.step s6 (by simp)
  have r46 := r45.step s6 (by simp)
  have st6 := st5.trans s6
  obtain ⟨b3, hb3⟩ : ∃ b, b = w5.heap.size := ⟨_, rfl⟩
  rw [← hb3] at r6 h6 h45 ⊢
  clear hb3 s6 st5 r25 r45 os og on HS HG HN
  have K1 := kO1
  have K2 := kO2
  have K4 := kO4
  have k3 := kO3
  rw [k3] at r6
  clear k3 lnc
  have us1 : Try.prog.underlying 60 = some (.array 18 36) := Try.underlying60
  have us2 : Try.prog.underlying 67 = some (.array 18 36) := Try.underlying67
  have is1 : (Try.prog.info? 60).map (·.size) = some (cu s73).length := by rw [lsc]; kernel_rfl
  have is2 : (Try.prog.info? 67).map (·.size) = some (cu g5).length := by rw [lgc]; kernel_rfl
  have d14 := r6.cell (i := 14) (v := .int .i64 1) rfl
  have d15 := r6.cell (i := 15) (v := .int .i64 0) rfl
  have d16 := r6.cell (i := 16) (v := .int .i64 14) rfl
  have d17 := r6.cell (i := 17) (v := .int .i64 15) rfl
  have f0 := r26.cell (cu_get s73 0 (by omega))
  have f1 := r26.cell (cu_get s73 1 (by omega))
  have g1 := r26.range
  have g2 := r46.range
  generalize s73 = ls' at *
  generalize g5 = lg' at *
  generalize ls'.getD 0 0 = y0 at *
  generalize ls'.getD 1 0 = y1 at *
  have st6' := st6.drew
  have K1' : recL lg' 5 = pubL ls' := beq_iff_eq.1 K1
  have HK0 := Lib.hid K1'
  have HK2 := Lib.hid K2
  have K4' : ((y0.toNat : Int) != (y1.toNat : Int)) = true := by rw [bne, u_eq, K4]; rfl
  clear K4 K1 K1' K2
  have KI : KI3 b1 b2 b3 ls' lg' y0 y1 w w6.drew := ⟨g1, g2, d14, d15, d16, d17, f0, f1, st6'⟩
  clear g1 g2 d14 d15 d16 d17 f0 f1 st6' st6 r6 r26 r46 h6 h45 h23
  go_wp2_with fail
  refine wp_region_grow (KI3 b1 b2 b3 ls' lg' y0 y1 w) (by kernel_rfl) (by kernel_rfl) KI ?_
  repeat (first
    | (refine wpGrow_skip ?_ ?_; rfl; simp only [Act.put, List.setIfInBounds_toArray, List.set_cons_zero, List.set_cons_succ])
    | (refine wpGrow_load 60 (.tmp 1) rfl ?_ rfl (fun w h => h.s) us1 rfl is1 ?_; rfl; simp only [Act.put, List.setIfInBounds_toArray, List.set_cons_zero, List.set_cons_succ])
    | (refine wpGrow_load 67 (.tmp 2) rfl ?_ rfl (fun w h => h.g) us2 rfl is2 ?_; rfl; simp only [Act.put, List.setIfInBounds_toArray, List.set_cons_zero, List.set_cons_succ])
    | (apply wpGrow_run; rfl; (focus (intro w' hw'; have h1 := hw'.d14; have h2 := hw'.d15; have h3 := hw'.d16; have h4 := hw'.d17; have h5 := hw'.f0; have h6 := hw'.f1; go_simp; apply YV_value; exact hw')); simp only [Act.put, List.setIfInBounds_toArray, List.set_cons_zero, List.set_cons_succ])
    | (refine wpGrow_call ?_ (fun w' hw' => pub_any ls' ls) (fun _ _ h q => h.step q) ?_ ?_; rfl; (focus (intro w' hw'; go_simp; done)); simp only [Act.put, List.setIfInBounds_toArray, List.set_cons_zero, List.set_cons_succ])
    | (refine wpGrow_call ?_ (fun w' hw' => ver5 lg' lg _ HK0.out) (fun _ _ h q => h.step q) ?_ ?_; rfl; (focus (intro w' hw'; go_simp; done)); simp only [Act.put, List.setIfInBounds_toArray, List.set_cons_zero, List.set_cons_succ])
    | (refine wpGrow_call ?_ (fun w' hw' => ver6 lg' lg _ HK2.out) (fun _ _ h q => h.step q) ?_ ?_; rfl; (focus (intro w' hw'; go_simp; done)); simp only [Act.put, List.setIfInBounds_toArray, List.set_cons_zero, List.set_cons_succ])
    | (refine wpGrow_call ?_ (fun w' hw' => rec5 lg' lg _ HK0.out) (fun _ _ h q => h.step q) ?_ ?_; rfl; (focus (intro w' hw'; go_simp; done)); simp only [Act.put, List.setIfInBounds_toArray, List.set_cons_zero, List.set_cons_succ]))
  refine wpGrow_nil ?_
  intro w9 h9
  have st9 := h9.st
  clear h9
  go_wp2_with fail
  go_ret
  exact ⟨rfl, st9⟩
end Go.Proofs.Ytcmihfanlconhab
