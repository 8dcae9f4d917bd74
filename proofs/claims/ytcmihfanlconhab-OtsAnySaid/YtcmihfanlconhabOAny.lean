/- OtsAny: all as the document reckons it. Conditions: none. -/
import Derived.Test.YtcmihfanlconhabROts2
import Derived.Deep.QuietTactic
import Derived.BigQuiet
namespace Go.Proofs.Ytcmihfanlconhab
open Go.RowKit
structure KI6 (b1 b2 b3 : Nat) (l g : List UInt64) (w0 w : World) : Prop where
  s : w.rangeAt b1 0 (cu l)
  t : w.rangeAt b2 0 (cu l)
  g : w.rangeAt b3 0 (cu g)
  st : Step [] w0 w
theorem KI6.step {b1 b2 b3 : Nat} {l g : List UInt64} {w0 w w' : World} (h : KI6 b1 b2 b3 l g w0 w) (q : Step [] w w') : KI6 b1 b2 b3 l g w0 w' :=
  ⟨fun j v hv => q.cell (h.s j v hv) (by simp), fun j v hv => q.cell (h.t j v hv) (by simp), fun j v hv => q.cell (h.g j v hv) (by simp), h.st.trans q⟩
theorem Try.infoU : (Try.prog.info? 35).map (fun i => (i.zero, i.size, i.bytes)) = some (some (.int .u64 0), 1, 8) := by kernel_rfl
set_option maxRecDepth 100000 in
set_option maxHeartbeats 3200000 in
theorem oany {w : World} (seed : UInt64) (leaf : Int) (d : UInt64) : Calls Try.prog 8 #[u seed, .int .i64 leaf, u d] w (Ret' (.bool true) fun w' => Step [] w w') := by
  have lS := secL_len seed leaf
  obtain ⟨S, hS⟩ : ∃ S, S = secL seed leaf := ⟨_, rfl⟩
  have HS := Lib.hid hS
  rw [← hS] at lS
  clear hS
  have lSc : (cu S).length = 18 := by simp [cu, lS]
  have lN : (ci (digitsL d)).length = 18 := by simp [ci, digitsL_len]
  have oS := cu_one S
  have oN := ci_one (digitsL d)
  go_enter Try.func8, Try.ntmps8
  go_wp2_with fail
  refine known3.mono ?_
  rintro e w1 ⟨rfl, q1⟩
  go_wp2_with fail
  refine (secrets_any seed leaf).mono ?_
  rintro e w2 ⟨rfl, q2⟩
  rw [← HS.out]
  have st2 := q1.trans q2
  clear q1 q2
  generalize hcs : cu S = cs at *
  have HC := Lib.hid hcs
  clear hcs
  go_wp2_with (first | (with_reducible refine Stopped.load 60 rfl ?_) | (with_reducible refine Stopped.store 60 rfl ?_))
  refine Stopped.on ?_
  refine wpList_storeFresh rfl 60 (.tmp 7) (.tmp 17) rfl zu18 60 rfl rfl lSc rfl (by kernel_rfl) oS ?_
  intro w3 s3 r3 h3
  have st3 := st2.trans s3
  obtain ⟨b1, e1⟩ : ∃ b, b = w2.heap.size := ⟨_, rfl⟩
  rw [← e1] at r3 h3 ⊢
  clear e1 st2 s3 h3
  go_wp2_with fail
  refine (rsecrets_any seed leaf).mono ?_
  rintro e w4 ⟨rfl, q4⟩
  rw [← HS.out, HC.out]
  have r4 := r3.step q4 (by simp)
  have st4 := st3.trans q4
  clear r3 st3 q4
  go_wp2_with (first | (with_reducible refine Stopped.load 62 rfl ?_) | (with_reducible refine Stopped.store 62 rfl ?_))
  refine Stopped.on ?_
  refine wpList_storeFresh rfl 62 (.tmp 8) (.tmp 20) rfl zu18 62 rfl rfl lSc rfl (by kernel_rfl) oS ?_
  intro w5 s5 t5 h5
  have r5 := r4.step s5 (by simp)
  have st5 := st4.trans s5
  obtain ⟨b2, e2⟩ : ∃ b, b = w4.heap.size := ⟨_, rfl⟩
  rw [← e2] at t5 h5 ⊢
  clear e2 r4 st4 s5 h5
  go_wp2_with fail
  refine (digits_any d).mono ?_
  rintro e w6 ⟨rfl, q6⟩
  have r6 := r5.step q6 (by simp)
  have t6 := t5.step q6 (by simp)
  have st6 := st5.trans q6
  clear r5 t5 st5 q6
  generalize hcn : ci (digitsL d) = cn at *
  have HN := Lib.hid hcn
  clear hcn
  go_wp2_with (first | (with_reducible refine Stopped.load 64 rfl ?_) | (with_reducible refine Stopped.store 64 rfl ?_))
  refine Stopped.on ?_
  refine wpList_storeFresh rfl 64 (.tmp 9) (.tmp 22) rfl zi18 64 rfl rfl lN rfl (by kernel_rfl) oN ?_
  intro w7 s7 n7 h7
  have r7 := r6.step s7 (by simp)
  have t7 := t6.step s7 (by simp)
  have st7 := st6.trans s7
  obtain ⟨b3, e3⟩ : ∃ b, b = w6.heap.size := ⟨_, rfl⟩
  rw [← e3] at n7 h7 ⊢
  clear e3 r6 t6 st6 s7 h7
  go_wp2_with fail
  refine (rdigits_any d).mono ?_
  rintro e w8 ⟨rfl, q8⟩
  rw [HN.out]
  have r8 := r7.step q8 (by simp)
  have t8 := t7.step q8 (by simp)
  have n8 := n7.step q8 (by simp)
  have st8 := st7.trans q8
  clear r7 t7 n7 st7 q8
  go_wp2_with (first | (with_reducible refine Stopped.load 64 rfl ?_) | (with_reducible refine Stopped.store 64 rfl ?_))
  refine Stopped.on ?_
  refine wpList_storeFresh rfl 64 (.tmp 10) (.tmp 24) rfl zi18 64 rfl rfl lN rfl (by kernel_rfl) oN ?_
  intro w9 s9 m9 h9
  have r9 := r8.step s9 (by simp)
  have t9 := t8.step s9 (by simp)
  have n9 := n8.step s9 (by simp)
  have st9 := st8.trans s9
  obtain ⟨b4, e4⟩ : ∃ b, b = w8.heap.size := ⟨_, rfl⟩
  rw [← e4] at m9 h9 ⊢
  clear e4 r8 t8 n8 st8 s9 h9 oN
  rw [← HN.out] at n9 m9
  go_wp2_with fail
  go_loopw [11] (fun s11 wr => ∃ k : Nat, k ≤ 18 ∧ s11 = .int .i64 k ∧ Row wr b1 cs ∧ Row wr b2 cs ∧ Row wr b3 (ci (digitsL d)) ∧ Row wr b4 (ci (digitsL d)) ∧ Step [] w wr) (fun s11 _ => 18 - (intOf s11).toNat)
  case atStart => exact ⟨0, by omega, rfl, r9, t9, n9, m9, st9⟩
  case round =>
    obtain ⟨k, hk, rfl, r, t, n, m, hst⟩ := hrel
    clear r9 t9 n9 m9 st9
    by_cases hlt : k < 18
    · have dn := n.cell (ci_get (digitsL d) k (by rw [digitsL_len]; exact hlt))
      have dm := m.cell (ci_get (digitsL d) k (by rw [digitsL_len]; exact hlt))
      generalize (digitsL d).getD k 0 = y at *
      have hyy : ((y : Int) != (y : Int)) = false := by simp
      go_wp2_with fail
      go_quiet (fail)
      go_wp2_with fail
      go_roundw
      case rel => exact ⟨k + 1, by omega, by go_num, r, t, n, m, hst.drewN _⟩
      case measure => simp [intOf]; omega
    · clear n m
      go_wp2_with (first | (with_reducible refine Stopped.load 60 rfl ?_) | (with_reducible refine Stopped.store 67 rfl ?_))
      refine Stopped.on ?_
      refine wpList_loadRow rfl 60 (.tmp 7) rfl (b := b1) rfl r Try.underlying60 (by kernel_rfl) lSc ?_
      go_wp2_with fail
      rw [← HC.out]
      refine (sign_any S lS d).mono ?_
      rintro e w10 ⟨rfl, q10⟩
      have lG : (signL S d).length = 18 := by rw [signL_len, lS]
      have lGc : (cu (signL S d)).length = 18 := by simp [cu, lG]
      have oG := cu_one (signL S d)
      have r10 := r.step q10 (by simp)
      have t10 := t.step q10 (by simp)
      have st10 := hst.trans q10
      clear r t hst q10
      have HRG : Hid (recL (signL S d) d = recL (signL S d) d) := rfl
      obtain ⟨G, hG⟩ : ∃ G, G = signL S d := ⟨_, rfl⟩
      have HG := Lib.hid hG
      rw [← hG] at lG lGc oG ⊢
      clear hG HRG
      generalize hcg : cu G = cg at *
      have HCG := Lib.hid hcg
      clear hcg
      go_wp2_with (first | (with_reducible refine Stopped.load 67 rfl ?_) | (with_reducible refine Stopped.store 67 rfl ?_))
      refine Stopped.on ?_
      refine wpList_storeFresh rfl 67 (.tmp 12) (.tmp 38) rfl zu18 67 rfl rfl lGc rfl (by kernel_rfl) oG ?_
      intro w11 s11 g11 h11
      have r11 := r10.step s11 (by simp)
      have t11 := t10.step s11 (by simp)
      have st11 := (st10.trans s11).drew
      obtain ⟨b5, e5⟩ : ∃ b, b = w10.heap.size := ⟨_, rfl⟩
      rw [← e5] at g11 h11 ⊢
      clear e5 r10 t10 st10 s11 h11 oG oS
      rw [← HC.out] at r11 t11 lSc
      rw [← HCG.out] at g11 lGc
      have us1 : Try.prog.underlying 60 = some (.array 18 36) := Try.underlying60
      have us2 : Try.prog.underlying 62 = some (.array 18 35) := Try.underlying62
      have us3 : Try.prog.underlying 67 = some (.array 18 36) := Try.underlying67
      have is1 : (Try.prog.info? 60).map (·.size) = some (cu S).length := by rw [lSc]; kernel_rfl
      have is2 : (Try.prog.info? 62).map (·.size) = some (cu S).length := by rw [lSc]; kernel_rfl
      have is3 : (Try.prog.info? 67).map (·.size) = some (cu G).length := by rw [lGc]; kernel_rfl
      obtain ⟨i, hi, hz0, hz1, hz2⟩ := info_parts Try.infoU
      have hq1 : ∀ W, (Op.equalIn 10000 62 (.agg (cu S).toArray) (.agg (cu S).toArray)).run Try.prog W = .ok true W := fun W => run_equalIn_array W _ _ i 18 .u64 S us2 hi hz1 Try.underlying35 lS
      have hq2 : ∀ W, (Op.equalIn 10000 62 (.agg (cu G).toArray) (.agg (cu G).toArray)).run Try.prog W = .ok true W := fun W => run_equalIn_array W _ _ i 18 .u64 G us2 hi hz1 Try.underlying35 lG
      have hgd : Try.prog.eqGuardType Try.prog.depth 62 = false := by kernel_rfl
      have KI : KI6 b1 b2 b5 S G w w11.drew := ⟨r11.range, t11.range, g11.range, st11⟩
      have HSG : Hid (signL S d = G) := HG.out.symm
      have HSGc := HSG.out
      have csign : ∀ w' : World, Calls Try.prog 36 #[.agg (cu S).toArray, u d] w' fun e w'' => e = .returned (.agg (cu G).toArray) ∧ Step [] w' w'' := fun w' => by
        have := rsign_any (w := w') S lS d
        rw [HSGc] at this
        exact this
      have HCS := Lib.hid csign
      clear csign HSGc r11 t11 g11 st11
      have e1 : (((pubL S).toNat : Int) == ((pubL S).toNat : Int)) = true := by simp
      have e2 : (((recL G d).toNat : Int) == ((recL G d).toNat : Int)) = true := by simp
      go_wp2_with fail
      refine wp_region_grow (KI6 b1 b2 b5 S G w) (by kernel_rfl) (by kernel_rfl) KI ?_
      repeat (first
        | (refine wpGrow_skip ?_ ?_; rfl; simp only [Act.put, List.setIfInBounds_toArray, List.set_cons_zero, List.set_cons_succ])
        | (refine wpGrow_load 60 (.tmp 7) rfl ?_ rfl (fun w h => h.s) us1 rfl is1 ?_; rfl; simp only [Act.put, List.setIfInBounds_toArray, List.set_cons_zero, List.set_cons_succ])
        | (refine wpGrow_load 62 (.tmp 8) rfl ?_ rfl (fun w h => h.t) us2 rfl is2 ?_; rfl; simp only [Act.put, List.setIfInBounds_toArray, List.set_cons_zero, List.set_cons_succ])
        | (refine wpGrow_load 67 (.tmp 12) rfl ?_ rfl (fun w h => h.g) us3 rfl is3 ?_; rfl; simp only [Act.put, List.setIfInBounds_toArray, List.set_cons_zero, List.set_cons_succ])
        | (apply wpGrow_run; rfl; (focus (intro w' hw'; go_simp; apply YV_value; exact hw')); simp only [Act.put, List.setIfInBounds_toArray, List.set_cons_zero, List.set_cons_succ])
        | (refine wpGrow_call ?_ (fun w' hw' => of_any S lS) (fun _ _ h q => h.step q) ?_ ?_; rfl; (focus (intro w' hw'; go_simp; done)); simp only [Act.put, List.setIfInBounds_toArray, List.set_cons_zero, List.set_cons_succ])
        | (refine wpGrow_call ?_ (fun w' hw' => of_any G lG) (fun _ _ h q => h.step q) ?_ ?_; rfl; (focus (intro w' hw'; go_simp; done)); simp only [Act.put, List.setIfInBounds_toArray, List.set_cons_zero, List.set_cons_succ])
        | (refine wpGrow_call ?_ (fun w' hw' => pub_any S lS) (fun _ _ h q => h.step q) ?_ ?_; rfl; (focus (intro w' hw'; go_simp; done)); simp only [Act.put, List.setIfInBounds_toArray, List.set_cons_zero, List.set_cons_succ])
        | (refine wpGrow_call ?_ (fun w' hw' => rpub_any S lS) (fun _ _ h q => h.step q) ?_ ?_; rfl; (focus (intro w' hw'; go_simp; done)); simp only [Act.put, List.setIfInBounds_toArray, List.set_cons_zero, List.set_cons_succ])
        | (refine wpGrow_call ?_ (fun w' hw' => HCS.out w') (fun _ _ h q => h.step q) ?_ ?_; rfl; (focus (intro w' hw'; go_simp; done)); simp only [Act.put, List.setIfInBounds_toArray, List.set_cons_zero, List.set_cons_succ])
        | (refine wpGrow_call ?_ (fun w' hw' => rec_any G lG d) (fun _ _ h q => h.step q) ?_ ?_; rfl; (focus (intro w' hw'; go_simp; done)); simp only [Act.put, List.setIfInBounds_toArray, List.set_cons_zero, List.set_cons_succ])
        | (refine wpGrow_call ?_ (fun w' hw' => rrec_any G lG d) (fun _ _ h q => h.step q) ?_ ?_; rfl; (focus (intro w' hw'; go_simp; done)); simp only [Act.put, List.setIfInBounds_toArray, List.set_cons_zero, List.set_cons_succ]))
      refine wpGrow_nil ?_
      intro w12 h12
      have st12 := h12.st
      clear h12
      go_wp2_with fail
      go_ret
      exact ⟨rfl, st12⟩
/-- .. in the form that the row asks. -/
theorem oany_row (w : World) (s : Int) (hs : IntKind.u64.min ≤ s ∧ s ≤ IntKind.u64.max) (a : Int) (_ha : IntKind.i64.min ≤ a ∧ a ≤ IntKind.i64.max) (d : Int) (hd : IntKind.u64.min ≤ d ∧ d ≤ IntKind.u64.max) :
    Calls Try.prog 8 #[.int .u64 s, .int .i64 a, .int .u64 d] w (Ret' (.bool true) fun w' => Step [] w w') := by
  obtain ⟨x, rfl⟩ := of_u64 hs
  obtain ⟨y, rfl⟩ := of_u64 hd
  exact oany x a y
end Go.Proofs.Ytcmihfanlconhab
