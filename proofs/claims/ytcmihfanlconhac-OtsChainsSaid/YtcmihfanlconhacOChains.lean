/- OtsChains: each part of a signature stands on its chain. Conditions: none. -/
import Derived.Test.YtcmihfanlconhacOHolds
namespace Go.Proofs.Ytcmihfanlconhac
open Go.RowKit
structure KI4 (b1 b2 b3 k : Nat) (x z : UInt64) (y : Nat) (w0 w : World) : Prop where
  s : w.cell? ⟨b1, k, none⟩ = some (u x)
  g : w.cell? ⟨b2, k, none⟩ = some (u z)
  n : w.cell? ⟨b3, k, none⟩ = some (.int .i64 (y : Int))
  st : Step [] w0 w
theorem KI4.step {b1 b2 b3 k : Nat} {x z : UInt64} {y : Nat} {w0 w w' : World} (h : KI4 b1 b2 b3 k x z y w0 w) (q : Step [] w w') : KI4 b1 b2 b3 k x z y w0 w' := ⟨q.cell h.s (by simp), q.cell h.g (by simp), q.cell h.n (by simp), h.st.trans q⟩
theorem chain_to {w : World} (x : UInt64) (n : Int) (z : UInt64) (h : chainN sOt (steps n) x = z) : Calls Try.prog 16 #[.string ⟨#[111, 116]⟩, u x, .int .i64 n] w fun e w' => e = .returned (u z) ∧ Step [] w w' := by
  refine (chain_any ⟨#[111, 116]⟩ (by decide) x n).mono ?_
  rintro e w' ⟨he, s⟩
  exact ⟨by rw [he, ← h]; rfl, s⟩
set_option maxRecDepth 100000 in
set_option maxHeartbeats 3200000 in
theorem chains_any {w : World} (seed : UInt64) (leaf : Nat) (hlf : leaf ≤ 255) (d : UInt64) : Calls Try.prog 6 #[u seed, .int .u8 leaf, u d] w (Ret' (.bool true) fun w' => Step [] w w') := by
  have lS := secL_len seed leaf
  obtain ⟨S, hS⟩ : ∃ S, S = secL seed leaf := ⟨_, rfl⟩
  have HS := Lib.hid hS
  rw [← hS] at lS
  clear hS
  have lG : (signL S d).length = 18 := by rw [signL_len, lS]
  have lSc : (cu S).length = 18 := by simp [cu, lS]
  have lGc : (cu (signL S d)).length = 18 := by simp [cu, lG]
  have lN : (ci (digitsL d)).length = 18 := by simp [ci, digitsL_len]
  have hw8 : wrap64 (leaf : Int) = leaf := by unfold wrap64; omega
  go_enter Try.func6, Try.ntmps6
  go_wp2_with fail
  refine known3.mono ?_
  rintro e w1 ⟨rfl, q1⟩
  go_wp2_with fail
  refine (secrets_any seed leaf).mono ?_
  rintro e w2 ⟨rfl, q2⟩
  rw [← HS.out]
  have oS := cu_one S
  have st2 := q1.trans q2
  clear q1 q2
  generalize hcs : cu S = cs at *
  have HC := Lib.hid hcs
  clear hcs
  go_wp2_with (first | (with_reducible refine Stopped.load 27 rfl ?_) | (with_reducible refine Stopped.store 27 rfl ?_))
  refine Stopped.on ?_
  refine wpList_storeFresh rfl 27 (.tmp 7) (.tmp 18) rfl zu18 27 rfl rfl lSc rfl (by kernel_rfl) oS ?_
  intro w3 s3 r3 h3
  have st3 := st2.trans s3
  have hb1 := st2.size
  obtain ⟨b1, e1⟩ : ∃ b, b = w2.heap.size := ⟨_, rfl⟩
  rw [← e1] at r3 h3 hb1 ⊢
  clear e1 st2 s3 oS
  go_wp2_with (first | (with_reducible refine Stopped.load 27 rfl ?_) | (with_reducible refine Stopped.store 27 rfl ?_))
  refine Stopped.on ?_
  refine wpList_loadRow rfl 27 (.tmp 7) rfl (b := b1) rfl r3 Try.underlying27 (by kernel_rfl) lSc ?_
  go_wp2_with fail
  rw [← HC.out]
  refine (sign_any S lS d).mono ?_
  rintro e w4 ⟨rfl, q4⟩
  have r4 := r3.step q4 (by simp)
  have st4 := st3.trans q4
  have oG := cu_one (signL S d)
  clear r3 h3 st3 q4
  generalize hcg : cu (signL S d) = cg at *
  have HG := Lib.hid hcg
  clear hcg
  go_wp2_with (first | (with_reducible refine Stopped.load 31 rfl ?_) | (with_reducible refine Stopped.store 31 rfl ?_))
  refine Stopped.on ?_
  refine wpList_storeFresh rfl 31 (.tmp 8) (.tmp 21) rfl zu18 31 rfl rfl lGc rfl (by kernel_rfl) oG ?_
  intro w5 s5 g5 h5
  have r5 := r4.step s5 (by simp)
  have st5 := st4.trans s5
  obtain ⟨b2, e2⟩ : ∃ b, b = w4.heap.size := ⟨_, rfl⟩
  rw [← e2] at g5 h5 ⊢
  clear e2 st4 s5 oG r4
  go_wp2_with fail
  refine (digits_any d).mono ?_
  rintro e w6 ⟨rfl, q6⟩
  have r6 := r5.step q6 (by simp)
  have g6 := g5.step q6 (by simp)
  have st6 := st5.trans q6
  have oN := ci_one (digitsL d)
  clear r5 g5 h5 st5 q6
  generalize hcn : ci (digitsL d) = cn at *
  have HN := Lib.hid hcn
  clear hcn
  go_wp2_with (first | (with_reducible refine Stopped.load 34 rfl ?_) | (with_reducible refine Stopped.store 34 rfl ?_))
  refine Stopped.on ?_
  refine wpList_storeFresh rfl 34 (.tmp 9) (.tmp 23) rfl zi18 34 rfl rfl lN rfl (by kernel_rfl) oN ?_
  intro w7 s7 n7 h7
  have r7 := r6.step s7 (by simp)
  have g7 := g6.step s7 (by simp)
  have st7 := st6.trans s7
  obtain ⟨b3, e3⟩ : ∃ b, b = w6.heap.size := ⟨_, rfl⟩
  rw [← e3] at n7 h7 ⊢
  clear e3 st6 s7 oN r6 g6 h7
  rw [← HC.out] at r7
  rw [← HG.out] at g7
  rw [← HN.out] at n7
  obtain ⟨M, hM⟩ : ∃ M, M = S.mapIdx (fun _ x => chainN sOt 15 x) := ⟨_, rfl⟩
  have lM : M.length = 18 := by rw [hM]; simp [lS]
  have HM := Lib.hid hM
  have HP : Hid (pubL S = foldK M 18) := by rw [hM]; rfl
  clear hM
  go_wp2_with fail
  go_loopw [10, 11, 12] (fun s10 s11 s12 wr => ∃ k : Nat, k ≤ 18 ∧ s10 = u (foldK M k) ∧ s11 = .int .i64 ((sumOf d (min k 16) : Nat) : Int) ∧ s12 = .int .i64 k ∧ Row wr b1 (cu S) ∧ Row wr b2 (cu (signL S d)) ∧ Row wr b3 (ci (digitsL d)) ∧ Step [] w wr) (fun _ _ s12 _ => 18 - (intOf s12).toNat)
  case atStart => exact ⟨0, by omega, rfl, rfl, rfl, r7, g7, n7, st7⟩
  case round =>
    obtain ⟨k, hk, rfl, rfl, rfl, rs, rg, rn, hst⟩ := hrel
    clear r7 g7 n7 st7
    by_cases hlt : k < 18
    · have ds := rs.cell (cu_get S k (by omega))
      have dg := rg.cell (cu_get (signL S d) k (by omega))
      have dn := rn.cell (ci_get (digitsL d) k (by rw [digitsL_len]; exact hlt))
      have hy := digitsL_le d k
      have hz : (signL S d).getD k 0 = chainN sOt (steps ((digitsL d).getD k 0 : Nat)) (S.getD k 0) := by
        unfold signL
        simp [List.getD, show k < S.length by omega]
      have HZ : Hid (chainN sOt (steps ((digitsL d).getD k 0 : Nat)) (S.getD k 0) = (signL S d).getD k 0) := hz.symm
      have hm : M.getD k 0 = chainN sOt 15 (S.getD k 0) := by rw [HM.out]; simp [List.getD, show k < S.length by omega]
      have HV : Hid (chainN sOt (steps (15 - ((digitsL d).getD k 0 : Nat))) ((signL S d).getD k 0) = chainN sOt 15 (S.getD k 0)) := by
        show _ = _
        rw [hz]
        exact chain_on _ _ hy _
      have HF : Hid (foldK M (k + 1) = two sPk (foldK M k) (chainN sOt 15 (S.getD k 0))) := by
        show _ = _
        rw [← hm]
        exact foldK_succ M k (by omega)
      have HSm : Hid (k < 16 → sumOf d (min (k + 1) 16) = sumOf d (min k 16) + 15 - (digitsL d).getD k 0) := by
        intro h
        rw [show min (k + 1) 16 = k + 1 by omega, show min k 16 = k by omega]
        have : (digitsL d).getD k 0 = digit d k := by simp [digitsL, List.getD, List.getElem?_append_left, h]
        rw [this]
        rfl
      have HSn : Hid (¬ k < 16 → sumOf d (min (k + 1) 16) = sumOf d (min k 16)) := by
        intro h
        rw [show min (k + 1) 16 = 16 by omega, show min k 16 = 16 by omega]
      have hsm := sumOf_le d (min k 16)
      have hsm' : sumOf d (min k 16) ≤ 240 := by omega
      clear hsm hz hm
      have V15 : Hid (chainN sOt (steps 15) (S.getD k 0) = chainN sOt 15 (S.getD k 0)) := rfl
      generalize chainN sOt 15 (S.getD k 0) = v at *
      generalize (signL S d).getD k 0 = z at *
      generalize S.getD k 0 = x at *
      obtain ⟨y, hyy⟩ : ∃ y, y = (digitsL d).getD k 0 := ⟨_, rfl⟩
      have HY : Hid ((digitsL d).getD k 0 = y) := hyy.symm
      rw [← hyy] at dn hy
      have HZ : Hid (chainN sOt (steps (y : Nat)) x = z) := by rw [hyy]; exact HZ.out
      have HV : Hid (chainN sOt (steps (15 - (y : Nat))) z = v) := by rw [hyy]; exact HV.out
      have HSm : Hid (k < 16 → sumOf d (min (k + 1) 16) = sumOf d (min k 16) + 15 - y) := by rw [hyy]; exact HSm.out
      clear hyy
      generalize foldK M k = pk at *
      generalize sumOf d (min k 16) = sk at *
      have h0 : (decide ((y : Int) < 0)) = false := decide_eq_false (by omega)
      have h15 : (decide ((15 : Int) < y)) = false := decide_eq_false (by omega)
      have hw : IntKind.i64.wrap (15 - (y : Int)) = 15 - (y : Int) := by rw [IntKind.wrap_i64]; omega
      have KI : KI4 b1 b2 b3 k x z y w wr.drew := ⟨ds, dg, dn, hst.drew⟩
      have HR : Hid (∀ w' : World, Step [] wr w' → Row w' b1 (cu S) ∧ Row w' b2 (cu (signL S d)) ∧ Row w' b3 (ci (digitsL d))) := fun w' s => ⟨rs.step s (by simp), rg.step s (by simp), rn.step s (by simp)⟩
      clear ds dg dn hst
      go_wp2_with fail
      refine wp_region_grow (fun w' => KI4 b1 b2 b3 k x z y w w' ∧ Step [] wr w') (by kernel_rfl) (by kernel_rfl) ⟨KI, (Step.refl [] wr).drew⟩ ?_
      repeat (first
        | (refine wpGrow_skip ?_ ?_; rfl; simp only [Act.put, List.setIfInBounds_toArray, List.set_cons_zero, List.set_cons_succ])
        | (apply wpGrow_run; rfl; (focus (intro w' hw'; have h0 := hw'.1.s; have h1 := hw'.1.g; have h2 := hw'.1.n; go_simp; apply YV_value; exact hw')); simp only [Act.put, List.setIfInBounds_toArray, List.set_cons_zero, List.set_cons_succ])
        | (refine wpGrow_call ?_ (fun w' hw' => chain_to x y z HZ.out) (fun _ _ h q => ⟨h.1.step q, h.2.trans q⟩) ?_ ?_; rfl; (focus (intro w' hw'; go_simp; done)); simp only [Act.put, List.setIfInBounds_toArray, List.set_cons_zero, List.set_cons_succ])
        | (refine wpGrow_call ?_ (fun w' hw' => chain_to z (15 - (y : Int)) v HV.out) (fun _ _ h q => ⟨h.1.step q, h.2.trans q⟩) ?_ ?_; rfl; (focus (intro w' hw'; go_simp; done)); simp only [Act.put, List.setIfInBounds_toArray, List.set_cons_zero, List.set_cons_succ])
        | (refine wpGrow_call ?_ (fun w' hw' => chain_to x 15 v V15.out) (fun _ _ h q => ⟨h.1.step q, h.2.trans q⟩) ?_ ?_; rfl; (focus (intro w' hw'; go_simp; done)); simp only [Act.put, List.setIfInBounds_toArray, List.set_cons_zero, List.set_cons_succ]))
      refine wpGrow_nil ?_
      rintro w9 ⟨h9, q9⟩
      have d1 := h9.s
      have st9 := h9.st
      obtain ⟨rs9, rg9, rn9⟩ := HR.out w9 q9
      clear h9 q9 KI rs rg rn
      go_wp2_with fail
      refine (chain_to x 15 v V15.out).mono ?_
      rintro e w10 ⟨rfl, q10⟩
      go_wp2_with fail
      refine (two_any ⟨#[112, 107]⟩ (by decide) pk v).mono ?_
      rintro e w11 ⟨rfl, q11⟩
      have st11 := (st9.trans q10).trans q11
      have rs11 := (rs9.step q10 (by simp)).step q11 (by simp)
      have rg11 := (rg9.step q10 (by simp)).step q11 (by simp)
      have rn11 := (rn9.step q10 (by simp)).step q11 (by simp)
      clear st9 rs9 rg9 rn9 q10 q11 d1
      have HF' : Hid (two (ByteArray.mk #[112, 107]).data.toList pk v = foldK M (k + 1)) := HF.out.symm
      rw [HF'.out]
      by_cases h16 : k < 16
      · have hk16 : (k : Int) < 16 := by omega
        have dn := rn11.cell (ci_get (digitsL d) k (by rw [digitsL_len]; exact hlt))
        have hy2 : (digitsL d).getD k 0 = y := HY.out
        rw [hy2] at dn
        clear hy2
        have HS2 := Lib.hid (HSm.out h16)
        clear h16
        go_wp2_with fail
        go_round
        case rel => exact ⟨k + 1, by omega, rfl, by rw [HS2.out]; congr 1; omega, by go_num, rs11, rg11, rn11, st11⟩
        case measure => simp [intOf]; omega
      · have hk16 : ¬ (k : Int) < 16 := by omega
        have HS2 := Lib.hid (HSn.out h16)
        clear h16
        go_wp2_with fail
        go_round
        case rel => exact ⟨k + 1, by omega, rfl, by rw [HS2.out], by go_num, rs11, rg11, rn11, st11⟩
        case measure => simp [intOf]; omega
    · obtain rfl : k = 18 := by omega
      have hN := digitsL_len d
      have d16 := rn.cell (ci_get (digitsL d) 16 (by omega))
      have d17 := rn.cell (ci_get (digitsL d) 17 (by omega))
      have e16 : (digitsL d).getD 16 0 = sumOf d 16 / 16 := by simp [digitsL, List.getD]
      have e17 : (digitsL d).getD 17 0 = sumOf d 16 % 16 := by simp [digitsL, List.getD]
      have hsm := sumOf_le d 16
      rw [e16] at d16
      rw [e17] at d17
      clear e16 e17 hN
      have HE : Hid (foldK M 18 = pubL S) := HP.out.symm
      rw [HE.out]
      have hmin : min 18 16 = 16 := rfl
      rw [hmin]
      clear hmin
      obtain ⟨sm, hsm2⟩ : ∃ sm, sm = sumOf d 16 := ⟨_, rfl⟩
      rw [← hsm2] at d16 d17 hsm ⊢
      clear hsm2
      obtain ⟨p16, hp16⟩ : ∃ p : Nat, p = sm / 16 := ⟨_, rfl⟩
      obtain ⟨p17, hp17⟩ : ∃ p : Nat, p = sm % 16 := ⟨_, rfl⟩
      rw [← hp16] at d16
      rw [← hp17] at d17
      have hb16 : p16 ≤ 15 := by omega
      have hb17 : p17 ≤ 15 := by omega
      have HQ : Hid (16 * (p16 : Int) + p17 = sm) := by show _ = _; omega
      clear hp16 hp17
      go_wp2_with (with_reducible refine Stopped.load 27 rfl ?_)
      refine Stopped.on ?_
      refine wpList_loadRow rfl 27 (.tmp 7) rfl (b := b1) rfl rs Try.underlying27 (by kernel_rfl) (by simp [cu, lS]) ?_
      go_wp2_with fail
      refine (pub_any S lS).mono ?_
      rintro e w10 ⟨rfl, q10⟩
      have st10 := hst.trans q10
      have d16' := q10.cell d16 (by simp)
      have d17' := q10.cell d17 (by simp)
      have heq : (((pubL S).toNat : Int) == ((pubL S).toNat : Int)) = true := by simp
      clear rs rg rn hst d16 d17 q10
      go_wp2_with fail
      go_ret
      refine ⟨?_, st10⟩
      rw [HQ.out]
      simp
/-- .. in the form that the row asks. -/
theorem chains_row (w : World) (a : Int) (ha : IntKind.u64.min ≤ a ∧ a ≤ IntKind.u64.max) (b : Int) (hb : IntKind.u8.min ≤ b ∧ b ≤ IntKind.u8.max) (d : Int) (hd : IntKind.u64.min ≤ d ∧ d ≤ IntKind.u64.max) :
    Calls Try.prog 6 #[.int .u64 a, .int .u8 b, .int .u64 d] w (Ret' (.bool true) fun w' => Step [] w w') := by
  obtain ⟨x, rfl⟩ := of_u64 ha
  obtain ⟨n, rfl, h8⟩ := of_u8 hb
  obtain ⟨y, rfl⟩ := of_u64 hd
  exact chains_any x n h8 y
end Go.Proofs.Ytcmihfanlconhac
