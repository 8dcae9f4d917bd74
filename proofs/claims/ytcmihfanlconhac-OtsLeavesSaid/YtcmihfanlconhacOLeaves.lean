/- OtsLeaves: each leaf has secrets of its own, as the document reckons them. Conditions: none. -/
import Derived.Test.YtcmihfanlconhacOHolds
namespace Go.Proofs.Ytcmihfanlconhac
open Go.RowKit
structure KI5 (b1 b2 k : Nat) (x y : UInt64) (w0 w : World) : Prop where
  s : w.cell? ⟨b1, k, none⟩ = some (u x)
  g : w.cell? ⟨b2, k, none⟩ = some (u y)
  st : Step [] w0 w
theorem KI5.step {b1 b2 k : Nat} {x y : UInt64} {w0 w w' : World} (h : KI5 b1 b2 k x y w0 w) (q : Step [] w w') : KI5 b1 b2 k x y w0 w' := ⟨q.cell h.s (by simp), q.cell h.g (by simp), h.st.trans q⟩
theorem rtwo_at {w : World} (seed : UInt64) (a k : Nat) (ha : a ≤ 255) (hk : k < 18) (z : UInt64) (hz : skAt seed a k = z) :
    Calls Try.prog 18 #[.string ⟨#[115, 107]⟩, u seed, .int .u64 (32 * (a : Int) + (k : Int))] w fun e w' => e = .returned (u z) ∧ Step [] w w' := by
  have e : (32 * (a : Int) + (k : Int)) = ((lf a * 32 + UInt64.ofNat k).toNat : Int) := by
    have h1 : (lf (a : Int)).toNat = a := by rw [lf_nat, UInt64.toNat_ofNat_of_lt' (by show _ < 2 ^ 64; omega)]
    have h2 : (UInt64.ofNat k).toNat = k := UInt64.toNat_ofNat_of_lt' (by show _ < 2 ^ 64; omega)
    rw [UInt64.toNat_add, UInt64.toNat_mul, h1, h2, show (32 : UInt64).toNat = 32 from rfl]
    omega
  rw [e]
  refine (rtwo_any ⟨#[115, 107]⟩ (by decide) seed _).mono ?_
  rintro e w' ⟨he, rfl⟩
  exact ⟨by rw [he, ← hz]; rfl, Step.refl _ _⟩
theorem secL_at (seed : UInt64) (a : Int) (k : Nat) (hk : k < 18) : (secL seed a).getD k 0 = skAt seed a k := by simp [secL, List.getD, hk]
set_option maxRecDepth 100000 in
set_option maxHeartbeats 3200000 in
theorem leaves_any {w : World} (seed : UInt64) (a b : Nat) (ha8 : a ≤ 255) (hb8 : b ≤ 255) : Calls Try.prog 7 #[u seed, .int .u8 a, .int .u8 b] w (Ret' (.bool true) fun w' => Step [] w w') := by
  have lX : (cu (secL seed a)).length = 18 := by simp [cu, secL_len]
  have lY : (cu (secL seed b)).length = 18 := by simp [cu, secL_len]
  have oX := cu_one (secL seed a)
  have oY := cu_one (secL seed b)
  have hw8 : wrap64 (a : Int) = a := by unfold wrap64; omega
  have hw9 : wrap64 (b : Int) = b := by unfold wrap64; omega
  go_enter Try.func7, Try.ntmps7
  go_wp2_with fail
  refine known3.mono ?_
  rintro e w1 ⟨rfl, q1⟩
  go_wp2_with fail
  refine (secrets_any seed a).mono ?_
  rintro e w2 ⟨rfl, q2⟩
  go_wp2_with fail
  refine (secrets_any seed b).mono ?_
  rintro e w3 ⟨rfl, q3⟩
  have st3 := (q1.trans q2).trans q3
  clear q1 q2 q3
  generalize hxa : cu (secL seed a) = xa at *
  generalize hxb : cu (secL seed b) = xb at *
  have HA := Lib.hid hxa
  have HB := Lib.hid hxb
  clear hxa hxb
  go_wp2_with (first | (with_reducible refine Stopped.load 27 rfl ?_) | (with_reducible refine Stopped.store 27 rfl ?_))
  refine Stopped.on ?_
  have R1 := (Row.new w3 zu18 27).step ((Step.refl [] _).alloc (.cells zu18 27)) (by simp)
  have R2 := Row.new (w3.alloc (.cells zu18 27)) zu18 27
  rw [show (w3.alloc (.cells zu18 27)).heap.size = w3.heap.size + 1 by simp] at R2
  have st4 := (st3.alloc (.cells zu18 27)).alloc (.cells zu18 27)
  have hw3 := st3.size
  have lz : zu18.toList.length = 18 := rfl
  generalize hz : zu18.toList = zs at *
  clear hz
  unfold zu18 at *
  generalize ((w3.alloc (.cells _ 27)).alloc (.cells _ 27)) = w4 at *
  obtain ⟨b1, hb1⟩ : ∃ b, b = w3.heap.size := ⟨_, rfl⟩
  obtain ⟨b2, hb2⟩ : ∃ b, b = b1 + 1 := ⟨_, rfl⟩
  rw [← hb1] at R1 R2 hw3 ⊢
  rw [← hb2] at R2 ⊢
  have h12 : b1 ≠ b2 := by omega
  have h21 : b2 ≠ b1 := by omega
  have h02 : w.heap.size ≤ b2 := by omega
  clear hb1 hb2 st3
  refine wpList_storeRow rfl 27 (.tmp 7) (.tmp 15) rfl (b := b1) rfl rfl R1 lX lz (by kernel_rfl) oX ?_
  intro w5 s5 r5
  have R25 := R2.step s5 (by simpa using h21)
  have st5 := st4.grow s5 (by simp; omega)
  clear R1 R2 s5 st4
  go_wp2_with (first | (with_reducible refine Stopped.load 27 rfl ?_) | (with_reducible refine Stopped.store 27 rfl ?_))
  refine Stopped.on ?_
  refine wpList_storeRow rfl 27 (.tmp 8) (.tmp 19) rfl (b := b2) rfl rfl R25 lY lz (by kernel_rfl) oY ?_
  intro w6 s6 r6
  have r56 := r5.step s6 (by simpa using h12)
  have st6 := st5.grow s6 (by simp; omega)
  clear R25 r5 s6 st5 oX oY
  go_wp2_with fail
  rw [← HA.out] at r56
  rw [← HB.out] at r6
  go_loopw [9] (fun s9 wr => ∃ k : Nat, k ≤ 18 ∧ s9 = .int .i64 k ∧ Row wr b1 (cu (secL seed a)) ∧ Row wr b2 (cu (secL seed b)) ∧ Step [] w wr) (fun s9 _ => 18 - (intOf s9).toNat)
  case atStart => exact ⟨0, by omega, rfl, r56, r6, st6⟩
  case round =>
    obtain ⟨k, hk, rfl, rx, ry, hst⟩ := hrel
    clear r56 r6 st6
    by_cases hlt : k < 18
    · have dx := rx.cell (cu_get (secL seed a) k (by rw [secL_len]; exact hlt))
      have dy := ry.cell (cu_get (secL seed b) k (by rw [secL_len]; exact hlt))
      rw [secL_at seed a k hlt] at dx
      rw [secL_at seed b k hlt] at dy
      have hX : skAt seed a k = skAt seed a k := rfl
      have HX : Hid (skAt seed a k = skAt seed a k) := rfl
      have HY : Hid (skAt seed b k = skAt seed b k) := rfl
      have hxy0 : a = b → skAt seed a k = skAt seed b k := fun h => by rw [h]
      clear hX
      have HXX : Hid (∀ z, z = skAt seed a k → skAt seed a k = z) := fun z h => h.symm
      have HYY : Hid (∀ z, z = skAt seed b k → skAt seed b k = z) := fun z h => h.symm
      obtain ⟨x, ex⟩ : ∃ x, x = skAt seed a k := ⟨_, rfl⟩
      obtain ⟨y, ey⟩ : ∃ y, y = skAt seed b k := ⟨_, rfl⟩
      have X := HXX.out x ex
      have Y := HYY.out y ey
      rw [← ex] at dx hxy0
      rw [← ey] at dy hxy0
      clear HX HY HXX HYY ex ey
      have HX := Lib.hid X
      have HY := Lib.hid Y
      clear X Y
      have ha0 : (0 : Int) ≤ a := by omega
      have ha1 : (a : Int) ≤ 255 := by omega
      have hb0 : (0 : Int) ≤ b := by omega
      have hb1 : (b : Int) ≤ 255 := by omega
      have w1a : IntKind.u64.wrap (32 * (a : Int)) = 32 * a := by rw [IntKind.wrap_u64]; omega
      have w1b : IntKind.u64.wrap (32 * (b : Int)) = 32 * b := by rw [IntKind.wrap_u64]; omega
      have w2a : IntKind.u64.wrap (32 * (a : Int) + k) = 32 * a + k := by rw [IntKind.wrap_u64]; omega
      have w2b : IntKind.u64.wrap (32 * (b : Int) + k) = 32 * b + k := by rw [IntKind.wrap_u64]; omega
      have w3a : IntKind.u64.wrap (a : Int) = a := by rw [IntKind.wrap_u64]; omega
      have w3b : IntKind.u64.wrap (b : Int) = b := by rw [IntKind.wrap_u64]; omega
      have w3k : IntKind.u64.wrap (k : Int) = k := by rw [IntKind.wrap_u64]; omega
      have KI : KI5 b1 b2 k x y w wr.drew := ⟨dx, dy, hst.drew⟩
      have HR : Hid (∀ w' : World, Step [] wr w' → Row w' b1 (cu (secL seed a)) ∧ Row w' b2 (cu (secL seed b))) := fun w' s => ⟨rx.step s (by simp), ry.step s (by simp)⟩
      clear dx dy hst
      by_cases hxy : x = y
      · subst hxy
        clear hxy0
        have t1 : ((x.toNat : Int) == (x.toNat : Int)) = true := by simp
        by_cases hab : a = b
        · subst hab
          have t2 : ((a : Int) == (a : Int)) = true := by simp
          go_wp2_with fail
          refine wp_region_grow (fun w' => KI5 b1 b2 k x x w w' ∧ Step [] wr w') (by kernel_rfl) (by kernel_rfl) ⟨KI, (Step.refl [] wr).drew⟩ ?_
          repeat (first
            | (refine wpGrow_skip ?_ ?_; rfl; simp only [Act.put, List.setIfInBounds_toArray, List.set_cons_zero, List.set_cons_succ])
            | (apply wpGrow_run; rfl; (focus (intro w' hw'; have h0 := hw'.1.s; have h1 := hw'.1.g; go_simp; apply YV_value; exact hw')); simp only [Act.put, List.setIfInBounds_toArray, List.set_cons_zero, List.set_cons_succ])
            | (refine wpGrow_call ?_ (fun w' hw' => rtwo_at seed a k ha8 hlt x HX.out) (fun _ _ h q => ⟨h.1.step q, h.2.trans q⟩) ?_ ?_; rfl; (focus (intro w' hw'; go_simp; done)); simp only [Act.put, List.setIfInBounds_toArray, List.set_cons_zero, List.set_cons_succ]))
          refine wpGrow_nil ?_
          rintro w9 ⟨h9, q9⟩
          have st9 := h9.st
          obtain ⟨rx9, ry9⟩ := HR.out w9 q9
          clear h9 q9 KI rx ry
          go_wp2_with fail
          go_round
          case rel => exact ⟨k + 1, by omega, by go_num, rx9, ry9, st9⟩
          case measure => simp [intOf]; omega
        · have t2 : ((a : Int) == (b : Int)) = false := by simp; omega
          go_wp2_with fail
          refine wp_region_grow (fun w' => KI5 b1 b2 k x x w w' ∧ Step [] wr w') (by kernel_rfl) (by kernel_rfl) ⟨KI, (Step.refl [] wr).drew⟩ ?_
          repeat (first
            | (refine wpGrow_skip ?_ ?_; rfl; simp only [Act.put, List.setIfInBounds_toArray, List.set_cons_zero, List.set_cons_succ])
            | (apply wpGrow_run; rfl; (focus (intro w' hw'; have h0 := hw'.1.s; have h1 := hw'.1.g; go_simp; apply YV_value; exact hw')); simp only [Act.put, List.setIfInBounds_toArray, List.set_cons_zero, List.set_cons_succ])
            | (refine wpGrow_call ?_ (fun w' hw' => rtwo_at seed a k ha8 hlt x HX.out) (fun _ _ h q => ⟨h.1.step q, h.2.trans q⟩) ?_ ?_; rfl; (focus (intro w' hw'; go_simp; done)); simp only [Act.put, List.setIfInBounds_toArray, List.set_cons_zero, List.set_cons_succ])
            | (refine wpGrow_call ?_ (fun w' hw' => rtwo_at seed b k hb8 hlt x HY.out) (fun _ _ h q => ⟨h.1.step q, h.2.trans q⟩) ?_ ?_; rfl; (focus (intro w' hw'; go_simp; done)); simp only [Act.put, List.setIfInBounds_toArray, List.set_cons_zero, List.set_cons_succ]))
          refine wpGrow_nil ?_
          rintro w9 ⟨h9, q9⟩
          have st9 := h9.st
          obtain ⟨rx9, ry9⟩ := HR.out w9 q9
          clear h9 q9 KI rx ry
          go_wp2_with fail
          go_round
          case rel => exact ⟨k + 1, by omega, by go_num, rx9, ry9, st9⟩
          case measure => simp [intOf]; omega
      · have t1 : ((x.toNat : Int) == (y.toNat : Int)) = false := by rw [u_eq]; simpa using hxy
        have t2 : ((a : Int) == (b : Int)) = false := by
          have : a ≠ b := fun h => hxy (hxy0 h)
          simp; omega
        clear hxy0
        go_wp2_with fail
        refine wp_region_grow (fun w' => KI5 b1 b2 k x y w w' ∧ Step [] wr w') (by kernel_rfl) (by kernel_rfl) ⟨KI, (Step.refl [] wr).drew⟩ ?_
        repeat (first
          | (refine wpGrow_skip ?_ ?_; rfl; simp only [Act.put, List.setIfInBounds_toArray, List.set_cons_zero, List.set_cons_succ])
          | (apply wpGrow_run; rfl; (focus (intro w' hw'; have h0 := hw'.1.s; have h1 := hw'.1.g; go_simp; apply YV_value; exact hw')); simp only [Act.put, List.setIfInBounds_toArray, List.set_cons_zero, List.set_cons_succ])
          | (refine wpGrow_call ?_ (fun w' hw' => rtwo_at seed a k ha8 hlt x HX.out) (fun _ _ h q => ⟨h.1.step q, h.2.trans q⟩) ?_ ?_; rfl; (focus (intro w' hw'; go_simp; done)); simp only [Act.put, List.setIfInBounds_toArray, List.set_cons_zero, List.set_cons_succ]))
        refine wpGrow_nil ?_
        rintro w9 ⟨h9, q9⟩
        have st9 := h9.st
        obtain ⟨rx9, ry9⟩ := HR.out w9 q9
        clear h9 q9 KI rx ry
        go_wp2_with fail
        go_round
        case rel => exact ⟨k + 1, by omega, by go_num, rx9, ry9, st9⟩
        case measure => simp [intOf]; omega
    · clear rx ry
      go_wp2_with fail
      go_ret
      exact ⟨rfl, hst⟩
/-- .. in the form that the row asks. -/
theorem leaves_row (w : World) (s : Int) (hs : IntKind.u64.min ≤ s ∧ s ≤ IntKind.u64.max) (a : Int) (ha : IntKind.u8.min ≤ a ∧ a ≤ IntKind.u8.max) (b : Int) (hb : IntKind.u8.min ≤ b ∧ b ≤ IntKind.u8.max) :
    Calls Try.prog 7 #[.int .u64 s, .int .u8 a, .int .u8 b] w (Ret' (.bool true) fun w' => Step [] w w') := by
  obtain ⟨x, rfl⟩ := of_u64 hs
  obtain ⟨n, rfl, h8⟩ := of_u8 ha
  obtain ⟨m, rfl, h9⟩ := of_u8 hb
  exact leaves_any x n m h8 h9
end Go.Proofs.Ytcmihfanlconhac
