/- WalFronts: the walk. Conditions: none. -/
import Derived.Test.YtcmihfanlconhaaWKn
import Derived.Test.YtcmihfanlconhaaRowl
import Derived.Lib.Hide
namespace Go.Proofs.Ytcmihfanlconhaa
open Go.RowKit

theorem take_snoc {xs : List Int} {k : Nat} (h : k < xs.length) : xs.take k ++ [xs[k]] = xs.take (k + 1) := by
  rw [List.take_succ_eq_append_getElem h]

theorem ints_same2 {w : World} {a1 a2 : Option Addr} {n1 n2 c1 c2 : Nat} {xs : List Int} {B1 B2 : Option Nat} (h : n1 = n2) (h1 : Rd w 1 (.slice a1 n1 c1) n1 (ci xs) B1) (h2 : Rd w 1 (.slice a2 n2 c2) n2 (ci xs) B2) (hn : n1 ≤ 1000000) :
    Calls Try.prog 28 #[.slice a1 n1 c1, .slice a2 n2 c2] w fun e w' => e = .returned (.bool true) ∧ ∃ m, w' = w.drewN m := by
  subst h
  exact ints_same h1 h2 hn
theorem WalR.lt {w : World} {b : Nat} {room : Int} {xs : List Int} {lasts : Nat} {B : Option Nat} (h : WalR w b room xs lasts B) : b < w.heap.size := by
  obtain ⟨_, _, h1, _⟩ := h
  exact lt_size h1

set_option maxRecDepth 100000 in
set_option maxHeartbeats 6400000 in
theorem wfronts_law (w : World) (ao : Option Addr) (n cap : Nat) (f : Nat → Int) (hn : n ≤ cap ∧ cap ≤ maxLen) (_hf : ∀ i, i < n → IntKind.i64.min ≤ f i ∧ f i ≤ IntKind.i64.max)
    (hs : SlA w ao n 1 (fun i _ => .int .i64 (f i))) (p : Int) (hp : IntKind.u8.min ≤ p ∧ p ≤ IntKind.u8.max) (q : Int) (hq : IntKind.u8.min ≤ q ∧ q ≤ IntKind.u8.max) (r : Int) (hr : IntKind.u8.min ≤ r ∧ r ≤ IntKind.u8.max) :
    Calls Try.prog 7 #[.slice ao n cap, .int .u8 p, .int .u8 q, .int .u8 r] w (Ret' (.bool true) fun w' => Step [] w w') := by
  have p0 : 0 ≤ p := hp.1
  have p1 : p ≤ 255 := hp.2
  have q0 : 0 ≤ q := hq.1
  have q1 : q ≤ 255 := hq.2
  have r0 : 0 ≤ r := hr.1
  have r1 : r ≤ 255 := hr.2
  clear hp hq hr
  obtain ⟨hn0, hn1⟩ := hn
  unfold maxLen at hn1
  by_cases hlen : 60 < n
  · go_enter Try.func7, Try.ntmps7
    go_wp2_with (go_at_call 21; refine (wknown_any _).mono ?_; rintro e w1 ⟨rfl, s1⟩)
    go_ret
    exact ⟨rfl, s1⟩
  have hlen' : n ≤ 60 := by omega
  clear hlen
  obtain ⟨BL, hBL, hL⟩ := hs.rd_int ⟨hn0, hn1⟩
  have hcell : ∀ k (hk : k < n), ∃ b off, ao = some ⟨b, off, none⟩ ∧ w.cell? ⟨b, off + k, none⟩ = some (.int .i64 (f k)) := fun k hk => by
    obtain ⟨b, off, h, hx⟩ := hs (by omega)
    exact ⟨b, off, h, by simpa using hx k hk 0 (by omega)⟩
  clear hs
  obtain ⟨L, hLd⟩ : ∃ L, L = (List.range n).map f := ⟨_, rfl⟩
  have hLn : L.length = n := by rw [hLd]; simp
  have hLk : ∀ k (hk : k < n), L[k]? = some (f k) := fun k hk => by rw [hLd]; simp [hk]
  replace hL : Rd w 1 (.slice ao n cap) n (ci L) BL := by rw [hLd]; exact hL
  clear hLd
  obtain ⟨kk, hkk, hkn⟩ : ∃ kk : Nat, p % ((n : Int) + 1) = kk ∧ kk ≤ n := by
    have h0 := Int.emod_nonneg p (b := (n : Int) + 1) (by omega)
    have h1 := Int.emod_lt_of_pos p (b := (n : Int) + 1) (by omega)
    exact ⟨(p % ((n : Int) + 1)).toNat, by omega, by omega⟩
  have HL := Lib.hid hLn
  have HK := Lib.hid hLk
  have HC := Lib.hid hcell
  clear hLn hLk hcell
  go_enter Try.func7, Try.ntmps7
  go_wp2_with fail
  refine (wknown_any _).mono ?_
  rintro e w1 ⟨rfl, s1⟩
  go_wp2_with fail
  refine (wnew_ok 100 (by omega) (by omega) _).mono ?_
  rintro e w2 ⟨rfl, s2, l2⟩
  have hb : w.heap.size ≤ w1.heap.size := s1.size
  have st2 := s1.trans s2
  clear s1 s2
  generalize w1.heap.size = b at *
  go_wp2_with fail
  rw [hkk]
  clear hkk
  go_loopg [12] n (fun gk s12 wr => ∃ (k : Nat) (B : Option Nat), gk = n - k ∧ k ≤ n ∧ s12 = .int .i64 k ∧ WalR wr b 100 (L.take k) (if k < kk then 0 else kk) B ∧ New w B ∧ Step [] w wr)
  case atStart => exact ⟨0, none, rfl, Nat.zero_le _, rfl, by (have : (if 0 < kk then 0 else kk) = 0 := by split <;> omega); rw [this]; simpa using l2, .none, st2⟩
  case round =>
    obtain ⟨k, B, rfl, hk, rfl, hl, nB, st⟩ := hrel
    clear l2 st2
    by_cases hlt : k < n
    · obtain ⟨b', off, rfl, hck⟩ := HC.out k hlt
      have hck' := st.cell hck (by simp)
      have hLt : (L.take k).length = k := by rw [List.length_take, HL.out]; omega
      clear hck
      go_wp2_with fail
      refine (wappend_ok hl (f k) (by rw [hLt]; omega) (by omega)).mono ?_
      rintro e w3 ⟨B3, rfl, q3, l3, n3⟩
      have nB3 := New.of nB st n3
      have s3 := st.grow q3 (New.mem hb nB)
      have hsn : L.take k ++ [f k] = L.take (k + 1) := by
        have h1 := HK.out k hlt
        rw [List.getElem?_eq_some_iff] at h1
        obtain ⟨h1, h2⟩ := h1
        rw [← h2]
        exact take_snoc h1
      rw [hsn] at l3
      have hLt1 : (L.take (k + 1)).length = k + 1 := by rw [List.length_take, HL.out]; omega
      clear q3 n3 hl st nB hsn hck' hLt
      by_cases hsync : k + 1 = kk
      · have hb1 : ((k : Int) + 1 == kk) = true := by simp; omega
        go_wp2_with fail
        refine (wsync_any l3).mono ?_
        rintro e w4 ⟨rfl, q4, l4⟩
        have s4 := s3.grow q4 (by simp [hb])
        rw [hLt1] at l4
        clear hLt1 hb1
        go_wp2_with fail
        go_roundg (n - (k + 1))
        case measure => omega
        case rel => exact ⟨k + 1, B3, rfl, by omega, by go_num, by rw [if_neg (by omega), ← hsync]; exact l4, nB3, s4⟩
      · have hb1 : ((k : Int) + 1 == kk) = false := by simp; omega
        clear hLt1
        go_wp2_with fail
        go_roundg (n - (k + 1))
        case measure => omega
        case rel => exact ⟨k + 1, B3, rfl, by omega, by go_num, by (have : (if k + 1 < kk then 0 else kk) = (if k < kk then 0 else kk) := by split <;> split <;> omega); rw [this]; exact l3, nB3, s3⟩
    · have hkn' : k = n := by omega
      subst hkn'
      rw [if_neg (by omega), List.take_of_length_le (by rw [HL.out]; omega)] at hl
      clear HC HK
      go_wp2_with fail
      refine (wtwin_any hl).mono ?_
      rintro e w3 ⟨t, Bt, rfl, q3, ht, l3, nt⟩
      have htb : t ∉ b :: B.toList := apart_of hl ht
      have hBt : ∀ g, Bt = some g → g ∉ b :: B.toList := fun g hg => apart_of hl (nt g hg)
      have htw : w.heap.size ≤ t := by have := st.size; omega
      have k3 := hl.step q3 (by simp) (by simp)
      have s3 := st.trans q3
      clear q3 hl st nt ht
      go_wp2_with fail
      have hLn := HL.out
      have hka := kept_le (xs := L) (lasts := kk) (k := q) (by omega)
      have hkb := kept_le (xs := L) (lasts := kk) (k := q + 1) (by omega)
      obtain ⟨i, hi, hz0, hz1, hz2⟩ := info_parts Try.info3
      have hcs : (kk + q + 1 < k ∧ (kept L kk q : Int) = kk + q ∧ (kept L kk (q + 1) : Int) = kk + q + 1) ∨ (k ≤ kk + q + 1 ∧ kk + q < k ∧ (kept L kk q : Int) = kk + q ∧ (kept L kk (q + 1) : Int) = k) ∨ (k ≤ kk + q ∧ (kept L kk q : Int) = k ∧ (kept L kk (q + 1) : Int) = k) := by
        unfold kept
        rw [if_neg (by omega), if_neg (by omega)]
        omega
      have hla : (L.take (kept L kk q)).length = kept L kk q := by rw [List.length_take, Nat.min_eq_left hka]
      have hlb : (L.take (kept L kk (q + 1))).length = kept L kk (q + 1) := by rw [List.length_take, Nat.min_eq_left hkb]
      rw [hLn] at hka hkb
      clear hLn
      have HLA := Lib.hid hla
      have HLB := Lib.hid hlb
      have HCS := Lib.hid hcs
      clear hla hlb hcs
      refine (wcrash_any k3 q).mono ?_
      rintro e w4 ⟨rfl, q4, k4⟩
      have l4 := l3.step q4 (by intro h; exact htb (by simp at h; simp [h])) (by intro g hg h; exact hBt g hg (by simp at h; simp [h]))
      have s4 := s3.grow q4 (by simp [hb])
      clear q4 l3 s3 k3
      go_wp2_with fail
      refine (wcrash_any l4 (q + 1)).mono ?_
      rintro e w5 ⟨rfl, q5, l5⟩
      have hbt : b ∉ [t] := by intro h; simp at h; exact htb (by simp [h])
      have hBt' : ∀ g, B = some g → g ∉ [t] := by rintro g rfl h; simp at h; exact htb (by simp [h])
      have k5 := k4.step q5 hbt hBt'
      have s5 := s4.grow q5 (by simp [htw])
      clear q5 l4 s4 k4
      generalize kept L kk q = ka at *
      generalize kept L kk (q + 1) = kb at *
      go_wp2_with fail
      refine (wall_any k5).mono ?_
      rintro e w6 ⟨aa, ca, Ba, rfl, q6, a6, na⟩
      have l6 := l5.step q6 (by simp) (by simp)
      have k6 := k5.step q6 (by simp) (by simp)
      have s6 := s5.trans q6
      have hab : ∀ g, Ba = some g → g ≠ b := by
        rintro g hg rfl
        have h1 := na g hg
        have h2 := k5.lt
        omega
      rw [HLA.out] at a6 ⊢
      clear q6 l5 s5 k5
      go_wp2_with fail
      refine (wall_any l6).mono ?_
      rintro e w7 ⟨ab, cb, Bb, rfl, q7, b7, nb⟩
      have k7 := k6.step q7 (by simp) (by simp)
      have a7 := a6.step q7 (by simp)
      have s7 := s6.trans q7
      rw [HLB.out] at b7 ⊢
      clear q7 l6 s6 k6 a6 nb
      have hL7 := hL.step s7 (by simp)
      have hT : (kk + q + 1 < k ∧ ((ka : Int) != kk + q) = false ∧ ((kb : Int) != kk + q + 1) = false) ∨ (k ≤ kk + q + 1 ∧ kk + q < k ∧ ((ka : Int) != kk + q) = false ∧ ((kb : Int) != k) = false) ∨ (k ≤ kk + q ∧ ((ka : Int) != k) = false ∧ ((kb : Int) != k) = false) := by
        rcases HCS.out with ⟨x1, x2, x3⟩ | ⟨x1, x0, x2, x3⟩ | ⟨x1, x2, x3⟩
        · exact .inl ⟨x1, by rw [x2]; simp, by rw [x3]; simp⟩
        · exact .inr (.inl ⟨x1, x0, by rw [x2]; simp, by rw [x3]; simp⟩)
        · exact .inr (.inr ⟨x1, by rw [x2]; simp, by rw [x3]; simp⟩)
      clear HCS
      rcases hT with ⟨x1, x2, x3⟩ | ⟨x1, x0, x2, x3⟩ | ⟨x1, x2, x3⟩
      all_goals
        go_wp2_with (with_reducible refine Stopped.slice rfl ?_)
        all_goals
          refine Stopped.on ?_
          refine wpList_rlc_hi rfl 54 (.tmp 100) (.tmp 102) rfl 3 i 1 Try.underlying54 hi hz1 (n := k) (xs := ci L) (B := BL) hL7 ka .i64 rfl hka ?_
          intro ao8 c8 r8
          rw [Nat.mul_one, ci, ← List.map_take] at r8
          go_wp2_with fail
          refine (ints_same a7.rd r8 (by omega)).mono ?_
          rintro e w8 ⟨rfl, m8, rfl⟩
          clear r8
          have k8 := k7.drewN m8
          have a8 : Sl (w7.drewN m8) 1 (.slice aa ka ca) ka (ci (L.take ka)) Ba := a7
          have b8 : Sl (w7.drewN m8) 1 (.slice ab kb cb) kb (ci (L.take kb)) Bb := b7
          have s8 := s7.drewN m8
          have hL8 : Rd (w7.drewN m8) 1 (.slice ao k cap) k (ci L) BL := hL7
          clear a7 b7 k7 s7 hL7
          generalize w7.drewN m8 = w8 at *
          go_wp2_with (with_reducible refine Stopped.slice rfl ?_)
          refine Stopped.on ?_
          refine wpList_rlc_hi rfl 54 (.tmp 109) (.tmp 111) rfl 3 i 1 Try.underlying54 hi hz1 (n := k) (xs := ci L) (B := BL) hL8 kb .i64 rfl hkb ?_
          intro ao9 c9 r9
          rw [Nat.mul_one, ci, ← List.map_take] at r9
          go_wp2_with fail
          refine (ints_same b8.rd r9 (by omega)).mono ?_
          rintro e w9 ⟨rfl, m9, rfl⟩
          clear r9 b8 hL8
          have k9 := k8.drewN m9
          have a9 : Sl (w8.drewN m9) 1 (.slice aa ka ca) ka (ci (L.take ka)) Ba := a8
          have s9 := s8.drewN m9
          clear a8 k8 s8
          generalize w8.drewN m9 = w9 at *
          by_cases hz : ka = 0
          · subst hz
            go_wp2_with fail
            refine (wtrim_arg k9 1 0 (by simp)).mono ?_
            rintro e w10 ⟨rfl, rfl⟩
            go_wp2_with fail
            go_ret
            exact ⟨rfl, s9⟩
          · have hzb : ((ka : Int) == 0) = false := by simp; omega
            have hm0 := Int.emod_nonneg r (b := (ka : Int)) (by omega)
            have hm1 := Int.emod_lt_of_pos r (b := (ka : Int)) (by omega)
            have hlt1 : (1 : Int) ≤ ka := by omega
            obtain ⟨mm, hmm⟩ : ∃ mm : Nat, 1 + r % (ka : Int) = mm := ⟨(1 + r % (ka : Int)).toNat, by omega⟩
            have hmk : mm ≤ ka := by omega
            have hm1' : 1 ≤ mm := by omega
            have HM := Lib.hid hmm
            clear hmm
            go_wp2_with fail
            rw [HM.out]
            clear HM hm0 hm1
            refine (wtrim_ok k9 mm (-7) hm1' hmk).mono ?_
            rintro e w10 ⟨B10, rfl, q10, k10, n10⟩
            have a10 := a9.step q10 (by simpa using hab)
            have nB10 := New.of .none s9 (.inr n10)
            have s10 := s9.grow q10 (by simp [hb])
            clear q10 n10 k9 a9 s9
            obtain ⟨C, hC⟩ : ∃ C, C = (-7 : Int) :: (L.take ka).drop mm := ⟨_, rfl⟩
            have hCl : C.length = ka - (mm - 1) := by rw [hC, List.length_cons, List.length_drop, HLA.out]; omega
            rw [← hC] at k10
            have hC0 : ci C = .int .i64 (-7) :: ci ((L.take ka).drop mm) := by rw [hC]; rfl
            have HCl := Lib.hid hCl
            have HC0 := Lib.hid hC0
            clear hC hCl hC0
            go_wp2_with fail
            refine (wall_any k10).mono ?_
            rintro e w11 ⟨ac, cc, Bc, rfl, q11, c11, nc11⟩
            have a11 := a10.step q11 (by simp)
            have k11 := k10.step q11 (by simp) (by simp)
            have s11 := s10.trans q11
            have hcb : ∀ g, Bc = some g → g ≠ b := by
              rintro g hg rfl
              have h1 := nc11 g hg
              have h2 := k10.lt
              omega
            clear q11 a10 k10 s10 nc11
            obtain ⟨nc, hnc⟩ : ∃ nc, nc = ka - (mm - 1) := ⟨_, rfl⟩
            have hnc1 : (nc : Int) = ka - mm + 1 := by omega
            have HCn : Hid (C.length = nc) := by rw [hnc]; exact HCl.out
            rw [← hnc] at k11
            rw [HCn.out] at c11 ⊢
            have hncpos : 0 < nc := by omega
            have e3 : ((nc : Int) == (ka : Int) - mm + 1) = true := by rw [beq_iff_eq]; exact hnc1
            have HN := Lib.hid hnc
            have HN1 := Lib.hid hnc1
            clear hnc hnc1
            go_wp2_with fail
            refine (wcrash_any k11 0).mono ?_
            rintro e w12 ⟨rfl, q12, k12⟩
            have e12 : kept C nc 0 = nc := by unfold kept; simp
            rw [e12, List.take_of_length_le (by rw [HCn.out]; omega)] at k12
            have a12 := a11.step q12 (by simpa using hab)
            have c12 := c11.step q12 (by simpa using hcb)
            have s12 := s11.grow q12 (by simp [hb])
            clear q12 a11 c11 k11 s11 e12
            obtain ⟨gc, oc, cc', hv, rfl, hcc, hcx⟩ := c12.rd.at hncpos
            cases hv
            have hc0 : w12.cell? ⟨gc, oc, none⟩ = some (.int .i64 (-7)) := by
              have := hcx 0 (.int .i64 (-7)) (by rw [HC0.out]; rfl)
              simpa using this
            clear hcx
            obtain ⟨ac1, cc1, r1, r2, r3⟩ := rslice_lo_all (P := Try.prog) 54 3 i 1 Try.underlying54 hi hz1 c12.rd 1 .i64 (by omega)
            obtain ⟨ac2, cc2, r4, r5, r6⟩ := rslice_lo_all (P := Try.prog) 54 3 i 1 Try.underlying54 hi hz1 a12.rd mm .i64 hmk
            have hb1 := k12.lt
            have hb2 := c12.lt gc rfl
            have e1 : IntKind.i64.wrap ((ka : Int) - mm) = ka - mm := IntWalk.i64_in _ (by omega)
            have e2 : IntKind.i64.wrap ((ka : Int) - mm + 1) = ka - mm + 1 := IntWalk.i64_in _ (by omega)
            have e4 : (0 : Int) < nc := by omega
            have hlen : nc - 1 = ka - mm := by have := HN.out; omega
            have hR1 : Rd w12 1 (.slice ac1 (nc - 1) cc1) (ka - mm) (ci ((L.take ka).drop mm)) (some gc) := by
              have := r3 w12 c12.rd
              rw [HC0.out] at this
              rw [← hlen]
              simpa using this
            have hR2 : Rd w12 1 (.slice ac2 (ka - mm) cc2) (ka - mm) (ci ((L.take ka).drop mm)) Ba := by
              have := r6 w12 a12.rd
              rw [Nat.mul_one, ci, ← List.map_drop] at this
              exact this
            clear r3 r6
            rw [hlen] at r1 r2 hR1
            replace r1 : ∀ W, (Instr.sliceAt 54 (.slice (some ⟨gc, oc, none⟩) nc cc) (some (.int .i64 1)) none none).run Try.prog W = .ok (.slice ac1 (ka - mm) cc1) W := r1
            replace r2 : ∀ W, (Instr.slice 54 (.slice (some ⟨gc, oc, none⟩) nc cc) (some (.int .i64 1)) none none).run Try.prog W = .ok (.slice ac1 (ka - mm) cc1) W := r2
            clear hlen
            go_wp2_with fail
            go_region_held3 (fun w' => w'.cell? ⟨gc, oc, none⟩ = some (.int .i64 (-7))) (first | go_keep | exact kx.cell hc0 (by simp)) ((first
              | (go_at_call_of 28 (Value.slice ac1 (ka - mm) cc1); refine (ints_same (w := w12.drew) hR1 hR2 (by omega)).mono ?_; rintro e w13 ⟨rfl, m13, rfl⟩)
              | (go_at_call 29; refine (wall_any (w := w12.drewN (1 + m13)) k12).mono ?_; rintro e w14 ⟨ae, ce, Be, rfl, kx, ky, kz⟩)
              | (go_at_call 28; refine (ints_same2 (w := w14) (xs := C) HCn.out ky.rd (Sl.step (w := w12.drewN (1 + m13)) (m := []) c12 kx (by simp)).rd (by rw [HCn.out]; have := HN.out; omega)).mono ?_; rintro e w15 ⟨rfl, m15, rfl⟩)))
            go_wp2_with fail
            go_ret
            exact ⟨rfl, ((s12.drewN _).trans kx).drewN _⟩
end Go.Proofs.Ytcmihfanlconhaa
