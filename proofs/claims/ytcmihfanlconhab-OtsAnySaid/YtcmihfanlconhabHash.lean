/- The digests: what the hash functions come to, the document's and the program's. Conditions: none. -/
import Derived.Test.YtcmihfanlconhabSl
import Derived.Test.YtcmihfanlconhabProg
import Derived.Laws.BitsLemmas
import Derived.Deep.LoopGhost
import Derived.LoopN
import Derived.Lib.ConvBytes
import Derived.Lib.Hide
namespace Go.Proofs.Ytcmihfanlconhab
open Go.RowKit

/-- A number of 64 bits, as a value. -/
@[reducible] def u (x : UInt64) : Value := .int .u64 (x.toNat : Int)
def mx1 (x : UInt64) : UInt64 := (x ^^^ (x >>> 32)) * 15485907386658061715
def mix (a b : UInt64) : UInt64 := mx1 (mx1 (a ^^^ (b * 11400714819323198485))) ^^^ (mx1 (mx1 (a ^^^ (b * 11400714819323198485))) >>> 32)

theorem bits_xor_nat (k : IntKind) (j : Nat) (hj : j ≤ k.bits) (hk : ∀ n : Int, 0 ≤ n → n < 2 ^ j → k.wrap n = n) (a b : Nat) (ha : a < 2 ^ j) (hb : b < 2 ^ j) :
    bits .xor k a b = ((a ^^^ b : Nat) : Int) := by
  have hp : 2 ^ j ≤ 2 ^ k.bits := Nat.pow_le_pow_right (by decide) hj
  have ha' : a % 2 ^ k.bits = a := Nat.mod_eq_of_lt (Nat.lt_of_lt_of_le ha hp)
  have hb' : b % 2 ^ k.bits = b := Nat.mod_eq_of_lt (Nat.lt_of_lt_of_le hb hp)
  have cast : ∀ n : Nat, n < 2 ^ j → ((n : Nat) : Int) < 2 ^ j := fun n h => by exact_mod_cast h
  simp only [bits, BitVec.ofInt_natCast, BitVec.toNat_xor, BitVec.toNat_ofNat, ha', hb']
  exact hk _ (Int.natCast_nonneg _) (cast _ (Nat.xor_lt_two_pow ha hb))
theorem xorE (a b : UInt64) : bits .xor .u64 (a.toNat : Int) (b.toNat : Int) = ((a ^^^ b).toNat : Int) := by
  rw [UInt64.toNat_xor]
  exact bits_xor_nat .u64 64 (by decide) (fun n h0 h1 => by rw [IntKind.wrap_u64]; omega) a.toNat b.toNat a.toNat_lt b.toNat_lt
theorem mulE1 (a : UInt64) : IntKind.u64.wrap ((a.toNat : Int) * 11400714819323198485) = ((a * 11400714819323198485).toNat : Int) := by
  rw [UInt64.toNat_mul]
  simp only [IntKind.wrap_u64]
  rw [show (11400714819323198485 : UInt64).toNat = 11400714819323198485 from rfl]
  omega
theorem mulE2 (a : UInt64) : IntKind.u64.wrap ((a.toNat : Int) * 15485907386658061715) = ((a * 15485907386658061715).toNat : Int) := by
  rw [UInt64.toNat_mul]
  simp only [IntKind.wrap_u64]
  rw [show (15485907386658061715 : UInt64).toNat = 15485907386658061715 from rfl]
  omega
theorem shrE (a : UInt64) : HDiv.hDiv (a.toNat : Int) (4294967296 : Int) = ((a >>> 32).toNat : Int) := by
  rw [UInt64.toNat_shiftRight]
  rw [show (32 : UInt64).toNat % 64 = 32 from rfl, Nat.shiftRight_eq_div_pow]
  omega

set_option maxHeartbeats 400000 in
theorem rmix_any (a b : UInt64) (w : World) : Calls Try.prog 73 #[u a, u b] w fun e w' => e = .returned (u (mix a b)) ∧ w = w' := by
  unfold u
  go_enter Try.func73, Try.ntmps73
  go_wp2
  go_ret
  refine ⟨?_, rfl⟩
  simp only [mulE1, xorE, shrE, mulE2]
  rfl

set_option maxHeartbeats 400000 in
theorem mix_any (a b : UInt64) (w : World) : Calls Try.prog 75 #[u a, u b] w fun e w' => e = .returned (u (mix a b)) ∧ w = w' := by
  unfold u
  go_enter Try.func75, Try.ntmps75
  go_wp2_with fail
  refine wp_loop_rounds 3 ?_
  repeat any_goals (rw [rounds_succ]; go_wp2_with fail)
  go_ret
  refine ⟨?_, rfl⟩
  simp only [mulE1, xorE, shrE, mulE2]
  rfl

/-- Bytes, digests, as cells. -/
def cb (l : List UInt8) : List Value := l.map fun b => .int .u8 (b.toNat : Int)
def cu (l : List UInt64) : List Value := l.map u
def foldB (h : UInt64) (l : List UInt8) : UInt64 := l.foldl (fun h b => mix h b.toUInt64) h
def sumT (tag l : List UInt8) : UInt64 := mix (foldB (mix (foldB 0 tag) 256) l) (UInt64.ofNat l.length)
def two (tag : List UInt8) (a b : UInt64) : UInt64 := mix (mix (sumT tag []) a) b
def chainN (s : UInt64) : Nat → UInt64 → UInt64
  | 0, x => x
  | k + 1, x => mix s (chainN s k x)

theorem foldB_snoc (h : UInt64) (l : List UInt8) (b : UInt8) : foldB h (l ++ [b]) = mix (foldB h l) b.toUInt64 := by simp [foldB]
theorem fold_snoc (h : UInt64) (l : List UInt64) (b : UInt64) : (l ++ [b]).foldl mix h = mix (l.foldl mix h) b := by simp
theorem take_snoc8 {l : List UInt8} {k : Nat} (h : k < l.length) : l.take (k + 1) = l.take k ++ [l[k]] := List.take_succ_eq_append_getElem h
theorem take_snoc64 {l : List UInt64} {k : Nat} (h : k < l.length) : l.take (k + 1) = l.take k ++ [l[k]] := List.take_succ_eq_append_getElem h
theorem u_byte (b : UInt8) : Value.int .u64 (b.toNat : Int) = u b.toUInt64 := by simp [u]
theorem u_nat (n : Nat) (h : n < 18446744073709551616) : Value.int .u64 (n : Int) = u (UInt64.ofNat n) := by
  unfold u
  rw [UInt64.toNat_ofNat_of_lt' h]

set_option maxHeartbeats 400000 in
theorem rowb_any {w : World} (h : UInt64) {ao : Option Addr} {n cap : Nat} {l : List UInt8} {B : Option Nat} (hl : Rd w 1 (.slice ao n cap) n (cb l) B) :
    Calls Try.prog 76 #[u h, .slice ao n cap] w fun e w' => e = .returned (u (foldB h l)) ∧ w = w' := by
  have hln : l.length = n := by have := hl.1; simpa [cb] using this
  have hm : n ≤ 9223372036854775807 := by obtain ⟨_, _, _, _, h1, h2, _⟩ := hl; unfold maxLen at h2; omega
  go_enter Try.func76, Try.ntmps76
  go_wp2_with fail
  go_loop [0, 9] (fun s0 s9 => ∃ k : Nat, k ≤ n ∧ s0 = u (foldB h (l.take k)) ∧ s9 = .int .i64 k) (fun _ s9 => n - (intOf s9).toNat)
  case atStart => exact ⟨0, Nat.zero_le _, rfl, rfl⟩
  case round =>
    obtain ⟨k, hk, rfl, rfl⟩ := hrel
    by_cases hlt : k < n
    · obtain ⟨g1, o1, cap1, hv1, _, _, hc1⟩ := hl.at (by omega)
      cases hv1
      have d1 := hc1 k (.int .u8 ((l[k]'(by omega)).toNat : Int)) (by simp [cb, show k < l.length by omega])
      have hsn := foldB_snoc h (l.take k) (l[k]'(by omega))
      rw [← take_snoc8 (by omega)] at hsn
      have HS : Hid (foldB h (l.take (k + 1)) = mix (foldB h (l.take k)) (l[k]'(by omega)).toUInt64) := hsn
      have hb0 : (0 : Int) ≤ (l[k]'(by omega)).toNat := by omega
      have hb1 : ((l[k]'(by omega)).toNat : Int) ≤ 255 := by have := (l[k]'(by omega)).toNat_lt; omega
      have HU : Hid (Value.int .u64 ((l[k]'(by omega)).toNat : Int) = u (l[k]'(by omega)).toUInt64) := u_byte _
      generalize (l[k]'(by omega)) = x at *
      generalize foldB h (l.take k) = hh at *
      clear hsn hc1 hl hln
      go_wp2_with fail
      rw [HU.out]
      refine (mix_any _ _ _).mono ?_
      rintro e w1 ⟨rfl, rfl⟩
      go_wp2_with fail
      go_round
      case rel => exact ⟨k + 1, by omega, by rw [HS.out], by go_num⟩
      case measure => simp [intOf]; omega
    · have hkn : k = n := by omega
      subst hkn
      rw [List.take_of_length_le (by omega)]
      clear hl hln
      go_wp2_with fail
      go_ret
      exact ⟨rfl, rfl⟩

set_option maxHeartbeats 400000 in
theorem rowd_any {w : World} (h : UInt64) {ao : Option Addr} {n cap : Nat} {l : List UInt64} {B : Option Nat} (hl : Rd w 1 (.slice ao n cap) n (cu l) B) :
    Calls Try.prog 53 #[u h, .slice ao n cap] w fun e w' => e = .returned (u (l.foldl mix h)) ∧ w = w' := by
  have hln : l.length = n := by have := hl.1; simpa [cu] using this
  have hm : n ≤ 9223372036854775807 := by obtain ⟨_, _, _, _, h1, h2, _⟩ := hl; unfold maxLen at h2; omega
  go_enter Try.func53, Try.ntmps53
  go_wp2_with fail
  go_loop [0, 9] (fun s0 s9 => ∃ k : Nat, k ≤ n ∧ s0 = u ((l.take k).foldl mix h) ∧ s9 = .int .i64 k) (fun _ s9 => n - (intOf s9).toNat)
  case atStart => exact ⟨0, Nat.zero_le _, rfl, rfl⟩
  case round =>
    obtain ⟨k, hk, rfl, rfl⟩ := hrel
    by_cases hlt : k < n
    · obtain ⟨g1, o1, cap1, hv1, _, _, hc1⟩ := hl.at (by omega)
      cases hv1
      have d1 := hc1 k (u (l[k]'(by omega))) (by simp [cu, show k < l.length by omega])
      have hsn := fold_snoc h (l.take k) (l[k]'(by omega))
      rw [← take_snoc64 (by omega)] at hsn
      have HS : Hid ((l.take (k + 1)).foldl mix h = mix ((l.take k).foldl mix h) (l[k]'(by omega))) := hsn
      generalize (l[k]'(by omega)) = x at *
      generalize (l.take k).foldl mix h = hh at *
      clear hsn hc1 hl hln
      go_wp2_with fail
      refine (mix_any _ _ _).mono ?_
      rintro e w1 ⟨rfl, rfl⟩
      go_wp2_with fail
      go_round
      case rel => exact ⟨k + 1, by omega, by rw [HS.out], by go_num⟩
      case measure => simp [intOf]; omega
    · have hkn : k = n := by omega
      subst hkn
      rw [List.take_of_length_le (by omega)]
      clear hl hln
      go_wp2_with fail
      go_ret
      exact ⟨rfl, rfl⟩

theorem step_bytes (w : World) (e : TypeId) (s : ByteArray) : Step [] w (Lib.bytesWorld w e s) :=
  ⟨rfl, rfl, rfl, by rw [Lib.bytesWorld_size]; omega, fun k hk _ => Lib.bytesWorld_at_old w e s k hk⟩
theorem rd_bytes (w : World) (s : ByteArray) (hs : s.size ≤ maxLen) : Rd (Lib.bytesWorld w 5 s) 1 (.slice (some ⟨w.heap.size, 0, none⟩) s.size (grownCap w s.size 0 5)) s.size (cb s.data.toList) (some w.heap.size) := by
  refine ⟨by simp [cb], _, _, rfl, grownCap_ge _ _ _ _, grownCap_le_maxLen _ _ _ _ hs, fun _ => ⟨_, _, rfl, rfl, fun j x hx => ?_⟩⟩
  have hj : j < s.size := by
    have := (List.getElem?_eq_some_iff.1 hx).1
    simpa [cb] using this
  rw [Nat.zero_add, Lib.bytesWorld_cell _ _ _ _ hj]
  have hj' : j < s.data.size := hj
  simp [cb] at hx
  obtain ⟨y, hy, rfl⟩ := hx
  have hy' : s.data.toList[j]? = some y := by simpa using hy
  simp [List.getD, hy']
theorem conv_bytes (w : World) (s : ByteArray) : (convert 9 121 (.string s)).run Try.prog w = .ok (.slice (some ⟨w.heap.size, 0, none⟩) s.size (grownCap w s.size 0 5)) (Lib.bytesWorld w 5 s) :=
  Lib.run_convert_string_bytes w 9 121 5 s Try.underlying9 Try.underlying121 Try.underlying5

set_option maxHeartbeats 400000 in
theorem sum_any {w : World} (tag : ByteArray) (ht : tag.size ≤ maxLen) {ao : Option Addr} {n cap : Nat} {l : List UInt8} {B : Option Nat} (hl : Rd w 1 (.slice ao n cap) n (cb l) B) :
    Calls Try.prog 54 #[.string tag, .slice ao n cap] w fun e w' => e = .returned (u (sumT tag.data.toList l)) ∧ Step [] w w' := by
  have hln : l.length = n := by have := hl.1; simpa [cb] using this
  have hm : n ≤ 9223372036854775807 := by obtain ⟨_, _, _, _, h1, h2, _⟩ := hl; unfold maxLen at h2; omega
  have hc := fun W => conv_bytes W tag
  have hr := rd_bytes w tag ht
  have hst := step_bytes w 5 tag
  have hl2 := hl.step hst (by simp)
  have HLN := Lib.hid hln
  clear hln hl
  go_enter Try.func54, Try.ntmps54
  go_wp2_with fail
  generalize Lib.bytesWorld w 5 tag = w1 at *
  generalize grownCap w tag.size 0 5 = c1 at *
  have h0 : Value.int .u64 0 = u 0 := rfl
  have h256 : Value.int .u64 256 = u 256 := rfl
  refine (rowb_any 0 hr).mono ?_
  rintro e w2 ⟨rfl, rfl⟩
  go_wp2_with fail
  refine (mix_any _ _ _).mono ?_
  rintro e w2 ⟨rfl, rfl⟩
  go_wp2_with fail
  refine (rowb_any _ hl2).mono ?_
  rintro e w2 ⟨rfl, rfl⟩
  go_wp2_with fail
  rw [u_nat n (by omega)]
  refine (mix_any _ _ _).mono ?_
  rintro e w2 ⟨rfl, rfl⟩
  go_wp2_with fail
  go_ret
  refine ⟨?_, hst⟩
  unfold sumT
  rw [HLN.out]
  rfl

theorem rd_nil (w : World) : Rd w 1 (.slice none 0 0) 0 (cb []) none := (Sl.nil w 1).rd

set_option maxHeartbeats 400000 in
theorem two_any {w : World} (tag : ByteArray) (ht : tag.size ≤ maxLen) (a b : UInt64) :
    Calls Try.prog 26 #[.string tag, u a, u b] w fun e w' => e = .returned (u (two tag.data.toList a b)) ∧ Step [] w w' := by
  go_enter Try.func26, Try.ntmps26
  go_wp2_with fail
  refine (sum_any tag ht (rd_nil _)).mono ?_
  rintro e w1 ⟨rfl, s1⟩
  go_wp2_with fail
  refine (rowd_any (l := [a, b]) _ (Sl.one w1 1 #[u a, u b] 36 2 rfl (by decide)).rd).mono ?_
  rintro e w2 ⟨rfl, rfl⟩
  go_wp2_with fail
  go_ret
  exact ⟨rfl, s1.alloc _⟩

/-- How often a chain goes on. -/
def steps (n : Int) : Nat := if n < 0 then 0 else min n.toNat 255

set_option maxRecDepth 100000 in
set_option maxHeartbeats 800000 in
theorem chain_core {w : World} (tag : ByteArray) (ht : tag.size ≤ maxLen) (x s : UInt64) (hs : sumT tag.data.toList [] = s) (n : Int) (m : Nat) (hm : m ≤ 255) (hc : (if (255 : Int) < (if n < 0 then 0 else n) then 255 else if n < 0 then 0 else n) = (m : Int)) :
    Calls Try.prog 62 #[.string tag, u x, .int .i64 n] w fun e w' => e = .returned (u (chainN s m x)) ∧ Step [] w w' := by
  have hcs : (n < 0 ∧ m ≤ 0) ∨ (0 ≤ n ∧ n ≤ 255 ∧ n = m) ∨ (255 < n ∧ 255 ≤ m) := by
    revert hc
    split <;> split <;> omega
  clear hc
  have HS0 := Lib.hid hs
  clear hs
  rcases hcs with ⟨h1, h2⟩ | ⟨h1, h2, rfl⟩ | ⟨h1, h2⟩
  · go_enter Try.func62, Try.ntmps62
    go_wp2_with fail
    refine (sum_any tag ht (rd_nil _)).mono ?_
    rintro e w1 ⟨rfl, s1⟩
    rw [HS0.out]
    go_wp2_with fail
    go_loop [1, 13] (fun s1 s13 => ∃ k : Nat, k ≤ m ∧ s1 = u (chainN s k x) ∧ s13 = .int .i64 k) (fun _ s13 => m - (intOf s13).toNat)
    case atStart => exact ⟨0, Nat.zero_le _, rfl, rfl⟩
    case round =>
      obtain ⟨k, hk, rfl, rfl⟩ := hrel
      by_cases hlt : k < m
      · exfalso; omega
      · obtain rfl : k = m := by omega
        go_wp2_with fail
        go_ret
        exact ⟨rfl, s1⟩
  · go_enter Try.func62, Try.ntmps62
    go_wp2_with fail
    refine (sum_any tag ht (rd_nil _)).mono ?_
    rintro e w1 ⟨rfl, s1⟩
    rw [HS0.out]
    go_wp2_with fail
    go_loop [1, 13] (fun s1 s13 => ∃ k : Nat, k ≤ m ∧ s1 = u (chainN s k x) ∧ s13 = .int .i64 k) (fun _ s13 => m - (intOf s13).toNat)
    case atStart => exact ⟨0, Nat.zero_le _, rfl, rfl⟩
    case round =>
      obtain ⟨k, hk, rfl, rfl⟩ := hrel
      by_cases hlt : k < m
      · have HS : Hid (chainN s (k + 1) x = mix s (chainN s k x)) := rfl
        generalize chainN s k x = y at *
        go_wp2_with fail
        refine (mix_any _ _ _).mono ?_
        rintro e w2 ⟨rfl, rfl⟩
        go_wp2_with fail
        go_round
        case rel => exact ⟨k + 1, by omega, by rw [HS.out], by go_num⟩
        case measure => simp [intOf]; omega
      · obtain rfl : k = m := by omega
        go_wp2_with fail
        go_ret
        exact ⟨rfl, s1⟩
  · go_enter Try.func62, Try.ntmps62
    go_wp2_with fail
    refine (sum_any tag ht (rd_nil _)).mono ?_
    rintro e w1 ⟨rfl, s1⟩
    rw [HS0.out]
    go_wp2_with fail
    go_loop [1, 13] (fun s1 s13 => ∃ k : Nat, k ≤ m ∧ s1 = u (chainN s k x) ∧ s13 = .int .i64 k) (fun _ s13 => m - (intOf s13).toNat)
    case atStart => exact ⟨0, Nat.zero_le _, rfl, rfl⟩
    case round =>
      obtain ⟨k, hk, rfl, rfl⟩ := hrel
      by_cases hlt : k < m
      · have HS : Hid (chainN s (k + 1) x = mix s (chainN s k x)) := rfl
        generalize chainN s k x = y at *
        go_wp2_with fail
        refine (mix_any _ _ _).mono ?_
        rintro e w2 ⟨rfl, rfl⟩
        go_wp2_with fail
        go_round
        case rel => exact ⟨k + 1, by omega, by rw [HS.out], by go_num⟩
        case measure => simp [intOf]; omega
      · obtain rfl : k = m := by omega
        go_wp2_with fail
        go_ret
        exact ⟨rfl, s1⟩
theorem chain_any {w : World} (tag : ByteArray) (ht : tag.size ≤ maxLen) (x : UInt64) (n : Int) :
    Calls Try.prog 62 #[.string tag, u x, .int .i64 n] w fun e w' => e = .returned (u (chainN (sumT tag.data.toList []) (steps n) x)) ∧ Step [] w w' := by
  refine chain_core tag ht x _ rfl n (steps n) (by unfold steps; split <;> omega) ?_
  unfold steps
  split <;> split <;> omega

theorem u_at (tag : ByteArray) (k : Nat) (h : k < tag.size) (h' : k < tag.data.toList.length) : Value.int .u64 (IntKind.u64.wrap ((tag[k]'h).toNat : Int)) = u (tag.data.toList[k]'h').toUInt64 := by
  have e : tag.data.toList[k]'h' = tag[k]'h := Array.getElem_toList _
  rw [e, IntKind.wrap_u64, ← u_byte]
  have := (tag[k]'h).toNat_lt
  congr 1
  omega

/-- The document's. -/
theorem rsum_any {w : World} (tag : ByteArray) (ht : tag.size ≤ maxLen) {ao : Option Addr} {n cap : Nat} {l : List UInt8} {B : Option Nat} (hl : Rd w 1 (.slice ao n cap) n (cb l) B) :
    Calls Try.prog 74 #[.string tag, .slice ao n cap] w fun e w' => e = .returned (u (sumT tag.data.toList l)) ∧ w = w' := by
  have hln : l.length = n := by have := hl.1; simpa [cb] using this
  have hm : n ≤ 9223372036854775807 := by obtain ⟨_, _, _, _, h1, h2, _⟩ := hl; unfold maxLen at h2; omega
  unfold maxLen at ht
  have HLN := Lib.hid hln
  clear hln
  go_enter Try.func74, Try.ntmps74
  go_wp2_with fail
  go_loop [5, 7] (fun s5 s7 => ∃ k : Nat, k ≤ tag.size ∧ s5 = u (foldB 0 (tag.data.toList.take k)) ∧ s7 = .int .i64 k) (fun _ s7 => tag.size - (intOf s7).toNat)
  case atStart => exact ⟨0, Nat.zero_le _, rfl, rfl⟩
  case round =>
    obtain ⟨k, hk, rfl, rfl⟩ := hrel
    by_cases hlt : k < tag.size
    · have hlt' : k < tag.data.toList.length := by simpa using hlt
      have hsn := foldB_snoc 0 (tag.data.toList.take k) (tag.data.toList[k])
      rw [← take_snoc8 hlt'] at hsn
      have HS : Hid (foldB 0 (tag.data.toList.take (k + 1)) = mix (foldB 0 (tag.data.toList.take k)) (tag.data.toList[k]).toUInt64) := hsn
      have HU : Hid (Value.int .u64 (IntKind.u64.wrap ((tag[k]'hlt).toNat : Int)) = u (tag.data.toList[k]).toUInt64) := u_at tag k hlt hlt'
      clear hsn
      generalize foldB 0 (tag.data.toList.take k) = hh at *
      go_wp2_with fail
      rw [HU.out]
      refine (rmix_any _ _ _).mono ?_
      rintro e w1 ⟨rfl, rfl⟩
      go_wp2_with fail
      go_round
      case rel => exact ⟨k + 1, by omega, by rw [HS.out]; simp, by go_num⟩
      case measure => simp [intOf]; omega
    · have hkt : k = tag.size := by omega
      have hfull : tag.data.toList.take k = tag.data.toList := List.take_of_length_le (by simp; omega)
      rw [hfull]
      clear hkt hfull
      have HH : Hid (sumT tag.data.toList l = mix (foldB (mix (foldB 0 tag.data.toList) 256) l) (UInt64.ofNat l.length)) := rfl
      generalize foldB 0 tag.data.toList = h1 at *
      have h256 : Value.int .u64 256 = u 256 := rfl
      go_wp2_with fail
      refine (rmix_any _ _ _).mono ?_
      rintro e w1 ⟨rfl, rfl⟩
      generalize mix h1 256 = h2 at *
      clear h256
      go_wp2_with fail
      go_loop [5, 6, 8] (fun s5 s6 s8 => ∃ k : Nat, k ≤ n ∧ s5 = u (foldB h2 (l.take k)) ∧ s6 = .int .u64 k ∧ s8 = .int .i64 k) (fun _ _ s8 => n - (intOf s8).toNat)
      case atStart => exact ⟨0, Nat.zero_le _, rfl, rfl, rfl⟩
      case round =>
        obtain ⟨k, hk, rfl, rfl, rfl⟩ := hrel
        by_cases hlt : k < n
        · have hlt' : k < l.length := by rw [HLN.out]; exact hlt
          obtain ⟨g1, o1, cap1, hv1, _, _, hc1⟩ := hl.at (by omega)
          cases hv1
          have d1 := hc1 k (.int .u8 ((l[k]).toNat : Int)) (by simp [cb, hlt'])
          have hsn := foldB_snoc h2 (l.take k) (l[k])
          rw [← take_snoc8 hlt'] at hsn
          have HS : Hid (foldB h2 (l.take (k + 1)) = mix (foldB h2 (l.take k)) (l[k]).toUInt64) := hsn
          have hb0 : (0 : Int) ≤ (l[k]).toNat := by omega
          have hb1 : ((l[k]).toNat : Int) ≤ 255 := by have := (l[k]).toNat_lt; omega
          have HU : Hid (Value.int .u64 ((l[k]).toNat : Int) = u (l[k]).toUInt64) := u_byte _
          generalize l[k] = x at *
          generalize foldB h2 (l.take k) = hh at *
          clear hsn hc1 hl
          go_wp2_with fail
          rw [HU.out]
          refine (rmix_any _ _ _).mono ?_
          rintro e w1 ⟨rfl, rfl⟩
          go_wp2_with fail
          go_round
          case rel => exact ⟨k + 1, by omega, by rw [HS.out], by go_num, by go_num⟩
          case measure => simp [intOf]; omega
        · have hfull : l.take k = l := List.take_of_length_le (by rw [HLN.out]; omega)
          rw [hfull]
          clear hfull hl
          have HK : Hid (l.length = k) := by have := HLN.out; unfold Hid; omega
          go_wp2_with fail
          rw [u_nat k (by omega)]
          refine (rmix_any _ _ _).mono ?_
          rintro e w1 ⟨rfl, rfl⟩
          go_wp2_with fail
          go_ret
          refine ⟨?_, rfl⟩
          rw [HH.out, HK.out]
          rfl

theorem rtwo_any {w : World} (tag : ByteArray) (ht : tag.size ≤ maxLen) (a b : UInt64) :
    Calls Try.prog 52 #[.string tag, u a, u b] w fun e w' => e = .returned (u (two tag.data.toList a b)) ∧ w = w' := by
  go_enter Try.func52, Try.ntmps52
  go_wp2_with fail
  refine (rsum_any tag ht (rd_nil _)).mono ?_
  rintro e w1 ⟨rfl, rfl⟩
  go_wp2_with fail
  refine (rmix_any _ _ _).mono ?_
  rintro e w1 ⟨rfl, rfl⟩
  go_wp2_with fail
  refine (rmix_any _ _ _).mono ?_
  rintro e w1 ⟨rfl, rfl⟩
  go_wp2_with fail
  go_ret
  exact ⟨rfl, rfl⟩

set_option maxRecDepth 100000 in
set_option maxHeartbeats 800000 in
theorem rchain_core {w : World} (tag : ByteArray) (ht : tag.size ≤ maxLen) (x s : UInt64) (hs : sumT tag.data.toList [] = s) (n : Int) (m : Nat) (hm : m ≤ 255) (hcs : (n < 0 ∧ m ≤ 0) ∨ (0 ≤ n ∧ n ≤ 255 ∧ n = m) ∨ (255 < n ∧ 255 ≤ m)) :
    Calls Try.prog 65 #[.string tag, u x, .int .i64 n] w fun e w' => e = .returned (u (chainN s m x)) ∧ w = w' := by
  have HS0 := Lib.hid hs
  clear hs
  rcases hcs with ⟨h1, h2⟩ | ⟨h1, h2, rfl⟩ | ⟨h1, h2⟩
  · go_enter Try.func65, Try.ntmps65
    go_wp2_with fail
    refine (rsum_any tag ht (rd_nil _)).mono ?_
    rintro e w1 ⟨rfl, rfl⟩
    rw [HS0.out]
    go_wp2_with fail
    go_loop [1, 8] (fun s1 s13 => ∃ k : Nat, k ≤ m ∧ s1 = u (chainN s k x) ∧ s13 = .int .i64 k) (fun _ s13 => m - (intOf s13).toNat)
    case atStart => exact ⟨0, Nat.zero_le _, rfl, rfl⟩
    case round =>
      obtain ⟨k, hk, rfl, rfl⟩ := hrel
      obtain rfl : k = m := by omega
      go_wp2_with fail
      go_ret
      exact ⟨rfl, rfl⟩
  · go_enter Try.func65, Try.ntmps65
    go_wp2_with fail
    refine (rsum_any tag ht (rd_nil _)).mono ?_
    rintro e w1 ⟨rfl, rfl⟩
    rw [HS0.out]
    go_wp2_with fail
    go_loop [1, 8] (fun s1 s13 => ∃ k : Nat, k ≤ m ∧ s1 = u (chainN s k x) ∧ s13 = .int .i64 k) (fun _ s13 => m - (intOf s13).toNat)
    case atStart => exact ⟨0, Nat.zero_le _, rfl, rfl⟩
    case round =>
      obtain ⟨k, hk, rfl, rfl⟩ := hrel
      by_cases hlt : k < m
      · have HS : Hid (chainN s (k + 1) x = mix s (chainN s k x)) := rfl
        generalize chainN s k x = y at *
        go_wp2_with fail
        refine (rmix_any _ _ _).mono ?_
        rintro e w2 ⟨rfl, rfl⟩
        go_wp2_with fail
        go_round
        case rel => exact ⟨k + 1, by omega, by rw [HS.out], by go_num⟩
        case measure => simp [intOf]; omega
      · obtain rfl : k = m := by omega
        go_wp2_with fail
        go_ret
        exact ⟨rfl, rfl⟩
  · go_enter Try.func65, Try.ntmps65
    go_wp2_with fail
    refine (rsum_any tag ht (rd_nil _)).mono ?_
    rintro e w1 ⟨rfl, rfl⟩
    rw [HS0.out]
    go_wp2_with fail
    go_loop [1, 8] (fun s1 s13 => ∃ k : Nat, k ≤ m ∧ s1 = u (chainN s k x) ∧ s13 = .int .i64 k) (fun _ s13 => m - (intOf s13).toNat)
    case atStart => exact ⟨0, Nat.zero_le _, rfl, rfl⟩
    case round =>
      obtain ⟨k, hk, rfl, rfl⟩ := hrel
      by_cases hlt : k < m
      · have HS : Hid (chainN s (k + 1) x = mix s (chainN s k x)) := rfl
        generalize chainN s k x = y at *
        go_wp2_with fail
        refine (rmix_any _ _ _).mono ?_
        rintro e w2 ⟨rfl, rfl⟩
        go_wp2_with fail
        go_round
        case rel => exact ⟨k + 1, by omega, by rw [HS.out], by go_num⟩
        case measure => simp [intOf]; omega
      · obtain rfl : k = m := by omega
        go_wp2_with fail
        go_ret
        exact ⟨rfl, rfl⟩

theorem rchain_any {w : World} (tag : ByteArray) (ht : tag.size ≤ maxLen) (x : UInt64) (n : Int) :
    Calls Try.prog 65 #[.string tag, u x, .int .i64 n] w fun e w' => e = .returned (u (chainN (sumT tag.data.toList []) (steps n) x)) ∧ w = w' := by
  refine rchain_core tag ht x _ rfl n (steps n) (by unfold steps; split <;> omega) ?_
  unfold steps
  split <;> omega
end Go.Proofs.Ytcmihfanlconhab
