/- The tree's plain laws. Conditions: lengths. -/
import Derived.Test.YtcmihfanlconhabClimb
namespace Go.Proofs.Ytcmihfanlconhab
open Go.RowKit

theorem itUp_last : ∀ (h : Nat) (l : List UInt64), itUp (h + 1) l = upL (itUp h l)
  | 0, _ => rfl
  | h + 1, l => itUp_last h (upL l)
theorem itUp_len : ∀ (h m : Nat) (l : List UInt64), l.length = 2 ^ h * m → (itUp h l).length = m
  | 0, m, l, hl => by simpa [itUp] using hl
  | h + 1, m, l, hl => itUp_len h m (upL l) (by rw [upL_len, hl, Nat.pow_succ, show 2 ^ h * 2 * m = 2 * (2 ^ h * m) by rw [Nat.mul_comm (2 ^ h) 2, Nat.mul_assoc]]; omega)
theorem upL_app (a b : List UInt64) (ha : a.length % 2 = 0) : upL (a ++ b) = upL a ++ upL b := by
  apply List.ext_getElem
  · simp [upL_len]; omega
  · intro j h1 h2
    simp only [upL_len, List.length_append] at h1
    by_cases hj : j < a.length / 2
    · rw [List.getElem_append_left (by rw [upL_len]; exact hj)]
      simp only [upL, upK, List.getElem_map, List.getElem_range]
      simp only [List.getD]
      rw [List.getElem?_append_left (by omega), List.getElem?_append_left (by omega)]
    · rw [List.getElem_append_right (by rw [upL_len]; omega)]
      simp only [upL, upK, List.getElem_map, List.getElem_range, List.length_map, List.length_range]
      simp only [List.getD]
      rw [List.getElem?_append_right (by omega), List.getElem?_append_right (by omega), show 2 * j - a.length = 2 * (j - a.length / 2) by omega, show 2 * j + 1 - a.length = 2 * (j - a.length / 2) + 1 by omega]
theorem itUp_app : ∀ (h : Nat) (a b : List UInt64) (m : Nat), a.length = 2 ^ h * m → itUp h (a ++ b) = itUp h a ++ itUp h b
  | 0, _, _, _, _ => rfl
  | h + 1, a, b, m, ha => by
    have he : a.length = 2 * (2 ^ h * m) := by rw [ha, Nat.pow_succ, Nat.mul_comm (2 ^ h) 2, Nat.mul_assoc]
    simp only [itUp]
    rw [upL_app a b (by omega), itUp_app h (upL a) (upL b) m (by rw [upL_len, he]; omega)]
theorem one_of_len {l : List UInt64} (h : l.length = 1) : l = [l.getD 0 0] := by
  match l, h with
  | [x], _ => rfl
theorem upL_two (x y : UInt64) : upL [x, y] = [two mt x y] := by simp [upL, upK, List.range_succ]
theorem root_halves (h : Nat) (a b : List UInt64) (ha : a.length = 2 ^ h) (hb : b.length = 2 ^ h) : rootN (h + 1) (a ++ b) = two mt (rootN h a) (rootN h b) := by
  unfold rootN
  rw [itUp_last, itUp_app h a b 1 (by omega), one_of_len (itUp_len h 1 a (by omega)), one_of_len (itUp_len h 1 b (by omega))]
  rw [List.singleton_append, upL_two]
  rfl
theorem path0_last : ∀ (h : Nat) (l : List UInt64), (pathL (h + 1) 0 l).getD h 0 = (itUp h l).getD 1 0
  | 0, _ => rfl
  | h + 1, l => by
    rw [show pathL (h + 1 + 1) 0 l = l.getD (0 ^^^ 1) 0 :: pathL (h + 1) (0 / 2) (upL l) from rfl, List.getD_cons_succ]
    exact path0_last h (upL l)
theorem path0_right (h : Nat) (a b : List UInt64) (ha : a.length = 2 ^ h) (hb : b.length = 2 ^ h) : (pathL (h + 1) 0 (a ++ b)).getD h 0 = rootN h b := by
  rw [path0_last, itUp_app h a b 1 (by omega), one_of_len (itUp_len h 1 a (by omega)), one_of_len (itUp_len h 1 b (by omega))]
  rfl

/-- One step of a way. -/
def stepC (x : UInt64) (i : Nat) (p : UInt64) : UInt64 := if i % 2 = 0 then two mt x p else two mt p x
theorem climbK_cons (x : UInt64) (i : Nat) (p : UInt64) (ps : List UInt64) : ∀ k, climbK x i (p :: ps) (k + 1) = climbK (stepC x i p) (i / 2) ps k
  | 0 => by simp [climbK, stepC]
  | k + 1 => by
    rw [climbK, climbK_cons x i p ps k]
    simp only [climbK, List.getD_cons_succ]
    rw [Nat.pow_succ, Nat.mul_comm, ← Nat.div_div_eq_div_mul]
theorem climb_cons (x : UInt64) (i : Nat) (p : UInt64) (ps : List UInt64) : climb x i (p :: ps) = climb (stepC x i p) (i / 2) ps := climbK_cons x i p ps ps.length
theorem upL_set (l : List UInt64) (i : Nat) (x : UInt64) (hi : i < l.length) (h256 : i < 256) : upL (l.set i x) = (upL l).set (i / 2) (stepC x i (l.getD (i ^^^ 1) 0)) := by
  apply List.ext_getElem
  · simp [upL_len]
  · intro j h1 h2
    simp only [upL_len, List.length_set] at h1
    rw [List.getElem_set]
    simp only [upL, upK, List.getElem_map, List.getElem_range, List.getD, List.getElem?_set, List.length_set]
    have hx := xor1 i h256
    by_cases hj : i / 2 = j
    · rw [if_pos hj]
      by_cases hp : i % 2 = 0
      · rw [if_pos hp] at hx
        rw [if_pos (show i = 2 * j by omega), if_neg (show ¬ i = 2 * j + 1 by omega), if_pos hi, hx, show i + 1 = 2 * j + 1 by omega]
        simp [stepC, hp]
      · rw [if_neg hp] at hx
        rw [if_neg (show ¬ i = 2 * j by omega), if_pos (show i = 2 * j + 1 by omega), if_pos hi, hx, show i - 1 = 2 * j by omega]
        simp [stepC, hp]
    · rw [if_neg hj, if_neg (show ¬ i = 2 * j by omega), if_neg (show ¬ i = 2 * j + 1 by omega)]
theorem climb_path : ∀ (h i : Nat) (l : List UInt64) (x : UInt64), l.length = 2 ^ h → i < 2 ^ h → h ≤ 8 → climb x i (pathL h i l) = rootN h (l.set i x)
  | 0, i, l, x, hl, hi, _ => by
    obtain rfl : i = 0 := by simpa using hi
    match l, hl with
    | [y], _ => rfl
  | h + 1, i, l, x, hl, hi, h8 => by
    have hp : 2 ^ (h + 1) = 2 * 2 ^ h := by rw [Nat.pow_succ, Nat.mul_comm]
    have h256 : 2 ^ (h + 1) ≤ 256 := Nat.pow_le_pow_right (n := 2) (by decide) h8
    rw [pathL, climb_cons, climb_path h (i / 2) (upL l) _ (by rw [upL_len]; omega) (by omega) (by omega)]
    unfold rootN
    simp only [itUp]
    rw [upL_set l i x (by omega) (by omega)]
theorem climb_own (h i : Nat) (l : List UInt64) (hl : l.length = 2 ^ h) (hi : i < 2 ^ h) (h8 : h ≤ 8) : climb (l.getD i 0) i (pathL h i l) = rootN h l := by
  rw [climb_path h i l _ hl hi h8]
  congr 1
  apply List.ext_getElem
  · simp
  · intro j h1 h2
    rw [List.getElem_set]
    split
    · subst_vars; simp [List.getD, h2]
    · rfl
end Go.Proofs.Ytcmihfanlconhab
