/- Contracts of varint's Tell and the reference's Tell. -/
import Derived.Test.YtngnfijpfghodaaV4
namespace Go.Proofs.Ytngnfijpfghodaa
open Go.ChangeShapes Go.WideShapes Go.RowKit
set_option linter.unusedVariables false

theorem wrap256 (k p : Nat) (h4 : k < 5) (hp : 256 ^ k = p) : IntKind.u64.wrap ((2 : Int) ^ (8 * k)) = (p : Int) := by
  have hc : k = 0 ∨ k = 1 ∨ k = 2 ∨ k = 3 ∨ k = 4 := by omega
  subst hp
  rcases hc with rfl | rfl | rfl | rfl | rfl <;> decide

/-- The lowest i bits struck. -/
theorem and_high (x i : Nat) (hx : x < 2 ^ 64) (hi : i ≤ 64) : x &&& (2 ^ 64 - 1 - (2 ^ i - 1)) = x - x % 2 ^ i := by
  have h1 : x - x % 2 ^ i = (x >>> i) <<< i := by
    rw [Nat.shiftLeft_eq, Nat.shiftRight_eq_div_pow]
    have := Nat.div_add_mod x (2 ^ i)
    rw [Nat.mul_comm] at this
    omega
  have hp : 2 ^ i ≤ 2 ^ 64 := Nat.pow_le_pow_right (by omega) hi
  have hp0 : 0 < 2 ^ i := Nat.pow_pos (by omega)
  rw [h1, show 2 ^ 64 - 1 - (2 ^ i - 1) = 2 ^ 64 - ((2 ^ i - 1) + 1) by omega]
  apply Nat.eq_of_testBit_eq
  intro j
  rw [Nat.testBit_and, Nat.testBit_two_pow_sub_succ (by omega), Nat.testBit_shiftLeft, Nat.testBit_shiftRight, Nat.testBit_two_pow_sub_one]
  by_cases hj : j < i
  · have : ¬ i ≤ j := by omega
    simp [hj, this]
  · have e : i + (j - i) = j := by omega
    rw [e]
    by_cases hj2 : j < 64
    · have : i ≤ j := by omega
      simp [hj, hj2, this]
    · have hxj : x.testBit j = false := Nat.testBit_lt_two_pow (Nat.lt_of_lt_of_le hx (Nat.pow_le_pow_right (by omega) (by omega)))
      simp [hxj]

/-- Which number is next. -/
def nextF (a : Int) : Nat := (max a (-1) + 1).toNat

/-- What Tell answers, in numbers: of a window w, its lowest bytes and the next number. -/
def tellN (w low next : Nat) : Nat :=
  if next - next % w + low + w / 2 ≤ next ∧ next - next % w + low + w ≤ 4611686018427387903 then next - next % w + low + w
  else if next + w / 2 < next - next % w + low ∧ w ≤ next - next % w + low then next - next % w + low - w
  else next - next % w + low

def tellF (l : List UInt8) (a : Int) : Nat × Int :=
  if l.length < 1 ∨ 4 < l.length then (0, 5) else if 4611686018427387903 ≤ a then (0, 3) else (tellN (256 ^ l.length) (num l) (nextF a), 0)

theorem tellN_cases (w low next N : Nat) (hN : next - next % w + low = N) :
    (tellN w low next = N + w ∧ N + w / 2 ≤ next ∧ N + w ≤ 4611686018427387903) ∨
    (tellN w low next = N - w ∧ ¬ (N + w / 2 ≤ next ∧ N + w ≤ 4611686018427387903) ∧ next + w / 2 < N ∧ w ≤ N) ∨
    (tellN w low next = N ∧ ¬ (N + w / 2 ≤ next ∧ N + w ≤ 4611686018427387903) ∧ ¬ (next + w / 2 < N ∧ w ≤ N)) := by
  unfold tellN
  rw [hN]
  by_cases h1 : N + w / 2 ≤ next ∧ N + w ≤ 4611686018427387903
  · rw [if_pos h1]; exact .inl ⟨rfl, h1⟩
  · rw [if_neg h1]
    by_cases h2 : next + w / 2 < N ∧ w ≤ N
    · rw [if_pos h2]; exact .inr (.inl ⟨rfl, h1, h2⟩)
    · rw [if_neg h2]; exact .inr (.inr ⟨rfl, h1, h2⟩)

theorem andNot_win (m n p : Nat) (hp : 256 ^ n = p) (hn : n ≤ 4) (hm : m < 18446744073709551616) : bits BinOp.andNot IntKind.u64 (m : Int) ((p : Int) - 1) = ((m - m % p : Nat) : Int) := by
  have hp4 : p ≤ 4294967296 := by rw [← hp]; exact Nat.pow_le_pow_right (n := 256) (j := 4) (by omega) hn
  have hp0 : 0 < p := by rw [← hp]; exact Nat.pow_pos (by omega)
  have h2 : p = 2 ^ (8 * n) := by rw [← hp, Nat.pow_mul]
  rw [show (p : Int) - 1 = ((p - 1 : Nat) : Int) by omega, u64_andNot_nat _ _ hm (by omega)]
  have h := and_high m (8 * n) hm (by omega)
  rw [← h2] at h
  rw [← h]

theorem or_win (b q n p : Nat) (hp : 256 ^ n = p) (hb : b % p = 0) (hq : q < p) (h : b + q < 18446744073709551616) : bits BinOp.or IntKind.u64 (b : Int) (q : Int) = ((b + q : Nat) : Int) := by
  have h2 : p = 2 ^ (8 * n) := by rw [← hp, Nat.pow_mul]
  rw [u64_or_nat _ _ (by omega) (by omega)]
  rw [h2] at hb hq
  rw [nat_join _ _ _ hb hq]

theorem ret_tell {a b c : Int} (h : a = b) : Ending.returned (.tuple #[.int .u64 a, .int .i64 c]) = .returned (.tuple #[.int .u64 b, .int .i64 c]) := by rw [h]

theorem base_mod (m p : Nat) : (m - m % p) % p = 0 := by
  have h := Nat.div_add_mod m p
  rw [show m - m % p = p * (m / p) by omega]
  exact Nat.mul_mod_right _ _

theorem tell_no1 (s : ByteArray) (a : Int) (w : World) (h : s.size < 1 ∨ 4 < s.size) :
    Calls Try.prog 34 #[.string s, .int .i64 a] w fun e w' => e = .returned (.tuple #[.int .u64 0, .int .i64 5]) ∧ w = w' := by
  rcases h with h | h
  all_goals
    go_enter Try.func34, Try.ntmps34
    go_wp2
    go_ret2
    exact ⟨rfl, rfl⟩

theorem tell_no2 (s : ByteArray) (a : Int) (w : World) (h1 : 1 ≤ s.size) (h4 : s.size ≤ 4) (ha : 4611686018427387903 ≤ a) :
    Calls Try.prog 34 #[.string s, .int .i64 a] w fun e w' => e = .returned (.tuple #[.int .u64 0, .int .i64 3]) ∧ w = w' := by
  go_enter Try.func34, Try.ntmps34
  go_wp2
  go_ret2
  exact ⟨rfl, rfl⟩

theorem tell_ok (s : ByteArray) (l : List UInt8) (n : Nat) (a : Int) (w : World) (hl : byt s = l) (hn : l.length = n) (h1 : 1 ≤ n) (h4 : n ≤ 4) (ha : a < 4611686018427387903) (ha0 : -9223372036854775808 ≤ a) :
    Calls Try.prog 34 #[.string s, .int .i64 a] w fun e w' => e = .returned (.tuple #[.int .u64 (tellN (256 ^ n) (num l) (nextF a) : Nat), .int .i64 0]) ∧ Below w.heap.size w w' := by
  have hs : s.size = n := by rw [← byt_length, hl, hn]
  obtain ⟨w1, cap, hc1, hc2, hc3, hc4, hc5⟩ := conv_bytes l n w hn
  rw [← hl, txt_byt] at hc1
  have Hl := Lib.hid hl
  have Hn := Lib.hid hn
  have Hc4 := Lib.hid hc4
  have Hc3 := Lib.hid hc3
  clear hl hn hc3 hc4 hc5
  go_enter Try.func34, Try.ntmps34
  go_wp2
  go_loop [6, 27] (fun v i => ∃ j q : Nat, j ≤ n ∧ i = .int .i64 j ∧ q = num (l.take j) ∧ v = .int .u64 q) (fun _ i => n - (intOf i).toNat)
  case atStart => exact ⟨0, 0, by omega, rfl, by simp [num], rfl⟩
  case round =>
    obtain ⟨j, q, hj, rfl, hq, rfl⟩ := hrel
    have hqb : q < 256 ^ j := by
      have h := num_lt (l.take j)
      rw [List.length_take, Nat.min_eq_left (by rw [Hn.out]; exact hj), ← hq] at h
      exact h
    by_cases hlt : j < n
    · have hjl : j < l.length := by rw [Hn.out]; exact hlt
      have hcell := Hc4.out j hjl
      obtain ⟨c, hc⟩ : ∃ c, l[j].toNat = c := ⟨_, rfl⟩
      have hc8 : c < 256 := by rw [← hc]; exact l[j].toNat_lt
      rw [hc] at hcell
      have hab : q < 16777216 := by
        have h2 : 256 ^ j ≤ 256 ^ 3 := Nat.pow_le_pow_right (by omega) (by omega)
        omega
      have hnext : q * 256 + c = num (l.take (j + 1)) := by
        rw [hq, ← hc, ← num_snoc, List.take_succ_eq_append_getElem hjl]
      have Hnext := Lib.hid hnext
      have hor : bits BinOp.or IntKind.u64 ((q : Int) * 256) (c : Int) = ((q * 256 + c : Nat) : Int) := by
        rw [show (q : Int) * 256 = ((q * 256 : Nat) : Int) by omega, u64_or_nat _ _ (by omega) (by omega), or_byte _ _ hc8]
      rw [Int.natCast_add, Int.natCast_mul] at hor
      clear hnext hc hq hqb
      go_wp2
      go_round
      case rel => exact ⟨j + 1, q * 256 + c, by omega, by go_num, Hnext.out, by go_num⟩
      case measure => simp [intOf]; omega
    · obtain rfl : j = n := by omega
      have hqn : q = num l := by rw [hq, List.take_of_length_le (by rw [Hn.out]; exact Nat.le_refl _)]
      obtain ⟨p, hp⟩ : ∃ p, 256 ^ j = p := ⟨_, rfl⟩
      have hpw : IntKind.u64.wrap ((2 : Int) ^ (8 * j)) = (p : Int) := wrap256 j p (by omega) hp
      have hp4 : p ≤ 4294967296 := by rw [← hp]; exact Nat.pow_le_pow_right (n := 256) (j := 4) (by omega) h4
      obtain ⟨m, hm⟩ : ∃ m, nextF a = m := ⟨_, rfl⟩
      have hmb : (a < -1 ∧ m = 0) ∨ (-1 ≤ a ∧ a + 1 = (m : Int)) := by unfold nextF at hm; omega
      have hml : m ≤ 4611686018427387903 := by omega
      have han := andNot_win m j p hp h4 (by omega)
      obtain ⟨B, hB⟩ : ∃ B, m - m % p = B := ⟨_, rfl⟩
      have hBm : B ≤ m := by omega
      have hp0 : 0 < p := by rw [← hp]; exact Nat.pow_pos (by omega)
      have hBp : m < B + p := by have := Nat.mod_lt m hp0; omega
      have hor := or_win B q j p hp (by rw [← hB]; exact base_mod m p) (by rw [← hp]; exact hqb) (by rw [hp] at hqb; omega)
      rw [hB] at han
      obtain ⟨N, hN⟩ : ∃ N, B + q = N := ⟨_, rfl⟩
      rw [hN] at hor
      have hc := tellN_cases p q m N (by rw [hB, hN])
      rw [hp] at hqb
      have hNl : N < 9223372036854775808 := by omega
      have Hc := Lib.hid hc
      have Hm := Lib.hid hm
      have Hp := Lib.hid hp
      have Hqn := Lib.hid hqn
      clear hq hqn hm hp hc hB hN
      rcases hmb with ⟨hm1, rfl⟩ | ⟨hm1, hm2⟩
      · obtain rfl : B = 0 := by omega
        rw [show ((0 : Nat) : Int) = 0 from rfl] at han hor
        go_wp2
        all_goals
          go_ret2
          exact ⟨by rw [Hm.out, Hp.out, ← Hqn.out]; exact ret_tell (by have := Hc.out; omega), Hc3.out⟩
      · go_wp2
        all_goals
          go_ret2
          exact ⟨by rw [Hm.out, Hp.out, ← Hqn.out]; exact ret_tell (by have := Hc.out; omega), Hc3.out⟩

theorem Tell_any (s : ByteArray) (a : Int) (w : World) (ha0 : -9223372036854775808 ≤ a) :
    Calls Try.prog 34 #[.string s, .int .i64 a] w fun e w' => e = .returned (.tuple #[.int .u64 ((tellF (byt s) a).1 : Nat), .int .i64 (tellF (byt s) a).2]) ∧ Below w.heap.size w w' := by
  have hl := byt_length s
  unfold tellF
  by_cases h : (byt s).length < 1 ∨ 4 < (byt s).length
  · rw [if_pos h]
    exact (tell_no1 s a w (by omega)).mono fun e w' ⟨he, hw⟩ => ⟨he, hw ▸ Below.refl _ _⟩
  · rw [if_neg h]
    by_cases h2 : 4611686018427387903 ≤ a
    · rw [if_pos h2]
      exact (tell_no2 s a w (by omega) (by omega) h2).mono fun e w' ⟨he, hw⟩ => ⟨he, hw ▸ Below.refl _ _⟩
    · rw [if_neg h2]
      exact tell_ok s _ _ a w rfl rfl (by omega) (by omega) (by omega) ha0

end Go.Proofs.Ytngnfijpfghodaa
