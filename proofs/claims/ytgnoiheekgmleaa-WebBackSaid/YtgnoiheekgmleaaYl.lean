/- Plain facts on bytes and numbers: big-endian bytes of a number, and back. No program in sight. -/
import Derived.WalkKit
import Derived.Test.YtgnoiheekgmleaaIf
namespace Go.Proofs.Ytgnoiheekgmleaa
open Go.RowKit

/-- The k lowest bytes of n, the highest first. -/
def be : Nat → Nat → List UInt8
  | 0, _ => []
  | k + 1, n => be k (n / 256) ++ [UInt8.ofNat (n % 256)]

theorem be_length : ∀ k n, (be k n).length = k
  | 0, _ => rfl
  | k + 1, n => by simp [be, be_length k]

/-- The number whose bytes, the highest first, these are. -/
def num (l : List UInt8) : Nat := l.foldl (fun a b => a * 256 + b.toNat) 0

theorem num_snoc (l : List UInt8) (b : UInt8) : num (l ++ [b]) = num l * 256 + b.toNat := by simp [num]

theorem num_be : ∀ k n, num (be k n) = n % 256 ^ k
  | 0, n => by simp [be, num, Nat.mod_one]
  | k + 1, n => by
    rw [be, num_snoc, num_be k]
    have h : (UInt8.ofNat (n % 256)).toNat = n % 256 := by simp
    rw [h, Nat.pow_succ, Nat.mul_comm (256 ^ k) 256, Nat.mod_mul]
    omega

theorem num_lt (l : List UInt8) : num l < 256 ^ l.length := by
  refine snoc_rec (P := fun l => num l < 256 ^ l.length) (by simp [num]) ?_ l
  intro l b ih
  · rw [num_snoc, List.length_append, List.length_singleton, Nat.pow_succ]
    have := b.toNat_lt
    omega

theorem be_num (l : List UInt8) : be l.length (num l) = l := by
  refine snoc_rec (P := fun l => be l.length (num l) = l) rfl ?_ l
  intro l b ih
  · rw [num_snoc, List.length_append, List.length_singleton, be]
    have hb := b.toNat_lt
    have h1 : (num l * 256 + b.toNat) / 256 = num l := by omega
    have h2 : (num l * 256 + b.toNat) % 256 = b.toNat := by omega
    rw [h1, h2, ih]
    simp

/-- All bytes of a greater number: one more ahead. -/
theorem be_cons : ∀ k n, be (k + 1) n = UInt8.ofNat (n / 256 ^ k % 256) :: be k n
  | 0, n => by simp [be]
  | k + 1, n => by
    rw [be, be_cons k (n / 256), be, Nat.div_div_eq_div_mul, Nat.pow_succ, Nat.mul_comm 256]
    rfl

/-- The cells of a slice of bytes. -/
def u8s (l : List UInt8) : Array Value := (l.map fun b => Value.int .u8 (b.toNat : Int)).toArray

/-- The first number that does not fit in 2^k bytes. -/
def lim : Nat → Nat
  | 0 => 64
  | 1 => 16384
  | 2 => 1073741824
  | _ => 4611686018427387904

/-- For which k a number fits first. -/
def lst (n : Nat) : Nat := if n < 64 then 0 else if n < 16384 then 1 else if n < 1073741824 then 2 else 3

theorem lst_le (n : Nat) : lst n ≤ 3 := by unfold lst; split <;> (try split) <;> (try split) <;> omega

theorem lst_stop (n k : Nat) (h : k ≤ lst n) (hf : n < lim k) : k = lst n := by
  have h3 := lst_le n
  have hc : k = 0 ∨ k = 1 ∨ k = 2 ∨ k = 3 := by omega
  have h1 : lst n ≤ k := by
    unfold lst
    rcases hc with rfl | rfl | rfl | rfl <;> simp only [lim] at hf
    · rw [if_pos hf]; omega
    · split <;> omega
    · split <;> (try split) <;> omega
    · split <;> (try split) <;> (try split) <;> omega
  omega

theorem lst_go (n k : Nat) (h : k ≤ lst n) (h3 : k < 3) (hf : ¬ n < lim k) : k + 1 ≤ lst n := by
  have hc : k = 0 ∨ k = 1 ∨ k = 2 := by omega
  unfold lst at *
  rcases hc with rfl | rfl | rfl <;> simp only [lim] at hf <;> split <;> (try split) <;> (try split) <;> omega

theorem lst_lim (n : Nat) (h : n < 4611686018427387904) : n < lim (lst n) := by
  unfold lst
  split
  · simpa [lim]
  · split
    · simpa [lim]
    · split <;> simpa [lim]

/-- A number's bytes by the mark k: 2^k of them, the mark in the two highest bits. -/
def put (k n : Nat) : List UInt8 := be (2 ^ k) (n + k * lim k)


theorem put_length (k n : Nat) : (put k n).length = 2 ^ k := by simp [put, be_length]

/-- The mark laid onto the first byte. -/
theorem mark_or (x k : Nat) (hx : x < 64) : x ||| k * 64 = x + k * 64 := by
  rw [Nat.or_comm, Nat.add_comm]
  exact nat_join 6 (k * 64) x (by omega) (by omega)

theorem be_add : ∀ j a b, be j (a + 256 ^ j * b) = be j a
  | 0, _, _ => rfl
  | j + 1, a, b => by
    rw [be, be, Nat.pow_succ, Nat.mul_comm (256 ^ j), Nat.mul_assoc, Nat.add_mul_div_left _ _ (by omega), be_add j, Nat.add_mul_mod_self_left]

theorem mark_be (j m n : Nat) (hn : n < 64 * 256 ^ j) (hm : m ≤ 3) : be (j + 1) (n + m * (64 * 256 ^ j)) = UInt8.ofNat (n / 256 ^ j + m * 64) :: be j n ∧ n / 256 ^ j < 64 := by
  have hx : n / 256 ^ j < 64 := by
    rw [Nat.div_lt_iff_lt_mul (Nat.pow_pos (by omega))]
    exact hn
  refine ⟨?_, hx⟩
  rw [show m * (64 * 256 ^ j) = 256 ^ j * (m * 64) by rw [Nat.mul_comm (256 ^ j), Nat.mul_assoc]]
  rw [be_cons, be_add, Nat.add_mul_div_left _ _ (Nat.pow_pos (by omega)), Nat.mod_eq_of_lt (by omega)]

theorem put_eq (k n : Nat) (hk : k ≤ 3) (hn : n < lim k) : ∃ x l, be (2 ^ k) n = UInt8.ofNat x :: l ∧ x < 64 ∧ put k n = UInt8.ofNat (x ||| k * 64) :: l ∧ l.length + 1 = 2 ^ k := by
  have key : ∀ j, lim k = 64 * 256 ^ j → 2 ^ k = j + 1 → ∃ x l, be (2 ^ k) n = UInt8.ofNat x :: l ∧ x < 64 ∧ put k n = UInt8.ofNat (x ||| k * 64) :: l ∧ l.length + 1 = 2 ^ k := by
    intro j h1 h2
    rw [h1] at hn
    have g0 := mark_be j 0 n hn (by omega)
    have g1 := mark_be j k n hn hk
    simp only [Nat.zero_mul, Nat.add_zero] at g0
    refine ⟨n / 256 ^ j, be j n, ?_, g0.2, ?_, by rw [be_length, h2]⟩
    · rw [h2, g0.1]
    · rw [mark_or _ _ g0.2, put, h1, h2, g1.1]
  have hc : k = 0 ∨ k = 1 ∨ k = 2 ∨ k = 3 := by omega
  rcases hc with rfl | rfl | rfl | rfl
  · exact key 0 rfl rfl
  · exact key 1 rfl rfl
  · exact key 3 rfl rfl
  · exact key 7 rfl rfl

/-- Bytes behind a number. -/
def numF (a : Nat) (l : List UInt8) : Nat := l.foldl (fun a b => a * 256 + b.toNat) a

theorem numF_eq (l : List UInt8) : ∀ a, numF a l = a * 256 ^ l.length + num l := by
  refine snoc_rec (P := fun l => ∀ a, numF a l = a * 256 ^ l.length + num l) (by intro a; simp [numF, num]) ?_ l
  intro l b ih a
  rw [num_snoc]
  have h : numF a (l ++ [b]) = numF a l * 256 + b.toNat := by simp [numF]
  rw [h, ih, List.length_append, List.length_singleton, Nat.pow_succ, Nat.add_mul, Nat.mul_assoc, Nat.add_assoc]

theorem num_cons (b : UInt8) (l : List UInt8) : num (b :: l) = b.toNat * 256 ^ l.length + num l := by
  rw [← numF_eq]
  simp [num, numF]

theorem numF_snoc (a : Nat) (l : List UInt8) (b : UInt8) : numF a (l ++ [b]) = numF a l * 256 + b.toNat := by simp [numF]

theorem numF_lt (a : Nat) (l : List UInt8) (c : Nat) (h : a < c) : numF a l < c * 256 ^ l.length := by
  rw [numF_eq]
  have h1 := num_lt l
  have h2 : (a + 1) * 256 ^ l.length ≤ c * 256 ^ l.length := Nat.mul_le_mul_right _ h
  rw [Nat.add_mul, Nat.one_mul] at h2
  omega

theorem or_byte (a c : Nat) (h : c < 256) : a * 256 ||| c = a * 256 + c := nat_join 8 (a * 256) c (by omega) (by omega)

theorem lim_pow (k : Nat) (hk : k ≤ 3) : lim k = 64 * 256 ^ (2 ^ k - 1) := by
  have hc : k = 0 ∨ k = 1 ∨ k = 2 ∨ k = 3 := by omega
  rcases hc with rfl | rfl | rfl | rfl <;> rfl

/-- The number in a varint's bytes. -/
theorem num_mark (b : UInt8) (l : List UInt8) (k : Nat) (hk : k ≤ 3) (hl : l.length = 2 ^ k - 1) : numF (b.toNat % 64) l = num (b :: l) % lim k := by
  have h := numF_lt (b.toNat % 64) l 64 (Nat.mod_lt _ (by omega))
  rw [lim_pow k hk, ← hl, num_cons, numF_eq] at *
  have e : b.toNat = 64 * (b.toNat / 64) + b.toNat % 64 := (Nat.div_add_mod _ _).symm
  have e2 : b.toNat * 256 ^ l.length = 64 * 256 ^ l.length * (b.toNat / 64) + b.toNat % 64 * 256 ^ l.length := by
    conv => lhs; rw [e, Nat.add_mul]
    congr 1
    rw [Nat.mul_assoc, Nat.mul_assoc, Nat.mul_comm (b.toNat / 64)]
  rw [e2, Nat.add_assoc, Nat.mul_add_mod, Nat.mod_eq_of_lt h]

theorem byt_extract (s : ByteArray) (a b : Nat) : byt (s.extract a b) = ((byt s).take b).drop a := by
  simp only [byt, ByteArray.data_extract, Array.toList_extract, List.extract_eq_take_drop]
  rw [List.drop_take]
end Go.Proofs.Ytgnoiheekgmleaa
