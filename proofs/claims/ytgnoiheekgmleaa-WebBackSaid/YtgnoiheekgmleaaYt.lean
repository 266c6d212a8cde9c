/- Plain laws of varints: there and back (out of layer 01's P2). -/
import Derived.Test.YtgnoiheekgmleaaY4
namespace Go.Proofs.Ytgnoiheekgmleaa
open Go.RowKit
set_option linter.unusedVariables false

theorem lim_pos (k : Nat) : 0 < lim k := by
  match k with
  | 0 | 1 | 2 => simp [lim]
  | k + 3 => simp [lim]

theorem pow_lim (k : Nat) (hk : k ≤ 3) : 256 ^ (2 ^ k) = 4 * lim k := by
  have hc : k = 0 ∨ k = 1 ∨ k = 2 ∨ k = 3 := by omega
  rcases hc with rfl | rfl | rfl | rfl <;> rfl

theorem num_put (k n : Nat) (hk : k ≤ 3) (hn : n < lim k) : num (put k n) = n + k * lim k := by
  rw [put, num_be, pow_lim k hk]
  apply Nat.mod_eq_of_lt
  have : k * lim k ≤ 3 * lim k := Nat.mul_le_mul_right _ hk
  omega

theorem take_put (k n : Nat) (r : List UInt8) (hk : k ≤ 3) (hn : n < lim k) : takeL (put k n ++ r) = (n, r, 0) := by
  obtain ⟨x, l, h1, hx, h2, hl⟩ := put_eq k n hk hn
  have hnum := num_put k n hk hn
  rw [mark_or _ _ hx] at h2
  rw [h2] at hnum ⊢
  have hb : (UInt8.ofNat (x + k * 64)).toNat / 64 = k := by
    simp only [UInt8.toNat_ofNat']
    omega
  rw [List.cons_append, takeL, hb]
  rw [if_neg (by simp; omega)]
  have e1 : (UInt8.ofNat (x + k * 64) :: (l ++ r)).take (2 ^ k) = UInt8.ofNat (x + k * 64) :: l := by
    rw [← hl, List.take_succ_cons, List.take_left]
  have e2 : (UInt8.ofNat (x + k * 64) :: (l ++ r)).drop (2 ^ k) = r := by
    rw [← hl, List.drop_succ_cons, List.drop_left]
  rw [e1, e2, hnum, Nat.add_mul_mod_self_right, Nat.mod_eq_of_lt hn]


theorem takeL_bad (l : List UInt8) : (takeL l).2.2 = 0 ∨ takeL l = (0, [], 2) := by
  rcases l with _ | ⟨b, t⟩
  · exact .inr rfl
  · by_cases hs : (b :: t).length < 2 ^ (b.toNat / 64)
    · right; simp only [takeL, if_pos hs]
    · left; simp only [takeL, if_neg hs]


end Go.Proofs.Ytgnoiheekgmleaa
