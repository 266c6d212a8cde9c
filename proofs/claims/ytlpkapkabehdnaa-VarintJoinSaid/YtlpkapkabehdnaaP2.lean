/- Plain laws of varints: there and back. -/
import Derived.Test.YtlpkapkabehdnaaW6
namespace Go.Proofs.Ytlpkapkabehdnaa
open Go.RowKit
set_option linter.unusedVariables false

theorem lim_pos (k : Nat) : 0 < lim k := by
  match k with
  | 0 | 1 | 2 => simp [lim]
  | k + 3 => simp [lim]

theorem pow_lim (k : Nat) (hk : k ≤ 3) : 256 ^ (2 ^ k) = 4 * lim k := by
  have hc : k = 0 ∨ k = 1 ∨ k = 2 ∨ k = 3 := by omega
  rcases hc with rfl | rfl | rfl | rfl <;> rfl

theorem num_put (k n : Nat) (hk : k ≤ 3) (hn : n < lim k) : num (put k n) = n + k * lim k := by
  rw [put, num_be, pow_lim k hk]
  apply Nat.mod_eq_of_lt
  have : k * lim k ≤ 3 * lim k := Nat.mul_le_mul_right _ hk
  omega

theorem take_put (k n : Nat) (r : List UInt8) (hk : k ≤ 3) (hn : n < lim k) : takeL (put k n ++ r) = (n, r, 0) := by
  obtain ⟨x, l, h1, hx, h2, hl⟩ := put_eq k n hk hn
  have hnum := num_put k n hk hn
  rw [mark_or _ _ hx] at h2
  rw [h2] at hnum ⊢
  have hb : (UInt8.ofNat (x + k * 64)).toNat / 64 = k := by
    simp only [UInt8.toNat_ofNat']
    omega
  rw [List.cons_append, takeL, hb]
  rw [if_neg (by simp; omega)]
  have e1 : (UInt8.ofNat (x + k * 64) :: (l ++ r)).take (2 ^ k) = UInt8.ofNat (x + k * 64) :: l := by
    rw [← hl, List.take_succ_cons, List.take_left]
  have e2 : (UInt8.ofNat (x + k * 64) :: (l ++ r)).drop (2 ^ k) = r := by
    rw [← hl, List.drop_succ_cons, List.drop_left]
  rw [e1, e2, hnum, Nat.add_mul_mod_self_right, Nat.mod_eq_of_lt hn]

theorem wide_pow (n c : Nat) (hc : c ≤ 3) : wideF n ((2 ^ c : Nat) : Int) = if n < lim c then (put c n, 0) else ([], 3) := by
  have h : c = 0 ∨ c = 1 ∨ c = 2 ∨ c = 3 := by omega
  rcases h with rfl | rfl | rfl | rfl <;> rfl

theorem lim_mono (a b : Nat) (h : a ≤ b) (hb : b ≤ 3) : lim a ≤ lim b := by
  rw [lim_pow a (by omega), lim_pow b hb]
  apply Nat.mul_le_mul_left
  apply Nat.pow_le_pow_right (by omega)
  have := Nat.pow_le_pow_right (n := 2) (by omega) h
  omega

theorem lst_iff (n c : Nat) (hn : n < 4611686018427387904) (hc : c ≤ 3) : n < lim c ↔ 2 ^ lst n ≤ 2 ^ c := by
  rw [Nat.pow_le_pow_iff_right (by omega)]
  constructor
  · intro h
    apply Nat.le_of_not_lt
    intro h2
    have := lst_stop n c (by omega) h
    omega
  · intro h
    exact Nat.lt_of_lt_of_le (lst_lim n hn) (lim_mono _ _ h hc)

/-- What is taken off was laid in as many bytes. -/
theorem take_inv (l r : List UInt8) (x : Nat) (h : takeL l = (x, r, 0)) : ∃ p, wideF x ((l.length - r.length : Nat) : Int) = (p, 0) ∧ p ++ r = l ∧ r.length < l.length := by
  rcases l with _ | ⟨b, t⟩
  · simp [takeL] at h
  · have hb := b.toNat_lt
    obtain ⟨k, hk⟩ : ∃ k, b.toNat / 64 = k := ⟨_, rfl⟩
    have hk3 : k ≤ 3 := by omega
    simp only [takeL, hk] at h
    by_cases hs : (b :: t).length < 2 ^ k
    · rw [if_pos hs] at h; simp at h
    · rw [if_neg hs] at h
      simp only [Prod.mk.injEq, and_true] at h
      obtain ⟨hx, hr⟩ := h
      have hp : 0 < 2 ^ k := Nat.pow_pos (by omega)
      have hlen : (b :: t).length - r.length = 2 ^ k := by rw [← hr, List.length_drop]; omega
      have hxl : x < lim k := by rw [← hx]; exact Nat.mod_lt _ (lim_pos k)
      obtain ⟨m, hm⟩ : ∃ m, 2 ^ k = m + 1 := ⟨2 ^ k - 1, by omega⟩
      have htk : (b :: t).take (2 ^ k) = b :: t.take m := by rw [hm, List.take_succ_cons]
      have htl : (t.take m).length = m := by
        rw [List.length_take]
        simp only [List.length_cons] at hs
        omega
      refine ⟨put k x, ?_, ?_, by omega⟩
      · rw [hlen, wide_pow x k hk3, if_pos hxl]
      · have hq : num (b :: t.take m) = x + k * lim k := by
          have h1 := num_mark b (t.take m) k hk3 (by omega)
          have h2 := num_cons b (t.take m)
          rw [htk] at hx
          rw [hx] at h1
          rw [numF_eq] at h1
          rw [h2, ← h1, lim_pow k hk3, show 2 ^ k - 1 = (t.take m).length by omega]
          have e : b.toNat = 64 * k + b.toNat % 64 := by omega
          conv => lhs; rw [e]
          rw [Nat.add_mul, ← Nat.mul_assoc, Nat.mul_comm 64 k, Nat.mul_assoc]
          omega
        have hbe := be_num (b :: t.take m)
        rw [hq, List.length_cons, htl, ← hm] at hbe
        rw [put, hbe, ← htk, ← hr, List.take_append_drop]

theorem takeL_bad (l : List UInt8) : (takeL l).2.2 = 0 ∨ takeL l = (0, [], 2) := by
  rcases l with _ | ⟨b, t⟩
  · exact .inr rfl
  · by_cases hs : (b :: t).length < 2 ^ (b.toNat / 64)
    · right; simp only [takeL, if_pos hs]
    · left; simp only [takeL, if_neg hs]

theorem wideK_len (n : Nat) (b : Int) : ∀ j, (wideK n b j).1.length ≤ 8
  | 0 => by simp [wideK]
  | j + 1 => by
    unfold wideK
    split
    · split
      · rw [put_length]; exact pow_le8 _ (by omega)
      · simp
    · exact wideK_len n b j

theorem wide_len (n : Nat) (b : Int) : (wideF n b).1.length ≤ 8 := wideK_len n b 4

end Go.Proofs.Ytlpkapkabehdnaa
