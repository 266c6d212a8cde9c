/- Contracts of the reference's ahead, Code. -/
import Derived.Test.YtkggjcfiomddeaaKg
namespace Go.Proofs.Ytkggjcfiomddeaa
open Go.ChangeShapes Go.WideShapes Go.RowKit
set_option linter.unusedVariables false

def aheadB (a b : Nat) : Bool := Nat.blt (hlen a) (hlen b) || (Nat.beq (hlen a) (hlen b) && Nat.blt a b)
def csum (c : Nat) : Nat → Nat
  | 0 => 0
  | k + 1 => csum c k + (bif aheadB k c then 4096 / 2 ^ hlen k else 0)

theorem csum_code : ∀ c, c < 257 → csum c 257 / 2 ^ (12 - hlen c) = hcode c := by decide +kernel
theorem csum_le (c : Nat) : ∀ k, csum c k ≤ 128 * k
  | 0 => Nat.le_refl _
  | k + 1 => by
    have h := csum_le c k
    have h2 : 4096 / 2 ^ hlen k ≤ 128 := by rcases hlen_cases k with h | h | h | h <;> rw [h] <;> decide
    rw [csum]
    cases aheadB k c
    · simp only [cond_false]
      omega
    · simp only [cond_true]
      omega

theorem ahead_any (a b : Nat) (w : World) (ha : a < 257) (hb : b < 257) :
    Calls Try.prog 61 #[.int .i64 (a : Int), .int .i64 (b : Int)] w fun e w' => e = .returned (.bool (aheadB a b)) ∧ w = w' := by
  have hA := fun w => rLength_any a w ha
  have hB := fun w => rLength_any b w hb
  have hab : ∀ c, (c = true ↔ (hlen a < hlen b ∨ (hlen a = hlen b ∧ a < b))) → aheadB a b = c := by
    intro c hc
    rw [Bool.eq_iff_iff, hc]
    simp [aheadB]
  obtain ⟨n, hn⟩ : ∃ n, hlen a = n := ⟨_, rfl⟩
  obtain ⟨m, hm⟩ : ∃ n, hlen b = n := ⟨_, rfl⟩
  rw [hn] at hA hab
  rw [hm] at hB hab
  have HA := Lib.hid hA
  have HB := Lib.hid hB
  clear hA hB hn hm
  rcases Nat.lt_trichotomy n m with h | h | h
  · have Hab := Lib.hid (hab true (by simp; omega))
    have g1 : decide ((n : Int) < (m : Int)) = true := by rw [decide_eq_true_iff]; omega
    clear hab
    go_enter Try.func61, Try.ntmps61
    go_wp2_with fail
    refine (HA.out _).mono ?_
    rintro e w' ⟨rfl, rfl⟩
    go_wp2_with fail
    refine (HB.out _).mono ?_
    rintro e w' ⟨rfl, rfl⟩
    go_wp2_with fail
    go_ret
    exact ⟨by rw [Hab.out]; rfl, rfl⟩
  · subst h
    have Hab := Lib.hid (hab (decide (a < b)) (by simp))
    clear hab
    go_enter Try.func61, Try.ntmps61
    go_wp2_with fail
    refine (HA.out _).mono ?_
    rintro e w' ⟨rfl, rfl⟩
    go_wp2_with fail
    refine (HB.out _).mono ?_
    rintro e w' ⟨rfl, rfl⟩
    go_wp2_with fail
    refine (HA.out _).mono ?_
    rintro e w' ⟨rfl, rfl⟩
    go_wp2_with fail
    refine (HB.out _).mono ?_
    rintro e w' ⟨rfl, rfl⟩
    go_wp2_with fail
    go_ret
    exact ⟨by rw [Hab.out]; rfl, rfl⟩
  · have Hab := Lib.hid (hab false (by simp; omega))
    have g1 : decide (n < m) = false := by rw [decide_eq_false_iff_not]; omega
    have g2 : ((n : Int) == (m : Int)) = false := by rw [beq_eq_false_iff_ne]; omega
    clear hab
    go_enter Try.func61, Try.ntmps61
    go_wp2_with fail
    refine (HA.out _).mono ?_
    rintro e w' ⟨rfl, rfl⟩
    go_wp2_with fail
    refine (HB.out _).mono ?_
    rintro e w' ⟨rfl, rfl⟩
    go_wp2_with fail
    refine (HA.out _).mono ?_
    rintro e w' ⟨rfl, rfl⟩
    go_wp2_with fail
    refine (HB.out _).mono ?_
    rintro e w' ⟨rfl, rfl⟩
    go_wp2_with fail
    go_ret
    exact ⟨by rw [Hab.out]; rfl, rfl⟩

set_option maxRecDepth 100000 in
theorem rCode_any (c : Nat) (w : World) (hc : c < 257) :
    Calls Try.prog 57 #[.int .i64 (c : Int)] w fun e w' => e = .returned (.int .u16 (hcode c : Nat)) ∧ w = w' := by
  have hcc := csum_code c hc
  have hcode16 : hcode c < 4096 := by
    have h1 := code_lt c hc
    have h2 : 2 ^ hlen c ≤ 2 ^ 12 := Nat.pow_le_pow_right (by omega) (hlen_le c).2
    omega
  have hL := fun w => rLength_any c w hc
  have hll := hlen_le c
  obtain ⟨n, hn⟩ : ∃ n, hlen c = n := ⟨_, rfl⟩
  obtain ⟨d, hd⟩ : ∃ n, hcode c = n := ⟨_, rfl⟩
  rw [hn] at hL hcc hll
  rw [hd] at hcc hcode16
  rw [hd]
  obtain ⟨hll1, hll2⟩ := hll
  have HL := Lib.hid hL
  have Hcc := Lib.hid hcc
  clear hL hcc hn hd
  go_enter Try.func57, Try.ntmps57
  go_wp2_with fail
  go_loop [3, 4] (fun n i => ∃ j m : Nat, j ≤ 257 ∧ i = .int .i64 j ∧ m = csum c j ∧ n = .int .i64 m) (fun _ i => 257 - (intOf i).toNat)
  case atStart => exact ⟨0, 0, by omega, rfl, rfl, rfl⟩
  case round =>
    obtain ⟨j, m, hj, rfl, hm, rfl⟩ := hrel
    have hml := csum_le c j
    rw [← hm] at hml
    by_cases hlt : j < 257
    · have hnext : csum c (j + 1) = m + (bif aheadB j c then 4096 / 2 ^ hlen j else 0) := by rw [csum, hm]
      have hA := fun w => ahead_any j c w hlt hc
      have hB := fun w => rLength_any j w hlt
      have hlj := hlen_le j
      obtain ⟨b, hb⟩ : ∃ b, aheadB j c = b := ⟨_, rfl⟩
      obtain ⟨k, hk⟩ : ∃ k, hlen j = k := ⟨_, rfl⟩
      rw [hb] at hnext hA
      rw [hk] at hnext hB hlj
      obtain ⟨hlj1, hlj2⟩ := hlj
      have HA := Lib.hid hA
      have HB := Lib.hid hB
      clear hA hB hb hk hm
      cases b with
      | false =>
        have Hnext := Lib.hid (show csum c (j + 1) = m from hnext)
        clear hnext
        go_wp2_with fail
        refine (HA.out _).mono ?_
        rintro e w' ⟨rfl, rfl⟩
        go_wp2_with fail
        go_round
        case rel => exact ⟨j + 1, m, by omega, by go_num, Hnext.out.symm, rfl⟩
        case measure => simp [intOf]; omega
      | true =>
        obtain ⟨q, hq⟩ : ∃ q, 4096 / 2 ^ k = q := ⟨_, rfl⟩
        have hnext : csum c (j + 1) = m + 4096 / 2 ^ k := hnext
        rw [hq] at hnext
        have hqi : (4096 : Int) / 2 ^ k = (q : Int) := by
          rw [← hq, Int.natCast_ediv, Int.natCast_pow]
          rfl
        have hql : q ≤ 4096 := by rw [← hq]; exact Nat.div_le_self _ _
        have Hnext := Lib.hid hnext
        clear hnext hq
        go_wp2_with fail
        refine (HA.out _).mono ?_
        rintro e w' ⟨rfl, rfl⟩
        go_wp2_with fail
        refine (HB.out _).mono ?_
        rintro e w' ⟨rfl, rfl⟩
        go_wp2_with fail
        go_round
        case rel => exact ⟨j + 1, m + q, by omega, by go_num, Hnext.out.symm, by go_num⟩
        case measure => simp [intOf]; omega
    · obtain rfl : j = 257 := by omega
      obtain ⟨z, hz⟩ : ∃ z, 12 - n = z := ⟨_, rfl⟩
      have hzi : (12 : Int) - (n : Int) = (z : Int) := by omega
      have hdi : (m : Int) / 2 ^ z = (d : Int) := by
        rw [← Hcc.out, hz, ← hm, Int.natCast_ediv, Int.natCast_pow]
        rfl
      have hzl : z ≤ 12 := by omega
      clear hm hz
      go_wp2_with fail
      refine (HL.out _).mono ?_
      rintro e w' ⟨rfl, rfl⟩
      go_wp2_with fail
      go_ret
      exact ⟨rfl, rfl⟩

end Go.Proofs.Ytkggjcfiomddeaa
