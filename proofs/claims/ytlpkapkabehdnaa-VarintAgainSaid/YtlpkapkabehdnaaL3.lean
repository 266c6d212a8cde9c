/- The law VarintAgain, walked. -/
import Derived.Test.YtlpkapkabehdnaaAw
import Derived.Test.YtlpkapkabehdnaaP3
import Derived.OpenShut
namespace Go.Proofs.Ytlpkapkabehdnaa
open Go.ChangeShapes Go.WideShapes Go.RowKit
set_option linter.unusedVariables false

theorem again_calls (m : Nat) (K L : Int) (hm : m ≤ 4611686018427387902) (ha : -1 ≤ K) (hal : K ≤ L) (hln : L < m) (hfar : (m : Int) - K < 1073741824) :
    ∃ p : ByteArray, (∀ w, Calls Try.prog 18 #[.int .u64 (m : Int), .int .i64 K] w fun e w' => e = .returned (.tuple #[.string p, .int .i64 0]) ∧ Below w.heap.size w w') ∧
      (∀ w, Calls Try.prog 20 #[.string p, .int .i64 L] w fun e w' => e = .returned (.tuple #[.int .u64 (m : Int), .int .i64 0]) ∧ Below w.heap.size w w') := by
  obtain ⟨p, h1, h2⟩ := again m K L hm ha hal hln hfar
  refine ⟨txt p, fun w => ?_, fun w => ?_⟩
  · have h := Cut_any m K w
    rw [h1] at h
    exact h
  · have h := Tell_any (txt p) L w (by omega)
    rw [byt_txt, h2] at h
    exact h

set_option maxRecDepth 100000 in
theorem again_far (n b h : Nat) (z : Bool) (m c : Nat) (w : World) (hm : n % 4611686018427387902 = m) (hc : b % 1073741824 = c) (hz : z = true ∨ (m : Int) - 1 - c < -1) (hf : 1073741824 ≤ m + 1) :
    Calls Try.prog 6 #[.int .u64 (n : Int), .int .u32 (b : Int), .int .u32 (h : Int), .bool z] w fun e w' => e = .returned (.bool true) ∧ Below w.heap.size w w' := by
  have hm2 : (n : Int) % 4611686018427387902 = (m : Int) := by omega
  have hc2 : (b : Int) % 1073741824 = (c : Int) := by omega
  have hml : m ≤ 4611686018427387901 := by omega
  have hcl : c < 1073741824 := by omega
  have hd1 : decide ((1073741824 : Int) ≤ (m : Int) + 1) = true := by rw [decide_eq_true_eq]; omega
  have hd2 : z = true ∨ decide ((m : Int) - 1 - (c : Int) < -1) = true := by
    rcases hz with hz | hz
    · exact .inl hz
    · right; rw [decide_eq_true_eq]; omega
  clear hm hc hz hf
  rcases hd2 with rfl | hd2
  rotate_left
  rcases z with _ | _
  all_goals
    go_enter Try.func6, Try.ntmps6
    go_wp2_with fail
    refine (awake_any _).mono ?_
    rintro e x0 ⟨rfl, b0⟩
    have B0 := Lib.hid b0
    clear b0
    go_wp2_with fail
    go_ret
    exact ⟨rfl, B0.out⟩

set_option maxRecDepth 100000 in
theorem again_far2 (n b h : Nat) (m c : Nat) (w : World) (hm : n % 4611686018427387902 = m) (hc : b % 1073741824 = c) (hz : -1 ≤ (m : Int) - 1 - c) (hf : 1073741824 ≤ c + 1) :
    Calls Try.prog 6 #[.int .u64 (n : Int), .int .u32 (b : Int), .int .u32 (h : Int), .bool false] w fun e w' => e = .returned (.bool true) ∧ Below w.heap.size w w' := by
  have hm2 : (n : Int) % 4611686018427387902 = (m : Int) := by omega
  have hc2 : (b : Int) % 1073741824 = (c : Int) := by omega
  have hml : m ≤ 4611686018427387901 := by omega
  have hcl : c < 1073741824 := by omega
  obtain ⟨K, hK⟩ : ∃ K : Int, (m : Int) - 1 - (c : Int) = K := ⟨_, rfl⟩
  obtain ⟨D, hD⟩ : ∃ D : Nat, (m : Int) - K = (D : Int) := ⟨c + 1, by omega⟩
  have hKl : -1 ≤ K ∧ K ≤ 4611686018427387901 := by omega
  have hd1 : decide ((1073741824 : Int) ≤ (D : Int)) = true := by rw [decide_eq_true_eq]; omega
  have hd2 : decide (K < -1) = false := by rw [decide_eq_false_iff_not]; omega
  clear hm hc hf hz
  go_enter Try.func6, Try.ntmps6
  go_wp2_with fail
  refine (awake_any _).mono ?_
  rintro e x0 ⟨rfl, b0⟩
  have B0 := Lib.hid b0
  clear b0
  go_wp2_with fail
  go_ret
  exact ⟨rfl, B0.out⟩

set_option maxRecDepth 100000 in
theorem again_near (n b h : Nat) (z : Bool) (m c : Nat) (w : World) (hm : n % 4611686018427387902 = m) (hc : b % 1073741824 = c) (hh : h < 4294967296) (hz : z = true ∨ (m : Int) - 1 - c < -1) (hf : m + 1 < 1073741824) :
    Calls Try.prog 6 #[.int .u64 (n : Int), .int .u32 (b : Int), .int .u32 (h : Int), .bool z] w fun e w' => e = .returned (.bool true) ∧ Below w.heap.size w w' := by
  have hm2 : (n : Int) % 4611686018427387902 = (m : Int) := by omega
  have hc2 : (b : Int) % 1073741824 = (c : Int) := by omega
  have hml : m ≤ 4611686018427387901 := by omega
  have hcl : c < 1073741824 := by omega
  obtain ⟨E, hE⟩ : ∃ E, h % (m + 1) = E := ⟨_, rfl⟩
  have hEl : E < m + 1 := by rw [← hE]; exact Nat.mod_lt _ (by omega)
  have hE2 : (h : Int) % ((m : Int) + 1) = (E : Int) := by rw [← hE]; simp
  obtain ⟨p, hC, hT⟩ := again_calls m (-1) (-1 + E) (by omega) (by omega) (by omega) (by omega) (by omega)
  have HC := Lib.hid hC
  have HT := Lib.hid hT
  have hd1 : decide ((1073741824 : Int) ≤ (m : Int) + 1) = false := by rw [decide_eq_false_iff_not]; omega
  have hd2 : z = true ∨ decide ((m : Int) - 1 - (c : Int) < -1) = true := by
    rcases hz with hz | hz
    · exact .inl hz
    · right; rw [decide_eq_true_eq]; omega
  clear hm hc hE hC hT hz hf
  rcases hd2 with rfl | hd2
  rotate_left
  rcases z with _ | _
  all_goals
    go_enter Try.func6, Try.ntmps6
    go_wp2_with fail
    refine (awake_any _).mono ?_
    rintro e x0 ⟨rfl, b0⟩
    have B0 := Lib.hid b0
    clear b0
    go_wp2_with fail
    refine (HC.out _).mono ?_
    rintro e x1 ⟨rfl, b1⟩
    have B1 := Lib.hid (B0.out.trans (b1.mono B0.out.size))
    clear b1 B0
    go_wp2_with fail
    refine (HT.out _).mono ?_
    rintro e x2 ⟨rfl, b2⟩
    have B2 := Lib.hid (B1.out.trans (b2.mono B1.out.size))
    clear b2 B1
    go_wp2_with fail
    go_ret
    exact ⟨rfl, B2.out⟩

set_option maxRecDepth 100000 in
theorem again_near2 (n b h : Nat) (m c : Nat) (w : World) (hm : n % 4611686018427387902 = m) (hc : b % 1073741824 = c) (hh : h < 4294967296) (hz : -1 ≤ (m : Int) - 1 - c) (hf : c + 1 < 1073741824) :
    Calls Try.prog 6 #[.int .u64 (n : Int), .int .u32 (b : Int), .int .u32 (h : Int), .bool false] w fun e w' => e = .returned (.bool true) ∧ Below w.heap.size w w' := by
  have hm2 : (n : Int) % 4611686018427387902 = (m : Int) := by omega
  have hc2 : (b : Int) % 1073741824 = (c : Int) := by omega
  have hml : m ≤ 4611686018427387901 := by omega
  have hcl : c < 1073741824 := by omega
  obtain ⟨K, hK⟩ : ∃ K : Int, (m : Int) - 1 - (c : Int) = K := ⟨_, rfl⟩
  obtain ⟨D, hD⟩ : ∃ D : Nat, (m : Int) - K = (D : Int) := ⟨c + 1, by omega⟩
  obtain ⟨E, hE⟩ : ∃ E, h % D = E := ⟨_, rfl⟩
  have hEl : E < D := by rw [← hE]; exact Nat.mod_lt _ (by omega)
  have hE2 : (h : Int) % (D : Int) = (E : Int) := by rw [← hE]; simp
  obtain ⟨p, hC, hT⟩ := again_calls m K (K + E) (by omega) (by omega) (by omega) (by omega) (by omega)
  have HC := Lib.hid hC
  have HT := Lib.hid hT
  have hd1 : decide ((1073741824 : Int) ≤ (D : Int)) = false := by rw [decide_eq_false_iff_not]; omega
  have hd2 : decide (K < -1) = false := by rw [decide_eq_false_iff_not]; omega
  have hKl : -1 ≤ K ∧ K ≤ 4611686018427387901 := by omega
  clear hm hc hE hC hT hf hz
  go_enter Try.func6, Try.ntmps6
  go_wp2_with fail
  refine (awake_any _).mono ?_
  rintro e x0 ⟨rfl, b0⟩
  have B0 := Lib.hid b0
  clear b0
  go_wp2_with fail
  refine (HC.out _).mono ?_
  rintro e x1 ⟨rfl, b1⟩
  have B1 := Lib.hid (B0.out.trans (b1.mono B0.out.size))
  clear b1 B0
  go_wp2_with fail
  refine (HT.out _).mono ?_
  rintro e x2 ⟨rfl, b2⟩
  have B2 := Lib.hid (B1.out.trans (b2.mono B1.out.size))
  clear b2 B1
  go_wp2_with fail
  go_ret
  exact ⟨rfl, B2.out⟩

theorem again_walk (a0 a1 a2 : Int) (a3 : Bool) (w0 : (Lit.int .u64 a0).wf = true) (w1 : (Lit.int .u32 a1).wf = true) (w2 : (Lit.int .u32 a2).wf = true) (w : World) :
    Calls Try.prog 6 #[.int .u64 a0, .int .u32 a1, .int .u32 a2, .bool a3] w fun e w' => e = .returned (.bool true) ∧ Below w.heap.size w w' := by
  have h0 := bounds_u64 w0
  have h1 := bounds_u32 w1
  have h2 := bounds_u32 w2
  obtain ⟨n, rfl⟩ := Int.eq_ofNat_of_zero_le h0.1
  obtain ⟨b, rfl⟩ := Int.eq_ofNat_of_zero_le h1.1
  obtain ⟨h, rfl⟩ := Int.eq_ofNat_of_zero_le h2.1
  by_cases hz : a3 = true ∨ ((n % 4611686018427387902 : Nat) : Int) - 1 - ((b % 1073741824 : Nat) : Int) < -1
  · by_cases hf : 1073741824 ≤ n % 4611686018427387902 + 1
    · exact again_far n b h a3 _ _ w rfl rfl hz hf
    · exact again_near n b h a3 _ _ w rfl rfl (by omega) hz (by omega)
  · have hz1 : a3 = false := by
      rcases a3 with _ | _
      · rfl
      · exact absurd (.inl rfl) hz
    subst hz1
    have hz2 : -1 ≤ ((n % 4611686018427387902 : Nat) : Int) - 1 - ((b % 1073741824 : Nat) : Int) := by
      apply Int.not_lt.1
      exact fun h => hz (.inr h)
    by_cases hf : 1073741824 ≤ b % 1073741824 + 1
    · exact again_far2 n b h _ _ w rfl rfl hz2 hf
    · exact again_near2 n b h _ _ w rfl rfl (by omega) hz2 (by omega)

end Go.Proofs.Ytlpkapkabehdnaa
