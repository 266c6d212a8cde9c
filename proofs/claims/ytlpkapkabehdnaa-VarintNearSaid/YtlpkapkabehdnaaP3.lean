/- Plain laws: a number that is cut short is told again; what is told is the nearest. -/
import Derived.Test.YtlpkapkabehdnaaP2
namespace Go.Proofs.Ytlpkapkabehdnaa
open Go.RowKit
set_option linter.unusedVariables false

theorem mul_div_split (w a b : Nat) (h : b = a + 1) : w * b = w * a + w := by subst h; rw [Nat.mul_add, Nat.mul_one]

theorem tellN_again (w n next : Nat) (hw : 0 < w) (hw2 : w % 2 = 0) (h1 : next ≤ n) (h2 : 2 * (n - next) < w) (hn : n ≤ 4611686018427387903) : tellN w (n % w) next = n := by
  have e1 := Nat.div_add_mod next w
  have e2 := Nat.div_add_mod n w
  have l1 := Nat.mod_lt next hw
  have l2 := Nat.mod_lt n hw
  have hab : next / w ≤ n / w := Nat.div_le_div_right h1
  have hba : n / w ≤ next / w + 1 := by
    rw [← Nat.add_div_right _ hw]
    exact Nat.div_le_div_right (by omega)
  have hc := tellN_cases w (n % w) next (w * (next / w) + n % w) (by omega)
  rcases Nat.lt_or_ge (next / w) (n / w) with hlt | hge
  · have e3 := mul_div_split w (next / w) (n / w) (by omega)
    omega
  · have e3 : n / w = next / w := by omega
    rw [e3] at e2
    omega

theorem cw_bound (d : Nat) (h : d < 1073741824) : 2 * d < 256 ^ cw d := by
  unfold cw
  split
  · simpa
  · split
    · simpa
    · split
      · simpa
      · simp; omega

theorem pow256_even (k : Nat) (h : 1 ≤ k) : 256 ^ k % 2 = 0 := by
  obtain ⟨j, rfl⟩ : ∃ j, k = j + 1 := ⟨k - 1, by omega⟩
  rw [Nat.pow_succ]
  omega

/-- A number that is cut short is told again. -/
theorem again (n : Nat) (a l : Int) (hn : n ≤ 4611686018427387902) (ha : -1 ≤ a) (hal : a ≤ l) (hln : l < n) (hfar : (n : Int) - a < 1073741824) :
    ∃ p, cutF n a = (p, 0) ∧ tellF p l = (n, 0) := by
  have hd : (dist n a : Int) = (n : Int) - a := by
    unfold dist
    split <;> omega
  obtain ⟨d, hdd⟩ : ∃ d, dist n a = d := ⟨_, rfl⟩
  have hcw := cw_le d
  refine ⟨be (cw d) n, ?_, ?_⟩
  · unfold cutF
    rw [if_pos ⟨by omega, by omega⟩, hdd]
  · unfold tellF
    rw [be_length, if_neg (by omega), if_neg (by omega), num_be]
    congr 1
    have hb := cw_bound d (by omega)
    have hnx : (nextF l : Int) = l + 1 := by unfold nextF; omega
    exact tellN_again (256 ^ cw d) n (nextF l) (Nat.pow_pos (by omega)) (pow256_even _ hcw.1) (by omega) (by omega) (by omega)

end Go.Proofs.Ytlpkapkabehdnaa
