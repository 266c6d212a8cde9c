/- The law HuffApart, walked. -/
import Derived.Test.YtacjhnalhfhdkaaHw
import Derived.OpenShut
import Derived.Deep.RegionHeld3
namespace Go.Proofs.Ytacjhnalhfhdkaa
open Go.ChangeShapes Go.WideShapes Go.RowKit
set_option linter.unusedVariables false

theorem Bits_is (n : Nat) (h : n < 256) : Gives 12 #[.int .u8 (n : Int)] (.int .i64 (hlen n : Nat)) := Gives.of_eq fun w => Bits_any n w h
theorem Code_is (n : Nat) (h : n < 256) : Gives 14 #[.int .u8 (n : Int)] (.int .u16 (hcode n : Nat)) := fun w => Code_any n w h

theorem apart_top (a b : Nat) (ha : a < 257) (hb : b < 257) (hne : a ≠ b) (hl : hlen a ≤ hlen b) : hcode a ≠ hcode b / 2 ^ (hlen b - hlen a) := by
  intro h
  have h12 := (hlen_le b).2
  have hap := apart a b ha hb hne
  obtain ⟨X, hX⟩ : ∃ X, 2 ^ (hlen b - hlen a) = X := ⟨_, rfl⟩
  obtain ⟨Y, hY⟩ : ∃ Y, 2 ^ (12 - hlen b) = Y := ⟨_, rfl⟩
  have hX0 : 0 < X := by rw [← hX]; exact Nat.pow_pos (by omega)
  have hY0 : 0 < Y := by rw [← hY]; exact Nat.pow_pos (by omega)
  have hXY : 2 ^ (12 - hlen a) = X * Y := by rw [← hX, ← hY, ← Nat.pow_add]; congr 1; omega
  unfold key wid at hap
  rw [hXY, hY] at hap
  rw [hX] at h
  have hdm := Nat.div_add_mod (hcode b) X
  rw [← h] at hdm
  have hr := Nat.mod_lt (hcode b) hX0
  obtain ⟨r, hr2⟩ : ∃ r, hcode b % X = r := ⟨_, rfl⟩
  rw [hr2] at hdm hr
  obtain ⟨c, hc⟩ : ∃ c, hcode a = c := ⟨_, rfl⟩
  rw [hc] at hap hdm
  have hb2 : hcode b * Y = c * (X * Y) + r * Y := by
    rw [← hdm, Nat.add_mul, Nat.mul_comm X c, Nat.mul_assoc]
  rw [hb2] at hap
  have hrY : r * Y < X * Y := Nat.mul_lt_mul_of_pos_right hr hY0
  omega

set_option maxRecDepth 100000 in
set_option maxHeartbeats 1000000 in
theorem apart_walk (a0 a1 : Int) (w0 : (Lit.int .u8 a0).wf = true) (w1 : (Lit.int .u8 a1).wf = true) (w : World) :
    Calls Try.prog 6 #[.int .u8 a0, .int .u8 a1] w fun e w' => e = .returned (.bool true) ∧ Below w.heap.size w w' := by
  have hb0 := bounds_u8 w0
  have hb1 := bounds_u8 w1
  obtain ⟨a, rfl⟩ := Int.eq_ofNat_of_zero_le hb0.1
  obtain ⟨b, rfl⟩ := Int.eq_ofNat_of_zero_le hb1.1
  have ha : a < 256 := by omega
  have hb : b < 256 := by omega
  clear hb0 hb1 w0 w1
  have hBa := Bits_is a ha
  have hBb := Bits_is b hb
  have hCa := Code_is a ha
  have hCb := Code_is b hb
  have hla := hlen_le a
  have hlb := hlen_le b
  obtain ⟨n, hn⟩ : ∃ n, hlen a = n := ⟨_, rfl⟩
  obtain ⟨m, hm⟩ : ∃ n, hlen b = n := ⟨_, rfl⟩
  obtain ⟨c, hc⟩ : ∃ n, hcode a = n := ⟨_, rfl⟩
  obtain ⟨d, hd⟩ : ∃ n, hcode b = n := ⟨_, rfl⟩
  have hcl := code_lt a (by omega)
  have hdl := code_lt b (by omega)
  rw [hn] at hBa hla hcl
  rw [hm] at hBb hlb hdl
  rw [hc] at hCa hcl
  rw [hd] at hCb hdl
  obtain ⟨hla1, hla2⟩ := hla
  obtain ⟨hlb1, hlb2⟩ := hlb
  obtain ⟨k, hk⟩ : ∃ k, min n m = k := ⟨_, rfl⟩
  have hki : min (n : Int) (m : Int) = (k : Int) := by omega
  have HBa := Lib.hid hBa
  have HBb := Lib.hid hBb
  have HCa := Lib.hid hCa
  have HCb := Lib.hid hCb
  clear hBa hBb hCa hCb
  go_enter Try.func6, Try.ntmps6
  go_wp2_with fail
  refine (awake_any _).mono ?_
  rintro e x0 ⟨rfl, b0⟩
  have B0 := Lib.hid b0
  clear b0
  go_wp2_with fail
  refine (HBa.out _).mono ?_
  rintro e x1 ⟨rfl, b1⟩
  have B1 := Lib.hid (B0.out.trans (b1.mono B0.out.size))
  clear b1 B0
  go_wp2_with fail
  refine (HBb.out _).mono ?_
  rintro e x2 ⟨rfl, b2⟩
  have B2 := Lib.hid (B1.out.trans (b2.mono B1.out.size))
  clear b2 B1
  have hpw : (IntKind.u16.wrap ((2 : Int) ^ n)) = ((2 ^ n : Nat) : Int) := by
    have e : ((2 ^ n : Nat) : Int) = (2 : Int) ^ n := by rw [Int.natCast_pow]; rfl
    have h2 : 2 ^ n ≤ 2 ^ 12 := Nat.pow_le_pow_right (by omega) (by omega)
    rw [← e, IntKind.wrap_u16]
    omega
  have hone : decide ((IntKind.u16.wrap ((2 : Int) ^ n)) ≤ (c : Int)) = false := by
    rw [hpw, decide_eq_false_iff_not]
    omega
  clear hpw
  obtain ⟨z1, hz1⟩ : ∃ z, n - k = z := ⟨_, rfl⟩
  obtain ⟨z2, hz2⟩ : ∃ z, m - k = z := ⟨_, rfl⟩
  have hz1i : (n : Int) - (k : Int) = (z1 : Int) := by omega
  have hz2i : (m : Int) - (k : Int) = (z2 : Int) := by omega
  have hz1l : z1 ≤ 12 := by omega
  have hz2l : z2 ≤ 12 := by omega
  have hq1i : (c : Int) / 2 ^ z1 = ((c / 2 ^ z1 : Nat) : Int) := by
    rw [Int.natCast_ediv, Int.natCast_pow]
    rfl
  have hq2i : (d : Int) / 2 ^ z2 = ((d / 2 ^ z2 : Nat) : Int) := by
    rw [Int.natCast_ediv, Int.natCast_pow]
    rfl
  have hw1 : IntKind.i64.wrap (z1 : Int) = (z1 : Int) := by rw [IntKind.wrap_i64]; omega
  have hw2 : IntKind.i64.wrap (z2 : Int) = (z2 : Int) := by rw [IntKind.wrap_i64]; omega
  obtain ⟨q1, hq1⟩ : ∃ z, c / 2 ^ z1 = z := ⟨_, rfl⟩
  obtain ⟨q2, hq2⟩ : ∃ z, d / 2 ^ z2 = z := ⟨_, rfl⟩
  rw [hq1] at hq1i
  rw [hq2] at hq2i
  have hab : q1 = q2 ↔ a = b := by
    rw [← hq1, ← hq2, ← hc, ← hd, ← hz1, ← hz2, ← hk, ← hn, ← hm]
    constructor
    · intro h
      apply Classical.byContradiction
      intro hne
      rcases Nat.le_total (hlen a) (hlen b) with hl | hl
      · rw [Nat.min_eq_left hl, Nat.sub_self, Nat.pow_zero, Nat.div_one] at h
        exact apart_top a b (by omega) (by omega) hne hl h
      · rw [Nat.min_eq_right hl, Nat.sub_self, Nat.pow_zero, Nat.div_one] at h
        exact apart_top b a (by omega) (by omega) (Ne.symm hne) hl h.symm
    · intro h
      subst h
      rfl
  have heq : (((q1 : Int) == (q2 : Int)) == ((a : Int) == (b : Int))) = true := by
    by_cases h : a = b
    · have h2 := hab.2 h
      rw [h, h2, beq_self_eq_true, beq_self_eq_true]
      rfl
    · have h2 : ((q1 : Int) == (q2 : Int)) = false := by
        rw [beq_eq_false_iff_ne]
        intro h3
        exact h (hab.1 (by omega))
      have h3 : ((a : Int) == (b : Int)) = false := by
        rw [beq_eq_false_iff_ne]
        omega
      rw [h2, h3]
      rfl
  clear hab
  have hg1 : decide ((n : Int) < 1) = false := by rw [decide_eq_false_iff_not]; omega
  have hg2 : decide ((m : Int) < 1) = false := by rw [decide_eq_false_iff_not]; omega
  have hg3 : decide ((n : Int) > 16) = false := by rw [decide_eq_false_iff_not]; omega
  have hg4 : decide ((m : Int) > 16) = false := by rw [decide_eq_false_iff_not]; omega
  have hg5 : decide ((16 : Int) < (n : Int)) = false := by rw [decide_eq_false_iff_not]; omega
  have hg6 : decide ((16 : Int) < (m : Int)) = false := by rw [decide_eq_false_iff_not]; omega
  go_wp2_with fail
  go_region_held3 (fun w' => True) (exact True.intro) ((go_at_call 14; refine (HCa.out _).mono ?_; rintro e x3 ⟨rfl, b3⟩))
  have B3 := Lib.hid (B2.out.drew.trans (b3.mono B2.out.size))
  clear b3 B2
  clear hone hg1 hg2 hg3 hg4 hg5 hg6
  go_wp2_with fail
  go_region_held3 (fun w' => True) (exact True.intro) (first | (go_at_call 14; refine (HCa.out _).mono ?_; rintro e x4 ⟨rfl, b4⟩) | (go_at_call 14; refine (HCb.out _).mono ?_; rintro e x5 ⟨rfl, b5⟩))
  have B5 := Lib.hid ((B3.out.drew.trans (b4.mono B3.out.size)).trans (b5.mono ((B3.out.drew.trans (b4.mono B3.out.size)).size)))
  clear b4 b5 B3
  go_wp2_with fail
  go_ret
  exact ⟨rfl, B5.out⟩

end Go.Proofs.Ytacjhnalhfhdkaa
