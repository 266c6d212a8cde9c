/- The law HuffOrder, walked. -/
import Derived.Test.YtacjhnalhfhdkaaHw
import Derived.OpenShut
import Derived.Deep.RegionHeld3
namespace Go.Proofs.Ytacjhnalhfhdkaa
open Go.ChangeShapes Go.WideShapes Go.RowKit
set_option linter.unusedVariables false

theorem Bits_is' (n : Nat) (h : n < 256) : Gives 12 #[.int .u8 (n : Int)] (.int .i64 (hlen n : Nat)) := Gives.of_eq fun w => Bits_any n w h
theorem Code_is' (n : Nat) (h : n < 256) : Gives 14 #[.int .u8 (n : Int)] (.int .u16 (hcode n : Nat)) := fun w => Code_any n w h

set_option maxRecDepth 100000 in
set_option maxHeartbeats 4000000 in
theorem order_walk (a0 a1 : Int) (w0 : (Lit.int .u8 a0).wf = true) (w1 : (Lit.int .u8 a1).wf = true) (w : World) :
    Calls Try.prog 7 #[.int .u8 a0, .int .u8 a1] w fun e w' => e = .returned (.bool true) ∧ Below w.heap.size w w' := by
  have hb0 := bounds_u8 w0
  have hb1 := bounds_u8 w1
  obtain ⟨a, rfl⟩ := Int.eq_ofNat_of_zero_le hb0.1
  obtain ⟨b, rfl⟩ := Int.eq_ofNat_of_zero_le hb1.1
  have ha : a < 256 := by omega
  have hb : b < 256 := by omega
  clear hb0 hb1 w0 w1
  have hBa := Bits_is' a ha
  have hBb := Bits_is' b hb
  have hCa := Code_is' a ha
  have hCb := Code_is' b hb
  have hla := hlen_le a
  have hlb := hlen_le b
  obtain ⟨n, hn⟩ : ∃ n, hlen a = n := ⟨_, rfl⟩
  obtain ⟨m, hm⟩ : ∃ n, hlen b = n := ⟨_, rfl⟩
  obtain ⟨c, hc⟩ : ∃ n, hcode a = n := ⟨_, rfl⟩
  obtain ⟨d, hd⟩ : ∃ n, hcode b = n := ⟨_, rfl⟩
  have hcl := code_lt a (by omega)
  have hdl := code_lt b (by omega)
  rw [hn] at hBa hla hcl
  rw [hm] at hBb hlb hdl
  rw [hc] at hCa hcl
  rw [hd] at hCb hdl
  obtain ⟨hla1, hla2⟩ := hla
  obtain ⟨hlb1, hlb2⟩ := hlb
  have HBa := Lib.hid hBa
  have HBb := Lib.hid hBb
  have HCa := Lib.hid hCa
  have HCb := Lib.hid hCb
  clear hBa hBb hCa hCb
  obtain ⟨z1, hz1⟩ : ∃ z, 12 - n = z := ⟨_, rfl⟩
  obtain ⟨z2, hz2⟩ : ∃ z, 12 - m = z := ⟨_, rfl⟩
  have hcl3 : c < 4096 := by have h2 : 2 ^ n ≤ 2 ^ 12 := Nat.pow_le_pow_right (by omega) (by omega); omega
  have hdl3 : d < 4096 := by have h2 : 2 ^ m ≤ 2 ^ 12 := Nat.pow_le_pow_right (by omega) (by omega); omega
  have hz1i : (12 : Int) - (n : Int) = (z1 : Int) := by omega
  have hz2i : (12 : Int) - (m : Int) = (z2 : Int) := by omega
  have hz1l : z1 ≤ 12 := by omega
  have hz2l : z2 ≤ 12 := by omega
  have hw1 : IntKind.i64.wrap (z1 : Int) = (z1 : Int) := by rw [IntKind.wrap_i64]; omega
  have hw2 : IntKind.i64.wrap (z2 : Int) = (z2 : Int) := by rw [IntKind.wrap_i64]; omega
  have hkl : ∀ x, x < 257 → key x < 4096 := by decide +kernel
  have hk1l := hkl a (by omega)
  have hk2l := hkl b (by omega)
  obtain ⟨q1, hq1⟩ : ∃ z, key a = z := ⟨_, rfl⟩
  obtain ⟨q2, hq2⟩ : ∃ z, key b = z := ⟨_, rfl⟩
  have hab1 : n < m ∨ (n = m ∧ a < b) → q1 < q2 := by
    intro h
    have h1 := ahead_key a b (by omega) (by omega) (by omega)
    have h2 : 0 < wid a := Nat.pow_pos (by omega)
    omega
  have hab2 : m < n ∨ (n = m ∧ b < a) → q2 < q1 := by
    intro h
    have h1 := ahead_key b a (by omega) (by omega) (by omega)
    have h2 : 0 < wid b := Nat.pow_pos (by omega)
    omega
  have hab3 : a = b → q1 = q2 := by intro h; rw [← hq1, ← hq2, h]
  rw [hq1] at hk1l
  rw [hq2] at hk2l
  unfold key at hq1 hq2
  rw [hc, hn, hz1] at hq1
  rw [hd, hm, hz2] at hq2
  have hq1i : IntKind.u32.wrap ((c : Int) * 2 ^ z1) = (q1 : Int) := by
    rw [← hq1, IntKind.wrap_u32]
    have e : (c : Int) * 2 ^ z1 = ((c * 2 ^ z1 : Nat) : Int) := by rw [Int.natCast_mul, Int.natCast_pow]; rfl
    rw [e]
    omega
  have hq2i : IntKind.u32.wrap ((d : Int) * 2 ^ z2) = (q2 : Int) := by
    rw [← hq2, IntKind.wrap_u32]
    have e : (d : Int) * 2 ^ z2 = ((d * 2 ^ z2 : Nat) : Int) := by rw [Int.natCast_mul, Int.natCast_pow]; rfl
    rw [e]
    omega
  have hu1 : IntKind.u32.wrap (c : Int) = (c : Int) := by rw [IntKind.wrap_u32]; omega
  have hu2 : IntKind.u32.wrap (d : Int) = (d : Int) := by rw [IntKind.wrap_u32]; omega
  have k1 : decide ((12 : Int) < (n : Int)) = false := by rw [decide_eq_false_iff_not]; omega
  have k2 : decide ((12 : Int) < (m : Int)) = false := by rw [decide_eq_false_iff_not]; omega
  have k3 : decide ((n : Int) < 1) = false := by rw [decide_eq_false_iff_not]; omega
  have k4 : decide ((m : Int) < 1) = false := by rw [decide_eq_false_iff_not]; omega
  clear hq1 hq2 hcl hdl hz1 hz2 hn hm hc hd
  rcases Nat.lt_trichotomy n m with h | h | h
  · have h1 := hab1 (.inl h)
    have g1 : decide ((q1 : Int) < (q2 : Int)) = true := by rw [decide_eq_true_iff]; omega
    have g2 : ((n : Int) == (m : Int)) = false := by rw [beq_eq_false_iff_ne]; omega
    have g3 : decide ((n : Int) < (m : Int)) = true := by rw [decide_eq_true_iff]; omega
    clear hab1 hab2 hab3
    go_enter Try.func7, Try.ntmps7
    go_wp2_with fail
    refine (awake_any _).mono ?_
    rintro e x0 ⟨rfl, b0⟩
    have B0 := Lib.hid b0
    clear b0
    go_wp2_with fail
    refine (HBa.out _).mono ?_
    rintro e x1 ⟨rfl, b1⟩
    have B1 := Lib.hid (B0.out.trans (b1.mono B0.out.size))
    clear b1 B0
    go_wp2_with fail
    refine (HBb.out _).mono ?_
    rintro e x2 ⟨rfl, b2⟩
    have B2 := Lib.hid (B1.out.trans (b2.mono B1.out.size))
    clear b2 B1
    go_wp2_with fail
    go_region_held3 (fun w' => True) (exact True.intro) (first | (go_at_call 14; refine (HCa.out _).mono ?_; rintro e x4 ⟨rfl, b4⟩) | (go_at_call 14; refine (HCb.out _).mono ?_; rintro e x5 ⟨rfl, b5⟩))
    have B5 := Lib.hid ((B2.out.drew.trans (b4.mono B2.out.size)).trans (b5.mono ((B2.out.drew.trans (b4.mono B2.out.size)).size)))
    clear b4 b5 B2
    go_wp2_with fail
    go_ret
    exact ⟨rfl, B5.out⟩
  · subst h
    obtain rfl : z1 = z2 := by omega
    rcases Nat.lt_trichotomy a b with h | h | h
    · have h1 := hab1 (.inr ⟨rfl, h⟩)
      have g1 : decide ((q1 : Int) < (q2 : Int)) = true := by rw [decide_eq_true_iff]; omega
      have g2 : decide ((a : Int) < (b : Int)) = true := by rw [decide_eq_true_iff]; omega
      clear hab1 hab2 hab3
      go_enter Try.func7, Try.ntmps7
      go_wp2_with fail
      refine (awake_any _).mono ?_
      rintro e x0 ⟨rfl, b0⟩
      have B0 := Lib.hid b0
      clear b0
      go_wp2_with fail
      refine (HBa.out _).mono ?_
      rintro e x1 ⟨rfl, b1⟩
      have B1 := Lib.hid (B0.out.trans (b1.mono B0.out.size))
      clear b1 B0
      go_wp2_with fail
      refine (HBb.out _).mono ?_
      rintro e x2 ⟨rfl, b2⟩
      have B2 := Lib.hid (B1.out.trans (b2.mono B1.out.size))
      clear b2 B1
      go_wp2_with fail
      go_region_held3 (fun w' => True) (exact True.intro) (first | (go_at_call 14; refine (HCa.out _).mono ?_; rintro e x4 ⟨rfl, b4⟩) | (go_at_call 14; refine (HCb.out _).mono ?_; rintro e x5 ⟨rfl, b5⟩))
      have B5 := Lib.hid ((B2.out.drew.trans (b4.mono B2.out.size)).trans (b5.mono ((B2.out.drew.trans (b4.mono B2.out.size)).size)))
      clear b4 b5 B2
      go_wp2_with fail
      go_ret
      exact ⟨rfl, B5.out⟩
    · have h1 := hab3 h
      have G1 := Lib.hid (show decide (q1 < q2) = false by rw [decide_eq_false_iff_not]; omega)
      have G2 := Lib.hid (show decide (a < b) = false by rw [decide_eq_false_iff_not]; omega)
      have g1 : decide ((q1 : Int) < (q2 : Int)) = false := by rw [decide_eq_false_iff_not]; omega
      have g2 : decide ((a : Int) < (b : Int)) = false := by rw [decide_eq_false_iff_not]; omega
      clear hab1 hab2 hab3 h h1
      go_enter Try.func7, Try.ntmps7
      go_wp2_with fail
      refine (awake_any _).mono ?_
      rintro e x0 ⟨rfl, b0⟩
      have B0 := Lib.hid b0
      clear b0
      go_wp2_with fail
      refine (HBa.out _).mono ?_
      rintro e x1 ⟨rfl, b1⟩
      have B1 := Lib.hid (B0.out.trans (b1.mono B0.out.size))
      clear b1 B0
      go_wp2_with fail
      refine (HBb.out _).mono ?_
      rintro e x2 ⟨rfl, b2⟩
      have B2 := Lib.hid (B1.out.trans (b2.mono B1.out.size))
      clear b2 B1
      go_wp2_with fail
      go_region_held3 (fun w' => True) (exact True.intro) (first | (go_at_call 14; refine (HCa.out _).mono ?_; rintro e x4 ⟨rfl, b4⟩) | (go_at_call 14; refine (HCb.out _).mono ?_; rintro e x5 ⟨rfl, b5⟩))
      have B5 := Lib.hid ((B2.out.drew.trans (b4.mono B2.out.size)).trans (b5.mono ((B2.out.drew.trans (b4.mono B2.out.size)).size)))
      clear b4 b5 B2
      go_wp2_with fail
      go_ret
      exact ⟨by show Ending.returned (.bool (decide (q1 < q2) == decide (a < b))) = _; rw [G1.out, G2.out]; rfl, B5.out⟩
    · have h1 := hab2 (.inr ⟨rfl, h⟩)
      have G1 := Lib.hid (show decide (q1 < q2) = false by rw [decide_eq_false_iff_not]; omega)
      have G2 := Lib.hid (show decide (a < b) = false by rw [decide_eq_false_iff_not]; omega)
      have g1 : decide ((q1 : Int) < (q2 : Int)) = false := by rw [decide_eq_false_iff_not]; omega
      have g2 : decide ((a : Int) < (b : Int)) = false := by rw [decide_eq_false_iff_not]; omega
      clear hab1 hab2 hab3
      go_enter Try.func7, Try.ntmps7
      go_wp2_with fail
      refine (awake_any _).mono ?_
      rintro e x0 ⟨rfl, b0⟩
      have B0 := Lib.hid b0
      clear b0
      go_wp2_with fail
      refine (HBa.out _).mono ?_
      rintro e x1 ⟨rfl, b1⟩
      have B1 := Lib.hid (B0.out.trans (b1.mono B0.out.size))
      clear b1 B0
      go_wp2_with fail
      refine (HBb.out _).mono ?_
      rintro e x2 ⟨rfl, b2⟩
      have B2 := Lib.hid (B1.out.trans (b2.mono B1.out.size))
      clear b2 B1
      go_wp2_with fail
      go_region_held3 (fun w' => True) (exact True.intro) (first | (go_at_call 14; refine (HCa.out _).mono ?_; rintro e x4 ⟨rfl, b4⟩) | (go_at_call 14; refine (HCb.out _).mono ?_; rintro e x5 ⟨rfl, b5⟩))
      have B5 := Lib.hid ((B2.out.drew.trans (b4.mono B2.out.size)).trans (b5.mono ((B2.out.drew.trans (b4.mono B2.out.size)).size)))
      clear b4 b5 B2
      go_wp2_with fail
      go_ret
      exact ⟨by show Ending.returned (.bool (decide (q1 < q2) == decide (a < b))) = _; rw [G1.out, G2.out]; rfl, B5.out⟩
  · have h1 := hab2 (.inl h)
    have g1 : decide ((q2 : Int) < (q1 : Int)) = true := by rw [decide_eq_true_iff]; omega
    have g2 : ((n : Int) == (m : Int)) = false := by rw [beq_eq_false_iff_ne]; omega
    have g3 : decide ((n : Int) < (m : Int)) = false := by rw [decide_eq_false_iff_not]; omega
    clear hab1 hab2 hab3
    go_enter Try.func7, Try.ntmps7
    go_wp2_with fail
    refine (awake_any _).mono ?_
    rintro e x0 ⟨rfl, b0⟩
    have B0 := Lib.hid b0
    clear b0
    go_wp2_with fail
    refine (HBa.out _).mono ?_
    rintro e x1 ⟨rfl, b1⟩
    have B1 := Lib.hid (B0.out.trans (b1.mono B0.out.size))
    clear b1 B0
    go_wp2_with fail
    refine (HBb.out _).mono ?_
    rintro e x2 ⟨rfl, b2⟩
    have B2 := Lib.hid (B1.out.trans (b2.mono B1.out.size))
    clear b2 B1
    go_wp2_with fail
    go_region_held3 (fun w' => True) (exact True.intro) (first | (go_at_call 14; refine (HCa.out _).mono ?_; rintro e x4 ⟨rfl, b4⟩) | (go_at_call 14; refine (HCb.out _).mono ?_; rintro e x5 ⟨rfl, b5⟩))
    have B5 := Lib.hid ((B2.out.drew.trans (b4.mono B2.out.size)).trans (b5.mono ((B2.out.drew.trans (b4.mono B2.out.size)).size)))
    clear b4 b5 B2
    go_wp2_with fail
    go_ret
    exact ⟨rfl, B5.out⟩

end Go.Proofs.Ytacjhnalhfhdkaa
