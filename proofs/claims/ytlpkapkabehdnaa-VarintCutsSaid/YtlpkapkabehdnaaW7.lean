/- Contract of the reference's Tell. -/
import Derived.Test.YtlpkapkabehdnaaW6
namespace Go.Proofs.Ytlpkapkabehdnaa
open Go.ChangeShapes Go.WideShapes Go.RowKit
set_option linter.unusedVariables false

set_option maxRecDepth 100000 in
set_option maxHeartbeats 2000000 in
theorem rtell_ok (s : ByteArray) (l : List UInt8) (n : Nat) (a : Int) (w : World) (hl : byt s = l) (hn : l.length = n) (h1 : 1 ≤ n) (h4 : n ≤ 4) (ha : a < 4611686018427387903) (ha0 : -9223372036854775808 ≤ a) :
    Calls Try.prog 21 #[.string s, .int .i64 a] w fun e w' => e = .returned (.tuple #[.int .u64 (tellN (256 ^ n) (num l) (nextF a) : Nat), .int .i64 0]) ∧ Below w.heap.size w w' := by
  have hs : s.size = n := by rw [← byt_length, hl, hn]
  have hget : ∀ j (hj : j < l.length) (h2 : j < s.size), s[j] = l[j] := by
    intro j hj h2
    rw [byt_get]
    simp [hl]
  have Hl := Lib.hid hl
  have Hn := Lib.hid hn
  have Hget := Lib.hid hget
  clear hl hn hget
  go_enter Try.func21, Try.ntmps21
  go_wp2
  go_loop [6, 7] (fun v i => ∃ j q : Nat, j ≤ n ∧ i = .int .i64 j ∧ q = num (l.take j) ∧ v = .int .u64 q) (fun _ i => n - (intOf i).toNat)
  case atStart => exact ⟨0, 0, by omega, rfl, by simp [num], rfl⟩
  case round =>
    obtain ⟨j, q, hj, rfl, hq, rfl⟩ := hrel
    have hqb : q < 256 ^ j := by
      have h := num_lt (l.take j)
      rw [List.length_take, Nat.min_eq_left (by rw [Hn.out]; exact hj), ← hq] at h
      exact h
    by_cases hlt : j < n
    · have hjl : j < l.length := by rw [Hn.out]; exact hlt
      have hjs : j < s.size := by omega
      obtain ⟨c, hc⟩ : ∃ c, l[j].toNat = c := ⟨_, rfl⟩
      have hc8 : c < 256 := by rw [← hc]; exact l[j].toNat_lt
      have hcell : s[j].toNat = c := by rw [Hget.out j hjl hjs, hc]
      have hab : q < 16777216 := by
        have h2 : 256 ^ j ≤ 256 ^ 3 := Nat.pow_le_pow_right (by omega) (by omega)
        omega
      have hnext : q * 256 + c = num (l.take (j + 1)) := by
        rw [hq, ← hc, ← num_snoc, List.take_succ_eq_append_getElem hjl]
      have Hnext := Lib.hid hnext
      clear hnext hc hq hqb
      go_wp2
      go_round
      case rel => exact ⟨j + 1, q * 256 + c, by omega, by go_num, Hnext.out, by go_num⟩
      case measure => simp [intOf]; omega
    · obtain rfl : j = n := by omega
      have hqn : q = num l := by rw [hq, List.take_of_length_le (by rw [Hn.out]; exact Nat.le_refl _)]
      obtain ⟨p, hp⟩ : ∃ p, 256 ^ j = p := ⟨_, rfl⟩
      have hp4 : p ≤ 4294967296 := by rw [← hp]; exact Nat.pow_le_pow_right (n := 256) (j := 4) (by omega) h4
      have hp2 : p % 2 = 0 := by
        rw [← hp, show j = (j - 1) + 1 by omega, Nat.pow_succ]
        omega
      obtain ⟨m, hm⟩ : ∃ m, nextF a = m := ⟨_, rfl⟩
      have hmb : (a < 0 ∧ m = 0) ∨ (0 ≤ a ∧ a + 1 = (m : Int)) := by unfold nextF at hm; omega
      have hml : m ≤ 4611686018427387903 := by omega
      obtain ⟨B, hB⟩ : ∃ B, m - m % p = B := ⟨_, rfl⟩
      have hBm : B ≤ m := by omega
      have hp0 : 0 < p := by rw [← hp]; exact Nat.pow_pos (by omega)
      have hBp : m < B + p := by have := Nat.mod_lt m hp0; omega
      have hBp2 : B = 0 ∨ p ≤ B := by
        have h := base_mod m p
        rw [hB] at h
        rcases Nat.eq_zero_or_pos B with h0 | h0
        · exact .inl h0
        · exact .inr (Nat.le_of_dvd h0 (Nat.dvd_of_mod_eq_zero h))
      have hsub : IntKind.u64.wrap ((m : Int) - (m : Int) % (p : Int)) = (B : Int) := by
        have := Nat.mod_le m p
        rw [IntKind.wrap_u64]
        omega
      have hc := tellN_cases p q m (B + q) (by rw [hB])
      have hqp : q < p := by rw [← hp]; exact hqb
      have hB62 : B + p ≤ 4611686018427387904 := by
        have hd : p ∣ B := by rw [← hB]; exact Nat.dvd_of_mod_eq_zero (base_mod m p)
        have hd2 : p ∣ 4611686018427387904 := by
          rw [← hp]
          have hcj : j = 1 ∨ j = 2 ∨ j = 3 ∨ j = 4 := by omega
          rcases hcj with rfl | rfl | rfl | rfl <;> decide
        obtain ⟨x, rfl⟩ := hd
        obtain ⟨y, hy⟩ := hd2
        have : x < y := by
          apply Nat.lt_of_mul_lt_mul_left (a := p)
          rw [← hy]
          omega
        rw [hy]
        have := Nat.mul_le_mul_left p this
        rw [Nat.mul_succ] at this
        exact this
      have Hc := Lib.hid hc
      have Hm := Lib.hid hm
      have Hp := Lib.hid hp
      have Hqn := Lib.hid hqn
      have HB := Lib.hid hB
      clear hq hqn hm hp hc hB hqb
      rcases hmb with ⟨hm1, rfl⟩ | ⟨hm1, hm2⟩
      · obtain rfl : B = 0 := by omega
        clear hsub hBp2 HB hBm hml hBp hB62
        simp only [Nat.zero_add] at Hc
        obtain ⟨D, hD⟩ : ∃ D : Nat, (p : Int) + (q : Int) = (D : Int) := ⟨p + q, by omega⟩
        have hd : decide ((D : Int) < 4611686018427387904) = true := by rw [decide_eq_true_eq]; omega
        have hg : decide (0 ≤ a) = false := by rw [decide_eq_false_iff_not]; omega
        have hg1 : decide ((p : Int) ≤ 0) = false := by rw [decide_eq_false_iff_not]; omega
        have hg2 : decide (p = 0) = false := by rw [decide_eq_false_iff_not]; omega
        go_wp2_with fail
        refine (power_any j _ (by omega)).mono ?_
        rintro e w' ⟨rfl, rfl⟩
        rw [Hp.out]
        go_wp2_with fail
        clear hd hg hg1 hg2
        refine (far_int _ _ _ ⟨by omega, by omega⟩ ⟨by omega, by omega⟩).mono ?_
        rintro e w' ⟨rfl, rfl⟩
        go_wp2_with fail
        refine (far_int _ _ _ ⟨by omega, by omega⟩ ⟨by omega, by omega⟩).mono ?_
        rintro e w' ⟨rfl, rfl⟩
        go_wp2_with fail
        all_goals
          go_ret2
          exact ⟨by rw [Hm.out, Hp.out, ← Hqn.out]; exact ret_tell (by have := Hc.out; omega), Below.refl _ _⟩
      · obtain ⟨C, hC⟩ : ∃ C : Nat, (B : Int) + (p : Int) = (C : Int) := ⟨B + p, by omega⟩
        obtain ⟨N, hN⟩ : ∃ N : Nat, (B : Int) + (q : Int) = (N : Int) := ⟨B + q, by omega⟩
        obtain ⟨D, hD⟩ : ∃ D : Nat, (C : Int) + (q : Int) = (D : Int) := ⟨C + q, by omega⟩
        have hg : decide (0 ≤ a) = true := by rw [decide_eq_true_eq]; omega
        by_cases hpB : p ≤ B
        · obtain ⟨E, hE⟩ : ∃ E : Nat, (B : Int) - (p : Int) = (E : Int) := ⟨B - p, by omega⟩
          obtain ⟨F, hF⟩ : ∃ F : Nat, (E : Int) + (q : Int) = (F : Int) := ⟨E + q, by omega⟩
          have hg1 : decide ((p : Int) ≤ (B : Int)) = true := by rw [decide_eq_true_eq]; omega
          by_cases hDl : D < 4611686018427387904
          · have hd : decide ((D : Int) < 4611686018427387904) = true := by rw [decide_eq_true_eq]; omega
            have HD := Lib.hid hDl
            clear hDl
            go_wp2_with fail
            refine (power_any j _ (by omega)).mono ?_
            rintro e w' ⟨rfl, rfl⟩
            rw [Hp.out]
            go_wp2_with fail
            refine (far_int _ _ _ ⟨by omega, by omega⟩ ⟨by omega, by omega⟩).mono ?_
            rintro e w' ⟨rfl, rfl⟩
            go_wp2_with fail
            refine (far_int _ _ _ ⟨by omega, by omega⟩ ⟨by omega, by omega⟩).mono ?_
            rintro e w' ⟨rfl, rfl⟩
            by_cases hf : max (F : Int) m - min (F : Int) m < max (N : Int) m - min (N : Int) m
            · have hfd : decide (max (F : Int) m - min (F : Int) m < max (N : Int) m - min (N : Int) m) = true := by rw [decide_eq_true_eq]; exact hf
              have Hf := Lib.hid hf
              clear hf
              go_wp2_with fail
              clear hd hfd
              refine (far_int _ _ _ ⟨by omega, by omega⟩ ⟨by omega, by omega⟩).mono ?_
              rintro e w' ⟨rfl, rfl⟩
              go_wp2_with fail
              refine (far_int _ _ _ ⟨by omega, by omega⟩ ⟨by omega, by omega⟩).mono ?_
              rintro e w' ⟨rfl, rfl⟩
              go_wp2_with fail
              all_goals
                go_ret2
                exact ⟨by rw [Hm.out, Hp.out, ← Hqn.out]; exact ret_tell (by have := Hc.out; have := HD.out; have := Hf.out; omega), Below.refl _ _⟩
            · have hfd : decide (max (F : Int) m - min (F : Int) m < max (N : Int) m - min (N : Int) m) = false := by rw [decide_eq_false_iff_not]; exact hf
              have Hf := Lib.hid hf
              clear hf
              go_wp2_with fail
              clear hd hfd
              refine (far_int _ _ _ ⟨by omega, by omega⟩ ⟨by omega, by omega⟩).mono ?_
              rintro e w' ⟨rfl, rfl⟩
              go_wp2_with fail
              refine (far_int _ _ _ ⟨by omega, by omega⟩ ⟨by omega, by omega⟩).mono ?_
              rintro e w' ⟨rfl, rfl⟩
              go_wp2_with fail
              all_goals
                go_ret2
                exact ⟨by rw [Hm.out, Hp.out, ← Hqn.out]; exact ret_tell (by have := Hc.out; have := HD.out; have := Hf.out; omega), Below.refl _ _⟩
          · have hd : decide ((D : Int) < 4611686018427387904) = false := by rw [decide_eq_false_iff_not]; omega
            have HD := Lib.hid hDl
            clear hDl
            go_wp2_with fail
            refine (power_any j _ (by omega)).mono ?_
            rintro e w' ⟨rfl, rfl⟩
            rw [Hp.out]
            go_wp2_with fail
            refine (far_int _ _ _ ⟨by omega, by omega⟩ ⟨by omega, by omega⟩).mono ?_
            rintro e w' ⟨rfl, rfl⟩
            go_wp2_with fail
            refine (far_int _ _ _ ⟨by omega, by omega⟩ ⟨by omega, by omega⟩).mono ?_
            rintro e w' ⟨rfl, rfl⟩
            by_cases hf : max (F : Int) m - min (F : Int) m < max (N : Int) m - min (N : Int) m
            · have hfd : decide (max (F : Int) m - min (F : Int) m < max (N : Int) m - min (N : Int) m) = true := by rw [decide_eq_true_eq]; exact hf
              have Hf := Lib.hid hf
              clear hf
              go_wp2_with fail
              all_goals
                go_ret2
                exact ⟨by rw [Hm.out, Hp.out, ← Hqn.out]; exact ret_tell (by have := Hc.out; have := HD.out; have := Hf.out; omega), Below.refl _ _⟩
            · have hfd : decide (max (F : Int) m - min (F : Int) m < max (N : Int) m - min (N : Int) m) = false := by rw [decide_eq_false_iff_not]; exact hf
              have Hf := Lib.hid hf
              clear hf
              go_wp2_with fail
              all_goals
                go_ret2
                exact ⟨by rw [Hm.out, Hp.out, ← Hqn.out]; exact ret_tell (by have := Hc.out; have := HD.out; have := Hf.out; omega), Below.refl _ _⟩
        · have hd : decide ((D : Int) < 4611686018427387904) = true := by rw [decide_eq_true_eq]; omega
          have hg1 : decide ((p : Int) ≤ (B : Int)) = false := by rw [decide_eq_false_iff_not]; omega
          have hg2 : decide (p ≤ B) = false := by rw [decide_eq_false_iff_not]; omega
          go_wp2_with fail
          refine (power_any j _ (by omega)).mono ?_
          rintro e w' ⟨rfl, rfl⟩
          rw [Hp.out]
          go_wp2_with fail
          clear hd hg hg1 hg2
          refine (far_int _ _ _ ⟨by omega, by omega⟩ ⟨by omega, by omega⟩).mono ?_
          rintro e w' ⟨rfl, rfl⟩
          go_wp2_with fail
          refine (far_int _ _ _ ⟨by omega, by omega⟩ ⟨by omega, by omega⟩).mono ?_
          rintro e w' ⟨rfl, rfl⟩
          go_wp2_with fail
          all_goals
            go_ret2
            exact ⟨by rw [Hm.out, Hp.out, ← Hqn.out]; exact ret_tell (by have := Hc.out; omega), Below.refl _ _⟩

theorem rTell_any (s : ByteArray) (a : Int) (w : World) (ha0 : -9223372036854775808 ≤ a) :
    Calls Try.prog 21 #[.string s, .int .i64 a] w fun e w' => e = .returned (.tuple #[.int .u64 ((tellF (byt s) a).1 : Nat), .int .i64 (tellF (byt s) a).2]) ∧ Below w.heap.size w w' := by
  have hl := byt_length s
  unfold tellF
  by_cases h : (byt s).length < 1 ∨ 4 < (byt s).length
  · rw [if_pos h]
    exact (rtell_no1 s a w (by omega)).mono fun e w' ⟨he, hw⟩ => ⟨he, hw ▸ Below.refl _ _⟩
  · rw [if_neg h]
    by_cases h2 : 4611686018427387903 ≤ a
    · rw [if_pos h2]
      exact (rtell_no2 s a w (by omega) (by omega) h2).mono fun e w' ⟨he, hw⟩ => ⟨he, hw ▸ Below.refl _ _⟩
    · rw [if_neg h2]
      exact rtell_ok s _ _ a w rfl rfl (by omega) (by omega) (by omega) ha0

end Go.Proofs.Ytlpkapkabehdnaa
