/- Contracts of the reference's in, Length, ahead, Code. -/
import Derived.Test.YtkggjcfiomddeaaIf
namespace Go.Proofs.Ytkggjcfiomddeaa
open Go.ChangeShapes Go.WideShapes Go.RowKit
set_option linter.unusedVariables false

def inF (s : ByteArray) (c : Nat) : Bool := (byt s).any (fun b => b.toNat == c)

theorem in_any (c : Nat) (s : ByteArray) (w : World) (hs : s.size ≤ 1000) :
    Calls Try.prog 62 #[.int .i64 (c : Int), .string s] w fun e w' => e = .returned (.bool (inF s c)) ∧ w = w' := by
  go_enter Try.func62, Try.ntmps62
  go_wp2_with fail
  go_loop [5] (fun i => ∃ j : Nat, j ≤ s.size ∧ i = .int .i64 j ∧ ∀ t (h : t < s.size), t < j → s[t].toNat ≠ c) (fun i => s.size - (intOf i).toNat)
  case atStart => exact ⟨0, by omega, rfl, fun t h h2 => by omega⟩
  case round =>
    obtain ⟨j, hj, rfl, hno⟩ := hrel
    have Hno := Lib.hid hno
    clear hno
    by_cases hlt : j < s.size
    · obtain ⟨d, hd⟩ : ∃ d, s[j].toNat = d := ⟨_, rfl⟩
      have hd8 : d < 256 := by rw [← hd]; exact s[j].toNat_lt
      by_cases hcd : c = d
      · have hin : inF s c = true := by
          unfold inF
          rw [List.any_eq_true]
          refine ⟨s[j], ?_, ?_⟩
          · rw [byt_get]
            exact List.getElem_mem _
          · rw [hd, hcd, beq_self_eq_true]
        have g1 : ((c : Int) == (d : Int)) = true := by rw [hcd, beq_self_eq_true]
        have Hin := Lib.hid hin
        clear hin hcd
        go_wp2_with fail
        go_ret
        exact ⟨by rw [Hin.out]; rfl, rfl⟩
      · have g1 : ((c : Int) == (d : Int)) = false := by rw [beq_eq_false_iff_ne]; omega
        have hn2 : ∀ t (h : t < s.size), t < j + 1 → s[t].toNat ≠ c := by
          intro t h h2
          rcases Nat.lt_or_ge t j with h3 | h3
          · exact Hno.out t h h3
          · have : t = j := by omega
            subst this
            rw [hd]
            omega
        have Hn2 := Lib.hid hn2
        clear hn2 hcd
        go_wp2_with fail
        go_round
        case rel => exact ⟨j + 1, by omega, by go_num, Hn2.out⟩
        case measure => simp [intOf]; omega
    · obtain rfl : j = s.size := by omega
      have hin : inF s c = false := by
        unfold inF
        rw [List.any_eq_false]
        intro x hx
        obtain ⟨t, ht, rfl⟩ := List.getElem_of_mem hx
        have ht2 : t < s.size := by rw [← byt_length]; exact ht
        have := Hno.out t ht2 ht2
        rw [byt_get] at this
        simpa using this
      have Hin := Lib.hid hin
      clear hin
      go_wp2_with fail
      go_ret
      exact ⟨by rw [Hin.out]; rfl, rfl⟩

def R1 (n : Nat) : Bool := inF ⟨#[32, 97, 101, 105, 111, 116, 110, 115, 114]⟩ n
def R2 (n : Nat) : Bool := inF ⟨#[45, 46, 47, 58]⟩ n
def R3 (n : Nat) : Bool := inF ⟨#[37, 38, 61, 63, 95, 43, 44, 59]⟩ n

theorem rl_all : ∀ n, n < 257 → hlen n = bif R1 n then 5 else bif ((Nat.ble 97 n && Nat.ble n 122) || (Nat.ble 48 n && Nat.ble n 57)) || R2 n then 6 else bif (Nat.ble 65 n && Nat.ble n 90) || R3 n then 8 else 12 := by decide +kernel

theorem in1 (n : Nat) (b : Bool) (h : R1 n = b) (w : World) : Calls Try.prog 62 #[.int .i64 (n : Int), .string ⟨#[32, 97, 101, 105, 111, 116, 110, 115, 114]⟩] w fun e w' => e = .returned (.bool b) ∧ w = w' := by
  subst h
  exact in_any n _ w (by decide)
theorem in2 (n : Nat) (b : Bool) (h : R2 n = b) (w : World) : Calls Try.prog 62 #[.int .i64 (n : Int), .string ⟨#[45, 46, 47, 58]⟩] w fun e w' => e = .returned (.bool b) ∧ w = w' := by
  subst h
  exact in_any n _ w (by decide)
theorem in3 (n : Nat) (b : Bool) (h : R3 n = b) (w : World) : Calls Try.prog 62 #[.int .i64 (n : Int), .string ⟨#[37, 38, 61, 63, 95, 43, 44, 59]⟩] w fun e w' => e = .returned (.bool b) ∧ w = w' := by
  subst h
  exact in_any n _ w (by decide)

set_option maxHeartbeats 2000000 in
theorem rLength_any (n : Nat) (w : World) (hn : n < 257) :
    Calls Try.prog 58 #[.int .i64 (n : Int)] w fun e w' => e = .returned (.int .i64 (hlen n : Nat)) ∧ w = w' := by
  have hl := rl_all n hn
  cases h1 : R1 n with
  | true =>
    have i1 := in1 n true h1
    have H1 := Lib.hid i1
    rw [h1] at hl
    replace hl : hlen n = 5 := hl
    have Hl := Lib.hid hl
    clear hl h1 i1
    go_enter Try.func58, Try.ntmps58
    go_wp2_with fail
    refine (H1.out _).mono ?_
    rintro e w' ⟨rfl, rfl⟩
    go_wp2_with fail
    go_ret
    exact ⟨by first | rfl | (rw [Hl.out]; rfl), rfl⟩
  | false =>
    have i1 := in1 n false h1
    have H1 := Lib.hid i1
    rw [h1] at hl
    clear h1 i1
    have hc : n ≤ 47 ∨ (48 ≤ n ∧ n ≤ 57) ∨ (58 ≤ n ∧ n ≤ 64) ∨ (65 ≤ n ∧ n ≤ 90) ∨ (91 ≤ n ∧ n ≤ 96) ∨ (97 ≤ n ∧ n ≤ 122) ∨ 123 ≤ n := by omega
    rcases hc with hc | hc | hc | hc | hc | hc | hc
    · have e97 : Nat.ble 97 n = false := (Bool.eq_false_iff.2 fun h => by have := Nat.le_of_ble_eq_true h; omega)
      have e122 : Nat.ble n 122 = true := Nat.ble_eq_true_of_le (by omega)
      have e48 : Nat.ble 48 n = false := (Bool.eq_false_iff.2 fun h => by have := Nat.le_of_ble_eq_true h; omega)
      have e57 : Nat.ble n 57 = true := Nat.ble_eq_true_of_le (by omega)
      have e65 : Nat.ble 65 n = false := (Bool.eq_false_iff.2 fun h => by have := Nat.le_of_ble_eq_true h; omega)
      have e90 : Nat.ble n 90 = true := Nat.ble_eq_true_of_le (by omega)
      rw [e97, e122, e48, e57, e65, e90] at hl
      clear e97 e122 e48 e57 e65 e90
      cases h2 : R2 n with
      | true =>
        have i2 := in2 n true h2
        have H2 := Lib.hid i2
        rw [h2] at hl
        replace hl : hlen n = 6 := hl
        have Hl := Lib.hid hl
        clear hl
        clear h2 i2
        go_enter Try.func58, Try.ntmps58
        go_wp2_with fail
        refine (H1.out _).mono ?_
        rintro e w' ⟨rfl, rfl⟩
        go_wp2_with fail
        refine (H2.out _).mono ?_
        rintro e w' ⟨rfl, rfl⟩
        go_wp2_with fail
        go_ret
        exact ⟨by first | rfl | (rw [Hl.out]; rfl), rfl⟩
      | false =>
        have i2 := in2 n false h2
        have H2 := Lib.hid i2
        rw [h2] at hl
        clear h2 i2
        cases h3 : R3 n with
        | true =>
          have i3 := in3 n true h3
          have H3 := Lib.hid i3
          rw [h3] at hl
          replace hl : hlen n = 8 := hl
          have Hl := Lib.hid hl
          clear hl
          clear h3 i3
          go_enter Try.func58, Try.ntmps58
          go_wp2_with fail
          refine (H1.out _).mono ?_
          rintro e w' ⟨rfl, rfl⟩
          go_wp2_with fail
          refine (H2.out _).mono ?_
          rintro e w' ⟨rfl, rfl⟩
          go_wp2_with fail
          refine (H3.out _).mono ?_
          rintro e w' ⟨rfl, rfl⟩
          go_wp2_with fail
          go_ret
          exact ⟨by first | rfl | (rw [Hl.out]; rfl), rfl⟩
        | false =>
          have i3 := in3 n false h3
          have H3 := Lib.hid i3
          rw [h3] at hl
          replace hl : hlen n = 12 := hl
          have Hl := Lib.hid hl
          clear hl
          clear h3 i3
          go_enter Try.func58, Try.ntmps58
          go_wp2_with fail
          refine (H1.out _).mono ?_
          rintro e w' ⟨rfl, rfl⟩
          go_wp2_with fail
          refine (H2.out _).mono ?_
          rintro e w' ⟨rfl, rfl⟩
          go_wp2_with fail
          refine (H3.out _).mono ?_
          rintro e w' ⟨rfl, rfl⟩
          go_wp2_with fail
          go_ret
          exact ⟨by first | rfl | (rw [Hl.out]; rfl), rfl⟩
    · have e97 : Nat.ble 97 n = false := (Bool.eq_false_iff.2 fun h => by have := Nat.le_of_ble_eq_true h; omega)
      have e122 : Nat.ble n 122 = true := Nat.ble_eq_true_of_le (by omega)
      have e48 : Nat.ble 48 n = true := Nat.ble_eq_true_of_le (by omega)
      have e57 : Nat.ble n 57 = true := Nat.ble_eq_true_of_le (by omega)
      have e65 : Nat.ble 65 n = false := (Bool.eq_false_iff.2 fun h => by have := Nat.le_of_ble_eq_true h; omega)
      have e90 : Nat.ble n 90 = true := Nat.ble_eq_true_of_le (by omega)
      rw [e97, e122, e48, e57, e65, e90] at hl
      clear e97 e122 e48 e57 e65 e90
      replace hl : hlen n = 6 := hl
      have Hl := Lib.hid hl
      clear hl
      go_enter Try.func58, Try.ntmps58
      go_wp2_with fail
      refine (H1.out _).mono ?_
      rintro e w' ⟨rfl, rfl⟩
      go_wp2_with fail
      go_ret
      exact ⟨by first | rfl | (rw [Hl.out]; rfl), rfl⟩
    · have e97 : Nat.ble 97 n = false := (Bool.eq_false_iff.2 fun h => by have := Nat.le_of_ble_eq_true h; omega)
      have e122 : Nat.ble n 122 = true := Nat.ble_eq_true_of_le (by omega)
      have e48 : Nat.ble 48 n = true := Nat.ble_eq_true_of_le (by omega)
      have e57 : Nat.ble n 57 = false := (Bool.eq_false_iff.2 fun h => by have := Nat.le_of_ble_eq_true h; omega)
      have e65 : Nat.ble 65 n = false := (Bool.eq_false_iff.2 fun h => by have := Nat.le_of_ble_eq_true h; omega)
      have e90 : Nat.ble n 90 = true := Nat.ble_eq_true_of_le (by omega)
      rw [e97, e122, e48, e57, e65, e90] at hl
      clear e97 e122 e48 e57 e65 e90
      cases h2 : R2 n with
      | true =>
        have i2 := in2 n true h2
        have H2 := Lib.hid i2
        rw [h2] at hl
        replace hl : hlen n = 6 := hl
        have Hl := Lib.hid hl
        clear hl
        clear h2 i2
        go_enter Try.func58, Try.ntmps58
        go_wp2_with fail
        refine (H1.out _).mono ?_
        rintro e w' ⟨rfl, rfl⟩
        go_wp2_with fail
        refine (H2.out _).mono ?_
        rintro e w' ⟨rfl, rfl⟩
        go_wp2_with fail
        go_ret
        exact ⟨by first | rfl | (rw [Hl.out]; rfl), rfl⟩
      | false =>
        have i2 := in2 n false h2
        have H2 := Lib.hid i2
        rw [h2] at hl
        clear h2 i2
        cases h3 : R3 n with
        | true =>
          have i3 := in3 n true h3
          have H3 := Lib.hid i3
          rw [h3] at hl
          replace hl : hlen n = 8 := hl
          have Hl := Lib.hid hl
          clear hl
          clear h3 i3
          go_enter Try.func58, Try.ntmps58
          go_wp2_with fail
          refine (H1.out _).mono ?_
          rintro e w' ⟨rfl, rfl⟩
          go_wp2_with fail
          refine (H2.out _).mono ?_
          rintro e w' ⟨rfl, rfl⟩
          go_wp2_with fail
          refine (H3.out _).mono ?_
          rintro e w' ⟨rfl, rfl⟩
          go_wp2_with fail
          go_ret
          exact ⟨by first | rfl | (rw [Hl.out]; rfl), rfl⟩
        | false =>
          have i3 := in3 n false h3
          have H3 := Lib.hid i3
          rw [h3] at hl
          replace hl : hlen n = 12 := hl
          have Hl := Lib.hid hl
          clear hl
          clear h3 i3
          go_enter Try.func58, Try.ntmps58
          go_wp2_with fail
          refine (H1.out _).mono ?_
          rintro e w' ⟨rfl, rfl⟩
          go_wp2_with fail
          refine (H2.out _).mono ?_
          rintro e w' ⟨rfl, rfl⟩
          go_wp2_with fail
          refine (H3.out _).mono ?_
          rintro e w' ⟨rfl, rfl⟩
          go_wp2_with fail
          go_ret
          exact ⟨by first | rfl | (rw [Hl.out]; rfl), rfl⟩
    · have e97 : Nat.ble 97 n = false := (Bool.eq_false_iff.2 fun h => by have := Nat.le_of_ble_eq_true h; omega)
      have e122 : Nat.ble n 122 = true := Nat.ble_eq_true_of_le (by omega)
      have e48 : Nat.ble 48 n = true := Nat.ble_eq_true_of_le (by omega)
      have e57 : Nat.ble n 57 = false := (Bool.eq_false_iff.2 fun h => by have := Nat.le_of_ble_eq_true h; omega)
      have e65 : Nat.ble 65 n = true := Nat.ble_eq_true_of_le (by omega)
      have e90 : Nat.ble n 90 = true := Nat.ble_eq_true_of_le (by omega)
      rw [e97, e122, e48, e57, e65, e90] at hl
      clear e97 e122 e48 e57 e65 e90
      cases h2 : R2 n with
      | true =>
        have i2 := in2 n true h2
        have H2 := Lib.hid i2
        rw [h2] at hl
        replace hl : hlen n = 6 := hl
        have Hl := Lib.hid hl
        clear hl
        clear h2 i2
        go_enter Try.func58, Try.ntmps58
        go_wp2_with fail
        refine (H1.out _).mono ?_
        rintro e w' ⟨rfl, rfl⟩
        go_wp2_with fail
        refine (H2.out _).mono ?_
        rintro e w' ⟨rfl, rfl⟩
        go_wp2_with fail
        go_ret
        exact ⟨by first | rfl | (rw [Hl.out]; rfl), rfl⟩
      | false =>
        have i2 := in2 n false h2
        have H2 := Lib.hid i2
        rw [h2] at hl
        clear h2 i2
        replace hl : hlen n = 8 := hl
        have Hl := Lib.hid hl
        clear hl
        go_enter Try.func58, Try.ntmps58
        go_wp2_with fail
        refine (H1.out _).mono ?_
        rintro e w' ⟨rfl, rfl⟩
        go_wp2_with fail
        refine (H2.out _).mono ?_
        rintro e w' ⟨rfl, rfl⟩
        go_wp2_with fail
        go_ret
        exact ⟨by first | rfl | (rw [Hl.out]; rfl), rfl⟩
    · have e97 : Nat.ble 97 n = false := (Bool.eq_false_iff.2 fun h => by have := Nat.le_of_ble_eq_true h; omega)
      have e122 : Nat.ble n 122 = true := Nat.ble_eq_true_of_le (by omega)
      have e48 : Nat.ble 48 n = true := Nat.ble_eq_true_of_le (by omega)
      have e57 : Nat.ble n 57 = false := (Bool.eq_false_iff.2 fun h => by have := Nat.le_of_ble_eq_true h; omega)
      have e65 : Nat.ble 65 n = true := Nat.ble_eq_true_of_le (by omega)
      have e90 : Nat.ble n 90 = false := (Bool.eq_false_iff.2 fun h => by have := Nat.le_of_ble_eq_true h; omega)
      rw [e97, e122, e48, e57, e65, e90] at hl
      clear e97 e122 e48 e57 e65 e90
      cases h2 : R2 n with
      | true =>
        have i2 := in2 n true h2
        have H2 := Lib.hid i2
        rw [h2] at hl
        replace hl : hlen n = 6 := hl
        have Hl := Lib.hid hl
        clear hl
        clear h2 i2
        go_enter Try.func58, Try.ntmps58
        go_wp2_with fail
        refine (H1.out _).mono ?_
        rintro e w' ⟨rfl, rfl⟩
        go_wp2_with fail
        refine (H2.out _).mono ?_
        rintro e w' ⟨rfl, rfl⟩
        go_wp2_with fail
        go_ret
        exact ⟨by first | rfl | (rw [Hl.out]; rfl), rfl⟩
      | false =>
        have i2 := in2 n false h2
        have H2 := Lib.hid i2
        rw [h2] at hl
        clear h2 i2
        cases h3 : R3 n with
        | true =>
          have i3 := in3 n true h3
          have H3 := Lib.hid i3
          rw [h3] at hl
          replace hl : hlen n = 8 := hl
          have Hl := Lib.hid hl
          clear hl
          clear h3 i3
          go_enter Try.func58, Try.ntmps58
          go_wp2_with fail
          refine (H1.out _).mono ?_
          rintro e w' ⟨rfl, rfl⟩
          go_wp2_with fail
          refine (H2.out _).mono ?_
          rintro e w' ⟨rfl, rfl⟩
          go_wp2_with fail
          refine (H3.out _).mono ?_
          rintro e w' ⟨rfl, rfl⟩
          go_wp2_with fail
          go_ret
          exact ⟨by first | rfl | (rw [Hl.out]; rfl), rfl⟩
        | false =>
          have i3 := in3 n false h3
          have H3 := Lib.hid i3
          rw [h3] at hl
          replace hl : hlen n = 12 := hl
          have Hl := Lib.hid hl
          clear hl
          clear h3 i3
          go_enter Try.func58, Try.ntmps58
          go_wp2_with fail
          refine (H1.out _).mono ?_
          rintro e w' ⟨rfl, rfl⟩
          go_wp2_with fail
          refine (H2.out _).mono ?_
          rintro e w' ⟨rfl, rfl⟩
          go_wp2_with fail
          refine (H3.out _).mono ?_
          rintro e w' ⟨rfl, rfl⟩
          go_wp2_with fail
          go_ret
          exact ⟨by first | rfl | (rw [Hl.out]; rfl), rfl⟩
    · have e97 : Nat.ble 97 n = true := Nat.ble_eq_true_of_le (by omega)
      have e122 : Nat.ble n 122 = true := Nat.ble_eq_true_of_le (by omega)
      have e48 : Nat.ble 48 n = true := Nat.ble_eq_true_of_le (by omega)
      have e57 : Nat.ble n 57 = false := (Bool.eq_false_iff.2 fun h => by have := Nat.le_of_ble_eq_true h; omega)
      have e65 : Nat.ble 65 n = true := Nat.ble_eq_true_of_le (by omega)
      have e90 : Nat.ble n 90 = false := (Bool.eq_false_iff.2 fun h => by have := Nat.le_of_ble_eq_true h; omega)
      rw [e97, e122, e48, e57, e65, e90] at hl
      clear e97 e122 e48 e57 e65 e90
      replace hl : hlen n = 6 := hl
      have Hl := Lib.hid hl
      clear hl
      go_enter Try.func58, Try.ntmps58
      go_wp2_with fail
      refine (H1.out _).mono ?_
      rintro e w' ⟨rfl, rfl⟩
      go_wp2_with fail
      go_ret
      exact ⟨by first | rfl | (rw [Hl.out]; rfl), rfl⟩
    · have e97 : Nat.ble 97 n = true := Nat.ble_eq_true_of_le (by omega)
      have e122 : Nat.ble n 122 = false := (Bool.eq_false_iff.2 fun h => by have := Nat.le_of_ble_eq_true h; omega)
      have e48 : Nat.ble 48 n = true := Nat.ble_eq_true_of_le (by omega)
      have e57 : Nat.ble n 57 = false := (Bool.eq_false_iff.2 fun h => by have := Nat.le_of_ble_eq_true h; omega)
      have e65 : Nat.ble 65 n = true := Nat.ble_eq_true_of_le (by omega)
      have e90 : Nat.ble n 90 = false := (Bool.eq_false_iff.2 fun h => by have := Nat.le_of_ble_eq_true h; omega)
      rw [e97, e122, e48, e57, e65, e90] at hl
      clear e97 e122 e48 e57 e65 e90
      cases h2 : R2 n with
      | true =>
        have i2 := in2 n true h2
        have H2 := Lib.hid i2
        rw [h2] at hl
        replace hl : hlen n = 6 := hl
        have Hl := Lib.hid hl
        clear hl
        clear h2 i2
        go_enter Try.func58, Try.ntmps58
        go_wp2_with fail
        refine (H1.out _).mono ?_
        rintro e w' ⟨rfl, rfl⟩
        go_wp2_with fail
        refine (H2.out _).mono ?_
        rintro e w' ⟨rfl, rfl⟩
        go_wp2_with fail
        go_ret
        exact ⟨by first | rfl | (rw [Hl.out]; rfl), rfl⟩
      | false =>
        have i2 := in2 n false h2
        have H2 := Lib.hid i2
        rw [h2] at hl
        clear h2 i2
        cases h3 : R3 n with
        | true =>
          have i3 := in3 n true h3
          have H3 := Lib.hid i3
          rw [h3] at hl
          replace hl : hlen n = 8 := hl
          have Hl := Lib.hid hl
          clear hl
          clear h3 i3
          go_enter Try.func58, Try.ntmps58
          go_wp2_with fail
          refine (H1.out _).mono ?_
          rintro e w' ⟨rfl, rfl⟩
          go_wp2_with fail
          refine (H2.out _).mono ?_
          rintro e w' ⟨rfl, rfl⟩
          go_wp2_with fail
          refine (H3.out _).mono ?_
          rintro e w' ⟨rfl, rfl⟩
          go_wp2_with fail
          go_ret
          exact ⟨by first | rfl | (rw [Hl.out]; rfl), rfl⟩
        | false =>
          have i3 := in3 n false h3
          have H3 := Lib.hid i3
          rw [h3] at hl
          replace hl : hlen n = 12 := hl
          have Hl := Lib.hid hl
          clear hl
          clear h3 i3
          go_enter Try.func58, Try.ntmps58
          go_wp2_with fail
          refine (H1.out _).mono ?_
          rintro e w' ⟨rfl, rfl⟩
          go_wp2_with fail
          refine (H2.out _).mono ?_
          rintro e w' ⟨rfl, rfl⟩
          go_wp2_with fail
          refine (H3.out _).mono ?_
          rintro e w' ⟨rfl, rfl⟩
          go_wp2_with fail
          go_ret
          exact ⟨by first | rfl | (rw [Hl.out]; rfl), rfl⟩

end Go.Proofs.Ytkggjcfiomddeaa
