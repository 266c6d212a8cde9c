/- Texts put together by wip/tools/merge.py: Kg Kh Ki Kj Kk Mb. -/
import Derived.Test.YtgnoiheekgmleaaIf
import Derived.Test.YtgnoiheekgmleaaMa

/- Contracts of the reference's in, Length, ahead, Code. -/
namespace Go.Proofs.Ytgnoiheekgmleaa
open Go.ChangeShapes Go.WideShapes Go.RowKit
set_option linter.unusedVariables false

def inF (s : ByteArray) (c : Nat) : Bool := (byt s).any (fun b => b.toNat == c)

theorem in_any (c : Nat) (s : ByteArray) (w : World) (hs : s.size ≤ 1000) :
    Calls Try.prog 94 #[.int .i64 (c : Int), .string s] w fun e w' => e = .returned (.bool (inF s c)) ∧ w = w' := by
  go_enter Try.func94, Try.ntmps94
  go_wp2_with fail
  go_loop [5] (fun i => ∃ j : Nat, j ≤ s.size ∧ i = .int .i64 j ∧ ∀ t (h : t < s.size), t < j → s[t].toNat ≠ c) (fun i => s.size - (intOf i).toNat)
  case atStart => exact ⟨0, by omega, rfl, fun t h h2 => by omega⟩
  case round =>
    obtain ⟨j, hj, rfl, hno⟩ := hrel
    have Hno := Lib.hid hno
    clear hno
    by_cases hlt : j < s.size
    · obtain ⟨d, hd⟩ : ∃ d, s[j].toNat = d := ⟨_, rfl⟩
      have hd8 : d < 256 := by rw [← hd]; exact s[j].toNat_lt
      by_cases hcd : c = d
      · have hin : inF s c = true := by
          unfold inF
          rw [List.any_eq_true]
          refine ⟨s[j], ?_, ?_⟩
          · rw [byt_get]
            exact List.getElem_mem _
          · rw [hd, hcd, beq_self_eq_true]
        have g1 : ((c : Int) == (d : Int)) = true := by rw [hcd, beq_self_eq_true]
        have Hin := Lib.hid hin
        clear hin hcd
        go_wp2_with fail
        go_ret
        exact ⟨by rw [Hin.out]; rfl, rfl⟩
      · have g1 : ((c : Int) == (d : Int)) = false := by rw [beq_eq_false_iff_ne]; omega
        have hn2 : ∀ t (h : t < s.size), t < j + 1 → s[t].toNat ≠ c := by
          intro t h h2
          rcases Nat.lt_or_ge t j with h3 | h3
          · exact Hno.out t h h3
          · have : t = j := by omega
            subst this
            rw [hd]
            omega
        have Hn2 := Lib.hid hn2
        clear hn2 hcd
        go_wp2_with fail
        go_round
        case rel => exact ⟨j + 1, by omega, by go_num, Hn2.out⟩
        case measure => simp [intOf]; omega
    · obtain rfl : j = s.size := by omega
      have hin : inF s c = false := by
        unfold inF
        rw [List.any_eq_false]
        intro x hx
        obtain ⟨t, ht, rfl⟩ := List.getElem_of_mem hx
        have ht2 : t < s.size := by rw [← byt_length]; exact ht
        have := Hno.out t ht2 ht2
        rw [byt_get] at this
        simpa using this
      have Hin := Lib.hid hin
      clear hin
      go_wp2_with fail
      go_ret
      exact ⟨by rw [Hin.out]; rfl, rfl⟩

def R1 (n : Nat) : Bool := inF ⟨#[32, 97, 101, 105, 111, 116, 110, 115, 114]⟩ n
def R2 (n : Nat) : Bool := inF ⟨#[45, 46, 47, 58]⟩ n
def R3 (n : Nat) : Bool := inF ⟨#[37, 38, 61, 63, 95, 43, 44, 59]⟩ n

theorem rl_all : ∀ n, n < 257 → hlen n = bif R1 n then 5 else bif ((Nat.ble 97 n && Nat.ble n 122) || (Nat.ble 48 n && Nat.ble n 57)) || R2 n then 6 else bif (Nat.ble 65 n && Nat.ble n 90) || R3 n then 8 else 12 := by decide +kernel

theorem in1 (n : Nat) (b : Bool) (h : R1 n = b) (w : World) : Calls Try.prog 94 #[.int .i64 (n : Int), .string ⟨#[32, 97, 101, 105, 111, 116, 110, 115, 114]⟩] w fun e w' => e = .returned (.bool b) ∧ w = w' := by
  subst h
  exact in_any n _ w (by decide)
theorem in2 (n : Nat) (b : Bool) (h : R2 n = b) (w : World) : Calls Try.prog 94 #[.int .i64 (n : Int), .string ⟨#[45, 46, 47, 58]⟩] w fun e w' => e = .returned (.bool b) ∧ w = w' := by
  subst h
  exact in_any n _ w (by decide)
theorem in3 (n : Nat) (b : Bool) (h : R3 n = b) (w : World) : Calls Try.prog 94 #[.int .i64 (n : Int), .string ⟨#[37, 38, 61, 63, 95, 43, 44, 59]⟩] w fun e w' => e = .returned (.bool b) ∧ w = w' := by
  subst h
  exact in_any n _ w (by decide)

set_option maxHeartbeats 2000000 in
theorem rLength_any (n : Nat) (w : World) (hn : n < 257) :
    Calls Try.prog 90 #[.int .i64 (n : Int)] w fun e w' => e = .returned (.int .i64 (hlen n : Nat)) ∧ w = w' := by
  have hl := rl_all n hn
  cases h1 : R1 n with
  | true =>
    have i1 := in1 n true h1
    have H1 := Lib.hid i1
    rw [h1] at hl
    replace hl : hlen n = 5 := hl
    have Hl := Lib.hid hl
    clear hl h1 i1
    go_enter Try.func90, Try.ntmps90
    go_wp2_with fail
    refine (H1.out _).mono ?_
    rintro e w' ⟨rfl, rfl⟩
    go_wp2_with fail
    go_ret
    exact ⟨by first | rfl | (rw [Hl.out]; rfl), rfl⟩
  | false =>
    have i1 := in1 n false h1
    have H1 := Lib.hid i1
    rw [h1] at hl
    clear h1 i1
    have hc : n ≤ 47 ∨ (48 ≤ n ∧ n ≤ 57) ∨ (58 ≤ n ∧ n ≤ 64) ∨ (65 ≤ n ∧ n ≤ 90) ∨ (91 ≤ n ∧ n ≤ 96) ∨ (97 ≤ n ∧ n ≤ 122) ∨ 123 ≤ n := by omega
    rcases hc with hc | hc | hc | hc | hc | hc | hc
    · have e97 : Nat.ble 97 n = false := (Bool.eq_false_iff.2 fun h => by have := Nat.le_of_ble_eq_true h; omega)
      have e122 : Nat.ble n 122 = true := Nat.ble_eq_true_of_le (by omega)
      have e48 : Nat.ble 48 n = false := (Bool.eq_false_iff.2 fun h => by have := Nat.le_of_ble_eq_true h; omega)
      have e57 : Nat.ble n 57 = true := Nat.ble_eq_true_of_le (by omega)
      have e65 : Nat.ble 65 n = false := (Bool.eq_false_iff.2 fun h => by have := Nat.le_of_ble_eq_true h; omega)
      have e90 : Nat.ble n 90 = true := Nat.ble_eq_true_of_le (by omega)
      rw [e97, e122, e48, e57, e65, e90] at hl
      clear e97 e122 e48 e57 e65 e90
      cases h2 : R2 n with
      | true =>
        have i2 := in2 n true h2
        have H2 := Lib.hid i2
        rw [h2] at hl
        replace hl : hlen n = 6 := hl
        have Hl := Lib.hid hl
        clear hl
        clear h2 i2
        go_enter Try.func90, Try.ntmps90
        go_wp2_with fail
        refine (H1.out _).mono ?_
        rintro e w' ⟨rfl, rfl⟩
        go_wp2_with fail
        refine (H2.out _).mono ?_
        rintro e w' ⟨rfl, rfl⟩
        go_wp2_with fail
        go_ret
        exact ⟨by first | rfl | (rw [Hl.out]; rfl), rfl⟩
      | false =>
        have i2 := in2 n false h2
        have H2 := Lib.hid i2
        rw [h2] at hl
        clear h2 i2
        cases h3 : R3 n with
        | true =>
          have i3 := in3 n true h3
          have H3 := Lib.hid i3
          rw [h3] at hl
          replace hl : hlen n = 8 := hl
          have Hl := Lib.hid hl
          clear hl
          clear h3 i3
          go_enter Try.func90, Try.ntmps90
          go_wp2_with fail
          refine (H1.out _).mono ?_
          rintro e w' ⟨rfl, rfl⟩
          go_wp2_with fail
          refine (H2.out _).mono ?_
          rintro e w' ⟨rfl, rfl⟩
          go_wp2_with fail
          refine (H3.out _).mono ?_
          rintro e w' ⟨rfl, rfl⟩
          go_wp2_with fail
          go_ret
          exact ⟨by first | rfl | (rw [Hl.out]; rfl), rfl⟩
        | false =>
          have i3 := in3 n false h3
          have H3 := Lib.hid i3
          rw [h3] at hl
          replace hl : hlen n = 12 := hl
          have Hl := Lib.hid hl
          clear hl
          clear h3 i3
          go_enter Try.func90, Try.ntmps90
          go_wp2_with fail
          refine (H1.out _).mono ?_
          rintro e w' ⟨rfl, rfl⟩
          go_wp2_with fail
          refine (H2.out _).mono ?_
          rintro e w' ⟨rfl, rfl⟩
          go_wp2_with fail
          refine (H3.out _).mono ?_
          rintro e w' ⟨rfl, rfl⟩
          go_wp2_with fail
          go_ret
          exact ⟨by first | rfl | (rw [Hl.out]; rfl), rfl⟩
    · have e97 : Nat.ble 97 n = false := (Bool.eq_false_iff.2 fun h => by have := Nat.le_of_ble_eq_true h; omega)
      have e122 : Nat.ble n 122 = true := Nat.ble_eq_true_of_le (by omega)
      have e48 : Nat.ble 48 n = true := Nat.ble_eq_true_of_le (by omega)
      have e57 : Nat.ble n 57 = true := Nat.ble_eq_true_of_le (by omega)
      have e65 : Nat.ble 65 n = false := (Bool.eq_false_iff.2 fun h => by have := Nat.le_of_ble_eq_true h; omega)
      have e90 : Nat.ble n 90 = true := Nat.ble_eq_true_of_le (by omega)
      rw [e97, e122, e48, e57, e65, e90] at hl
      clear e97 e122 e48 e57 e65 e90
      replace hl : hlen n = 6 := hl
      have Hl := Lib.hid hl
      clear hl
      go_enter Try.func90, Try.ntmps90
      go_wp2_with fail
      refine (H1.out _).mono ?_
      rintro e w' ⟨rfl, rfl⟩
      go_wp2_with fail
      go_ret
      exact ⟨by first | rfl | (rw [Hl.out]; rfl), rfl⟩
    · have e97 : Nat.ble 97 n = false := (Bool.eq_false_iff.2 fun h => by have := Nat.le_of_ble_eq_true h; omega)
      have e122 : Nat.ble n 122 = true := Nat.ble_eq_true_of_le (by omega)
      have e48 : Nat.ble 48 n = true := Nat.ble_eq_true_of_le (by omega)
      have e57 : Nat.ble n 57 = false := (Bool.eq_false_iff.2 fun h => by have := Nat.le_of_ble_eq_true h; omega)
      have e65 : Nat.ble 65 n = false := (Bool.eq_false_iff.2 fun h => by have := Nat.le_of_ble_eq_true h; omega)
      have e90 : Nat.ble n 90 = true := Nat.ble_eq_true_of_le (by omega)
      rw [e97, e122, e48, e57, e65, e90] at hl
      clear e97 e122 e48 e57 e65 e90
      cases h2 : R2 n with
      | true =>
        have i2 := in2 n true h2
        have H2 := Lib.hid i2
        rw [h2] at hl
        replace hl : hlen n = 6 := hl
        have Hl := Lib.hid hl
        clear hl
        clear h2 i2
        go_enter Try.func90, Try.ntmps90
        go_wp2_with fail
        refine (H1.out _).mono ?_
        rintro e w' ⟨rfl, rfl⟩
        go_wp2_with fail
        refine (H2.out _).mono ?_
        rintro e w' ⟨rfl, rfl⟩
        go_wp2_with fail
        go_ret
        exact ⟨by first | rfl | (rw [Hl.out]; rfl), rfl⟩
      | false =>
        have i2 := in2 n false h2
        have H2 := Lib.hid i2
        rw [h2] at hl
        clear h2 i2
        cases h3 : R3 n with
        | true =>
          have i3 := in3 n true h3
          have H3 := Lib.hid i3
          rw [h3] at hl
          replace hl : hlen n = 8 := hl
          have Hl := Lib.hid hl
          clear hl
          clear h3 i3
          go_enter Try.func90, Try.ntmps90
          go_wp2_with fail
          refine (H1.out _).mono ?_
          rintro e w' ⟨rfl, rfl⟩
          go_wp2_with fail
          refine (H2.out _).mono ?_
          rintro e w' ⟨rfl, rfl⟩
          go_wp2_with fail
          refine (H3.out _).mono ?_
          rintro e w' ⟨rfl, rfl⟩
          go_wp2_with fail
          go_ret
          exact ⟨by first | rfl | (rw [Hl.out]; rfl), rfl⟩
        | false =>
          have i3 := in3 n false h3
          have H3 := Lib.hid i3
          rw [h3] at hl
          replace hl : hlen n = 12 := hl
          have Hl := Lib.hid hl
          clear hl
          clear h3 i3
          go_enter Try.func90, Try.ntmps90
          go_wp2_with fail
          refine (H1.out _).mono ?_
          rintro e w' ⟨rfl, rfl⟩
          go_wp2_with fail
          refine (H2.out _).mono ?_
          rintro e w' ⟨rfl, rfl⟩
          go_wp2_with fail
          refine (H3.out _).mono ?_
          rintro e w' ⟨rfl, rfl⟩
          go_wp2_with fail
          go_ret
          exact ⟨by first | rfl | (rw [Hl.out]; rfl), rfl⟩
    · have e97 : Nat.ble 97 n = false := (Bool.eq_false_iff.2 fun h => by have := Nat.le_of_ble_eq_true h; omega)
      have e122 : Nat.ble n 122 = true := Nat.ble_eq_true_of_le (by omega)
      have e48 : Nat.ble 48 n = true := Nat.ble_eq_true_of_le (by omega)
      have e57 : Nat.ble n 57 = false := (Bool.eq_false_iff.2 fun h => by have := Nat.le_of_ble_eq_true h; omega)
      have e65 : Nat.ble 65 n = true := Nat.ble_eq_true_of_le (by omega)
      have e90 : Nat.ble n 90 = true := Nat.ble_eq_true_of_le (by omega)
      rw [e97, e122, e48, e57, e65, e90] at hl
      clear e97 e122 e48 e57 e65 e90
      cases h2 : R2 n with
      | true =>
        have i2 := in2 n true h2
        have H2 := Lib.hid i2
        rw [h2] at hl
        replace hl : hlen n = 6 := hl
        have Hl := Lib.hid hl
        clear hl
        clear h2 i2
        go_enter Try.func90, Try.ntmps90
        go_wp2_with fail
        refine (H1.out _).mono ?_
        rintro e w' ⟨rfl, rfl⟩
        go_wp2_with fail
        refine (H2.out _).mono ?_
        rintro e w' ⟨rfl, rfl⟩
        go_wp2_with fail
        go_ret
        exact ⟨by first | rfl | (rw [Hl.out]; rfl), rfl⟩
      | false =>
        have i2 := in2 n false h2
        have H2 := Lib.hid i2
        rw [h2] at hl
        clear h2 i2
        replace hl : hlen n = 8 := hl
        have Hl := Lib.hid hl
        clear hl
        go_enter Try.func90, Try.ntmps90
        go_wp2_with fail
        refine (H1.out _).mono ?_
        rintro e w' ⟨rfl, rfl⟩
        go_wp2_with fail
        refine (H2.out _).mono ?_
        rintro e w' ⟨rfl, rfl⟩
        go_wp2_with fail
        go_ret
        exact ⟨by first | rfl | (rw [Hl.out]; rfl), rfl⟩
    · have e97 : Nat.ble 97 n = false := (Bool.eq_false_iff.2 fun h => by have := Nat.le_of_ble_eq_true h; omega)
      have e122 : Nat.ble n 122 = true := Nat.ble_eq_true_of_le (by omega)
      have e48 : Nat.ble 48 n = true := Nat.ble_eq_true_of_le (by omega)
      have e57 : Nat.ble n 57 = false := (Bool.eq_false_iff.2 fun h => by have := Nat.le_of_ble_eq_true h; omega)
      have e65 : Nat.ble 65 n = true := Nat.ble_eq_true_of_le (by omega)
      have e90 : Nat.ble n 90 = false := (Bool.eq_false_iff.2 fun h => by have := Nat.le_of_ble_eq_true h; omega)
      rw [e97, e122, e48, e57, e65, e90] at hl
      clear e97 e122 e48 e57 e65 e90
      cases h2 : R2 n with
      | true =>
        have i2 := in2 n true h2
        have H2 := Lib.hid i2
        rw [h2] at hl
        replace hl : hlen n = 6 := hl
        have Hl := Lib.hid hl
        clear hl
        clear h2 i2
        go_enter Try.func90, Try.ntmps90
        go_wp2_with fail
        refine (H1.out _).mono ?_
        rintro e w' ⟨rfl, rfl⟩
        go_wp2_with fail
        refine (H2.out _).mono ?_
        rintro e w' ⟨rfl, rfl⟩
        go_wp2_with fail
        go_ret
        exact ⟨by first | rfl | (rw [Hl.out]; rfl), rfl⟩
      | false =>
        have i2 := in2 n false h2
        have H2 := Lib.hid i2
        rw [h2] at hl
        clear h2 i2
        cases h3 : R3 n with
        | true =>
          have i3 := in3 n true h3
          have H3 := Lib.hid i3
          rw [h3] at hl
          replace hl : hlen n = 8 := hl
          have Hl := Lib.hid hl
          clear hl
          clear h3 i3
          go_enter Try.func90, Try.ntmps90
          go_wp2_with fail
          refine (H1.out _).mono ?_
          rintro e w' ⟨rfl, rfl⟩
          go_wp2_with fail
          refine (H2.out _).mono ?_
          rintro e w' ⟨rfl, rfl⟩
          go_wp2_with fail
          refine (H3.out _).mono ?_
          rintro e w' ⟨rfl, rfl⟩
          go_wp2_with fail
          go_ret
          exact ⟨by first | rfl | (rw [Hl.out]; rfl), rfl⟩
        | false =>
          have i3 := in3 n false h3
          have H3 := Lib.hid i3
          rw [h3] at hl
          replace hl : hlen n = 12 := hl
          have Hl := Lib.hid hl
          clear hl
          clear h3 i3
          go_enter Try.func90, Try.ntmps90
          go_wp2_with fail
          refine (H1.out _).mono ?_
          rintro e w' ⟨rfl, rfl⟩
          go_wp2_with fail
          refine (H2.out _).mono ?_
          rintro e w' ⟨rfl, rfl⟩
          go_wp2_with fail
          refine (H3.out _).mono ?_
          rintro e w' ⟨rfl, rfl⟩
          go_wp2_with fail
          go_ret
          exact ⟨by first | rfl | (rw [Hl.out]; rfl), rfl⟩
    · have e97 : Nat.ble 97 n = true := Nat.ble_eq_true_of_le (by omega)
      have e122 : Nat.ble n 122 = true := Nat.ble_eq_true_of_le (by omega)
      have e48 : Nat.ble 48 n = true := Nat.ble_eq_true_of_le (by omega)
      have e57 : Nat.ble n 57 = false := (Bool.eq_false_iff.2 fun h => by have := Nat.le_of_ble_eq_true h; omega)
      have e65 : Nat.ble 65 n = true := Nat.ble_eq_true_of_le (by omega)
      have e90 : Nat.ble n 90 = false := (Bool.eq_false_iff.2 fun h => by have := Nat.le_of_ble_eq_true h; omega)
      rw [e97, e122, e48, e57, e65, e90] at hl
      clear e97 e122 e48 e57 e65 e90
      replace hl : hlen n = 6 := hl
      have Hl := Lib.hid hl
      clear hl
      go_enter Try.func90, Try.ntmps90
      go_wp2_with fail
      refine (H1.out _).mono ?_
      rintro e w' ⟨rfl, rfl⟩
      go_wp2_with fail
      go_ret
      exact ⟨by first | rfl | (rw [Hl.out]; rfl), rfl⟩
    · have e97 : Nat.ble 97 n = true := Nat.ble_eq_true_of_le (by omega)
      have e122 : Nat.ble n 122 = false := (Bool.eq_false_iff.2 fun h => by have := Nat.le_of_ble_eq_true h; omega)
      have e48 : Nat.ble 48 n = true := Nat.ble_eq_true_of_le (by omega)
      have e57 : Nat.ble n 57 = false := (Bool.eq_false_iff.2 fun h => by have := Nat.le_of_ble_eq_true h; omega)
      have e65 : Nat.ble 65 n = true := Nat.ble_eq_true_of_le (by omega)
      have e90 : Nat.ble n 90 = false := (Bool.eq_false_iff.2 fun h => by have := Nat.le_of_ble_eq_true h; omega)
      rw [e97, e122, e48, e57, e65, e90] at hl
      clear e97 e122 e48 e57 e65 e90
      cases h2 : R2 n with
      | true =>
        have i2 := in2 n true h2
        have H2 := Lib.hid i2
        rw [h2] at hl
        replace hl : hlen n = 6 := hl
        have Hl := Lib.hid hl
        clear hl
        clear h2 i2
        go_enter Try.func90, Try.ntmps90
        go_wp2_with fail
        refine (H1.out _).mono ?_
        rintro e w' ⟨rfl, rfl⟩
        go_wp2_with fail
        refine (H2.out _).mono ?_
        rintro e w' ⟨rfl, rfl⟩
        go_wp2_with fail
        go_ret
        exact ⟨by first | rfl | (rw [Hl.out]; rfl), rfl⟩
      | false =>
        have i2 := in2 n false h2
        have H2 := Lib.hid i2
        rw [h2] at hl
        clear h2 i2
        cases h3 : R3 n with
        | true =>
          have i3 := in3 n true h3
          have H3 := Lib.hid i3
          rw [h3] at hl
          replace hl : hlen n = 8 := hl
          have Hl := Lib.hid hl
          clear hl
          clear h3 i3
          go_enter Try.func90, Try.ntmps90
          go_wp2_with fail
          refine (H1.out _).mono ?_
          rintro e w' ⟨rfl, rfl⟩
          go_wp2_with fail
          refine (H2.out _).mono ?_
          rintro e w' ⟨rfl, rfl⟩
          go_wp2_with fail
          refine (H3.out _).mono ?_
          rintro e w' ⟨rfl, rfl⟩
          go_wp2_with fail
          go_ret
          exact ⟨by first | rfl | (rw [Hl.out]; rfl), rfl⟩
        | false =>
          have i3 := in3 n false h3
          have H3 := Lib.hid i3
          rw [h3] at hl
          replace hl : hlen n = 12 := hl
          have Hl := Lib.hid hl
          clear hl
          clear h3 i3
          go_enter Try.func90, Try.ntmps90
          go_wp2_with fail
          refine (H1.out _).mono ?_
          rintro e w' ⟨rfl, rfl⟩
          go_wp2_with fail
          refine (H2.out _).mono ?_
          rintro e w' ⟨rfl, rfl⟩
          go_wp2_with fail
          refine (H3.out _).mono ?_
          rintro e w' ⟨rfl, rfl⟩
          go_wp2_with fail
          go_ret
          exact ⟨by first | rfl | (rw [Hl.out]; rfl), rfl⟩

end Go.Proofs.Ytgnoiheekgmleaa

/- Contracts of the reference's ahead, Code. -/
namespace Go.Proofs.Ytgnoiheekgmleaa
open Go.ChangeShapes Go.WideShapes Go.RowKit
set_option linter.unusedVariables false

def aheadB (a b : Nat) : Bool := Nat.blt (hlen a) (hlen b) || (Nat.beq (hlen a) (hlen b) && Nat.blt a b)
def csum (c : Nat) : Nat → Nat
  | 0 => 0
  | k + 1 => csum c k + (bif aheadB k c then 4096 / 2 ^ hlen k else 0)

theorem csum_code : ∀ c, c < 257 → csum c 257 / 2 ^ (12 - hlen c) = hcode c := by decide +kernel
theorem csum_le (c : Nat) : ∀ k, csum c k ≤ 128 * k
  | 0 => Nat.le_refl _
  | k + 1 => by
    have h := csum_le c k
    have h2 : 4096 / 2 ^ hlen k ≤ 128 := by rcases hlen_cases k with h | h | h | h <;> rw [h] <;> decide
    rw [csum]
    cases aheadB k c
    · simp only [cond_false]
      omega
    · simp only [cond_true]
      omega

theorem ahead_any (a b : Nat) (w : World) (ha : a < 257) (hb : b < 257) :
    Calls Try.prog 93 #[.int .i64 (a : Int), .int .i64 (b : Int)] w fun e w' => e = .returned (.bool (aheadB a b)) ∧ w = w' := by
  have hA := fun w => rLength_any a w ha
  have hB := fun w => rLength_any b w hb
  have hab : ∀ c, (c = true ↔ (hlen a < hlen b ∨ (hlen a = hlen b ∧ a < b))) → aheadB a b = c := by
    intro c hc
    rw [Bool.eq_iff_iff, hc]
    simp [aheadB]
  obtain ⟨n, hn⟩ : ∃ n, hlen a = n := ⟨_, rfl⟩
  obtain ⟨m, hm⟩ : ∃ n, hlen b = n := ⟨_, rfl⟩
  rw [hn] at hA hab
  rw [hm] at hB hab
  have HA := Lib.hid hA
  have HB := Lib.hid hB
  clear hA hB hn hm
  rcases Nat.lt_trichotomy n m with h | h | h
  · have Hab := Lib.hid (hab true (by simp; omega))
    have g1 : decide ((n : Int) < (m : Int)) = true := by rw [decide_eq_true_iff]; omega
    clear hab
    go_enter Try.func93, Try.ntmps93
    go_wp2_with fail
    refine (HA.out _).mono ?_
    rintro e w' ⟨rfl, rfl⟩
    go_wp2_with fail
    refine (HB.out _).mono ?_
    rintro e w' ⟨rfl, rfl⟩
    go_wp2_with fail
    go_ret
    exact ⟨by rw [Hab.out]; rfl, rfl⟩
  · subst h
    have Hab := Lib.hid (hab (decide (a < b)) (by simp))
    clear hab
    go_enter Try.func93, Try.ntmps93
    go_wp2_with fail
    refine (HA.out _).mono ?_
    rintro e w' ⟨rfl, rfl⟩
    go_wp2_with fail
    refine (HB.out _).mono ?_
    rintro e w' ⟨rfl, rfl⟩
    go_wp2_with fail
    refine (HA.out _).mono ?_
    rintro e w' ⟨rfl, rfl⟩
    go_wp2_with fail
    refine (HB.out _).mono ?_
    rintro e w' ⟨rfl, rfl⟩
    go_wp2_with fail
    go_ret
    exact ⟨by rw [Hab.out]; rfl, rfl⟩
  · have Hab := Lib.hid (hab false (by simp; omega))
    have g1 : decide (n < m) = false := by rw [decide_eq_false_iff_not]; omega
    have g2 : ((n : Int) == (m : Int)) = false := by rw [beq_eq_false_iff_ne]; omega
    clear hab
    go_enter Try.func93, Try.ntmps93
    go_wp2_with fail
    refine (HA.out _).mono ?_
    rintro e w' ⟨rfl, rfl⟩
    go_wp2_with fail
    refine (HB.out _).mono ?_
    rintro e w' ⟨rfl, rfl⟩
    go_wp2_with fail
    refine (HA.out _).mono ?_
    rintro e w' ⟨rfl, rfl⟩
    go_wp2_with fail
    refine (HB.out _).mono ?_
    rintro e w' ⟨rfl, rfl⟩
    go_wp2_with fail
    go_ret
    exact ⟨by rw [Hab.out]; rfl, rfl⟩

set_option maxRecDepth 100000 in
theorem rCode_any (c : Nat) (w : World) (hc : c < 257) :
    Calls Try.prog 89 #[.int .i64 (c : Int)] w fun e w' => e = .returned (.int .u16 (hcode c : Nat)) ∧ w = w' := by
  have hcc := csum_code c hc
  have hcode16 : hcode c < 4096 := by
    have h1 := code_lt c hc
    have h2 : 2 ^ hlen c ≤ 2 ^ 12 := Nat.pow_le_pow_right (by omega) (hlen_le c).2
    omega
  have hL := fun w => rLength_any c w hc
  have hll := hlen_le c
  obtain ⟨n, hn⟩ : ∃ n, hlen c = n := ⟨_, rfl⟩
  obtain ⟨d, hd⟩ : ∃ n, hcode c = n := ⟨_, rfl⟩
  rw [hn] at hL hcc hll
  rw [hd] at hcc hcode16
  rw [hd]
  obtain ⟨hll1, hll2⟩ := hll
  have HL := Lib.hid hL
  have Hcc := Lib.hid hcc
  clear hL hcc hn hd
  go_enter Try.func89, Try.ntmps89
  go_wp2_with fail
  go_loop [3, 4] (fun n i => ∃ j m : Nat, j ≤ 257 ∧ i = .int .i64 j ∧ m = csum c j ∧ n = .int .i64 m) (fun _ i => 257 - (intOf i).toNat)
  case atStart => exact ⟨0, 0, by omega, rfl, rfl, rfl⟩
  case round =>
    obtain ⟨j, m, hj, rfl, hm, rfl⟩ := hrel
    have hml := csum_le c j
    rw [← hm] at hml
    by_cases hlt : j < 257
    · have hnext : csum c (j + 1) = m + (bif aheadB j c then 4096 / 2 ^ hlen j else 0) := by rw [csum, hm]
      have hA := fun w => ahead_any j c w hlt hc
      have hB := fun w => rLength_any j w hlt
      have hlj := hlen_le j
      obtain ⟨b, hb⟩ : ∃ b, aheadB j c = b := ⟨_, rfl⟩
      obtain ⟨k, hk⟩ : ∃ k, hlen j = k := ⟨_, rfl⟩
      rw [hb] at hnext hA
      rw [hk] at hnext hB hlj
      obtain ⟨hlj1, hlj2⟩ := hlj
      have HA := Lib.hid hA
      have HB := Lib.hid hB
      clear hA hB hb hk hm
      cases b with
      | false =>
        have Hnext := Lib.hid (show csum c (j + 1) = m from hnext)
        clear hnext
        go_wp2_with fail
        refine (HA.out _).mono ?_
        rintro e w' ⟨rfl, rfl⟩
        go_wp2_with fail
        go_round
        case rel => exact ⟨j + 1, m, by omega, by go_num, Hnext.out.symm, rfl⟩
        case measure => simp [intOf]; omega
      | true =>
        obtain ⟨q, hq⟩ : ∃ q, 4096 / 2 ^ k = q := ⟨_, rfl⟩
        have hnext : csum c (j + 1) = m + 4096 / 2 ^ k := hnext
        rw [hq] at hnext
        have hqi : (4096 : Int) / 2 ^ k = (q : Int) := by
          rw [← hq, Int.natCast_ediv, Int.natCast_pow]
          rfl
        have hql : q ≤ 4096 := by rw [← hq]; exact Nat.div_le_self _ _
        have Hnext := Lib.hid hnext
        clear hnext hq
        go_wp2_with fail
        refine (HA.out _).mono ?_
        rintro e w' ⟨rfl, rfl⟩
        go_wp2_with fail
        refine (HB.out _).mono ?_
        rintro e w' ⟨rfl, rfl⟩
        go_wp2_with fail
        go_round
        case rel => exact ⟨j + 1, m + q, by omega, by go_num, Hnext.out.symm, by go_num⟩
        case measure => simp [intOf]; omega
    · obtain rfl : j = 257 := by omega
      obtain ⟨z, hz⟩ : ∃ z, 12 - n = z := ⟨_, rfl⟩
      have hzi : (12 : Int) - (n : Int) = (z : Int) := by omega
      have hdi : (m : Int) / 2 ^ z = (d : Int) := by
        rw [← Hcc.out, hz, ← hm, Int.natCast_ediv, Int.natCast_pow]
        rfl
      have hzl : z ≤ 12 := by omega
      clear hm hz
      go_wp2_with fail
      refine (HL.out _).mono ?_
      rintro e w' ⟨rfl, rfl⟩
      go_wp2_with fail
      go_ret
      exact ⟨rfl, rfl⟩

end Go.Proofs.Ytgnoiheekgmleaa

/- Bricks: slices of uint16 and of int that a call makes; the contract of the reference's codes. -/
namespace Go.Proofs.Ytgnoiheekgmleaa
open Go.ChangeShapes Go.WideShapes Go.RowKit
set_option linter.unusedVariables false

def kv (k : IntKind) (x : Nat) : Value := .int k (x : Int)

/-- From block B on: a slice of the call's own with these numbers. -/
def OwnN (t : TypeId) (k : IntKind) (B : Nat) (w : World) (v : Value) (l : List Nat) : Prop := w.ownsRow B t 1 v l.length (l.map (kv k))

theorem OwnN.below {t : TypeId} {k : IntKind} {B : Nat} {w w' : World} {v : Value} {l : List Nat} (h : OwnN t k B w v l) (hb : Below w.heap.size w w') : OwnN t k B w' v l := by
  obtain ⟨h1, h2⟩ := h
  refine ⟨h1, ?_⟩
  rcases h2 with h2 | ⟨g, cap, cur, a, b, c, d⟩
  · exact .inl h2
  · refine .inr ⟨g, cap, cur, a, b, ?_, d⟩
    have : g < w.heap.size := by
      rcases Nat.lt_or_ge g w.heap.size with h1 | h1
      · exact h1
      · rw [Array.getElem?_eq_none h1] at c
        simp at c
    rw [hb.block g this]
    exact c

theorem OwnN.nilAlloc (t : TypeId) (k : IntKind) (B : Nat) (w : World) (hB : B ≤ w.heap.size) : OwnN t k B (w.alloc (.cells #[] t)) (.slice (some ⟨w.heap.size, 0, none⟩) 0 0) [] := by
  refine ⟨rfl, .inr ⟨w.heap.size, 0, #[], rfl, hB, ?_, Nat.le_refl _, by unfold maxLen; omega, rfl, rfl⟩⟩
  show (w.heap.push _)[w.heap.size]? = _
  simp

theorem OwnN.shape {t : TypeId} {k : IntKind} {B : Nat} {w : World} {v : Value} {l : List Nat} (h : OwnN t k B w v l) (hl : 0 < l.length) :
    ∃ g cap, v = .slice (some ⟨g, 0, none⟩) l.length cap ∧ B ≤ g ∧ g < w.heap.size ∧ ∀ j (hj : j < l.length), w.cell? ⟨g, j, none⟩ = some (.int k (l[j] : Int)) := by
  obtain ⟨h1, h2⟩ := h
  rcases h2 with ⟨_, h2⟩ | ⟨g, cap, cur, a, b, c, hn, hm, hs, ht⟩
  · omega
  · refine ⟨g, cap, a, b, ?_, ?_⟩
    · rcases Nat.lt_or_ge g w.heap.size with h1 | h1
      · exact h1
      · rw [Array.getElem?_eq_none h1] at c
        simp at c
    · intro j hj
      unfold World.cell?
      rw [c]
      simp only [Option.isSome_none, Bool.false_eq_true, if_false]
      have := congrArg (fun x => x[j]?) ht
      simp only [Nat.mul_one, List.getElem?_map, List.getElem?_eq_getElem hj, Option.map_some] at this
      rw [List.getElem?_take, if_pos hj, Array.getElem?_toList] at this
      exact this

theorem Try.info16 : (Try.prog.info? 57).map (fun i => (i.zero, i.size, i.bytes)) = some (some (.int .u16 0), 1, 2) := by kernel_rfl

theorem app16 {ops : Array Oper} {rest : List Oper} {o : Oper} {a : Act} {Q : Exit → Act → World → Prop} (wr : World) (hgd : o.guard = none) (s x : Operand)
    (ho : o.op = .call { callee := .builtin .append, args := #[s, x], argTypes := #[51, 51] })
    (B : Nat) (v : Value) (l : List Nat) (X : Int) (y : Nat) (hX : X = (y : Int)) (hs : a.eval s = v) (hx : a.eval x = .slice (some ⟨wr.heap.size, 0, none⟩) 1 1)
    (hown : OwnN 57 .u16 B wr v l) (hl : l.length ≤ 1000000) (hB : B ≤ wr.heap.size)
    (h : ∀ v' w', OwnN 57 .u16 B w' v' (l ++ [y]) → Below B wr w' → wpList Try.prog ops Q rest (a.put o.dst v') w') : wpList Try.prog ops Q (o :: rest) a (wr.alloc (.cells #[.int .u16 X] 57)) := by
  obtain ⟨i, hi, hz, hsz, hy⟩ := info_parts Try.info16
  subst hX
  refine wpList_append_own _ hgd s x 51 ho B 57 i (.int .u16 0) 1 2 Try.underlying51 hi hz hsz hy rfl (by decide) v l.length (l.map (kv .u16)) hs (World.ownsRow.alloc hown _) ⟨wr.heap.size, 0, none⟩ 1 1 [kv .u16 y] hx rfl ?_ ?_ ?_ ?_ ?_ ?_
  · intro j u hj
    match j, hj with
    | 0, hj =>
      simp at hj
      subst hj
      have e : (⟨wr.heap.size, 0, none⟩ : Addr).add 0 = ⟨wr.heap.size, 0, none⟩ := by simp [Addr.add]
      rw [e, World.cell?_alloc_at _ _ _ _ rfl]
      rfl
  · intro u hu
    simp at hu
    subst hu
    rfl
  · unfold maxLen; omega
  · omega
  · simp; omega
  · intro v' w' h1 h2 _
    refine h v' w' ?_ ?_
    · unfold OwnN
      rw [List.length_append, List.length_singleton, List.map_append]
      exact h1
    · have h3 : Below B wr (wr.alloc (.cells #[.int .u16 (y : Int)] 57)) := (Below.refl _ _).alloc hB _
      refine h3.grown h2 (by simp; omega) ?_
      intro k hk
      exact (World.ownsRow.lt hown k hk).1

theorem Try.infoI : (Try.prog.info? 3).map (fun i => (i.zero, i.size, i.bytes)) = some (some (.int .i64 0), 1, 8) := by kernel_rfl

theorem appI {ops : Array Oper} {rest : List Oper} {o : Oper} {a : Act} {Q : Exit → Act → World → Prop} (wr : World) (hgd : o.guard = none) (s x : Operand)
    (ho : o.op = .call { callee := .builtin .append, args := #[s, x], argTypes := #[128, 128] })
    (B : Nat) (v : Value) (l : List Nat) (X : Int) (y : Nat) (hX : X = (y : Int)) (hs : a.eval s = v) (hx : a.eval x = .slice (some ⟨wr.heap.size, 0, none⟩) 1 1)
    (hown : OwnN 3 .i64 B wr v l) (hl : l.length ≤ 1000000) (hB : B ≤ wr.heap.size)
    (h : ∀ v' w', OwnN 3 .i64 B w' v' (l ++ [y]) → Below B wr w' → wpList Try.prog ops Q rest (a.put o.dst v') w') : wpList Try.prog ops Q (o :: rest) a (wr.alloc (.cells #[.int .i64 X] 3)) := by
  obtain ⟨i, hi, hz, hsz, hy⟩ := info_parts Try.infoI
  subst hX
  refine wpList_append_own _ hgd s x 128 ho B 3 i (.int .i64 0) 1 8 Try.underlying128 hi hz hsz hy rfl (by decide) v l.length (l.map (kv .i64)) hs (World.ownsRow.alloc hown _) ⟨wr.heap.size, 0, none⟩ 1 1 [kv .i64 y] hx rfl ?_ ?_ ?_ ?_ ?_ ?_
  · intro j u hj
    match j, hj with
    | 0, hj =>
      simp at hj
      subst hj
      have e : (⟨wr.heap.size, 0, none⟩ : Addr).add 0 = ⟨wr.heap.size, 0, none⟩ := by simp [Addr.add]
      rw [e, World.cell?_alloc_at _ _ _ _ rfl]
      rfl
  · intro u hu
    simp at hu
    subst hu
    rfl
  · unfold maxLen; omega
  · omega
  · simp; omega
  · intro v' w' h1 h2 _
    refine h v' w' ?_ ?_
    · unfold OwnN
      rw [List.length_append, List.length_singleton, List.map_append]
      exact h1
    · have h3 : Below B wr (wr.alloc (.cells #[.int .i64 (y : Int)] 3)) := (Below.refl _ _).alloc hB _
      refine h3.grown h2 (by simp; omega) ?_
      intro k hk
      exact (World.ownsRow.lt hown k hk).1

theorem Own8.nilAlloc (B : Nat) (w : World) (hB : B ≤ w.heap.size) : Own8 B (w.alloc (.cells #[] 5)) (.slice (some ⟨w.heap.size, 0, none⟩) 0 0) [] := by
  refine ⟨rfl, .inr ⟨w.heap.size, 0, #[], rfl, hB, ?_, Nat.le_refl _, by unfold maxLen; omega, rfl, rfl⟩⟩
  show (w.heap.push _)[w.heap.size]? = _
  simp

/-- Block g holds the codes. -/
def HasCodes (w : World) (g : Nat) : Prop := g < w.heap.size ∧ ∀ j, j < 257 → w.cell? ⟨g, j, none⟩ = some (.int .u16 (hcode j : Nat))

theorem HasCodes.next {w w' : World} {g : Nat} (h : HasCodes w g) (hb : Below w.heap.size w w') : HasCodes w' g :=
  ⟨Nat.lt_of_lt_of_le h.1 hb.size, fun j hj => by rw [hb.cell h.1]; exact h.2 j hj⟩

set_option maxRecDepth 100000 in
theorem codes_any (w : World) :
    Calls Try.prog 80 #[] w fun e w' => ∃ g cap, e = .returned (.slice (some ⟨g, 0, none⟩) 257 cap) ∧ Below w.heap.size w w' ∧ w.heap.size ≤ g ∧ HasCodes w' g := by
  have hC := fun (c : Nat) (hc : c < 257) w => rCode_any c w hc
  have HC := Lib.hid hC
  clear hC
  obtain ⟨B, hB⟩ : ∃ B, w.heap.size = B := ⟨_, rfl⟩
  have HB := Lib.hid hB
  rw [hB]
  clear hB
  go_enter Try.func80, Try.ntmps80
  go_wp2_with fail
  go_loopw [1, 2] (fun v i wr => ∃ j : Nat, j ≤ 257 ∧ i = .int .i64 j ∧ OwnN 57 .u16 B wr v ((List.range j).map hcode) ∧ Below B w wr) (fun _ i _ => 257 - (intOf i).toNat)
  case atStart =>
    refine ⟨0, by omega, rfl, ?_, ?_⟩
    · exact OwnN.nilAlloc _ _ _ _ (by rw [HB.out]; exact Nat.le_refl _)
    · exact (Below.refl _ _).alloc (by rw [HB.out]; exact Nat.le_refl _) _
  case round =>
    obtain ⟨j, hj, rfl, hO, hb⟩ := hrel
    have HO := Lib.hid hO
    have Hb := Lib.hid hb
    clear hO hb
    by_cases hlt : j < 257
    · have hwB : B ≤ wr.heap.size := by have := Hb.out.size; rw [HB.out] at this; exact this
      obtain ⟨y, hy⟩ : ∃ y, hcode j = y := ⟨_, rfl⟩
      have hC := fun w => HC.out j hlt w
      rw [hy] at hC
      have HCj := Lib.hid hC
      have Hy := Lib.hid hy
      have hll : ((List.range j).map hcode).length ≤ 1000000 := by simp; omega
      clear hC hy
      go_wp2_with fail
      refine (HCj.out _).mono ?_
      rintro e w' ⟨rfl, rfl⟩
      go_wp2_with (at_builtin; refine app16 wr rfl _ _ rfl B u1 _ _ y rfl rfl rfl HO.out hll hwB ?_)
      intro v' wn hOn hbn
      have HOn := Lib.hid hOn
      have Hbn := Lib.hid (Hb.out.trans hbn)
      clear hOn hbn
      go_wp2_with fail
      go_roundw
      case rel => exact ⟨j + 1, by omega, by go_num, by rw [List.range_succ, List.map_append, List.map_singleton, Hy.out]; exact HOn.out, Hbn.out⟩
      case measure => simp [intOf]; omega
    · obtain rfl : j = 257 := by omega
      obtain ⟨g, cap, hv, hg, hgs, hcell⟩ := HO.out.shape (by simp)
      have hv : u1 = .slice (some ⟨g, 0, none⟩) 257 cap := by rw [hv]; simp
      have Hcell := Lib.hid hcell
      clear hcell
      subst hv
      go_wp2_with fail
      go_ret
      refine ⟨g, cap, rfl, Hb.out, hg, hgs, ?_⟩
      intro j hj
      have := Hcell.out j (by simp; omega)
      simpa using this

end Go.Proofs.Ytgnoiheekgmleaa

/- Contract of the reference's Bits. -/
namespace Go.Proofs.Ytgnoiheekgmleaa
open Go.ChangeShapes Go.WideShapes Go.RowKit
set_option linter.unusedVariables false

def nb (B : List Bool) : List Nat := B.map Bool.toNat
theorem nb_append (a b : List Bool) : nb (a ++ b) = nb a ++ nb b := by simp [nb]
theorem nb_length (a : List Bool) : (nb a).length = a.length := by simp [nb]

theorem bit_nat (x : Nat) : (x % 2 == 1).toNat = x % 2 := by
  have := Nat.mod_two_eq_zero_or_one x
  rcases this with h | h <;> rw [h] <;> rfl

set_option maxRecDepth 100000 in
theorem rBits_any (s : ByteArray) (g cap : Nat) (w : World) (hs : s.size ≤ 10000) (hcodes : HasCodes w g) :
    Calls Try.prog 81 #[.string s, .slice (some ⟨g, 0, none⟩) 257 cap] w fun e w' => ∃ v, e = .returned v ∧ OwnN 3 .i64 w.heap.size w' v (nb (encB (byt s))) ∧ Below w.heap.size w w' := by
  have hbl := byt_length s
  obtain ⟨l, hl⟩ : ∃ l, byt s = l := ⟨_, rfl⟩
  rw [hl] at hbl ⊢
  have hget : ∀ j (h : j < s.size) (h2 : j < l.length), s[j].toNat = l[j].toNat := by
    intro j h h2
    rw [byt_get]
    simp [hl]
  have Hget := Lib.hid hget
  have Hbl := Lib.hid hbl
  have Hcodes := Lib.hid hcodes
  clear hget hl hbl hcodes
  obtain ⟨B, hB⟩ : ∃ B, w.heap.size = B := ⟨_, rfl⟩
  have HB := Lib.hid hB
  rw [hB]
  clear hB
  go_enter Try.func81, Try.ntmps81
  go_wp2_with fail
  go_loopw [5, 6] (fun v i wr => ∃ j : Nat, j ≤ s.size ∧ i = .int .i64 j ∧ OwnN 3 .i64 B wr v (nb (encB (l.take j))) ∧ Below B w wr) (fun _ i _ => s.size - (intOf i).toNat)
  case atStart =>
    refine ⟨0, by omega, rfl, ?_, ?_⟩
    · exact OwnN.nilAlloc _ _ _ _ (by rw [HB.out]; exact Nat.le_refl _)
    · exact (Below.refl _ _).alloc (by rw [HB.out]; exact Nat.le_refl _) _
  case round =>
    obtain ⟨j, hj, rfl, hO, hb⟩ := hrel
    have HO := Lib.hid hO
    have Hb := Lib.hid hb
    clear hO hb
    by_cases hlt : j < s.size
    · obtain ⟨c, hc⟩ : ∃ c, s[j].toNat = c := ⟨_, rfl⟩
      have hjl : j < l.length := by rw [Hbl.out]; exact hlt
      have hc8 : c < 256 := by rw [← hc]; exact s[j].toNat_lt
      have hcl := hlen_le c
      have hE2 : encB (l.take (j + 1)) = encB (l.take j) ++ cb c := by
        rw [encB_take l j hjl, ← hc, Hget.out j hlt hjl]
      have hEl := encB_len (l.take j)
      rw [List.length_take] at hEl
      have hL := fun w => rLength_any c w (by omega)
      have hcbt := fun t h => bitsN_at (hlen c) (hcode c) t h
      have hcbl : (cb c).take (hlen c) = cb c := List.take_of_length_le (by rw [cb_length]; exact Nat.le_refl _)
      have hcb0 : cb c = bitsN (hlen c) (hcode c) := rfl
      have hd12 : hcode c < 4096 := by
        have h1 := code_lt c (by omega)
        have h2 : 2 ^ hlen c ≤ 2 ^ 12 := Nat.pow_le_pow_right (by omega) hcl.2
        omega
      obtain ⟨n, hn⟩ : ∃ n, hlen c = n := ⟨_, rfl⟩
      obtain ⟨d, hd⟩ : ∃ n, hcode c = n := ⟨_, rfl⟩
      rw [hn] at hcl hL hcbt hcbl hcb0
      rw [hd] at hcbt hcb0 hd12
      rw [← hcb0] at hcbt
      obtain ⟨hcl1, hcl2⟩ := hcl
      have HE2 := Lib.hid hE2
      have HL := Lib.hid hL
      have Hcbt := Lib.hid hcbt
      have Hcbl := Lib.hid hcbl
      have Hd := Lib.hid hd
      clear hE2 hL hcbt hcbl hcb0 hn hd
      go_wp2_with fail
      refine (HL.out _).mono ?_
      rintro e w' ⟨rfl, rfl⟩
      go_wp2_with fail
      go_loopw [5, 8] (fun v i wz => ∃ t : Nat, t ≤ n ∧ i = .int .i64 ((n : Int) - 1 - (t : Int)) ∧ OwnN 3 .i64 B wz v (nb (encB (l.take j) ++ (cb c).take t)) ∧ Below B w wz) (fun _ i _ => (intOf i + 1).toNat)
      case atStart => exact ⟨0, by omega, by go_num, by simpa using HO.out, Hb.out⟩
      case round =>
        obtain ⟨t, ht, rfl, hO2, hb2⟩ := hrel
        have HO2 := Lib.hid hO2
        have Hb2 := Lib.hid hb2
        clear hO2 hb2
        by_cases htn : t < n
        · obtain ⟨K, hK⟩ : ∃ K, n - 1 - t = K := ⟨_, rfl⟩
          have hKi : (n : Int) - 1 - (t : Int) = (K : Int) := by omega
          have hKl : K ≤ 12 := by omega
          obtain ⟨x, hx⟩ : ∃ x, d / 2 ^ K % 2 = x := ⟨_, rfl⟩
          have hcell : wr.cell? ⟨g, c, none⟩ = some (.int .u16 (d : Int)) := by
            have := (Hcodes.out.next (Hb2.out.mono (by rw [HB.out]; exact Nat.le_refl _))).2 c (by omega)
            rw [Hd.out] at this
            exact this
          have hx2 : x < 2 := by omega
          have hxi : ((d : Int) / 2 ^ K).tmod 2 = (x : Int) := by
            have e : (d : Int) / 2 ^ K = ((d / 2 ^ K : Nat) : Int) := by
              rw [Int.natCast_ediv, Int.natCast_pow]
              rfl
            rw [e, ← hx]
            generalize d / 2 ^ K = q
            rw [Int.tmod_eq_emod_of_nonneg (by omega)]
            omega
          have hnx : nb (encB (l.take j) ++ (cb c).take t) ++ [x] = nb (encB (l.take j) ++ (cb c).take (t + 1)) := by
            rw [Hcbt.out t htn, hK, ← List.append_assoc, nb_append (encB (l.take j) ++ (cb c).take t)]
            congr 1
            show [x] = [(d / 2 ^ K % 2 == 1).toNat]
            rw [bit_nat, hx]
          have hll : (nb (encB (l.take j) ++ (cb c).take t)).length ≤ 1000000 := by
            rw [nb_length, List.length_append, List.length_take]
            omega
          have hwB : B ≤ wr.heap.size := by have := Hb2.out.size; rw [HB.out] at this; exact this
          have Hnx := Lib.hid hnx
          clear hnx hx hK
          go_wp2_with (at_builtin; refine appI wr rfl _ _ rfl B u5 _ _ x rfl rfl rfl HO2.out hll hwB ?_)
          intro v' wn hOn hbn
          rw [Hnx.out] at hOn
          have HOn := Lib.hid hOn
          have Hbn := Lib.hid (Hb2.out.trans hbn)
          clear hOn hbn
          go_wp2_with fail
          go_roundw
          case rel => exact ⟨t + 1, by omega, by go_num, HOn.out, Hbn.out⟩
          case measure => simp [intOf]; omega
        · obtain rfl : t = n := by omega
          have hfin : nb (encB (l.take j) ++ (cb c).take t) = nb (encB (l.take (j + 1))) := by rw [HE2.out, Hcbl.out]
          have Hfin := Lib.hid hfin
          clear hfin
          go_wp2_with fail
          go_roundw
          case rel => exact ⟨j + 1, by omega, by go_num, by rw [← Hfin.out]; exact HO2.out, Hb2.out⟩
          case measure => simp [intOf]; omega
    · obtain rfl : j = s.size := by omega
      have hEf : nb (encB (l.take s.size)) = nb (encB l) := by rw [List.take_of_length_le (by rw [Hbl.out]; exact Nat.le_refl _)]
      have HEf := Lib.hid hEf
      clear hEf
      go_wp2_with fail
      go_ret
      exact ⟨_, rfl, by rw [← HEf.out]; exact HO.out, Hb.out⟩

end Go.Proofs.Ytgnoiheekgmleaa

/- Contract of the reference's Pack. -/
namespace Go.Proofs.Ytgnoiheekgmleaa
open Go.ChangeShapes Go.WideShapes Go.RowKit
set_option linter.unusedVariables false

theorem OwnN.shape0 {t : TypeId} {k : IntKind} {B : Nat} {w : World} {v : Value} {l : List Nat} (h : OwnN t k B w v l) : ∃ p cap, v = .slice p l.length cap := by
  obtain ⟨h1, h2⟩ := h
  rcases h2 with ⟨h2, h3⟩ | ⟨g, cap, cur, a, _⟩
  · exact ⟨none, 0, by rw [h2, h3]⟩
  · exact ⟨_, _, a⟩

set_option maxRecDepth 100000 in
set_option maxHeartbeats 1000000 in
theorem rPack_any (s : ByteArray) (w : World) (hs : s.size ≤ 10000) :
    Calls Try.prog 72 #[.string s] w fun e w' => e = .returned (.string (txt (packF (byt s)))) ∧ Below w.heap.size w w' := by
  have hbl := byt_length s
  obtain ⟨l, hl⟩ : ∃ l, byt s = l := ⟨_, rfl⟩
  obtain ⟨E, hE⟩ : ∃ E, encB l = E := ⟨_, rfl⟩
  obtain ⟨eL, heL⟩ : ∃ e, E.length = e := ⟨_, rfl⟩
  have hel : eL ≤ 12 * s.size := by
    have := encB_len l
    rw [hE, heL, ← hl, hbl] at this
    exact this
  have hpk : packF l = fb (E ++ pad eL) ((eL + 7) / 8) := by unfold packF; rw [hE, heL]
  have hB := fun g cap w hc => rBits_any s g cap w hs hc
  rw [hl] at hB ⊢
  rw [hE] at hB
  obtain ⟨pd, hpd⟩ : ∃ pd, (8 - eL % 8) % 8 = pd := ⟨_, rfl⟩
  have hpadl : pad eL = (cb 256).take pd := by rw [pad, hpd]
  have hcbt := fun t h => bitsN_at (hlen 256) (hcode 256) t h
  have hcb0 : cb 256 = bitsN (hlen 256) (hcode 256) := rfl
  have hd12 : hcode 256 < 4096 := by
    have h1 := code_lt 256 (by omega)
    rw [hlen_end] at h1
    exact h1
  obtain ⟨d, hd⟩ : ∃ n, hcode 256 = n := ⟨_, rfl⟩
  rw [hlen_end, hd] at hcbt hcb0
  rw [hd] at hd12
  rw [← hcb0] at hcbt
  have HB := Lib.hid hB
  have Hpk := Lib.hid hpk
  have Hpadl := Lib.hid hpadl
  have Hcbt := Lib.hid hcbt
  have Hd := Lib.hid hd
  have HeL := Lib.hid heL
  have Hpd := Lib.hid hpd
  clear hB hpk hpadl hcbt hd heL hpd hE hl hbl hcb0
  go_enter Try.func72, Try.ntmps72
  go_wp2_with fail
  refine (codes_any _).mono ?_
  rintro e w1 ⟨g, cap, rfl, hb1, hg, hcd⟩
  have Hb1 := Lib.hid hb1
  have Hcd := Lib.hid hcd
  clear hb1 hcd
  go_wp2_with fail
  refine (HB.out g cap w1 Hcd.out).mono ?_
  rintro e w2 ⟨v2, rfl, hO2, hb2⟩
  obtain ⟨B1, hB1⟩ : ∃ B, w1.heap.size = B := ⟨_, rfl⟩
  rw [hB1] at hO2 hb2
  have HB1 := Lib.hid hB1
  have HO2 := Lib.hid hO2
  have Hb2 := Lib.hid hb2
  clear hO2 hb2 hB1
  go_wp2_with fail
  go_loopw [4, 5] (fun v i wr => ∃ t L : Nat, t ≤ pd ∧ L = eL + t ∧ i = .int .i64 (11 - (t : Int)) ∧ OwnN 3 .i64 B1 wr v (nb (E ++ (cb 256).take t)) ∧ Below B1 w1 wr) (fun _ i _ => (intOf i + (pd : Int) - 11).toNat)
  case atStart => exact ⟨0, _, by omega, rfl, rfl, by simpa using HO2.out, Hb2.out⟩
  case round =>
    obtain ⟨t, L, ht, hL, rfl, hO, hb⟩ := hrel
    have hLen : (nb (E ++ (cb 256).take t)).length = L := by
      rw [nb_length, List.length_append, List.length_take, cb_length, hlen_end, HeL.out, hL]
      have := Hpd.out
      omega
    obtain ⟨p, cp, hv⟩ := hO.shape0
    rw [hLen] at hv
    have hLl : L ≤ 200000 := by have := Hpd.out; omega
    have HO := Lib.hid hO
    have Hb := Lib.hid hb
    have HLen := Lib.hid hLen
    have HL := Lib.hid hL
    clear hO hb hLen hL
    by_cases htp : t < pd
    · obtain ⟨r, hr⟩ : ∃ r, L % 8 = r := ⟨_, rfl⟩
      have hmi : (L : Int).tmod 8 = (r : Int) := by rw [Int.tmod_eq_emod_of_nonneg (by omega)]; omega
      have hr0 : 0 < r := by have := Hpd.out; have := HL.out; omega
      have hr1 : ((r : Int) == 0) = false := by rw [beq_eq_false_iff_ne]; omega
      have hr2 : ((r : Int) != 0) = true := by rw [bne_iff_ne]; omega
      have ht8 : t < 8 := by have := Hpd.out; omega
      obtain ⟨K, hK⟩ : ∃ K, 11 - t = K := ⟨_, rfl⟩
      have hKi : (11 : Int) - (t : Int) = (K : Int) := by omega
      have hKl : K ≤ 12 := by omega
      obtain ⟨x, hx⟩ : ∃ x, d / 2 ^ K % 2 = x := ⟨_, rfl⟩
      have hx2 : x < 2 := by omega
      have hcell : wr.cell? ⟨g, 256, none⟩ = some (.int .u16 (d : Int)) := by
        have := (Hcd.out.next (Hb.out.mono (by rw [HB1.out]; exact Nat.le_refl _))).2 256 (by omega)
        rw [Hd.out] at this
        exact this
      have hxi : ((d : Int) / 2 ^ K).tmod 2 = (x : Int) := by
        have e : (d : Int) / 2 ^ K = ((d / 2 ^ K : Nat) : Int) := by
          rw [Int.natCast_ediv, Int.natCast_pow]
          rfl
        rw [e, ← hx]
        generalize d / 2 ^ K = q
        rw [Int.tmod_eq_emod_of_nonneg (by omega)]
        omega
      have hnx : nb (E ++ (cb 256).take t) ++ [x] = nb (E ++ (cb 256).take (t + 1)) := by
        rw [Hcbt.out t (by omega), show 12 - 1 - t = K by omega, ← List.append_assoc, nb_append (E ++ (cb 256).take t)]
        congr 1
        show [x] = [(d / 2 ^ K % 2 == 1).toNat]
        rw [bit_nat, hx]
      have hll : (nb (E ++ (cb 256).take t)).length ≤ 1000000 := by rw [HLen.out]; omega
      have hwB : B1 ≤ wr.heap.size := by have := Hb.out.size; rw [HB1.out] at this; exact this
      have Hnx := Lib.hid hnx
      clear hnx hx hK hr
      subst hv
      go_wp2_with (at_builtin; refine appI wr rfl _ _ rfl B1 (.slice p L cp) _ _ x rfl rfl rfl HO.out hll hwB ?_)
      intro v' wn hOn hbn
      rw [Hnx.out] at hOn
      have HOn := Lib.hid hOn
      have Hbn := Lib.hid (Hb.out.trans hbn)
      clear hOn hbn
      go_wp2_with fail
      go_roundw
      case rel => exact ⟨t + 1, L + 1, by omega, by have := HL.out; omega, by go_num, HOn.out, Hbn.out⟩
      case measure => simp [intOf]; omega
    · obtain rfl : t = pd := by omega
      obtain ⟨m, hm⟩ : ∃ m, (eL + 7) / 8 = m := ⟨_, rfl⟩
      have hL8 : L = 8 * m := by have := Hpd.out; have := HL.out; omega
      have hmi : (L : Int).tmod 8 = 0 := by rw [Int.tmod_eq_emod_of_nonneg (by omega)]; omega
      have hbits : ∀ j, j < L → ∃ g2, p = some ⟨g2, 0, none⟩ ∧ g2 < wr.heap.size ∧ ∃ x : Nat, x < 2 ∧ wr.cell? ⟨g2, j, none⟩ = some (.int .i64 (x : Int)) ∧ ∀ q k, 8 * q + k = j → ((E ++ (cb 256).take t).drop (8 * q)).take (k + 1) = ((E ++ (cb 256).take t).drop (8 * q)).take k ++ [x == 1] := by
        intro j hj
        have hj2 : j < (nb (E ++ (cb 256).take t)).length := by rw [HLen.out]; exact hj
        have hj3 : j < (E ++ (cb 256).take t).length := by rw [← nb_length]; exact hj2
        obtain ⟨g2, cap2, hv2, _, hg2, hc2⟩ := HO.out.shape (by omega)
        rw [hv] at hv2
        injection hv2 with hp2 _ _
        refine ⟨g2, hp2, hg2, ((E ++ (cb 256).take t)[j]).toNat, Bool.toNat_lt _, ?_, ?_⟩
        · have hn : (nb (E ++ (cb 256).take t))[j] = ((E ++ (cb 256).take t)[j]).toNat := by simp only [nb, List.getElem_map]
          rw [hc2 j hj2, hn]
        · intro q k hqk
          have hk : k < ((E ++ (cb 256).take t).drop (8 * q)).length := by rw [List.length_drop]; omega
          rw [List.take_succ_eq_append_getElem hk, List.getElem_drop]
          congr 2
          have e : (E ++ (cb 256).take t)[8 * q + k] = (E ++ (cb 256).take t)[j] := by congr 1
          rw [e]
          cases (E ++ (cb 256).take t)[j] <;> rfl
      have hpk2 : packF l = fb (E ++ (cb 256).take t) m := by rw [Hpk.out, Hpadl.out, hm]
      obtain ⟨P, hP⟩ : ∃ P, E ++ (cb 256).take t = P := ⟨_, rfl⟩
      rw [hP] at hbits hpk2
      have Hbits := Lib.hid hbits
      have Hpk2 := Lib.hid hpk2
      have HL8 := Lib.hid hL8
      have hm3 : m ≤ 30000 := by omega
      clear hbits hpk2 hP hm hL8
      obtain ⟨B2, hB2⟩ : ∃ B, wr.heap.size = B := ⟨_, rfl⟩
      have HB2 := Lib.hid hB2
      clear hB2
      subst hv
      obtain ⟨wq, rfl⟩ : ∃ wq, wq = wr := ⟨_, rfl⟩
      go_wp2_with fail
      go_loopw [6, 7] (fun v i wz => ∃ q : Nat, q ≤ m ∧ i = .int .i64 (8 * (q : Int)) ∧ Own8 B2 wz v (fb P q) ∧ Below B2 wq wz) (fun _ i _ => 8 * m - (intOf i).toNat)
      case atStart =>
        refine ⟨0, by omega, rfl, ?_, ?_⟩
        · exact Own8.nilAlloc _ _ (by rw [HB2.out]; exact Nat.le_refl _)
        · exact (Below.refl _ _).alloc (by rw [HB2.out]; exact Nat.le_refl _) _
      case round =>
        obtain ⟨q, hq, rfl, hO3, hb3⟩ := hrel
        have HO3 := Lib.hid hO3
        have Hb3 := Lib.hid hb3
        clear hO3 hb3
        by_cases hlt : q < m
        · have hqi : decide ((8 : Int) * (q : Int) < (L : Int)) = true := by rw [decide_eq_true_iff]; have := HL8.out; omega
          have hwB : B2 ≤ wr.heap.size := by have := Hb3.out.size; rw [HB2.out] at this; exact this
          have hfl : (fb P q).length ≤ 1000000 := by rw [fb_length]; omega
          go_wp2_with fail
          go_loop [8, 9] (fun n i => ∃ k c : Nat, k ≤ 8 ∧ i = .int .i64 k ∧ c = bv ((P.drop (8 * q)).take k) ∧ n = .int .i64 c) (fun _ i => 8 - (intOf i).toNat)
          case atStart => exact ⟨0, 0, by omega, rfl, by simp [bv], rfl⟩
          case round =>
            obtain ⟨k, c, hk, rfl, hc, rfl⟩ := hrel
            have hcl : c < 256 := by
              have h1 := bv_lt ((P.drop (8 * q)).take k)
              have h2 : 2 ^ ((P.drop (8 * q)).take k).length ≤ 2 ^ 8 := Nat.pow_le_pow_right (by omega) (by rw [List.length_take]; omega)
              omega
            by_cases hk8 : k < 8
            · obtain ⟨J, hJ⟩ : ∃ J, 8 * q + k = J := ⟨_, rfl⟩
              have hJl : J < L := by have := HL8.out; omega
              have hJli : (J : Int) < (L : Int) := by omega
              obtain ⟨g2, rfl, hg2, x, hx2, hcl2, htk⟩ := Hbits.out J hJl
              have hcell : wr.cell? ⟨g2, J, none⟩ = some (.int .i64 (x : Int)) := by
                rw [Hb3.out.cell (by rw [← HB2.out]; exact hg2)]
                exact hcl2
              have hJi : (8 : Int) * (q : Int) + (k : Int) = (J : Int) := by omega
              have hnext : c * 2 + x = bv ((P.drop (8 * q)).take (k + 1)) := by
                rw [htk q k hJ, bv_bit _ x hx2, hc]
              have Hnext := Lib.hid hnext
              have HJ := Lib.hid hJ
              clear hnext hc hcl2 htk hJ
              go_wp2_with fail
              go_round
              case rel => exact ⟨k + 1, c * 2 + x, by omega, by go_num, Hnext.out, by go_num⟩
              case measure => simp [intOf]; omega
            · obtain rfl : k = 8 := by omega
              have hfs := fb_succ P q
              rw [← hc] at hfs
              have hX : (c : Int) = ((UInt8.ofNat c).toNat : Int) := by
                rw [UInt8.toNat_ofNat']
                omega
              have HX := Lib.hid hX
              have Hfs := Lib.hid hfs
              clear hX hfs hc
              go_wp2_with (at_builtin; refine app8 wr rfl _ _ rfl B2 u6 (fb P q) _ (UInt8.ofNat c) HX.out rfl rfl HO3.out hfl hwB ?_)
              intro v' wn hOn hbn
              rw [← Hfs.out] at hOn
              have HOn := Lib.hid hOn
              have Hbn := Lib.hid (Hb3.out.trans hbn)
              clear hOn hbn
              go_wp2_with fail
              go_roundw
              case rel =>
                exact ⟨q + 1, by omega, by go_num, HOn.out, Hbn.out⟩
              case measure => simp [intOf]; omega
        · obtain rfl : q = m := by omega
          have hqi : decide ((8 : Int) * (q : Int) < (L : Int)) = false := by rw [decide_eq_false_iff_not]; have := HL8.out; omega
          have hcv := conv_own B2 wr u6 _ HO3.out
          rw [← Hpk2.out] at hcv
          go_wp2_with fail
          go_ret
          refine ⟨rfl, ?_⟩
          have h1 : Below w.heap.size w wq := Hb1.out.trans (Hb.out.mono (by rw [← HB1.out]; exact Hb1.out.size))
          exact h1.trans (Hb3.out.mono (by rw [← HB2.out]; exact h1.size))

end Go.Proofs.Ytgnoiheekgmleaa

/- Bricks: append of a whole slice, from whatever source. No program in sight. -/
namespace Go.Proofs.Ytgnoiheekgmleaa
open Go.ChangeShapes Go.WideShapes Go.RowKit
set_option linter.unusedVariables false

/-- What is appended may be nil. -/
theorem run_append_src {P : Program} {w : World} (base : Nat) (t ty e : TypeId) (i : TypeInfo) (z : Value) (size bytes : Nat) (ht : P.underlying t = some (.slice e)) (hi : P.info? e = some i) (hz : i.zero = some z)
    (hsize : i.size = size) (hby : i.bytes = bytes) (hzs : z.cells.size = size) (hsz : 0 < size)
    (v : Value) (n : Nat) (xs : List Value) (hown : w.ownsRow base e size v n xs)
    (p : Option Addr) (m c : Nat) (news : List Value) (hl : news.length = m * size) (hsrc : 0 < m → ∃ A, p = some A ∧ ∀ j u, news[j]? = some u → w.cell? (A.add j) = some u) (hp0 : p = none → c = 0) (h1 : ∀ u ∈ news, u.oneCell' = true)
    (h63 : n + m ≤ 1000000) (hbytes : bytes ≤ 1000) (hbase : base ≤ w.heap.size) :
    ∃ v' w', (Builtin.append_ #[t, t] ty #[v, .slice p m c]).run P w = .ok v' w' ∧ w'.ownsRow base e size v' (n + m) (xs ++ news) ∧ Only (fun k => v.ownBlock = some k) w w' ∧ (v'.ownBlock = v.ownBlock ∨ v'.ownBlock = some w.heap.size) ∧ (m = 0 → v' = v ∧ w' = w) := by
  cases p with
  | none =>
    have hm : m = 0 := by
      rcases Nat.eq_zero_or_pos m with h0 | h0
      · exact h0
      · obtain ⟨A, hA, _⟩ := hsrc h0
        cases hA
    subst hm
    have hc := hp0 rfl
    subst hc
    have hnews : news = [] := List.eq_nil_of_length_eq_zero (by simpa using hl)
    subst hnews
    exact ⟨v, w, run_append_owned_none w base t ty e i size ht hi v n xs hown, by simpa using hown, Only.refl _ _, .inl rfl, fun _ => ⟨rfl, rfl⟩⟩
  | some A =>
    have hcells : ∀ j u, news[j]? = some u → w.cell? (A.add j) = some u := by
      intro j u hu
      rcases Nat.eq_zero_or_pos m with h0 | h0
      · subst h0
        have hnews : news = [] := List.eq_nil_of_length_eq_zero (by simpa using hl)
        subst hnews
        simp at hu
      · obtain ⟨A', hA, hc⟩ := hsrc h0
        injection hA with hA
        subst hA
        exact hc j u hu
    have hmul : (n + m) * bytes ≤ 1000000 * 1000 := Nat.mul_le_mul h63 hbytes
    rcases Nat.eq_zero_or_pos m with h0 | h0
    · subst h0
      have hnews : news = [] := List.eq_nil_of_length_eq_zero (by simpa using hl)
      subst hnews
      refine ⟨v, w, ?_, by simpa using hown, Only.refl _ _, .inl rfl, fun _ => ⟨rfl, rfl⟩⟩
      rcases hown.2 with ⟨rfl, rfl⟩ | ⟨g, cap, cur, rfl, _, _, hnc, _⟩
      · simp [Builtin.append_, run_underlying ht, sizeOf, typeInfo, hi, Builtin.lenOf, Builtin.firstCells, loadCells, loadCellsFrom]
      · simp [Builtin.append_, run_underlying ht, sizeOf, typeInfo, hi, Builtin.lenOf, Builtin.firstCells, hnc, storeCells, loadCells, loadCellsFrom]
    · obtain ⟨v', w', h, h2, h3, _, h4⟩ := run_append_own_at (P := P) w base t ty e i z size bytes ht hi hz hsize hby hzs hsz v n xs hown A m c news hl hcells h1 (by unfold maxLen; omega) (by omega) hbase
      exact ⟨v', w', h, h2, (Only.refl _ _).grown h3 (fun k hk => .inl hk), h4, fun e => by omega⟩

theorem wpList_append_src {P : Program} {w : World} {ops : Array Oper} {rest : List Oper} {o : Oper} {a : Act} {Q : Exit → Act → World → Prop} (hgd : o.guard = none) (s x : Operand) (t : TypeId)
    (ho : o.op = .call { callee := .builtin .append, args := #[s, x], argTypes := #[t, t] })
    (base : Nat) (e : TypeId) (i : TypeInfo) (z : Value) (size bytes : Nat) (ht : P.underlying t = some (.slice e)) (hi : P.info? e = some i) (hz : i.zero = some z)
    (hsize : i.size = size) (hby : i.bytes = bytes) (hzs : z.cells.size = size) (hsz : 0 < size)
    (v : Value) (n : Nat) (xs : List Value) (hown : w.ownsRow base e size v n xs)
    (p : Option Addr) (m c : Nat) (news : List Value) (hl : news.length = m * size) (hsrc : 0 < m → ∃ A, p = some A ∧ ∀ j u, news[j]? = some u → w.cell? (A.add j) = some u) (hp0 : p = none → c = 0) (h1 : ∀ u ∈ news, u.oneCell' = true)
    (h63 : n + m ≤ 1000000) (hbytes : bytes ≤ 1000) (hbase : base ≤ w.heap.size) (hs : a.eval s = v) (hx : a.eval x = .slice p m c)
    (h : ∀ v' w', w'.ownsRow base e size v' (n + m) (xs ++ news) → Only (fun k => v.ownBlock = some k) w w' → (v'.ownBlock = v.ownBlock ∨ v'.ownBlock = some w.heap.size) → (m = 0 → v' = v ∧ w' = w) → wpList P ops Q rest (a.put o.dst v') w') :
    wpList P ops Q (o :: rest) a w := by
  refine wpList_plain hgd fun _ hK => ?_
  obtain ⟨v', w', hrun, h2, h3, h4, h5⟩ := run_append_src (P := P) base t o.type e i z size bytes ht hi hz hsize hby hzs hsz v n xs hown p m c news hl hsrc hp0 h1 h63 hbytes hbase
  unfold Oper.wp execOp
  simp only [ho, resolve, invoke, builtin, Sem.run_bind, Sem.run_pure, Result.andThen_ok, List.map_toArray, List.map_cons, List.map_nil, hs, hx, hrun]
  exact hK _ _ (h v' w' h2 h3 h4 h5)

theorem step_append_src {P : Program} {ops : Array Oper} {o : Oper} {a : Act} {K : Act → World → Prop} {Q : Exit → Act → World → Prop} {E : Prop} (w : World) (hgd : o.guard = none) (s x : Operand) (t : TypeId)
    (ho : o.op = .call { callee := .builtin .append, args := #[s, x], argTypes := #[t, t] })
    (base : Nat) (e : TypeId) (i : TypeInfo) (z : Value) (size bytes : Nat) (ht : P.underlying t = some (.slice e)) (hi : P.info? e = some i) (hz : i.zero = some z)
    (hsize : i.size = size) (hby : i.bytes = bytes) (hzs : z.cells.size = size) (hsz : 0 < size)
    (v : Value) (n : Nat) (xs : List Value) (hown : w.ownsRow base e size v n xs)
    (p : Option Addr) (m c : Nat) (news : List Value) (hl : news.length = m * size) (hsrc : 0 < m → ∃ A, p = some A ∧ ∀ j u, news[j]? = some u → w.cell? (A.add j) = some u) (hp0 : p = none → c = 0) (h1 : ∀ u ∈ news, u.oneCell' = true)
    (h63 : n + m ≤ 1000000) (hbytes : bytes ≤ 1000) (hbase : base ≤ w.heap.size) (hs : a.eval s = v) (hx : a.eval x = .slice p m c)
    (h : ∀ v' w', w'.ownsRow base e size v' (n + m) (xs ++ news) → Only (fun k => v.ownBlock = some k) w w' → (v'.ownBlock = v.ownBlock ∨ v'.ownBlock = some w.heap.size) → (m = 0 → v' = v ∧ w' = w) → K (a.put o.dst v') w') :
    if Region.wanted o (yielded ops a.tmps) = true then Oper.wp P o a w K Q else E := by
  have hw : Region.wanted o (yielded ops a.tmps) = true := by simp [Region.wanted, hgd]
  rw [if_pos hw]
  obtain ⟨v', w', hrun, h2, h3, h4, h5⟩ := run_append_src (P := P) base t o.type e i z size bytes ht hi hz hsize hby hzs hsz v n xs hown p m c news hl hsrc hp0 h1 h63 hbytes hbase
  unfold Oper.wp execOp
  simp only [ho, resolve, invoke, builtin, Sem.run_bind, Sem.run_pure, Result.andThen_ok, List.map_toArray, List.map_cons, List.map_nil, hs, hx, hrun]
  exact h v' w' h2 h3 h4 h5

/-- The source that one owns. -/
theorem own_src {w w' : World} {base : Nat} {e : TypeId} {size : Nat} {p : Option Addr} {n cap : Nat} {xs : List Value} (h : w.ownsRow base e size (.slice p n cap) n xs) (hb : Below w.heap.size w w') :
    (0 < n → ∃ A, p = some A ∧ ∀ j u, xs[j]? = some u → w'.cell? (A.add j) = some u) ∧ (p = none → cap = 0) := by
  constructor
  · intro hn
    obtain ⟨g, cap2, hv, _, hg, hc, _⟩ := own_view h hn
    injection hv with hv _ _
    subst hv
    refine ⟨_, rfl, fun j u hu => ?_⟩
    rw [add_zero, hb.cell (p := ⟨g, j, none⟩) hg]
    exact hc j u hu
  · rintro rfl
    rcases h.2 with ⟨hv, _⟩ | ⟨g, c2, cur, hv, _⟩
    · injection hv
    · injection hv with hv _ _
      cases hv

end Go.Proofs.Ytgnoiheekgmleaa
