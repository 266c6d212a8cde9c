/- Contracts of varint's exported functions Put, Wide, Size: what each answers, as plain Lean functions. -/
import Derived.Test.YtlpkapkabehdnaaW1
import Derived.Deep.DeepFit
import Derived.Deep.DeepMust
namespace Go.Proofs.Ytlpkapkabehdnaa
open Go.ChangeShapes Go.WideShapes Go.RowKit

/-- What Put answers. -/
def putF (n : Nat) : List UInt8 × Int := if n < 4611686018427387904 then (put (lst n) n, 0) else ([], 3)

/-- What Wide answers, its search begun at mark k. -/
def wideK (n : Nat) (b : Int) : Nat → List UInt8 × Int
  | 0 => ([], 1)
  | j + 1 => if b = (2 ^ (3 - j) : Nat) then (if n < lim (3 - j) then (put (3 - j) n, 0) else ([], 3)) else wideK n b j
def wideF (n : Nat) (b : Int) : List UInt8 × Int := wideK n b 4

/-- What Size answers. -/
def sizeF (n : Nat) : Nat := if n < 4611686018427387904 then 2 ^ lst n else 0

theorem Put_any (n : Nat) (w : World) :
    Calls Try.prog 11 #[.int .u64 (n : Int)] w fun e w' => e = .returned (.tuple #[.string (txt (putF n).1), .int .i64 (putF n).2]) ∧ Below w.heap.size w w' := by
  unfold putF
  by_cases h : n < 4611686018427387904
  · rw [if_pos h]
    exact (put_any n w h).mono fun e w' ⟨he, hw⟩ => ⟨he, hw ▸ (Below.refl _ _).alloc (Nat.le_refl _) _⟩
  · rw [if_neg h]
    exact (put_no n w h).mono fun e w' ⟨he, hw⟩ => ⟨he, hw ▸ Below.refl _ _⟩

theorem Size_any (n : Nat) (w : World) :
    Calls Try.prog 17 #[.int .u64 (n : Int)] w fun e w' => e = .returned (.int .i64 (sizeF n : Nat)) ∧ w = w' := by
  unfold sizeF
  by_cases h : n < 4611686018427387904
  · rw [if_pos h]; exact size_any n w h
  · rw [if_neg h]; exact size_no n w h

theorem Wide_any (n : Nat) (b : Int) (w : World) :
    Calls Try.prog 13 #[.int .u64 (n : Int), .int .i64 b] w fun e w' => e = .returned (.tuple #[.string (txt (wideF n b).1), .int .i64 (wideF n b).2]) ∧ Below w.heap.size w w' := by
  go_enter Try.func13, Try.ntmps13
  go_wp2
  go_loop [6] (fun i => ∃ k : Nat, k ≤ 4 ∧ wideF n b = wideK n b (4 - k) ∧ i = .int .i64 k) (fun i => 4 - (intOf i).toNat)
  case atStart => exact ⟨0, by omega, rfl, rfl⟩
  case round =>
    obtain ⟨k, hk, hw, rfl⟩ := hrel
    have Hw := Lib.hid hw
    clear hw
    by_cases h4 : k < 4
    · have hc : k = 0 ∨ k = 1 ∨ k = 2 ∨ k = 3 := by omega
      obtain ⟨m, hm⟩ : ∃ m : Int, m = (2 ^ k : Nat) := ⟨_, rfl⟩
      have hwp : wrap64 ((2 : Int) ^ k) = m := by rw [hm]; exact wrap_pow k _ (by omega) rfl
      have he : wideK n b (4 - k) = if b = m then (if n < lim k then (put k n, 0) else ([], 3)) else wideK n b (4 - (k + 1)) := by
        rw [hm]
        rcases hc with rfl | rfl | rfl | rfl <;> rfl
      have He := Lib.hid he
      clear he hc hm
      by_cases hb : b = m
      · subst hb
        by_cases hn : n < lim k
        · have hd : decide (n < lim k) = true := by simpa using hn
          have Hr : Hid (wideF n b = (put k n, 0)) := Lib.hid (by rw [Hw.out, He.out, if_pos rfl, if_pos hn])
          go_wp2_with (first | (go_at_call 27; refine (fits_any _ _ _ (by omega)).mono ?_; rintro e w' ⟨rfl, rfl⟩) | (go_at_call 23; refine (laid_any n k _ (by omega) hn).mono ?_; rintro e w' ⟨rfl, rfl⟩))
          go_ret2
          exact ⟨by rw [Hr.out]; rfl, (Below.refl _ _).alloc (Nat.le_refl _) _⟩
        · have hd : decide (n < lim k) = false := by simpa using hn
          have Hr : Hid (wideF n b = ([], 3)) := Lib.hid (by rw [Hw.out, He.out, if_pos rfl, if_neg hn])
          go_wp2_with (go_at_call 27; refine (fits_any _ _ _ (by omega)).mono ?_; rintro e w' ⟨rfl, rfl⟩)
          go_ret2
          exact ⟨by rw [Hr.out]; rfl, Below.refl _ _⟩
      · have hbb : (b == m) = false := by simpa using hb
        have Hr : Hid (wideF n b = wideK n b (4 - (k + 1))) := Lib.hid (by rw [Hw.out, He.out, if_neg hb])
        go_wp2
        go_round
        case rel => exact ⟨k + 1, by omega, Hr.out, by go_num⟩
        case measure => simp [intOf]; omega
    · obtain rfl : k = 4 := by omega
      go_wp2
      go_ret2
      exact ⟨by rw [Hw.out]; rfl, Below.refl _ _⟩

end Go.Proofs.Ytlpkapkabehdnaa
