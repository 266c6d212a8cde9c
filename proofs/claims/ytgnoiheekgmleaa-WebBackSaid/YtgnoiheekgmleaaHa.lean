/- Contract of huff's length. -/
import Derived.Test.YtgnoiheekgmleaaRows
import Derived.Test.YtgnoiheekgmleaaHr
import Derived.Test.YtgnoiheekgmleaaShelf
import Derived.WalkKit
import Derived.Outline
import Derived.WalkLawsBesides
import Derived.WalkSpells
import Derived.Lib.Hide
import Derived.BigQuiet
import Derived.Deep.QuietTactic
namespace Go.Proofs.Ytgnoiheekgmleaa
open Go.ChangeShapes Go.WideShapes Go.RowKit
set_option linter.unusedVariables false

def K1 (n : Nat) : Int := Lib.indexByte [32, 97, 101, 105, 111, 116, 110, 115, 114] n.toUInt8
def K2 (n : Nat) : Int := Lib.indexByte [45, 46, 47, 58] n.toUInt8
def K3 (n : Nat) : Int := Lib.indexByte [37, 38, 61, 63, 95, 43, 44, 59] n.toUInt8

theorem k1_ok : ∀ n, n < 256 → decide (0 ≤ K1 n) = isShort n := by decide +kernel
theorem k2_ok : ∀ n, n < 256 → decide (0 ≤ K2 n) = (n == 45 || n == 46 || n == 47 || n == 58) := by decide +kernel
theorem k3_ok : ∀ n, n < 256 → decide (0 ≤ K3 n) = (n == 37 || n == 38 || n == 61 || n == 63 || n == 95 || n == 43 || n == 44 || n == 59) := by decide +kernel

theorem idx1 (n : Nat) (w : World) : Calls Try.prog 95 #[.string ⟨#[32, 97, 101, 105, 111, 116, 110, 115, 114]⟩, .int .u8 (n : Int)] w fun e w' => e = .returned (.int .i64 (K1 n)) ∧ w = w' :=
  (Try.strings_IndexByte _ _ w).mono fun e w' ⟨he, hw⟩ => ⟨he, hw.symm⟩
theorem idx2 (n : Nat) (w : World) : Calls Try.prog 95 #[.string ⟨#[45, 46, 47, 58]⟩, .int .u8 (n : Int)] w fun e w' => e = .returned (.int .i64 (K2 n)) ∧ w = w' :=
  (Try.strings_IndexByte _ _ w).mono fun e w' ⟨he, hw⟩ => ⟨he, hw.symm⟩
theorem idx3 (n : Nat) (w : World) : Calls Try.prog 95 #[.string ⟨#[37, 38, 61, 63, 95, 43, 44, 59]⟩, .int .u8 (n : Int)] w fun e w' => e = .returned (.int .i64 (K3 n)) ∧ w = w' :=
  (Try.strings_IndexByte _ _ w).mono fun e w' ⟨he, hw⟩ => ⟨he, hw.symm⟩

theorem ret_int {k : IntKind} {a b : Int} (h : a = b) : Ending.returned (.int k a) = .returned (.int k b) := by rw [h]
theorem ret_nat {k : IntKind} {a b : Nat} (h : a = b) : Ending.returned (.int k (a : Int)) = .returned (.int k (b : Int)) := by rw [h]

theorem hl5 (n : Nat) (hn : n < 256) (h1 : isShort n = true) : hlen n = 5 := by
  have h : (n == 256) = false := by rw [beq_eq_false_iff_ne]; omega
  unfold hlen
  rw [h, h1]
  rfl
theorem hl6 (n : Nat) (hn : n < 256) (h1 : isShort n = false) (h2 : isMid n = true) : hlen n = 6 := by
  have h : (n == 256) = false := by rw [beq_eq_false_iff_ne]; omega
  unfold hlen
  rw [h, h1, h2]
  rfl
theorem hl8 (n : Nat) (hn : n < 256) (h1 : isShort n = false) (h2 : isMid n = false) (h3 : isRare n = true) : hlen n = 8 := by
  have h : (n == 256) = false := by rw [beq_eq_false_iff_ne]; omega
  unfold hlen
  rw [h, h1, h2, h3]
  rfl
theorem hl12 (n : Nat) (hn : n < 256) (h1 : isShort n = false) (h2 : isMid n = false) (h3 : isRare n = false) : hlen n = 12 := by
  have h : (n == 256) = false := by rw [beq_eq_false_iff_ne]; omega
  unfold hlen
  rw [h, h1, h2, h3]
  rfl
theorem mid_eq (n : Nat) (hn : n < 256) : isMid n = (decide (97 ≤ n ∧ n ≤ 122) || decide (48 ≤ n ∧ n ≤ 57) || decide (0 ≤ K2 n)) := by
  rw [k2_ok n hn, Bool.eq_iff_iff]
  simp [isMid]
  omega
theorem rare_eq (n : Nat) (hn : n < 256) : isRare n = (decide (65 ≤ n ∧ n ≤ 90) || decide (0 ≤ K3 n)) := by
  rw [k3_ok n hn, Bool.eq_iff_iff]
  simp [isRare]
  omega

theorem length_end (w : World) :
    Calls Try.prog 92 #[.int .i64 256] w fun e w' => e = .returned (.int .i64 (hlen 256 : Nat)) ∧ w = w' := by
  go_enter Try.func92, Try.ntmps92
  go_wp2
  go_ret
  exact ⟨rfl, rfl⟩

set_option maxHeartbeats 2000000 in
theorem length_byte (n : Nat) (w : World) (hn : n < 256) :
    Calls Try.prog 92 #[.int .i64 (n : Int)] w fun e w' => e = .returned (.int .i64 (hlen n : Nat)) ∧ w = w' := by
  have h1 := k1_ok n hn
  have h2 := k2_ok n hn
  have h3 := k3_ok n hn
  have hne : ((n : Int) == 256) = false := by rw [beq_eq_false_iff_ne]; omega
  by_cases hs : isShort n = true
  · have hh : hlen n = 5 := by
      unfold hlen
      rw [hs, show (n == 256) = false by rw [beq_eq_false_iff_ne]; omega]
      rfl
    rw [hs] at h1
    have Hh := Lib.hid hh
    clear h2 h3 hh hs
    go_enter Try.func92, Try.ntmps92
    go_wp2_with fail
    refine (idx1 n _).mono ?_
    rintro e w' ⟨rfl, rfl⟩
    go_wp2_with fail
    go_ret
    exact ⟨by rw [Hh.out]; rfl, rfl⟩
  · have hs' : isShort n = false := by simpa using hs
    rw [hs'] at h1
    have hm := mid_eq n hn
    have hr := rare_eq n hn
    clear h2 h3 hs
    have hc : n ≤ 47 ∨ (48 ≤ n ∧ n ≤ 57) ∨ (58 ≤ n ∧ n ≤ 64) ∨ (65 ≤ n ∧ n ≤ 90) ∨ (91 ≤ n ∧ n ≤ 96) ∨ (97 ≤ n ∧ n ≤ 122) ∨ 123 ≤ n := by omega
    rcases hc with hc | hc | hc | hc | hc | hc | hc
    · have c1 : decide (97 ≤ n ∧ n ≤ 122) = false := decide_eq_false (by omega)
      have c2 : decide (48 ≤ n ∧ n ≤ 57) = false := decide_eq_false (by omega)
      have c3 : decide (65 ≤ n ∧ n ≤ 90) = false := decide_eq_false (by omega)
      rw [c1, c2] at hm
      rw [c3] at hr
      clear c1 c2 c3
      by_cases hk : 0 ≤ K2 n
      · have hk' : decide (0 ≤ K2 n) = true := decide_eq_true hk
        have hh := hl6 n hn hs' (by rw [hm, hk']; rfl)
        have Hh := Lib.hid hh
        clear hm hr hh hs'
        go_enter Try.func92, Try.ntmps92
        go_wp2_with fail
        refine (idx1 n _).mono ?_
        rintro e w' ⟨rfl, rfl⟩
        go_wp2_with fail
        refine (idx2 n _).mono ?_
        rintro e w' ⟨rfl, rfl⟩
        go_wp2_with fail
        go_ret
        exact ⟨by rw [Hh.out]; rfl, rfl⟩
      · have hk' : decide (0 ≤ K2 n) = false := decide_eq_false hk
        rw [hk'] at hm
        by_cases hj : 0 ≤ K3 n
        · have hj' : decide (0 ≤ K3 n) = true := decide_eq_true hj
          have hh := hl8 n hn hs' (by rw [hm]; rfl) (by rw [hr, hj']; rfl)
          have Hh := Lib.hid hh
          clear hm hr hh hs' hk
          go_enter Try.func92, Try.ntmps92
          go_wp2_with fail
          refine (idx1 n _).mono ?_
          rintro e w' ⟨rfl, rfl⟩
          go_wp2_with fail
          refine (idx2 n _).mono ?_
          rintro e w' ⟨rfl, rfl⟩
          go_wp2_with fail
          refine (idx3 n _).mono ?_
          rintro e w' ⟨rfl, rfl⟩
          go_wp2_with fail
          go_ret
          exact ⟨by rw [Hh.out]; rfl, rfl⟩
        · have hj' : decide (0 ≤ K3 n) = false := decide_eq_false hj
          have hh := hl12 n hn hs' (by rw [hm]; rfl) (by rw [hr, hj']; rfl)
          have Hh := Lib.hid hh
          clear hm hr hh hs' hk hj
          go_enter Try.func92, Try.ntmps92
          go_wp2_with fail
          refine (idx1 n _).mono ?_
          rintro e w' ⟨rfl, rfl⟩
          go_wp2_with fail
          refine (idx2 n _).mono ?_
          rintro e w' ⟨rfl, rfl⟩
          go_wp2_with fail
          refine (idx3 n _).mono ?_
          rintro e w' ⟨rfl, rfl⟩
          go_wp2_with fail
          go_ret
          exact ⟨by rw [Hh.out]; rfl, rfl⟩
    · have c1 : decide (97 ≤ n ∧ n ≤ 122) = false := decide_eq_false (by omega)
      have c2 : decide (48 ≤ n ∧ n ≤ 57) = true := decide_eq_true (by omega)
      have c3 : decide (65 ≤ n ∧ n ≤ 90) = false := decide_eq_false (by omega)
      rw [c1, c2] at hm
      rw [c3] at hr
      clear c1 c2 c3
      have hh := hl6 n hn hs' (by rw [hm]; rfl)
      have Hh := Lib.hid hh
      clear hm hr hh hs'
      go_enter Try.func92, Try.ntmps92
      go_wp2_with fail
      refine (idx1 n _).mono ?_
      rintro e w' ⟨rfl, rfl⟩
      go_wp2_with fail
      go_ret
      exact ⟨by rw [Hh.out]; rfl, rfl⟩
    · have c1 : decide (97 ≤ n ∧ n ≤ 122) = false := decide_eq_false (by omega)
      have c2 : decide (48 ≤ n ∧ n ≤ 57) = false := decide_eq_false (by omega)
      have c3 : decide (65 ≤ n ∧ n ≤ 90) = false := decide_eq_false (by omega)
      rw [c1, c2] at hm
      rw [c3] at hr
      clear c1 c2 c3
      by_cases hk : 0 ≤ K2 n
      · have hk' : decide (0 ≤ K2 n) = true := decide_eq_true hk
        have hh := hl6 n hn hs' (by rw [hm, hk']; rfl)
        have Hh := Lib.hid hh
        clear hm hr hh hs'
        go_enter Try.func92, Try.ntmps92
        go_wp2_with fail
        refine (idx1 n _).mono ?_
        rintro e w' ⟨rfl, rfl⟩
        go_wp2_with fail
        refine (idx2 n _).mono ?_
        rintro e w' ⟨rfl, rfl⟩
        go_wp2_with fail
        go_ret
        exact ⟨by rw [Hh.out]; rfl, rfl⟩
      · have hk' : decide (0 ≤ K2 n) = false := decide_eq_false hk
        rw [hk'] at hm
        by_cases hj : 0 ≤ K3 n
        · have hj' : decide (0 ≤ K3 n) = true := decide_eq_true hj
          have hh := hl8 n hn hs' (by rw [hm]; rfl) (by rw [hr, hj']; rfl)
          have Hh := Lib.hid hh
          clear hm hr hh hs' hk
          go_enter Try.func92, Try.ntmps92
          go_wp2_with fail
          refine (idx1 n _).mono ?_
          rintro e w' ⟨rfl, rfl⟩
          go_wp2_with fail
          refine (idx2 n _).mono ?_
          rintro e w' ⟨rfl, rfl⟩
          go_wp2_with fail
          refine (idx3 n _).mono ?_
          rintro e w' ⟨rfl, rfl⟩
          go_wp2_with fail
          go_ret
          exact ⟨by rw [Hh.out]; rfl, rfl⟩
        · have hj' : decide (0 ≤ K3 n) = false := decide_eq_false hj
          have hh := hl12 n hn hs' (by rw [hm]; rfl) (by rw [hr, hj']; rfl)
          have Hh := Lib.hid hh
          clear hm hr hh hs' hk hj
          go_enter Try.func92, Try.ntmps92
          go_wp2_with fail
          refine (idx1 n _).mono ?_
          rintro e w' ⟨rfl, rfl⟩
          go_wp2_with fail
          refine (idx2 n _).mono ?_
          rintro e w' ⟨rfl, rfl⟩
          go_wp2_with fail
          refine (idx3 n _).mono ?_
          rintro e w' ⟨rfl, rfl⟩
          go_wp2_with fail
          go_ret
          exact ⟨by rw [Hh.out]; rfl, rfl⟩
    · have c1 : decide (97 ≤ n ∧ n ≤ 122) = false := decide_eq_false (by omega)
      have c2 : decide (48 ≤ n ∧ n ≤ 57) = false := decide_eq_false (by omega)
      have c3 : decide (65 ≤ n ∧ n ≤ 90) = true := decide_eq_true (by omega)
      rw [c1, c2] at hm
      rw [c3] at hr
      clear c1 c2 c3
      by_cases hk : 0 ≤ K2 n
      · have hk' : decide (0 ≤ K2 n) = true := decide_eq_true hk
        have hh := hl6 n hn hs' (by rw [hm, hk']; rfl)
        have Hh := Lib.hid hh
        clear hm hr hh hs'
        go_enter Try.func92, Try.ntmps92
        go_wp2_with fail
        refine (idx1 n _).mono ?_
        rintro e w' ⟨rfl, rfl⟩
        go_wp2_with fail
        refine (idx2 n _).mono ?_
        rintro e w' ⟨rfl, rfl⟩
        go_wp2_with fail
        go_ret
        exact ⟨by rw [Hh.out]; rfl, rfl⟩
      · have hk' : decide (0 ≤ K2 n) = false := decide_eq_false hk
        rw [hk'] at hm
        have hh := hl8 n hn hs' (by rw [hm]; rfl) (by rw [hr]; rfl)
        have Hh := Lib.hid hh
        clear hm hr hh hs' hk
        go_enter Try.func92, Try.ntmps92
        go_wp2_with fail
        refine (idx1 n _).mono ?_
        rintro e w' ⟨rfl, rfl⟩
        go_wp2_with fail
        refine (idx2 n _).mono ?_
        rintro e w' ⟨rfl, rfl⟩
        go_wp2_with fail
        go_ret
        exact ⟨by rw [Hh.out]; rfl, rfl⟩
    · have c1 : decide (97 ≤ n ∧ n ≤ 122) = false := decide_eq_false (by omega)
      have c2 : decide (48 ≤ n ∧ n ≤ 57) = false := decide_eq_false (by omega)
      have c3 : decide (65 ≤ n ∧ n ≤ 90) = false := decide_eq_false (by omega)
      rw [c1, c2] at hm
      rw [c3] at hr
      clear c1 c2 c3
      by_cases hk : 0 ≤ K2 n
      · have hk' : decide (0 ≤ K2 n) = true := decide_eq_true hk
        have hh := hl6 n hn hs' (by rw [hm, hk']; rfl)
        have Hh := Lib.hid hh
        clear hm hr hh hs'
        go_enter Try.func92, Try.ntmps92
        go_wp2_with fail
        refine (idx1 n _).mono ?_
        rintro e w' ⟨rfl, rfl⟩
        go_wp2_with fail
        refine (idx2 n _).mono ?_
        rintro e w' ⟨rfl, rfl⟩
        go_wp2_with fail
        go_ret
        exact ⟨by rw [Hh.out]; rfl, rfl⟩
      · have hk' : decide (0 ≤ K2 n) = false := decide_eq_false hk
        rw [hk'] at hm
        by_cases hj : 0 ≤ K3 n
        · have hj' : decide (0 ≤ K3 n) = true := decide_eq_true hj
          have hh := hl8 n hn hs' (by rw [hm]; rfl) (by rw [hr, hj']; rfl)
          have Hh := Lib.hid hh
          clear hm hr hh hs' hk
          go_enter Try.func92, Try.ntmps92
          go_wp2_with fail
          refine (idx1 n _).mono ?_
          rintro e w' ⟨rfl, rfl⟩
          go_wp2_with fail
          refine (idx2 n _).mono ?_
          rintro e w' ⟨rfl, rfl⟩
          go_wp2_with fail
          refine (idx3 n _).mono ?_
          rintro e w' ⟨rfl, rfl⟩
          go_wp2_with fail
          go_ret
          exact ⟨by rw [Hh.out]; rfl, rfl⟩
        · have hj' : decide (0 ≤ K3 n) = false := decide_eq_false hj
          have hh := hl12 n hn hs' (by rw [hm]; rfl) (by rw [hr, hj']; rfl)
          have Hh := Lib.hid hh
          clear hm hr hh hs' hk hj
          go_enter Try.func92, Try.ntmps92
          go_wp2_with fail
          refine (idx1 n _).mono ?_
          rintro e w' ⟨rfl, rfl⟩
          go_wp2_with fail
          refine (idx2 n _).mono ?_
          rintro e w' ⟨rfl, rfl⟩
          go_wp2_with fail
          refine (idx3 n _).mono ?_
          rintro e w' ⟨rfl, rfl⟩
          go_wp2_with fail
          go_ret
          exact ⟨by rw [Hh.out]; rfl, rfl⟩
    · have c1 : decide (97 ≤ n ∧ n ≤ 122) = true := decide_eq_true (by omega)
      have c2 : decide (48 ≤ n ∧ n ≤ 57) = false := decide_eq_false (by omega)
      have c3 : decide (65 ≤ n ∧ n ≤ 90) = false := decide_eq_false (by omega)
      rw [c1, c2] at hm
      rw [c3] at hr
      clear c1 c2 c3
      have hh := hl6 n hn hs' (by rw [hm]; rfl)
      have Hh := Lib.hid hh
      clear hm hr hh hs'
      go_enter Try.func92, Try.ntmps92
      go_wp2_with fail
      refine (idx1 n _).mono ?_
      rintro e w' ⟨rfl, rfl⟩
      go_wp2_with fail
      go_ret
      exact ⟨by rw [Hh.out]; rfl, rfl⟩
    · have c1 : decide (97 ≤ n ∧ n ≤ 122) = false := decide_eq_false (by omega)
      have c2 : decide (48 ≤ n ∧ n ≤ 57) = false := decide_eq_false (by omega)
      have c3 : decide (65 ≤ n ∧ n ≤ 90) = false := decide_eq_false (by omega)
      rw [c1, c2] at hm
      rw [c3] at hr
      clear c1 c2 c3
      by_cases hk : 0 ≤ K2 n
      · have hk' : decide (0 ≤ K2 n) = true := decide_eq_true hk
        have hh := hl6 n hn hs' (by rw [hm, hk']; rfl)
        have Hh := Lib.hid hh
        clear hm hr hh hs'
        go_enter Try.func92, Try.ntmps92
        go_wp2_with fail
        refine (idx1 n _).mono ?_
        rintro e w' ⟨rfl, rfl⟩
        go_wp2_with fail
        refine (idx2 n _).mono ?_
        rintro e w' ⟨rfl, rfl⟩
        go_wp2_with fail
        go_ret
        exact ⟨by rw [Hh.out]; rfl, rfl⟩
      · have hk' : decide (0 ≤ K2 n) = false := decide_eq_false hk
        rw [hk'] at hm
        by_cases hj : 0 ≤ K3 n
        · have hj' : decide (0 ≤ K3 n) = true := decide_eq_true hj
          have hh := hl8 n hn hs' (by rw [hm]; rfl) (by rw [hr, hj']; rfl)
          have Hh := Lib.hid hh
          clear hm hr hh hs' hk
          go_enter Try.func92, Try.ntmps92
          go_wp2_with fail
          refine (idx1 n _).mono ?_
          rintro e w' ⟨rfl, rfl⟩
          go_wp2_with fail
          refine (idx2 n _).mono ?_
          rintro e w' ⟨rfl, rfl⟩
          go_wp2_with fail
          refine (idx3 n _).mono ?_
          rintro e w' ⟨rfl, rfl⟩
          go_wp2_with fail
          go_ret
          exact ⟨by rw [Hh.out]; rfl, rfl⟩
        · have hj' : decide (0 ≤ K3 n) = false := decide_eq_false hj
          have hh := hl12 n hn hs' (by rw [hm]; rfl) (by rw [hr, hj']; rfl)
          have Hh := Lib.hid hh
          clear hm hr hh hs' hk hj
          go_enter Try.func92, Try.ntmps92
          go_wp2_with fail
          refine (idx1 n _).mono ?_
          rintro e w' ⟨rfl, rfl⟩
          go_wp2_with fail
          refine (idx2 n _).mono ?_
          rintro e w' ⟨rfl, rfl⟩
          go_wp2_with fail
          refine (idx3 n _).mono ?_
          rintro e w' ⟨rfl, rfl⟩
          go_wp2_with fail
          go_ret
          exact ⟨by rw [Hh.out]; rfl, rfl⟩


theorem length_any (n : Nat) (w : World) (hn : n < 257) :
    Calls Try.prog 92 #[.int .i64 (n : Int)] w fun e w' => e = .returned (.int .i64 (hlen n : Nat)) ∧ w = w' := by
  by_cases h : n = 256
  · subst h; exact length_end w
  · exact length_byte n w (by omega)

end Go.Proofs.Ytgnoiheekgmleaa
