/- Contracts of varint's Cut and the reference's Cut. -/
import Derived.Test.YtlpkapkabehdnaaW4
namespace Go.Proofs.Ytlpkapkabehdnaa
open Go.ChangeShapes Go.WideShapes Go.RowKit
set_option linter.unusedVariables false

/-- How many bytes a distance takes. -/
def cw (d : Nat) : Nat := if 2 * d < 256 then 1 else if 2 * d < 65536 then 2 else if 2 * d < 16777216 then 3 else 4

theorem cw_le (d : Nat) : 1 ≤ cw d ∧ cw d ≤ 4 := by unfold cw; split <;> (try split) <;> (try split) <;> omega

theorem cw_stop (d k : Nat) (h : k ≤ cw d) (h1 : 1 ≤ k) (h4 : k < 4) (hf : 2 * d < 256 ^ k) : k = cw d := by
  have hc : k = 1 ∨ k = 2 ∨ k = 3 := by omega
  have : cw d ≤ k := by
    unfold cw
    rcases hc with rfl | rfl | rfl <;> simp only [Nat.reducePow] at hf
    · rw [if_pos hf]; omega
    · split <;> (try split) <;> omega
    · split <;> (try split) <;> (try split) <;> omega
  omega

theorem cw_go (d k : Nat) (h : k ≤ cw d) (h1 : 1 ≤ k) (h3 : k < 4) (hf : ¬ 2 * d < 256 ^ k) : k + 1 ≤ cw d := by
  have hc : k = 1 ∨ k = 2 ∨ k = 3 := by omega
  unfold cw at *
  rcases hc with rfl | rfl | rfl <;> simp only [Nat.reducePow] at hf <;> split <;> (try split) <;> (try split) <;> omega

/-- The distance. -/
def dist (n : Nat) (a : Int) : Nat := if 0 ≤ a then n - a.toNat else n + 1

theorem cut_no1 (n : Nat) (a : Int) (w : World) (h : ¬ n < 4611686018427387904) :
    Calls Try.prog 18 #[.int .u64 (n : Int), .int .i64 a] w fun e w' => e = .returned (.tuple #[.string ⟨#[]⟩, .int .i64 3]) ∧ w = w' := by
  have hd : decide ((n : Int) > 4611686018427387903) = true := by simp; omega
  clear h
  go_enter Try.func18, Try.ntmps18
  go_wp2
  go_ret2
  exact ⟨rfl, rfl⟩

theorem cut_no2 (n : Nat) (a : Int) (w : World) (h : n < 4611686018427387904) (ha : (n : Int) ≤ a) :
    Calls Try.prog 18 #[.int .u64 (n : Int), .int .i64 a] w fun e w' => e = .returned (.tuple #[.string ⟨#[]⟩, .int .i64 3]) ∧ w = w' := by
  have hd : decide ((n : Int) > 4611686018427387903) = false := by simp; omega
  go_enter Try.func18, Try.ntmps18
  go_wp2
  go_ret2
  exact ⟨rfl, rfl⟩

theorem wrap256 (k p : Nat) (h4 : k < 5) (hp : 256 ^ k = p) : IntKind.u64.wrap ((2 : Int) ^ (8 * k)) = (p : Int) := by
  have hc : k = 0 ∨ k = 1 ∨ k = 2 ∨ k = 3 ∨ k = 4 := by omega
  subst hp
  rcases hc with rfl | rfl | rfl | rfl | rfl <;> decide

theorem cut_ok (n d : Nat) (a : Int) (w : World) (h : n < 4611686018427387904) (ha : a < (n : Int)) (hd0 : dist n a = d) :
    Calls Try.prog 18 #[.int .u64 (n : Int), .int .i64 a] w fun e w' => e = .returned (.tuple #[.string (txt (be (cw d) n)), .int .i64 0]) ∧ Below w.heap.size w w' := by
  have hd : decide ((n : Int) > 4611686018427387903) = false := by simp; omega
  have hfr : (0 ≤ a ∧ (n : Int) - a = (d : Int)) ∨ (a < 0 ∧ (n : Int) + 1 = (d : Int)) := by unfold dist at hd0; split at hd0 <;> omega
  have hb := cw_le d
  have hdl : d ≤ 4611686018427387904 := by unfold dist at hd0; split at hd0 <;> omega
  have hmk := fun (b : Nat) (hb : 1 ≤ b ∧ b ≤ 4) w => conv_back (be b n) b b w (be_length b n)
  have Hmk := Lib.hid hmk
  clear hmk hd0
  rcases hfr with ⟨h0, hfr⟩ | ⟨h0, hfr⟩
  all_goals
    go_enter Try.func18, Try.ntmps18
    go_wp2
    go_loop [7] (fun i => ∃ k : Nat, 1 ≤ k ∧ k ≤ cw d ∧ i = .int .i64 k) (fun i => 4 - (intOf i).toNat)
    case atStart => exact ⟨1, by omega, by omega, rfl⟩
    case round =>
      obtain ⟨k, hk1, hk, rfl⟩ := hrel
      have hbk := Hmk.out k ⟨hk1, by omega⟩
      by_cases h4 : k < 4
      · obtain ⟨p, hp⟩ : ∃ p, 256 ^ k = p := ⟨_, rfl⟩
        have hpw : IntKind.u64.wrap ((2 : Int) ^ (8 * k)) = (p : Int) := wrap256 k p (by omega) hp
        have hst := cw_stop d k hk hk1 h4
        have hgo := cw_go d k hk hk1 h4
        rw [hp] at hst hgo
        by_cases hf : 2 * d < p
        · have hs := Lib.hid (hst hf)
          clear hst hgo hp
          go_wp2_with (go_at_call 28; refine (high_any n _ _ (by omega)).mono ?_; rintro e w' ⟨rfl, rfl⟩)
          go_ret2
          exact ⟨by rw [← hs.out]; rfl, (Below.refl _ _).alloc (Nat.le_refl _) _⟩
        · have hs := hgo hf
          clear hst hgo hp
          go_wp2
          go_round
          case rel => exact ⟨k + 1, by omega, hs, by go_num⟩
          case measure => simp [intOf]; omega
      · obtain rfl : k = 4 := by omega
        have hs : Hid (4 = cw d) := Lib.hid (by omega)
        go_wp2_with (go_at_call 28; refine (high_any n 4 _ (by omega)).mono ?_; rintro e w' ⟨rfl, rfl⟩)
        go_ret2
        exact ⟨by rw [← hs.out]; rfl, (Below.refl _ _).alloc (Nat.le_refl _) _⟩

/-- What Cut answers. -/
def cutF (n : Nat) (a : Int) : List UInt8 × Int := if n < 4611686018427387904 ∧ a < (n : Int) then (be (cw (dist n a)) n, 0) else ([], 3)

theorem Cut_any (n : Nat) (a : Int) (w : World) :
    Calls Try.prog 18 #[.int .u64 (n : Int), .int .i64 a] w fun e w' => e = .returned (.tuple #[.string (txt (cutF n a).1), .int .i64 (cutF n a).2]) ∧ Below w.heap.size w w' := by
  unfold cutF
  by_cases h : n < 4611686018427387904
  · by_cases ha : a < (n : Int)
    · rw [if_pos ⟨h, ha⟩]
      exact cut_ok n _ a w h ha rfl
    · rw [if_neg (fun x => ha x.2)]
      exact (cut_no2 n a w h (by omega)).mono fun e w' ⟨he, hw⟩ => ⟨he, hw ▸ Below.refl _ _⟩
  · rw [if_neg (fun x => h x.1)]
    exact (cut_no1 n a w h).mono fun e w' ⟨he, hw⟩ => ⟨he, hw ▸ Below.refl _ _⟩

theorem power_any (k : Nat) (w : World) (hk : k ≤ 7) :
    Calls Try.prog 29 #[.int .i64 (k : Int)] w fun e w' => e = .returned (.int .u64 (256 ^ k : Nat)) ∧ w = w' := by
  go_enter Try.func29, Try.ntmps29
  go_wp2
  go_loop [3, 4] (fun p i => ∃ j q : Nat, j ≤ k ∧ i = .int .i64 j ∧ q = 256 ^ j ∧ p = .int .u64 q) (fun _ i => k - (intOf i).toNat)
  case atStart => exact ⟨0, 1, by omega, rfl, rfl, rfl⟩
  case round =>
    obtain ⟨j, q, hj, rfl, hq, rfl⟩ := hrel
    by_cases hlt : j < k
    · have hql : q ≤ 281474976710656 := by have h2 : 256 ^ j ≤ 256 ^ 6 := Nat.pow_le_pow_right (by omega) (by omega); omega
      have Hq := Lib.hid hq
      clear hq
      go_wp2
      go_round
      case rel => exact ⟨j + 1, q * 256, by omega, by go_num, by rw [Nat.pow_succ, Hq.out], by go_num⟩
      case measure => simp [intOf]; omega
    · obtain rfl : j = k := by omega
      have Hq := Lib.hid hq
      clear hq
      go_wp2
      go_ret
      exact ⟨ret_nat Hq.out, rfl⟩

theorem rcut_no1 (n : Nat) (a : Int) (w : World) (h : ¬ n < 4611686018427387904) :
    Calls Try.prog 19 #[.int .u64 (n : Int), .int .i64 a] w fun e w' => e = .returned (.tuple #[.string ⟨#[]⟩, .int .i64 3]) ∧ w = w' := by
  have hd : decide ((n : Int) ≥ 4611686018427387904) = true := by simp; omega
  clear h
  go_enter Try.func19, Try.ntmps19
  go_wp2
  go_ret2
  exact ⟨rfl, rfl⟩

theorem rcut_no2 (n : Nat) (a : Int) (w : World) (h : n < 4611686018427387904) (ha : (n : Int) ≤ a) :
    Calls Try.prog 19 #[.int .u64 (n : Int), .int .i64 a] w fun e w' => e = .returned (.tuple #[.string ⟨#[]⟩, .int .i64 3]) ∧ w = w' := by
  have hd : decide ((n : Int) ≥ 4611686018427387904) = false := by simp; omega
  go_enter Try.func19, Try.ntmps19
  go_wp2
  go_ret2
  exact ⟨rfl, rfl⟩

theorem rcut_ok (n d : Nat) (a : Int) (w : World) (h : n < 4611686018427387904) (ha : a < (n : Int)) (hd0 : dist n a = d) :
    Calls Try.prog 19 #[.int .u64 (n : Int), .int .i64 a] w fun e w' => e = .returned (.tuple #[.string (txt (be (cw d) n)), .int .i64 0]) ∧ Below w.heap.size w w' := by
  have hd : decide ((n : Int) ≥ 4611686018427387904) = false := by simp; omega
  have hfr : (0 ≤ a ∧ (n : Int) - a = (d : Int)) ∨ (a < 0 ∧ (n : Int) + 1 = (d : Int)) := by unfold dist at hd0; split at hd0 <;> omega
  have hb := cw_le d
  have hdl : d ≤ 4611686018427387904 := by unfold dist at hd0; split at hd0 <;> omega
  clear hd0
  rcases hfr with ⟨h0, hfr⟩ | ⟨h0, hfr⟩
  all_goals
    go_enter Try.func19, Try.ntmps19
    go_wp2
    go_loop [7] (fun i => ∃ k : Nat, 1 ≤ k ∧ k ≤ cw d ∧ i = .int .i64 k) (fun i => 4 - (intOf i).toNat)
    case atStart => exact ⟨1, by omega, by omega, rfl⟩
    case round =>
      obtain ⟨k, hk1, hk, rfl⟩ := hrel
      by_cases h4 : k < 4
      · obtain ⟨p, hp⟩ : ∃ p, 256 ^ k = p := ⟨_, rfl⟩
        have hst := cw_stop d k hk hk1 h4
        have hgo := cw_go d k hk hk1 h4
        rw [hp] at hst hgo
        have Hp := Lib.hid hp
        clear hp
        by_cases hf : 2 * d < p
        · have hs := Lib.hid (hst hf)
          have hf2 : decide (2 * (d : Int) < (p : Int)) = true := by simp; omega
          clear hst hgo hf
          go_wp2_with (first | (go_at_call 29; refine (power_any k _ (by omega)).mono ?_; rintro e w' ⟨rfl, rfl⟩; rw [Hp.out]) | (go_at_call 30; refine (rbytes_any n k _ (by omega) (by omega)).mono ?_; rintro e w' ⟨rfl, hbl⟩))
          go_ret2
          exact ⟨by rw [← hs.out]; rfl, hbl⟩
        · have hs := hgo hf
          have hf2 : decide (2 * (d : Int) < (p : Int)) = false := by simp; omega
          clear hst hgo hf
          go_wp2_with (go_at_call 29; refine (power_any k _ (by omega)).mono ?_; rintro e w' ⟨rfl, rfl⟩; rw [Hp.out])
          go_round
          case rel => exact ⟨k + 1, by omega, hs, by go_num⟩
          case measure => simp [intOf]; omega
      · obtain rfl : k = 4 := by omega
        have hs : Hid (4 = cw d) := Lib.hid (by omega)
        go_wp2_with (go_at_call 30; refine (rbytes_any n 4 _ (by omega) (by omega)).mono ?_; rintro e w' ⟨rfl, hbl⟩)
        go_ret2
        exact ⟨by rw [← hs.out]; rfl, hbl⟩

theorem rCut_any (n : Nat) (a : Int) (w : World) :
    Calls Try.prog 19 #[.int .u64 (n : Int), .int .i64 a] w fun e w' => e = .returned (.tuple #[.string (txt (cutF n a).1), .int .i64 (cutF n a).2]) ∧ Below w.heap.size w w' := by
  unfold cutF
  by_cases h : n < 4611686018427387904
  · by_cases ha : a < (n : Int)
    · rw [if_pos ⟨h, ha⟩]
      exact rcut_ok n _ a w h ha rfl
    · rw [if_neg (fun x => ha x.2)]
      exact (rcut_no2 n a w h (by omega)).mono fun e w' ⟨he, hw⟩ => ⟨he, hw ▸ Below.refl _ _⟩
  · rw [if_neg (fun x => h x.1)]
    exact (rcut_no1 n a w h).mono fun e w' ⟨he, hw⟩ => ⟨he, hw ▸ Below.refl _ _⟩

theorem far_any (a b : Nat) (w : World) (hb : a < 18446744073709551616 ∧ b < 18446744073709551616) :
    Calls Try.prog 31 #[.int .u64 (a : Int), .int .u64 (b : Int)] w fun e w' => e = .returned (.int .u64 ((max a b - min a b : Nat) : Int)) ∧ w = w' := by
  obtain ⟨ha, hb⟩ := hb
  by_cases h : b < a
  · go_enter Try.func31, Try.ntmps31
    go_wp2
    go_ret
    exact ⟨ret_int (by omega), rfl⟩
  · go_enter Try.func31, Try.ntmps31
    go_wp2
    go_ret
    exact ⟨ret_int (by omega), rfl⟩

end Go.Proofs.Ytlpkapkabehdnaa
