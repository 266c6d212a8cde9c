/- space: the reference's ranges and number return something. Printed by tools/mkTf.py. -/
import Derived.Test.YtmnmpmiocgfalaaTe
namespace Go.Proofs.Ytmnmpmiocgfalaa
open Go.ChangeShapes Go.WideShapes Go.RowKit
set_option linter.unusedVariables false
set_option linter.unusedSimpArgs false

set_option maxRecDepth 100000 in
set_option maxHeartbeats 4000000 in
theorem ranges03_some (rs : List (Nat × Nat)) (p : Option Addr) (cap : Nat) (w : World) (hr : RgAt w p rs) (hl : rs.length ≤ 1000) :
    Calls Try.prog 48 #[.slice p rs.length cap] w fun e w' => ∃ x : Bool, e = .returned (.bool x) ∧ Below w.heap.size w w' := by
  obtain ⟨N, hN⟩ : ∃ N, rs.length = N := ⟨_, rfl⟩
  rw [hN] at hl ⊢
  have HN := Lib.hid hN
  have HR := Lib.hid hr
  clear hr hN
  go_enter Try.func48, Try.ntmps48
  go_wp2_with fail
  go_loopw [3] (fun i wr => ∃ j : Nat, j ≤ N ∧ i = .int .i64 j ∧ Below w.heap.size w wr) (fun i _ => N - (intOf i).toNat)
  case atStart => exact ⟨0, by omega, rfl, Below.refl _ _⟩
  case round =>
    obtain ⟨j, hj, rfl, hbw⟩ := hrel
    by_cases hlt : j < N
    · obtain ⟨⟨a1, a2⟩, ha⟩ : ∃ r, rs[j]? = some r := ⟨_, List.getElem?_eq_getElem (by rw [HN.out]; exact hlt)⟩
      obtain ⟨g, o, rfl, hg, hc⟩ := HR.out (by rw [HN.out]; omega)
      have c0 := (hbw.cell (p := ⟨g, o + j * 2, none⟩) hg).trans (hc j _ ha).1
      have c1 := (hbw.cell (p := ⟨g, o + j * 2 + 1, none⟩) hg).trans (hc j _ ha).2
      have hgl : g < wr.heap.size := Nat.lt_of_lt_of_le hg hbw.size
      simp only at c0 c1
      have Hb := Lib.hid hbw
      have HC := Lib.hid hc
      clear hc hbw
      by_cases t1 : a2 < a1
      · have f1 : decide ((a2 : Int) < (a1 : Int)) = true := by rw [decide_eq_true_iff]; omega
        have f1n : decide (a2 < a1) = true := by rw [decide_eq_true_iff]; omega
        clear t1 ha
        go_wp2_with fail
        go_quiet (fail)
        go_wp2_with fail
        go_ret
        exact ⟨_, rfl, below_drewN Hb.out _⟩
      · have f1 : decide ((a2 : Int) < (a1 : Int)) = false := by rw [decide_eq_false_iff_not]; omega
        have f1n : decide (a2 < a1) = false := by rw [decide_eq_false_iff_not]; omega
        clear t1
        by_cases t2 : 4611686018427387904 ≤ a2
        · have f2 : decide ((4611686018427387904 : Int) ≤ (a2 : Int)) = true := by rw [decide_eq_true_iff]; omega
          clear t2 ha
          go_wp2_with fail
          go_quiet (fail)
          go_wp2_with fail
          go_ret
          exact ⟨_, rfl, below_drewN Hb.out _⟩
        · have f2 : decide ((4611686018427387904 : Int) ≤ (a2 : Int)) = false := by rw [decide_eq_false_iff_not]; omega
          clear t2
          cases j with
          | zero =>
            rw [Nat.zero_mul, Nat.add_zero] at c0 c1
            clear ha
            go_wp2_with fail
            go_quiet (fail)
            go_wp2_with fail
            go_quiet (fail)
            go_wp2_with fail
            go_roundw
            case rel => exact ⟨1, by omega, by first | rfl | go_num, below_drewN Hb.out _⟩
            case measure => simp [intOf]; omega
          | succ i =>
            obtain ⟨⟨b1, b2⟩, hb⟩ : ∃ r, rs[i]? = some r := ⟨_, List.getElem?_eq_getElem (by rw [HN.out]; omega)⟩
            have d0 := (Hb.out.cell (p := ⟨g, o + i * 2, none⟩) hg).trans (HC.out i _ hb).1
            simp only at d0
            have e1 : IntKind.i64.wrap (((i + 1 : Nat) : Int) - 1) = (i : Int) := by rw [IntWalk.i64_in _ (by omega)]; omega
            have e6 : decide ((0 : Int) < ((i + 1 : Nat) : Int)) = true := by rw [decide_eq_true_iff]; omega
            clear ha hb
            by_cases t3 : b1 < 2
            · have e3 : decide ((b1 : Int) < 2) = true := by rw [decide_eq_true_iff]; omega
              clear t3
              go_wp2_with fail
              go_quiet (fail)
              go_wp2_with fail
              go_quiet (fail)
              go_wp2_with fail
              go_ret
              exact ⟨_, rfl, below_drewN (below_drewN Hb.out _) _⟩
            · have e3 : decide ((b1 : Int) < 2) = false := by rw [decide_eq_false_iff_not]; omega
              obtain ⟨v, hv⟩ : ∃ v, IntKind.u64.wrap ((b1 : Int) - 2) = v := ⟨_, rfl⟩
              clear t3
              by_cases t4 : v < (a2 : Int)
              · have e4 : decide (v < (a2 : Int)) = true := by rw [decide_eq_true_iff]; omega
                clear t4
                go_wp2_with fail
                go_quiet (fail)
                go_wp2_with fail
                go_quiet (fail)
                go_wp2_with fail
                go_ret
                exact ⟨_, rfl, below_drewN (below_drewN Hb.out _) _⟩
              · have e4 : decide (v < (a2 : Int)) = false := by rw [decide_eq_false_iff_not]; omega
                clear t4
                go_wp2_with fail
                go_quiet (fail)
                go_wp2_with fail
                go_quiet (fail)
                go_wp2_with fail
                go_roundw
                case rel => exact ⟨i + 1 + 1, by omega, by go_num, below_drewN Hb.out _⟩
                case measure => simp [intOf]; omega
    · obtain rfl : j = N := by omega
      have Hb := Lib.hid hbw
      clear hbw
      by_cases t1 : 1 ≤ j
      · have e1 : (1 : Int) ≤ (j : Int) := by omega
        clear t1
        go_wp2_with fail
        all_goals
          go_ret
          exact ⟨_, rfl, Hb.out⟩
      · have e1 : ¬ (1 : Int) ≤ (j : Int) := by omega
        clear t1
        go_wp2_with fail
        all_goals
          go_ret
          first | exact ⟨_, rfl, Hb.out⟩ | exact ⟨.inl rfl, Hb.out⟩ | exact ⟨.inr rfl, Hb.out⟩

set_option maxRecDepth 100000 in
set_option maxHeartbeats 1000000 in
theorem number03_some (s : ByteArray) (w : World) (hl : s.size ≤ 1000) :
    Calls Try.prog 49 #[.string s] w fun e w' => ∃ x : Int, e = .returned (.int .u64 x) ∧ Below w.heap.size w w' := by
  obtain ⟨N, hN⟩ : ∃ N, s.size = N := ⟨_, rfl⟩
  have hl' := hl
  rw [hN] at hl'
  have HN := Lib.hid hN
  clear hN
  go_enter Try.func49, Try.ntmps49
  go_wp2_with fail
  go_loopw [3, 4] (fun v i wr => ∃ (j : Nat) (x : Int), j ≤ s.size ∧ v = .int .u64 x ∧ i = .int .i64 j ∧ Below w.heap.size w wr) (fun _ i _ => s.size - (intOf i).toNat)
  case atStart => exact ⟨0, 0, by omega, rfl, rfl, Below.refl _ _⟩
  case round =>
    obtain ⟨j, x, hj, rfl, rfl, hbw⟩ := hrel
    have Hb := Lib.hid hbw
    clear hbw
    by_cases hlt : j < s.size
    · go_wp2_with fail
      go_roundw
      case rel => exact ⟨j + 1, _, by omega, rfl, by go_num, Hb.out⟩
      case measure => simp [intOf]; omega
    · obtain rfl : j = s.size := by omega
      go_wp2_with fail
      go_ret
      first | exact ⟨_, rfl, Hb.out⟩ | exact Hb.out

end Go.Proofs.Ytmnmpmiocgfalaa
