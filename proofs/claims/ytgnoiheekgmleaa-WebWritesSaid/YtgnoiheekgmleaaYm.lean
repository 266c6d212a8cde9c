/- fields: the reference's text and add. -/
import Derived.Test.YtgnoiheekgmleaaYw
import Derived.Deep.RegionHeldLaw
namespace Go.Proofs.Ytgnoiheekgmleaa
open Go.ChangeShapes Go.WideShapes Go.RowKit
set_option linter.unusedVariables false
set_option linter.unusedSimpArgs false

set_option maxRecDepth 100000 in
set_option maxHeartbeats 4000000 in
theorem Rtext_any (s : ByteArray) (c high : Nat) (w : World) (hs : s.size ≤ 5000) (hc : 1 ≤ c ∧ c ≤ 7) (hh : high < 256) (hz : high % 2 ^ (c + 1) = 0) :
    Calls Try.prog 55 #[.string s, .int .i64 ((c : Int) + 1), .int .u8 (high : Int)] w fun e w' => e = .returned (.string (txt (textB (byt s) (c + 1) high))) ∧ Below w.heap.size w w' := by
  have hbl := byt_length s
  have hp := fun w => rPack_any s w (by omega)
  have hts := txt_byt s
  have hlt := high_lt high (c + 1) (by omega) hz hh
  have hpp := pow_pred (c + 1) (by omega)
  rw [Nat.add_sub_cancel] at hpp
  have hp1 : 1 ≤ 2 ^ c := Nat.one_le_two_pow
  obtain ⟨a, ha⟩ : ∃ a, high = 2 ^ (c + 1) * a := ⟨high / 2 ^ (c + 1), by have := Nat.div_add_mod high (2 ^ (c + 1)); omega⟩
  have hz1 : high % 2 ^ c = 0 := by rw [ha, hpp, Nat.mul_assoc, Nat.mul_left_comm]; exact Nat.mul_mod_right _ _
  have hz2 : (high + 2 ^ c) % 2 ^ c = 0 := by rw [Nat.add_mod, hz1, Nat.mod_self]; simp
  have hor : high ||| 2 ^ c = high + 2 ^ c := high_or high _ (c + 1) hz (by omega)
  unfold textB
  rw [Nat.add_sub_cancel, hor]
  obtain ⟨l, hl⟩ : ∃ l, byt s = l := ⟨_, rfl⟩
  rw [hl] at hbl hp hts ⊢
  have hpl := txt_size (packF l)
  by_cases hs2 : (packF l).length < l.length
  · rw [if_pos hs2]
    have hnum := fun w => RNumber_any (packF l).length c (high + 2 ^ c) w (by omega) (by omega) (by omega) hz2
    have hap := txt_app (numberF (packF l).length c (high + 2 ^ c)) (packF l)
    have hnz := txt_size (numberF (packF l).length c (high + 2 ^ c))
    have hzl := numberF_len (packF l).length c (high + 2 ^ c) (by omega)
    generalize txt (numberF (packF l).length c (high + 2 ^ c) ++ packF l) = res at *
    generalize numberF (packF l).length c (high + 2 ^ c) = nl at *
    obtain ⟨PL, hPL⟩ : ∃ n, (packF l).length = n := ⟨_, rfl⟩
    rw [hPL] at hs2 hnum hpl
    have hd : decide ((PL : Int) < (s.size : Int)) = true := by rw [decide_eq_true_iff]; omega
    have hdN : decide (PL < s.size) = true := by rw [decide_eq_true_iff]; omega
    have hwp : IntKind.u64.wrap (PL : Int) = PL := IntWalk.u64_in _ (by omega)
    generalize txt (packF l) = ps at *
    generalize txt nl = ns at *
    have hnz2 : ns.size ≤ 11 := by omega
    have hpsz : ps.size ≤ 5000 := by omega
    have HP := Lib.hid hp
    have HN := Lib.hid hnum
    have HB := Lib.hid (And.intro hpp hlt)
    clear hp hnum hPL hz hz1 hz2 hor ha hzl hnz hts hl hpp
    go_enter Try.func55, Try.ntmps55
    go_wp2_with fail
    refine (HP.out _).mono ?_
    rintro e w1 ⟨rfl, b1⟩
    have B1 := Lib.hid b1
    clear b1
    go_wp2_with fail
    go_loop [8, 9] (fun mk i => ∃ j : Nat, j ≤ c ∧ i = .int .i64 ((j : Int) + 1) ∧ mk = .int .u8 ((2 ^ j : Nat) : Int)) (fun _ i => c + 1 - (intOf i).toNat)
    case atStart => exact ⟨0, by omega, rfl, rfl⟩
    case round =>
      obtain ⟨j, hj, rfl, rfl⟩ := hrel
      by_cases hjc : j < c
      · have hps := pow_u8 (j + 1) (by omega)
        have hps2 : 2 ^ (j + 1) = 2 ^ j * 2 := Nat.pow_succ 2 j
        have HPS := Lib.hid hps2
        obtain ⟨P, hP⟩ : ∃ P, 2 ^ j = P := ⟨_, rfl⟩
        rw [hP] at HPS hps2 ⊢
        have hw : IntKind.u8.wrap ((P : Int) * 2) = ((P * 2 : Nat) : Int) := by rw [show ((P : Int) * 2) = ((P * 2 : Nat) : Int) by push_cast; rfl]; exact IntWalk.u8_in _ (by omega)
        obtain ⟨P2, hP2⟩ : ∃ P2, P * 2 = P2 := ⟨_, rfl⟩
        rw [hP2] at hw HPS
        clear hP hP2 hps2 hps
        go_wp2_with fail
        go_round
        case rel => exact ⟨j + 1, by omega, by go_num, by rw [HPS.out]⟩
        case measure => simp [intOf]; omega
      · have hjN : j = c := by omega
        subst hjN
        have hb2 := HB.out
        obtain ⟨P, hP⟩ : ∃ P, 2 ^ j = P := ⟨_, rfl⟩
        rw [hP] at hb2 HN hp1 ⊢
        obtain ⟨h2, hh2⟩ : ∃ x, high + P = x := ⟨_, rfl⟩
        have hw8 : IntKind.u8.wrap ((high : Int) + (P : Int)) = (h2 : Int) := by rw [IntWalk.u8_in _ (by omega)]; omega
        rw [hh2] at HN
        clear hP hb2 hh2
        go_wp2_with fail
        refine (HN.out _).mono ?_
        rintro e w2 ⟨rfl, b2⟩
        have B2 := Lib.hid (B1.out.trans (b2.mono B1.out.size))
        clear b2
        go_wp2_with fail
        go_ret
        exact ⟨rfl, B2.out⟩
  · rw [if_neg hs2]
    have hnum := fun w => RNumber_any l.length c high w (by omega) (by omega) hh hz1
    have hap := txt_app (numberF l.length c high) l
    have hnz := txt_size (numberF l.length c high)
    have hzl := numberF_len l.length c high (by omega)
    rw [hts] at hap
    generalize txt (numberF l.length c high ++ l) = res at *
    generalize numberF l.length c high = nl at *
    rw [hbl] at hnum hs2
    obtain ⟨PL, hPL⟩ : ∃ n, (packF l).length = n := ⟨_, rfl⟩
    rw [hPL] at hs2 hpl
    have hd : decide ((PL : Int) < (s.size : Int)) = false := by rw [decide_eq_false_iff_not]; omega
    have hdN : decide (PL < s.size) = false := by rw [decide_eq_false_iff_not]; omega
    have hwp : IntKind.u64.wrap (s.size : Int) = s.size := IntWalk.u64_in _ (by omega)
    generalize txt (packF l) = ps at *
    generalize txt nl = ns at *
    have hnz2 : ns.size ≤ 11 := by omega
    have HP := Lib.hid hp
    have HN := Lib.hid hnum
    clear hp hnum hPL hz hz1 hz2 hor ha hzl hnz hts hl hpp hlt hp1
    go_enter Try.func55, Try.ntmps55
    go_wp2_with fail
    refine (HP.out _).mono ?_
    rintro e w1 ⟨rfl, b1⟩
    have B1 := Lib.hid b1
    clear b1
    go_wp2_with fail
    refine (HN.out _).mono ?_
    rintro e w2 ⟨rfl, b2⟩
    have B2 := Lib.hid (B1.out.trans (b2.mono B1.out.size))
    clear b2
    go_wp2_with fail
    go_ret
    exact ⟨rfl, B2.out⟩

end Go.Proofs.Ytgnoiheekgmleaa
