/- The law HuffShort, walked. -/
import Derived.Test.YtacjhnalhfhdkaaHw
import Derived.OpenShut
namespace Go.Proofs.Ytacjhnalhfhdkaa
open Go.ChangeShapes Go.WideShapes Go.RowKit
set_option linter.unusedVariables false

theorem byt_app (a b : ByteArray) : byt (a ++ b) = byt a ++ byt b := by simp [byt]
/-- Pack's and Size's answers, by name. -/
theorem PackIs (s : ByteArray) (hs : s.size ≤ 10000) : Gives 16 #[.string s] (.string (txt (packF (byt s)))) := fun w => Pack_any s w hs
theorem SizeIs (s : ByteArray) (hs : s.size ≤ 10000) : Gives 17 #[.string s] (.int .i64 (((encB (byt s)).length + 7) / 8 : Nat)) := Gives.of_eq fun w => Size_any s w hs

set_option maxRecDepth 100000 in
set_option maxHeartbeats 1000000 in
theorem short_big (a0 a1 : ByteArray) (w0 : a0.size ≤ maxLen) (w1 : a1.size ≤ maxLen) (w : World) (hm : ¬ (a0.size ≤ 150 ∧ a1.size ≤ 150)) :
    Calls Try.prog 8 #[.string a0, .string a1] w fun e w' => e = .returned (.bool true) ∧ Below w.heap.size w w' := by
  unfold maxLen at w0 w1
  have h47 : a0.size ≤ 9223372036854775807 := by omega
  have h48 : a1.size ≤ 9223372036854775807 := by omega
  clear w0 w1
  by_cases h3 : a0.size ≤ 150
  · have h4 : ¬ a1.size ≤ 150 := fun h => hm ⟨h3, h⟩
    clear hm
    go_enter Try.func8, Try.ntmps8
    go_wp2_with fail
    refine (awake_any _).mono ?_
    rintro e x0 ⟨rfl, b0⟩
    have B0 := Lib.hid b0
    clear b0
    go_wp2_with fail
    go_ret
    exact ⟨rfl, B0.out⟩
  · clear hm
    go_enter Try.func8, Try.ntmps8
    go_wp2_with fail
    refine (awake_any _).mono ?_
    rintro e x0 ⟨rfl, b0⟩
    have B0 := Lib.hid b0
    clear b0
    go_wp2_with fail
    go_ret
    exact ⟨rfl, B0.out⟩

set_option maxRecDepth 100000 in
set_option maxHeartbeats 1000000 in
theorem short_walk (a0 a1 : ByteArray) (w0 : a0.size ≤ maxLen) (w1 : a1.size ≤ maxLen) (w : World) :
    Calls Try.prog 8 #[.string a0, .string a1] w fun e w' => e = .returned (.bool true) ∧ Below w.heap.size w w' := by
  by_cases hm : a0.size ≤ 150 ∧ a1.size ≤ 150
  · obtain ⟨h3, h4⟩ := hm
    have happ : (a0 ++ a1).size = a0.size + a1.size := by simp
    have hP := PackIs (a0 ++ a1) (by omega)
    have hS := SizeIs (a0 ++ a1) (by omega)
    have hA := SizeIs a0 (by omega)
    have hB := SizeIs a1 (by omega)
    have hl := packF_length (byt (a0 ++ a1))
    have hX := encB_len (byt a0)
    rw [byt_length] at hX
    rw [byt_app] at hP hS hl
    rw [encB_append, List.length_append] at hS hl
    rw [← txt_size] at hl
    obtain ⟨X, hX2⟩ : ∃ X, (encB (byt a0)).length = X := ⟨_, rfl⟩
    obtain ⟨Y, hY2⟩ : ∃ X, (encB (byt a1)).length = X := ⟨_, rfl⟩
    rw [hX2] at hX
    rw [hX2, hY2] at hS hl
    rw [hX2] at hA
    rw [hY2] at hB
    generalize txt (packF (byt a0 ++ byt a1)) = P at *
    obtain ⟨p, hp⟩ : ∃ p, (X + 7) / 8 = p := ⟨_, rfl⟩
    obtain ⟨q, hq⟩ : ∃ p, (Y + 7) / 8 = p := ⟨_, rfl⟩
    obtain ⟨r, hr⟩ : ∃ p, (X + Y + 7) / 8 = p := ⟨_, rfl⟩
    rw [hr] at hS hl
    rw [hp] at hA
    rw [hq] at hB
    have g1 : r ≤ p + q := by omega
    have g2 : p + q ≤ r + 1 := by omega
    have g3 : p ≤ (3 * a0.size + 1) / 2 := by omega
    have g4 : r ≤ 1000 := by
      have := packF_length (byt (a0 ++ a1))
      have h2 := encB_len (byt a1)
      rw [byt_length, hY2] at h2
      omega
    have HP := Lib.hid hP
    have HS := Lib.hid hS
    have HA := Lib.hid hA
    have HB := Lib.hid hB
    clear hP hS hA hB hp hq hr hX hX2 hY2 happ
    go_enter Try.func8, Try.ntmps8
    go_wp2_with fail
    refine (awake_any _).mono ?_
    rintro e x0 ⟨rfl, b0⟩
    have B0 := Lib.hid b0
    clear b0
    go_wp2_with fail
    refine (HS.out _).mono ?_
    rintro e x1 ⟨rfl, b1⟩
    have B1 := Lib.hid (B0.out.trans (b1.mono B0.out.size))
    clear b1 B0
    go_wp2_with fail
    refine (HA.out _).mono ?_
    rintro e x2 ⟨rfl, b2⟩
    have B2 := Lib.hid (B1.out.trans (b2.mono B1.out.size))
    clear b2 B1
    go_wp2_with fail
    refine (HB.out _).mono ?_
    rintro e x3 ⟨rfl, b3⟩
    have B3 := Lib.hid (B2.out.trans (b3.mono B2.out.size))
    clear b3 B2
    go_wp2_with fail
    refine (HA.out _).mono ?_
    rintro e x4 ⟨rfl, b4⟩
    have B4 := Lib.hid (B3.out.trans (b4.mono B3.out.size))
    clear b4 B3
    go_wp2_with fail
    refine (HB.out _).mono ?_
    rintro e x5 ⟨rfl, b5⟩
    have B5 := Lib.hid (B4.out.trans (b5.mono B4.out.size))
    clear b5 B4
    go_wp2_with fail
    refine (HA.out _).mono ?_
    rintro e x6 ⟨rfl, b6⟩
    have B6 := Lib.hid (B5.out.trans (b6.mono B5.out.size))
    clear b6 B5
    go_wp2_with fail
    refine (HP.out _).mono ?_
    rintro e x7 ⟨rfl, b7⟩
    have B7 := Lib.hid (B6.out.trans (b7.mono B6.out.size))
    clear b7 B6
    go_wp2_with fail
    go_ret
    exact ⟨rfl, B7.out⟩
  · exact short_big a0 a1 w0 w1 w hm

end Go.Proofs.Ytacjhnalhfhdkaa
