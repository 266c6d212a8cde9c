/- The law HuffBack, walked. -/
import Derived.Test.YtacjhnalhfhdkaaHw
import Derived.OpenShut
namespace Go.Proofs.Ytacjhnalhfhdkaa
open Go.ChangeShapes Go.WideShapes Go.RowKit
set_option linter.unusedVariables false

theorem txt_app (l r : List UInt8) : txt l ++ txt r = txt (l ++ r) := by
  apply ByteArray.ext
  apply Array.toList_inj.1
  simp [txt]
theorem txt_nil_empty : (txt []).toList.isEmpty = true := by rw [ByteArray.toList_eq]; rfl
theorem size_lt (l : List UInt8) : (packF l).length ≤ 2 * l.length := by
  rw [packF_length]
  have := encB_len l
  rcases l with _ | ⟨b, l⟩
  · decide
  · simp only [List.length_cons] at *
    omega
/-- Pack's and Size's answers, by name. -/
theorem Pack_is (s : ByteArray) (hs : s.size ≤ 10000) : Gives 16 #[.string s] (.string (txt (packF (byt s)))) := fun w => Pack_any s w hs
theorem Size_is (s : ByteArray) (hs : s.size ≤ 10000) : Gives 17 #[.string s] (.int .i64 ((txt (packF (byt s))).size : Nat)) := Gives.of_eq fun w => by
  have h := Size_any s w hs
  rw [← packF_length, ← txt_size] at h
  exact h
theorem Unpack_is (s : ByteArray) (hs : s.size ≤ 10000) : Gives 18 #[.string s] (.tuple #[.string (txt (unpackF (byt s)).1), .int .i64 (unpackF (byt s)).2]) := fun w => Unpack_any s w hs
theorem unpack_len (l : List UInt8) (out : List UInt8) (h : unpackF l = (out, 0)) : out.length ≤ 8 * l.length := by
  have h1 := pack_unpack l out h
  have h2 := congrArg List.length h1
  rw [packF_length] at h2
  have : out.length ≤ (encB out).length := by
    clear h h1 h2
    induction out with
    | nil => simp
    | cons b l ih =>
      rw [encB_cons, List.length_append, cb_length, List.length_cons]
      have := hlen_le b.toNat
      omega
  omega

set_option maxRecDepth 100000 in
set_option maxHeartbeats 1000000 in
theorem back_big (a0 a1 : ByteArray) (w : World) (hm : ¬ (a0.size ≤ 300 ∧ a1.size ≤ 300)) (w0 : a0.size ≤ maxLen) (w1 : a1.size ≤ maxLen) :
    Calls Try.prog 5 #[.string a0, .string a1] w fun e w' => e = .returned (.bool true) ∧ Below w.heap.size w w' := by
  go_enter Try.func5, Try.ntmps5
  unfold maxLen at w0 w1
  have h47 : a0.size ≤ 9223372036854775807 := by omega
  have h48 : a1.size ≤ 9223372036854775807 := by omega
  clear w0 w1
  by_cases h3 : a0.size ≤ 300
  · have h4 : ¬ a1.size ≤ 300 := fun h => hm ⟨h3, h⟩
    clear hm
    go_wp2_with fail
    refine (awake_any _).mono ?_
    rintro e x0 ⟨rfl, b0⟩
    have B0 := Lib.hid b0
    clear b0
    go_wp2_with fail
    go_ret
    exact ⟨rfl, B0.out⟩
  · clear hm
    go_wp2_with fail
    refine (awake_any _).mono ?_
    rintro e x0 ⟨rfl, b0⟩
    have B0 := Lib.hid b0
    clear b0
    go_wp2_with fail
    go_ret
    exact ⟨rfl, B0.out⟩

set_option maxRecDepth 100000 in
set_option maxHeartbeats 1000000 in
theorem back_walk (a0 a1 : ByteArray) (w0 : a0.size ≤ maxLen) (w1 : a1.size ≤ maxLen) (w : World) :
    Calls Try.prog 5 #[.string a0, .string a1] w fun e w' => e = .returned (.bool true) ∧ Below w.heap.size w w' := by
  by_cases hm : a0.size ≤ 300 ∧ a1.size ≤ 300
  · obtain ⟨h3, h4⟩ := hm
    have hP := Pack_is a0 (by omega)
    have hS := Size_is a0 (by omega)
    have hl := size_lt (byt a0)
    rw [byt_length, ← txt_size] at hl
    have hU := Unpack_is (txt (packF (byt a0))) (by omega)
    rw [byt_txt, unpack_pack, txt_byt] at hU
    have hV := Unpack_is a1 (by omega)
    have HP := Lib.hid hP
    have HS := Lib.hid hS
    have HU := Lib.hid hU
    clear hP hS hU w0 w1
    generalize txt (packF (byt a0)) = p at *
    rcases unpack_bad (byt a1) with hb | hb
    · obtain ⟨v, hv⟩ : ∃ v, (unpackF (byt a1)).1 = v := ⟨_, rfl⟩
      have he : unpackF (byt a1) = (v, 0) := by rw [← hv, ← hb]
      have hvl := unpack_len _ _ he
      rw [byt_length, ← txt_size] at hvl
      have hQ := Pack_is (txt v) (by omega)
      rw [byt_txt, pack_unpack _ _ he, txt_byt] at hQ
      rw [he] at hV
      have HV := Lib.hid hV
      have HQ := Lib.hid hQ
      clear hV hQ he hv hb
      generalize txt v = V at *
      go_enter Try.func5, Try.ntmps5
      go_wp2_with fail
      refine (awake_any _).mono ?_
      rintro e x0 ⟨rfl, b0⟩
      have B0 := Lib.hid b0
      clear b0
      go_wp2_with fail
      refine (HP.out _).mono ?_
      rintro e x1 ⟨rfl, b1⟩
      have B1 := Lib.hid (B0.out.trans (b1.mono B0.out.size))
      clear b1 B0
      go_wp2_with fail
      refine (HU.out _).mono ?_
      rintro e x2 ⟨rfl, b2⟩
      have B2 := Lib.hid (B1.out.trans (b2.mono B1.out.size))
      clear b2 B1
      go_wp2_with fail
      refine (HP.out _).mono ?_
      rintro e x3 ⟨rfl, b3⟩
      have B3 := Lib.hid (B2.out.trans (b3.mono B2.out.size))
      clear b3 B2
      go_wp2_with fail
      refine (HS.out _).mono ?_
      rintro e x4 ⟨rfl, b4⟩
      have B4 := Lib.hid (B3.out.trans (b4.mono B3.out.size))
      clear b4 B3
      go_wp2_with fail
      refine (HV.out _).mono ?_
      rintro e x5 ⟨rfl, b5⟩
      have B5 := Lib.hid (B4.out.trans (b5.mono B4.out.size))
      clear b5 B4
      go_wp2_with fail
      refine (HQ.out _).mono ?_
      rintro e x6 ⟨rfl, b6⟩
      have B6 := Lib.hid (B5.out.trans (b6.mono B5.out.size))
      clear b6 B5
      go_wp2_with fail
      go_ret
      exact ⟨rfl, B6.out⟩
    · rw [hb] at hV
      have HV := Lib.hid hV
      have ht0 := txt_nil_empty
      clear hV hb
      go_enter Try.func5, Try.ntmps5
      go_wp2_with fail
      refine (awake_any _).mono ?_
      rintro e x0 ⟨rfl, b0⟩
      have B0 := Lib.hid b0
      clear b0
      go_wp2_with fail
      refine (HP.out _).mono ?_
      rintro e x1 ⟨rfl, b1⟩
      have B1 := Lib.hid (B0.out.trans (b1.mono B0.out.size))
      clear b1 B0
      go_wp2_with fail
      refine (HU.out _).mono ?_
      rintro e x2 ⟨rfl, b2⟩
      have B2 := Lib.hid (B1.out.trans (b2.mono B1.out.size))
      clear b2 B1
      go_wp2_with fail
      refine (HP.out _).mono ?_
      rintro e x3 ⟨rfl, b3⟩
      have B3 := Lib.hid (B2.out.trans (b3.mono B2.out.size))
      clear b3 B2
      go_wp2_with fail
      refine (HS.out _).mono ?_
      rintro e x4 ⟨rfl, b4⟩
      have B4 := Lib.hid (B3.out.trans (b4.mono B3.out.size))
      clear b4 B3
      go_wp2_with fail
      refine (HV.out _).mono ?_
      rintro e x5 ⟨rfl, b5⟩
      have B5 := Lib.hid (B4.out.trans (b5.mono B4.out.size))
      clear b5 B4
      go_wp2_with fail
      go_ret
      exact ⟨rfl, B5.out⟩
  · exact back_big a0 a1 w hm w0 w1

end Go.Proofs.Ytacjhnalhfhdkaa
