/- The law VarintBack, walked. -/
import Derived.Test.YtlpkapkabehdnaaAw
import Derived.Test.YtlpkapkabehdnaaP2
import Derived.OpenShut
namespace Go.Proofs.Ytlpkapkabehdnaa
open Go.ChangeShapes Go.WideShapes Go.RowKit
set_option linter.unusedVariables false

theorem txt_app (l : List UInt8) (s : ByteArray) : txt l ++ s = txt (l ++ byt s) := by
  apply ByteArray.ext
  apply Array.toList_inj.1
  simp [txt, byt]

theorem txt_nil_empty : (txt []).toList.isEmpty = true := by rw [ByteArray.toList_eq]; rfl

theorem txt_inj (l r : List UInt8) : (txt l = txt r) ↔ l = r := by
  constructor
  · intro h
    have := congrArg byt h
    rwa [byt_txt, byt_txt] at this
  · intro h; rw [h]

set_option maxRecDepth 100000 in
set_option maxHeartbeats 1000000 in
theorem back_big (a0 : Int) (a1 : Int) (a2 : ByteArray) (w : World) (hm : ¬ a2.size ≤ 1024) (h47 : a2.size ≤ 9223372036854775807) :
    Calls Try.prog 5 #[.int .u64 a0, .int .u8 a1, .string a2] w fun e w' => e = .returned (.bool true) ∧ Below w.heap.size w w' := by
  go_enter Try.func5, Try.ntmps5
  go_wp2_with fail
  refine (awake_any _).mono ?_
  rintro e x0 ⟨rfl, b0⟩
  have B0 := Lib.hid b0
  clear b0
  go_wp2_with fail
  go_ret
  exact ⟨rfl, B0.out⟩


set_option maxRecDepth 100000 in
set_option maxHeartbeats 1000000 in
theorem back_no_bad (n v : Nat) (s : ByteArray) (w : World) (hm : s.size ≤ 1024) (hv : v < 256) (hn : ¬ n < 4611686018427387904) (hs : takeL (byt s) = (0, [], 2)) :
    Calls Try.prog 5 #[.int .u64 (n : Int), .int .u8 (v : Int), .string s] w fun e w' => e = .returned (.bool true) ∧ Below w.heap.size w w' := by
  have hU := Take_any s
  rw [hs] at hU
  have HU := Lib.hid hU
  have ht0 := txt_nil_empty
  clear hU
  have hP := Put_any n
  rw [show putF n = ([], 3) by simp only [putF]; rw [if_neg hn]] at hP
  have HP := Lib.hid hP
  have hd : decide ((n : Int) ≤ 4611686018427387903) = false := by simp; omega
  clear hP hn
  go_enter Try.func5, Try.ntmps5
  go_wp2_with fail
  refine (awake_any _).mono ?_
  rintro e x0 ⟨rfl, b0⟩
  have B0 := Lib.hid b0
  clear b0
  go_wp2_with fail
  refine (HP.out _).mono ?_
  rintro e x1 ⟨rfl, b1⟩
  have B1 := Lib.hid (B0.out.trans (b1.mono B0.out.size))
  clear b1 B0
  go_wp2_with fail
  refine (HU.out _).mono ?_
  rintro e x2 ⟨rfl, b2⟩
  have B2 := Lib.hid (B1.out.trans (b2.mono B1.out.size))
  clear b2 B1
  go_wp2_with fail
  go_ret
  exact ⟨rfl, B2.out⟩

set_option maxRecDepth 100000 in
set_option maxHeartbeats 1000000 in
theorem back_no_ok (n v : Nat) (s : ByteArray) (w : World) (hm : s.size ≤ 1024) (hv : v < 256) (hn : ¬ n < 4611686018427387904) (x : Nat) (r p : List UInt8) (hs : takeL (byt s) = (x, r, 0)) (hw2 : wideF x (((byt s).length - r.length : Nat) : Int) = (p, 0)) (hpr : p ++ r = byt s) (hrl : r.length < (byt s).length) :
    Calls Try.prog 5 #[.int .u64 (n : Int), .int .u8 (v : Int), .string s] w fun e w' => e = .returned (.bool true) ∧ Below w.heap.size w w' := by
  have hU := Take_any s
  rw [hs] at hU
  have hX := Wide_any x (((byt s).length - r.length : Nat) : Int)
  have hPl := wide_len x (((byt s).length - r.length : Nat) : Int)
  rw [hw2] at hX hPl
  have hcat : txt p ++ txt r = s := by rw [txt_app, byt_txt, hpr, txt_byt]
  have hlen : (((byt s).length - r.length : Nat) : Int) = (s.size : Int) - ((txt r).size : Int) := by
    rw [txt_size, ← byt_length]
    omega
  rw [hlen] at hX
  have hR : (txt r).size ≤ s.size := by rw [txt_size, ← byt_length]; omega
  rw [← txt_size] at hPl
  simp only at hU hX hPl
  generalize txt p = P at *
  generalize txt r = R at *
  have HU := Lib.hid hU
  have HX := Lib.hid hX
  clear hU hX hlen hw2 hrl hpr hs
  have hP := Put_any n
  rw [show putF n = ([], 3) by simp only [putF]; rw [if_neg hn]] at hP
  have HP := Lib.hid hP
  have hd : decide ((n : Int) ≤ 4611686018427387903) = false := by simp; omega
  clear hP hn
  go_enter Try.func5, Try.ntmps5
  go_wp2_with fail
  refine (awake_any _).mono ?_
  rintro e x0 ⟨rfl, b0⟩
  have B0 := Lib.hid b0
  clear b0
  go_wp2_with fail
  refine (HP.out _).mono ?_
  rintro e x1 ⟨rfl, b1⟩
  have B1 := Lib.hid (B0.out.trans (b1.mono B0.out.size))
  clear b1 B0
  go_wp2_with fail
  refine (HU.out _).mono ?_
  rintro e x2 ⟨rfl, b2⟩
  have B2 := Lib.hid (B1.out.trans (b2.mono B1.out.size))
  clear b2 B1
  go_wp2_with fail
  refine (HX.out _).mono ?_
  rintro e x3 ⟨rfl, b3⟩
  have B3 := Lib.hid (B2.out.trans (b3.mono B2.out.size))
  clear b3 B2
  go_wp2_with fail
  go_ret
  exact ⟨rfl, B3.out⟩

set_option maxRecDepth 100000 in
set_option maxHeartbeats 1000000 in
theorem back_wno_bad (n v : Nat) (s : ByteArray) (w : World) (hm : s.size ≤ 1024) (hv : v < 256) (hn : n < 4611686018427387904) (hl : ¬ n < lim (v % 4)) (hs : takeL (byt s) = (0, [], 2)) :
    Calls Try.prog 5 #[.int .u64 (n : Int), .int .u8 (v : Int), .string s] w fun e w' => e = .returned (.bool true) ∧ Below w.heap.size w w' := by
  have hU := Take_any s
  rw [hs] at hU
  have HU := Lib.hid hU
  have ht0 := txt_nil_empty
  clear hU
  have hP := Put_any n
  have hT := Take_any (txt (put (lst n) n) ++ s)
  have hW := Wide_any n ((2 ^ (v % 4) : Nat) : Int)
  have hiff := lst_iff n (v % 4) hn (by omega)
  rw [show putF n = (put (lst n) n, 0) by simp only [putF]; rw [if_pos hn]] at hP
  rw [txt_app, byt_txt, take_put _ _ _ (lst_le n) (lst_lim n hn), txt_byt, ← txt_app] at hT
  rw [wide_pow n _ (by omega)] at hW
  have ha : (txt (put (lst n) n)).size = 2 ^ lst n := by rw [txt_size, put_length]
  rw [← ha] at hiff
  have ha8 : (txt (put (lst n) n)).size ≤ 8 := by rw [ha]; exact pow_le8 _ (lst_le n)
  clear ha
  simp only at hP
  generalize txt (put (lst n) n) = a at *
  rw [if_neg hl] at hW
  obtain ⟨d, hdd⟩ : ∃ d, 2 ^ (v % 4) = d := ⟨_, rfl⟩
  have hwp := wrap_pow (v % 4) d (by omega) hdd
  rw [hdd] at hW hiff
  have hnl : ¬ a.size ≤ d := fun h => hl (hiff.2 h)
  have HP := Lib.hid hP
  have HT := Lib.hid hT
  have HW := Lib.hid hW
  have hd : decide ((n : Int) ≤ 4611686018427387903) = true := by simp; omega
  have hd2 : decide (a.size ≤ d) = false := by simpa using hnl
  clear hP hT hW hn hl hiff hdd
  go_enter Try.func5, Try.ntmps5
  go_wp2_with fail
  refine (awake_any _).mono ?_
  rintro e x0 ⟨rfl, b0⟩
  have B0 := Lib.hid b0
  clear b0
  go_wp2_with fail
  refine (HP.out _).mono ?_
  rintro e x1 ⟨rfl, b1⟩
  have B1 := Lib.hid (B0.out.trans (b1.mono B0.out.size))
  clear b1 B0
  go_wp2_with fail
  refine (HT.out _).mono ?_
  rintro e x2 ⟨rfl, b2⟩
  have B2 := Lib.hid (B1.out.trans (b2.mono B1.out.size))
  clear b2 B1
  go_wp2_with fail
  refine (HW.out _).mono ?_
  rintro e x3 ⟨rfl, b3⟩
  have B3 := Lib.hid (B2.out.trans (b3.mono B2.out.size))
  clear b3 B2
  go_wp2_with fail
  refine (HU.out _).mono ?_
  rintro e x4 ⟨rfl, b4⟩
  have B4 := Lib.hid (B3.out.trans (b4.mono B3.out.size))
  clear b4 B3
  go_wp2_with fail
  go_ret
  exact ⟨rfl, B4.out⟩

set_option maxRecDepth 100000 in
set_option maxHeartbeats 1000000 in
theorem back_wno_ok (n v : Nat) (s : ByteArray) (w : World) (hm : s.size ≤ 1024) (hv : v < 256) (hn : n < 4611686018427387904) (hl : ¬ n < lim (v % 4)) (x : Nat) (r p : List UInt8) (hs : takeL (byt s) = (x, r, 0)) (hw2 : wideF x (((byt s).length - r.length : Nat) : Int) = (p, 0)) (hpr : p ++ r = byt s) (hrl : r.length < (byt s).length) :
    Calls Try.prog 5 #[.int .u64 (n : Int), .int .u8 (v : Int), .string s] w fun e w' => e = .returned (.bool true) ∧ Below w.heap.size w w' := by
  have hU := Take_any s
  rw [hs] at hU
  have hX := Wide_any x (((byt s).length - r.length : Nat) : Int)
  have hPl := wide_len x (((byt s).length - r.length : Nat) : Int)
  rw [hw2] at hX hPl
  have hcat : txt p ++ txt r = s := by rw [txt_app, byt_txt, hpr, txt_byt]
  have hlen : (((byt s).length - r.length : Nat) : Int) = (s.size : Int) - ((txt r).size : Int) := by
    rw [txt_size, ← byt_length]
    omega
  rw [hlen] at hX
  have hR : (txt r).size ≤ s.size := by rw [txt_size, ← byt_length]; omega
  rw [← txt_size] at hPl
  simp only at hU hX hPl
  generalize txt p = P at *
  generalize txt r = R at *
  have HU := Lib.hid hU
  have HX := Lib.hid hX
  clear hU hX hlen hw2 hrl hpr hs
  have hP := Put_any n
  have hT := Take_any (txt (put (lst n) n) ++ s)
  have hW := Wide_any n ((2 ^ (v % 4) : Nat) : Int)
  have hiff := lst_iff n (v % 4) hn (by omega)
  rw [show putF n = (put (lst n) n, 0) by simp only [putF]; rw [if_pos hn]] at hP
  rw [txt_app, byt_txt, take_put _ _ _ (lst_le n) (lst_lim n hn), txt_byt, ← txt_app] at hT
  rw [wide_pow n _ (by omega)] at hW
  have ha : (txt (put (lst n) n)).size = 2 ^ lst n := by rw [txt_size, put_length]
  rw [← ha] at hiff
  have ha8 : (txt (put (lst n) n)).size ≤ 8 := by rw [ha]; exact pow_le8 _ (lst_le n)
  clear ha
  simp only at hP
  generalize txt (put (lst n) n) = a at *
  rw [if_neg hl] at hW
  obtain ⟨d, hdd⟩ : ∃ d, 2 ^ (v % 4) = d := ⟨_, rfl⟩
  have hwp := wrap_pow (v % 4) d (by omega) hdd
  rw [hdd] at hW hiff
  have hnl : ¬ a.size ≤ d := fun h => hl (hiff.2 h)
  have HP := Lib.hid hP
  have HT := Lib.hid hT
  have HW := Lib.hid hW
  have hd : decide ((n : Int) ≤ 4611686018427387903) = true := by simp; omega
  have hd2 : decide (a.size ≤ d) = false := by simpa using hnl
  clear hP hT hW hn hl hiff hdd
  go_enter Try.func5, Try.ntmps5
  go_wp2_with fail
  refine (awake_any _).mono ?_
  rintro e x0 ⟨rfl, b0⟩
  have B0 := Lib.hid b0
  clear b0
  go_wp2_with fail
  refine (HP.out _).mono ?_
  rintro e x1 ⟨rfl, b1⟩
  have B1 := Lib.hid (B0.out.trans (b1.mono B0.out.size))
  clear b1 B0
  go_wp2_with fail
  refine (HT.out _).mono ?_
  rintro e x2 ⟨rfl, b2⟩
  have B2 := Lib.hid (B1.out.trans (b2.mono B1.out.size))
  clear b2 B1
  go_wp2_with fail
  refine (HW.out _).mono ?_
  rintro e x3 ⟨rfl, b3⟩
  have B3 := Lib.hid (B2.out.trans (b3.mono B2.out.size))
  clear b3 B2
  go_wp2_with fail
  refine (HU.out _).mono ?_
  rintro e x4 ⟨rfl, b4⟩
  have B4 := Lib.hid (B3.out.trans (b4.mono B3.out.size))
  clear b4 B3
  go_wp2_with fail
  refine (HX.out _).mono ?_
  rintro e x5 ⟨rfl, b5⟩
  have B5 := Lib.hid (B4.out.trans (b5.mono B4.out.size))
  clear b5 B4
  go_wp2_with fail
  go_ret
  exact ⟨rfl, B5.out⟩

set_option maxRecDepth 100000 in
set_option maxHeartbeats 1000000 in
theorem back_wyes_bad (n v : Nat) (s : ByteArray) (w : World) (hm : s.size ≤ 1024) (hv : v < 256) (hn : n < 4611686018427387904) (hl : n < lim (v % 4)) (hs : takeL (byt s) = (0, [], 2)) :
    Calls Try.prog 5 #[.int .u64 (n : Int), .int .u8 (v : Int), .string s] w fun e w' => e = .returned (.bool true) ∧ Below w.heap.size w w' := by
  have hU := Take_any s
  rw [hs] at hU
  have HU := Lib.hid hU
  have ht0 := txt_nil_empty
  clear hU
  have hP := Put_any n
  have hT := Take_any (txt (put (lst n) n) ++ s)
  have hW := Wide_any n ((2 ^ (v % 4) : Nat) : Int)
  have hiff := lst_iff n (v % 4) hn (by omega)
  rw [show putF n = (put (lst n) n, 0) by simp only [putF]; rw [if_pos hn]] at hP
  rw [txt_app, byt_txt, take_put _ _ _ (lst_le n) (lst_lim n hn), txt_byt, ← txt_app] at hT
  rw [wide_pow n _ (by omega)] at hW
  have ha : (txt (put (lst n) n)).size = 2 ^ lst n := by rw [txt_size, put_length]
  rw [← ha] at hiff
  have ha8 : (txt (put (lst n) n)).size ≤ 8 := by rw [ha]; exact pow_le8 _ (lst_le n)
  clear ha
  simp only at hP
  generalize txt (put (lst n) n) = a at *
  rw [if_pos hl] at hW
  have hV := Take_any (txt (put (v % 4) n) ++ s)
  rw [txt_app, byt_txt, take_put _ _ _ (by omega) hl, txt_byt, ← txt_app] at hV
  have hc8 : (txt (put (v % 4) n)).size ≤ 8 := by rw [txt_size, put_length]; exact pow_le8 _ (by omega)
  simp only at hW hV
  generalize txt (put (v % 4) n) = c at *
  obtain ⟨d, hdd⟩ : ∃ d, 2 ^ (v % 4) = d := ⟨_, rfl⟩
  have hwp := wrap_pow (v % 4) d (by omega) hdd
  rw [hdd] at hW hiff
  have hnl : a.size ≤ d := hiff.1 hl
  have HP := Lib.hid hP
  have HT := Lib.hid hT
  have HW := Lib.hid hW
  have HV := Lib.hid hV
  have hd : decide ((n : Int) ≤ 4611686018427387903) = true := by simp; omega
  have hd2 : decide (a.size ≤ d) = true := by simpa using hnl
  clear hP hT hW hV hn hl hiff hdd
  go_enter Try.func5, Try.ntmps5
  go_wp2_with fail
  refine (awake_any _).mono ?_
  rintro e x0 ⟨rfl, b0⟩
  have B0 := Lib.hid b0
  clear b0
  go_wp2_with fail
  refine (HP.out _).mono ?_
  rintro e x1 ⟨rfl, b1⟩
  have B1 := Lib.hid (B0.out.trans (b1.mono B0.out.size))
  clear b1 B0
  go_wp2_with fail
  refine (HT.out _).mono ?_
  rintro e x2 ⟨rfl, b2⟩
  have B2 := Lib.hid (B1.out.trans (b2.mono B1.out.size))
  clear b2 B1
  go_wp2_with fail
  refine (HW.out _).mono ?_
  rintro e x3 ⟨rfl, b3⟩
  have B3 := Lib.hid (B2.out.trans (b3.mono B2.out.size))
  clear b3 B2
  go_wp2_with fail
  refine (HV.out _).mono ?_
  rintro e x4 ⟨rfl, b4⟩
  have B4 := Lib.hid (B3.out.trans (b4.mono B3.out.size))
  clear b4 B3
  go_wp2_with fail
  refine (HU.out _).mono ?_
  rintro e x5 ⟨rfl, b5⟩
  have B5 := Lib.hid (B4.out.trans (b5.mono B4.out.size))
  clear b5 B4
  go_wp2_with fail
  go_ret
  exact ⟨rfl, B5.out⟩

set_option maxRecDepth 100000 in
set_option maxHeartbeats 1000000 in
theorem back_wyes_ok (n v : Nat) (s : ByteArray) (w : World) (hm : s.size ≤ 1024) (hv : v < 256) (hn : n < 4611686018427387904) (hl : n < lim (v % 4)) (x : Nat) (r p : List UInt8) (hs : takeL (byt s) = (x, r, 0)) (hw2 : wideF x (((byt s).length - r.length : Nat) : Int) = (p, 0)) (hpr : p ++ r = byt s) (hrl : r.length < (byt s).length) :
    Calls Try.prog 5 #[.int .u64 (n : Int), .int .u8 (v : Int), .string s] w fun e w' => e = .returned (.bool true) ∧ Below w.heap.size w w' := by
  have hU := Take_any s
  rw [hs] at hU
  have hX := Wide_any x (((byt s).length - r.length : Nat) : Int)
  have hPl := wide_len x (((byt s).length - r.length : Nat) : Int)
  rw [hw2] at hX hPl
  have hcat : txt p ++ txt r = s := by rw [txt_app, byt_txt, hpr, txt_byt]
  have hlen : (((byt s).length - r.length : Nat) : Int) = (s.size : Int) - ((txt r).size : Int) := by
    rw [txt_size, ← byt_length]
    omega
  rw [hlen] at hX
  have hR : (txt r).size ≤ s.size := by rw [txt_size, ← byt_length]; omega
  rw [← txt_size] at hPl
  simp only at hU hX hPl
  generalize txt p = P at *
  generalize txt r = R at *
  have HU := Lib.hid hU
  have HX := Lib.hid hX
  clear hU hX hlen hw2 hrl hpr hs
  have hP := Put_any n
  have hT := Take_any (txt (put (lst n) n) ++ s)
  have hW := Wide_any n ((2 ^ (v % 4) : Nat) : Int)
  have hiff := lst_iff n (v % 4) hn (by omega)
  rw [show putF n = (put (lst n) n, 0) by simp only [putF]; rw [if_pos hn]] at hP
  rw [txt_app, byt_txt, take_put _ _ _ (lst_le n) (lst_lim n hn), txt_byt, ← txt_app] at hT
  rw [wide_pow n _ (by omega)] at hW
  have ha : (txt (put (lst n) n)).size = 2 ^ lst n := by rw [txt_size, put_length]
  rw [← ha] at hiff
  have ha8 : (txt (put (lst n) n)).size ≤ 8 := by rw [ha]; exact pow_le8 _ (lst_le n)
  clear ha
  simp only at hP
  generalize txt (put (lst n) n) = a at *
  rw [if_pos hl] at hW
  have hV := Take_any (txt (put (v % 4) n) ++ s)
  rw [txt_app, byt_txt, take_put _ _ _ (by omega) hl, txt_byt, ← txt_app] at hV
  have hc8 : (txt (put (v % 4) n)).size ≤ 8 := by rw [txt_size, put_length]; exact pow_le8 _ (by omega)
  simp only at hW hV
  generalize txt (put (v % 4) n) = c at *
  obtain ⟨d, hdd⟩ : ∃ d, 2 ^ (v % 4) = d := ⟨_, rfl⟩
  have hwp := wrap_pow (v % 4) d (by omega) hdd
  rw [hdd] at hW hiff
  have hnl : a.size ≤ d := hiff.1 hl
  have HP := Lib.hid hP
  have HT := Lib.hid hT
  have HW := Lib.hid hW
  have HV := Lib.hid hV
  have hd : decide ((n : Int) ≤ 4611686018427387903) = true := by simp; omega
  have hd2 : decide (a.size ≤ d) = true := by simpa using hnl
  clear hP hT hW hV hn hl hiff hdd
  go_enter Try.func5, Try.ntmps5
  go_wp2_with fail
  refine (awake_any _).mono ?_
  rintro e x0 ⟨rfl, b0⟩
  have B0 := Lib.hid b0
  clear b0
  go_wp2_with fail
  refine (HP.out _).mono ?_
  rintro e x1 ⟨rfl, b1⟩
  have B1 := Lib.hid (B0.out.trans (b1.mono B0.out.size))
  clear b1 B0
  go_wp2_with fail
  refine (HT.out _).mono ?_
  rintro e x2 ⟨rfl, b2⟩
  have B2 := Lib.hid (B1.out.trans (b2.mono B1.out.size))
  clear b2 B1
  go_wp2_with fail
  refine (HW.out _).mono ?_
  rintro e x3 ⟨rfl, b3⟩
  have B3 := Lib.hid (B2.out.trans (b3.mono B2.out.size))
  clear b3 B2
  go_wp2_with fail
  refine (HV.out _).mono ?_
  rintro e x4 ⟨rfl, b4⟩
  have B4 := Lib.hid (B3.out.trans (b4.mono B3.out.size))
  clear b4 B3
  go_wp2_with fail
  refine (HU.out _).mono ?_
  rintro e x5 ⟨rfl, b5⟩
  have B5 := Lib.hid (B4.out.trans (b5.mono B4.out.size))
  clear b5 B4
  go_wp2_with fail
  refine (HX.out _).mono ?_
  rintro e x6 ⟨rfl, b6⟩
  have B6 := Lib.hid (B5.out.trans (b6.mono B5.out.size))
  clear b6 B5
  go_wp2_with fail
  go_ret
  exact ⟨rfl, B6.out⟩

theorem back_walk (a0 : Int) (a1 : Int) (a2 : ByteArray) (w0 : (Lit.int .u64 a0).wf = true) (w1 : (Lit.int .u8 a1).wf = true) (w2 : a2.size ≤ maxLen) (w : World) :
    Calls Try.prog 5 #[.int .u64 a0, .int .u8 a1, .string a2] w fun e w' => e = .returned (.bool true) ∧ Below w.heap.size w w' := by
  have h0 := bounds_u64 w0
  have h1 := bounds_u8 w1
  unfold maxLen at w2
  by_cases hm : a2.size ≤ 1024
  · obtain ⟨n, rfl⟩ := Int.eq_ofNat_of_zero_le h0.1
    obtain ⟨v, rfl⟩ := Int.eq_ofNat_of_zero_le h1.1
    rcases takeL_bad (byt a2) with hs | hs
    · obtain ⟨x, r, hx⟩ : ∃ x r, takeL (byt a2) = (x, r, 0) := ⟨_, _, by rw [← hs]⟩
      obtain ⟨p, hp1, hp2, hp3⟩ := take_inv _ _ _ hx
      by_cases hn : n < 4611686018427387904
      · by_cases hl : n < lim (v % 4)
        · exact back_wyes_ok n v a2 w hm (by omega) hn hl x r p hx hp1 hp2 hp3
        · exact back_wno_ok n v a2 w hm (by omega) hn hl x r p hx hp1 hp2 hp3
      · exact back_no_ok n v a2 w hm (by omega) hn x r p hx hp1 hp2 hp3
    · by_cases hn : n < 4611686018427387904
      · by_cases hl : n < lim (v % 4)
        · exact back_wyes_bad n v a2 w hm (by omega) hn hl hs
        · exact back_wno_bad n v a2 w hm (by omega) hn hl hs
      · exact back_no_bad n v a2 w hm (by omega) hn hs
  · exact back_big a0 a1 a2 w hm w2

end Go.Proofs.Ytlpkapkabehdnaa
