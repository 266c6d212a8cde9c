/- The law HeadShort, walked. -/
import Derived.Test.YtngnfijpfghodaaD2
namespace Go.Proofs.Ytngnfijpfghodaa
open Go.ChangeShapes Go.WideShapes Go.RowKit
set_option linter.unusedVariables false

set_option maxRecDepth 100000 in
set_option maxHeartbeats 1000000 in
theorem short_far (ty : Int) (ds ss : ByteArray) (num : Nat) (bytes size : Int) (spin : Bool) (s t : ByteArray) (a : Int) (w : World) (h : (2048 : Int) < (ds.size : Int) ∨ (2048 : Int) < (ss.size : Int) ∨ (2048 : Int) < (s.size : Int) ∨ (2048 : Int) < (t.size : Int) ∨ ty = 3) :
    Calls Try.prog 5 #[.agg #[.int .i64 ty, .string ds, .string ss, .int .u64 (num : Int), .int .i64 bytes, .int .i64 size, .bool spin], .string s, .string t, .int .u16 a] w fun e w' => e = .returned (.bool true) ∧ Below w.heap.size w w' := by
  by_cases h1 : (2048 : Int) < (ds.size : Int)
  · have d1 : decide ((2048 : Int) < (ds.size : Int)) = true := by simpa using h1
    clear h h1
    go_enter Try.func5, Try.ntmps5
    go_wp2_with fail
    refine (awake_any _).mono ?_
    rintro e w1 ⟨rfl, b1⟩
    obtain ⟨B1, G1⟩ := box_below (L := [_, _, _, _, _, _, _]) b1
    obtain ⟨c0, c1, c2, c3, c4, c5, c6⟩ := hd_cells G1
    have HB := Lib.hid B1
    clear b1 B1 G1
    go_wp2_with fail
    go_ret
    exact ⟨rfl, HB.out⟩
  have d1 : decide ((2048 : Int) < (ds.size : Int)) = false := by simpa using h1
  by_cases h2 : (2048 : Int) < (ss.size : Int)
  · have d2 : decide ((2048 : Int) < (ss.size : Int)) = true := by simpa using h2
    clear h h1 h2
    go_enter Try.func5, Try.ntmps5
    go_wp2_with fail
    refine (awake_any _).mono ?_
    rintro e w1 ⟨rfl, b1⟩
    obtain ⟨B1, G1⟩ := box_below (L := [_, _, _, _, _, _, _]) b1
    obtain ⟨c0, c1, c2, c3, c4, c5, c6⟩ := hd_cells G1
    have HB := Lib.hid B1
    clear b1 B1 G1
    go_wp2_with fail
    go_ret
    exact ⟨rfl, HB.out⟩
  have d2 : decide ((2048 : Int) < (ss.size : Int)) = false := by simpa using h2
  by_cases h3 : (2048 : Int) < (s.size : Int)
  · have d3 : decide ((2048 : Int) < (s.size : Int)) = true := by simpa using h3
    clear h h1 h2 h3
    go_enter Try.func5, Try.ntmps5
    go_wp2_with fail
    refine (awake_any _).mono ?_
    rintro e w1 ⟨rfl, b1⟩
    obtain ⟨B1, G1⟩ := box_below (L := [_, _, _, _, _, _, _]) b1
    obtain ⟨c0, c1, c2, c3, c4, c5, c6⟩ := hd_cells G1
    have HB := Lib.hid B1
    clear b1 B1 G1
    go_wp2_with fail
    go_ret
    exact ⟨rfl, HB.out⟩
  have d3 : decide ((2048 : Int) < (s.size : Int)) = false := by simpa using h3
  by_cases h4 : (2048 : Int) < (t.size : Int)
  · have d4 : decide ((2048 : Int) < (t.size : Int)) = true := by simpa using h4
    clear h h1 h2 h3 h4
    go_enter Try.func5, Try.ntmps5
    go_wp2_with fail
    refine (awake_any _).mono ?_
    rintro e w1 ⟨rfl, b1⟩
    obtain ⟨B1, G1⟩ := box_below (L := [_, _, _, _, _, _, _]) b1
    obtain ⟨c0, c1, c2, c3, c4, c5, c6⟩ := hd_cells G1
    have HB := Lib.hid B1
    clear b1 B1 G1
    go_wp2_with fail
    go_ret
    exact ⟨rfl, HB.out⟩
  have d4 : decide ((2048 : Int) < (t.size : Int)) = false := by simpa using h4
  obtain rfl : ty = 3 := by rcases h with h | h | h | h | h; exact absurd h h1; exact absurd h h2; exact absurd h h3; exact absurd h h4; exact h
  clear h h1 h2 h3 h4
  go_enter Try.func5, Try.ntmps5
  go_wp2_with fail
  refine (awake_any _).mono ?_
  rintro e w1 ⟨rfl, b1⟩
  obtain ⟨B1, G1⟩ := box_below (L := [_, _, _, _, _, _, _]) b1
  obtain ⟨c0, c1, c2, c3, c4, c5, c6⟩ := hd_cells G1
  have HB := Lib.hid B1
  clear b1 B1 G1
  go_wp2_with fail
  go_ret
  exact ⟨rfl, HB.out⟩

set_option maxRecDepth 100000 in
set_option maxHeartbeats 4000000 in
theorem short_near (ty : Int) (dst src sl tl : List UInt8) (num : Nat) (bytes size : Int) (spin : Bool) (a : Nat) (ha : a < 65536) (w : World) (h1 : dst.length ≤ 2048) (h2 : src.length ≤ 2048) (h3 : sl.length ≤ 2048) (h4 : tl.length ≤ 2048) (h5 : ty ≠ 3) :
    Calls Try.prog 5 #[.agg #[.int .i64 ty, .string (txt dst), .string (txt src), .int .u64 (num : Int), .int .i64 bytes, .int .i64 size, .bool spin], .string (txt sl), .string (txt tl), .int .u16 (a : Int)] w fun e w' => e = .returned (.bool true) ∧ Below w.heap.size w w' := by
  have hW := fun w => Write_any ⟨ty, dst, src, num, bytes, (sl.length : Int), spin⟩ w
  have d1 : decide ((2048 : Int) < ((txt dst).size : Int)) = false := by rw [txt_size, decide_eq_false_iff_not]; omega
  have d2 : decide ((2048 : Int) < ((txt src).size : Int)) = false := by rw [txt_size, decide_eq_false_iff_not]; omega
  have d3 : decide ((2048 : Int) < (sl.length : Int)) = false := by rw [decide_eq_false_iff_not]; omega
  have d4 : decide ((2048 : Int) < ((txt tl).size : Int)) = false := by rw [txt_size, decide_eq_false_iff_not]; omega
  have hts : (txt tl).size ≤ 2048 := by rw [txt_size]; exact h4
  have hss := txt_size sl
  have ht1 : (ty == 3) = false := by simpa using h5
  unfold writeF at hW
  cases hm : mayF ⟨ty, dst, src, num, bytes, (sl.length : Int), spin⟩
  · rw [hm] at hW
    rw [if_neg (by simp), show txt [] = ⟨#[]⟩ from rfl] at hW
    simp only at hW
    unfold Hd.v at hW
    simp only at hW
    obtain ⟨SL, hSL⟩ : ∃ n, sl.length = n := ⟨_, rfl⟩
    rw [hSL] at hW hss d3 h3
    generalize txt dst = ds at *
    generalize txt src = ss at *
    generalize txt sl = s at *
    generalize txt tl = t at *
    have HW := Lib.hid hW
    clear hW hm h1 h2 h4 h5 hSL
    go_enter Try.func5, Try.ntmps5
    go_wp2_with fail
    refine (awake_any _).mono ?_
    rintro e w1 ⟨rfl, b1⟩
    obtain ⟨B1, G1⟩ := box_below (L := [_, _, _, _, _, _, _]) b1
    obtain ⟨c0, c1, c2, c3, c4, c5, c6⟩ := hd_cells G1
    have hf := fun k => G1.free k
    have G2 := Lib.hid (G1.set 5 (.int .i64 (SL : Int)))
    have B2 := Lib.hid (B1.setCell (p := ⟨w.heap.size, 5, none⟩) (Nat.le_refl _) (.int .i64 (SL : Int)))
    clear b1 B1 G1
    go_wp2_with fail
    refine (HW.out _).mono ?_
    rintro e w3 ⟨rfl, bb⟩
    have B3 := Lib.hid (B2.out.trans (bb.mono B2.out.size))
    have G3 : blk w3 w.heap.size 24 [.int .i64 ty, .string ds, .string ss, .int .u64 (num : Int), .int .i64 bytes, .int .i64 (SL : Int), .bool spin] := G2.out.below bb G2.out.lt
    clear c0 c1 c2 c3 c4 c5 c6 hf bb B2 G2
    clear G3
    go_wp2_with fail
    go_ret
    exact ⟨rfl, B3.out⟩
  · rw [hm] at hW
    rw [if_pos rfl] at hW
    simp only at hW
    have hr1 := fun cid hc => read_write ⟨ty, dst, src, num, bytes, (sl.length : Int), spin⟩ sl [] cid hm h5 rfl hc
    have hr2 := fun cid hc => read_write ⟨ty, dst, src, num, bytes, (sl.length : Int), spin⟩ sl tl cid hm h5 rfl hc
    have hcut := fun p x hp hx => read_cut ⟨ty, dst, src, num, bytes, (sl.length : Int), spin⟩ sl p x 0 hm h5 rfl (by omega) hp hx
    have hwlen := bytes_len _ hm
    have hlb := long_bytes _ hm h5
    generalize bytesF ⟨ty, dst, src, num, bytes, (sl.length : Int), spin⟩ = wl at *
    have hw0 : wl ≠ [] := by
      rintro rfl
      simp [LongF] at hlb
    simp only [List.append_nil] at hr1
    have hR1 := fun bl w hb => Read_any (wl ++ sl) 0 (-1) bl w (by rw [List.length_append]; omega) hb (by omega)
    have hR2 := fun bl w hb => Read_any (wl ++ (sl ++ tl)) 0 (-1) bl w (by rw [List.length_append, List.length_append]; omega) hb (by omega)
    rw [hr1 0 (by omega)] at hR1
    rw [hr2 0 (by omega)] at hR2
    obtain ⟨L, hL⟩ : ∃ L, (wl ++ sl).length = L := ⟨_, rfl⟩
    have hL0 : 0 < L := by rw [← hL, List.length_append]; have := List.length_pos_iff.2 hw0; omega
    have hLb : L ≤ 5000 := by rw [← hL, List.length_append]; omega
    obtain ⟨d, hd⟩ : ∃ d, a % L = d := ⟨_, rfl⟩
    have hdL : d < L := by rw [← hd]; exact Nat.mod_lt _ hL0
    have hdt : ((a : Int)).tmod (L : Int) = (d : Int) := by rw [Int.tmod_eq_emod_of_nonneg (by omega), ← hd]; exact (Int.natCast_emod a L).symm
    have hc3 : (readF ((wl ++ sl).take d) 0 (-1)).2.2 = 2 := hcut _ ((wl ++ sl).drop d) (List.take_append_drop _ _).symm (by intro e; have := congrArg List.length e; rw [List.length_drop, hL, List.length_nil] at this; omega)
    have hR3 := fun bl w hb => Read_any ((wl ++ sl).take d) 0 (-1) bl w (by rw [List.length_take]; omega) hb (by omega)
    rw [hc3] at hR3
    have ex := txt_take (wl ++ sl) d
    have c1 := txt_append wl sl
    have c2 := txt_append (wl ++ sl) tl
    rw [List.append_assoc] at c2
    have z1 := txt_size (wl ++ sl)
    have z0 := txt_size wl
    rw [hL] at z1
    generalize txt (wl ++ (sl ++ tl)) = t2 at *
    generalize hpq : txt ((wl ++ sl).take d) = t3 at *
    generalize txt (wl ++ sl) = t1 at *
    generalize readF ((wl ++ sl).take d) 0 (-1) = r3 at *
    generalize (tellF (be bytes.toNat num) (-1)).1 = N at *
    obtain ⟨⟨ty', dst', src', num', bytes', size', spin'⟩, pay, E⟩ := r3
    simp only at hR1 hR2 hR3
    unfold Hd.v at hW hR1 hR2 hR3
    simp only at hW hR1 hR2 hR3
    have zw : (txt wl).size ≤ 100 := by rw [txt_size]; exact hwlen
    obtain ⟨SL, hSL⟩ : ∃ n, sl.length = n := ⟨_, rfl⟩
    rw [hSL] at hW hR1 hR2 hss d3 h3
    clear hlb z0 hcut hr1 hr2 hpq hwlen hw0 hL hd hc3 hm h1 h2 h4 h5 hSL
    generalize txt dst = ds at *
    generalize txt src = ss at *
    generalize txt sl = s at *
    generalize txt tl = t at *
    generalize txt wl = ws at *
    have hbeq : (s.toList == s.toList) = true := beq_self_eq_true _
    have HW := Lib.hid hW
    have HR1 := Lib.hid hR1
    have HR2 := Lib.hid hR2
    have HR3 := Lib.hid hR3
    clear hW hR1 hR2 hR3
    go_enter Try.func5, Try.ntmps5
    go_wp2_with fail
    refine (awake_any _).mono ?_
    rintro e w1 ⟨rfl, b1⟩
    obtain ⟨B1, G1⟩ := box_below (L := [_, _, _, _, _, _, _]) b1
    obtain ⟨c0, c1, c2, c3, c4, c5, c6⟩ := hd_cells G1
    have hf := fun k => G1.free k
    have G2 := Lib.hid (G1.set 5 (.int .i64 (SL : Int)))
    have B2 := Lib.hid (B1.setCell (p := ⟨w.heap.size, 5, none⟩) (Nat.le_refl _) (.int .i64 (SL : Int)))
    clear b1 B1 G1
    go_wp2_with fail
    refine (HW.out _).mono ?_
    rintro e w3 ⟨rfl, bb⟩
    have B3 := Lib.hid (B2.out.trans (bb.mono B2.out.size))
    have G3 : blk w3 w.heap.size 24 [.int .i64 ty, .string ds, .string ss, .int .u64 (num : Int), .int .i64 bytes, .int .i64 (SL : Int), .bool spin] := G2.out.below bb G2.out.lt
    clear c0 c1 c2 c3 c4 c5 c6 hf bb B2 G2
    clear G3
    go_wp2_with fail
    refine (ask_minus _).mono ?_
    rintro e w4 ⟨bl, rfl, hbl, bb, _⟩
    have B4 := Lib.hid (B3.out.trans (bb.mono B3.out.size))
    have HL4 := Lib.hid hbl
    clear bb B3 hbl
    go_wp2_with fail
    refine (HR1.out _ _ HL4.out).mono ?_
    rintro e w5 ⟨rfl, bb⟩
    have B5 := Lib.hid (B4.out.trans (bb.mono B4.out.size))
    have HL5 := Lib.hid (HL4.out.below bb HL4.out.lt)
    clear bb B4 HL4
    go_wp2_with fail
    refine (HR2.out _ _ (HL5.out.alloc _)).mono ?_
    rintro e w6 ⟨rfl, bb⟩
    have hx := (blk.new w5 24 [.int .i64 ty, .string ds, .string ss, .int .u64 (N : Int), .int .i64 bytes, .int .i64 (SL : Int), .bool false]).below bb (by simp)
    have bb2 : Below w5.heap.size w5 w6 := ((Below.refl _ _).alloc (Nat.le_refl _) _).trans (bb.mono (by simp))
    have B6 := Lib.hid (B5.out.trans (bb2.mono B5.out.size))
    have HL6 := Lib.hid (HL5.out.below bb2 HL5.out.lt)
    obtain ⟨x0, x1, x2, x3, x4, x5, x6⟩ := hd_cells hx
    have hlt2 := hx.lt
    clear bb bb2 B5 HL5 hx
    go_wp2_with fail
    refine (HR3.out _ _ (HL6.out.alloc _)).mono ?_
    rintro e w7 ⟨rfl, bb⟩
    have B7 := Lib.hid (B6.out.trans (((Below.refl _ _).alloc (Nat.le_refl _) _).trans (bb.mono (by simp)) |>.mono B6.out.size))
    clear bb B6 HL6 x0 x1 x2 x3 x4 x5 x6 hlt2
    go_wp2_with fail
    go_ret
    exact ⟨rfl, B7.out.alloc B7.out.size _⟩

theorem short_walk (h : Hd) (s : ByteArray) (_ : s.size ≤ maxLen) (t : ByteArray) (_ : t.size ≤ maxLen) (a : Int) (wa : (Lit.int .u16 a).wf = true) (w : World) :
    Calls Try.prog 5 #[h.v, .string s, .string t, .int .u16 a] w fun e w' => e = .returned (.bool true) ∧ Below w.heap.size w w' := by
  by_cases h1 : h.dst.length ≤ 2048 ∧ h.src.length ≤ 2048 ∧ s.size ≤ 2048 ∧ t.size ≤ 2048 ∧ h.ty ≠ 3
  · have ba := bounds_u16 wa
    obtain ⟨m, rfl⟩ := Int.eq_ofNat_of_zero_le ba.1
    have := short_near h.ty h.dst h.src (byt s) (byt t) h.num h.bytes h.size h.spin m (by omega) w h1.1 h1.2.1 (by rw [byt_length]; exact h1.2.2.1) (by rw [byt_length]; exact h1.2.2.2.1) h1.2.2.2.2
    rw [txt_byt, txt_byt] at this
    exact this
  · exact short_far h.ty (txt h.dst) (txt h.src) h.num h.bytes h.size h.spin s t a w (by rw [txt_size, txt_size]; omega)

end Go.Proofs.Ytngnfijpfghodaa
