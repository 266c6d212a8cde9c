/- The law HeadTypes, walked. -/
import Derived.Test.YtngnfijpfghodaaDw
import Derived.Test.YtngnfijpfghodaaDq
import Derived.BigQuiet
import Derived.OpenShut
import Derived.Deep.QuietTactic
namespace Go.Proofs.Ytngnfijpfghodaa
open Go.ChangeShapes Go.WideShapes Go.RowKit
set_option linter.unusedVariables false

theorem ask_minus (w : World) : Calls Try.prog 15 #[.agg #[.int .i64 (-1), .int .i64 (-1), .int .i64 (-1), .int .i64 (-1)]] w fun e w' => ∃ bl, e = .returned (askV bl) ∧ blk w' bl 40 (askL (-1)) ∧ Below w.heap.size w w' ∧ w.heap.size ≤ bl := ask_any (-1) w

theorem rem21 (a : Nat) (ha : a < 256) : ((a : Int)).tmod 21 = ((a % 21 : Nat) : Int) := by
  rw [Int.tmod_eq_emod_of_nonneg (by omega)]
  omega

/-- Ids that are too long: nothing is asked. -/
theorem types_far (ty : Int) (ds ss : ByteArray) (num : Nat) (bytes size : Int) (spin : Bool) (a b : Int) (w : World) (h : (2048 : Int) < (ds.size : Int) ∨ (2048 : Int) < (ss.size : Int)) :
    Calls Try.prog 7 #[.agg #[.int .i64 ty, .string ds, .string ss, .int .u64 (num : Int), .int .i64 bytes, .int .i64 size, .bool spin], .int .u8 a, .int .u8 b] w fun e w' => e = .returned (.bool true) ∧ Below w.heap.size w w' := by
  by_cases h1 : (2048 : Int) < (ds.size : Int)
  · have d1 : decide ((2048 : Int) < (ds.size : Int)) = true := by simpa using h1
    clear h h1
    go_enter Try.func7, Try.ntmps7
    go_wp2_with fail
    refine (awake_any _).mono ?_
    rintro e w1 ⟨rfl, b1⟩
    obtain ⟨B1, G1⟩ := box_below (L := [_, _, _, _, _, _, _]) b1
    obtain ⟨c0, c1, c2, c3, c4, c5, c6⟩ := hd_cells G1
    have HB := Lib.hid B1
    clear b1 B1 G1
    go_wp2_with fail
    go_ret
    exact ⟨rfl, HB.out⟩
  · have h2 : (2048 : Int) < (ss.size : Int) := by rcases h with h | h; exact absurd h h1; exact h
    have d1 : decide ((2048 : Int) < (ds.size : Int)) = false := by simpa using h1
    have d2 : decide ((2048 : Int) < (ss.size : Int)) = true := by simpa using h2
    clear h h1 h2
    go_enter Try.func7, Try.ntmps7
    go_wp2_with fail
    refine (awake_any _).mono ?_
    rintro e w1 ⟨rfl, b1⟩
    obtain ⟨B1, G1⟩ := box_below (L := [_, _, _, _, _, _, _]) b1
    obtain ⟨c0, c1, c2, c3, c4, c5, c6⟩ := hd_cells G1
    have HB := Lib.hid B1
    clear b1 B1 G1
    go_wp2_with fail
    go_ret
    exact ⟨rfl, HB.out⟩

set_option maxRecDepth 100000 in
set_option maxHeartbeats 4000000 in
theorem types_near (h : Hd) (a b : Nat) (ha : a < 256) (hb : b < 256) (w : World) (h1 : h.dst.length ≤ 2048) (h2 : h.src.length ≤ 2048) :
    Calls Try.prog 7 #[h.v, .int .u8 (a : Int), .int .u8 (b : Int)] w fun e w' => e = .returned (.bool true) ∧ Below w.heap.size w w' := by
  obtain ⟨ty, dst, src, num, bytes, size, spin⟩ := h
  simp only at h1 h2
  have hW := fun w => Write_any ⟨ty, dst, src, num, bytes, 0, spin⟩ w
  have hM := fun w => May_any ⟨ty, dst, src, num, bytes, 0, spin⟩ w
  have d1 : decide ((2048 : Int) < ((txt dst).size : Int)) = false := by rw [txt_size, decide_eq_false_iff_not]; omega
  have d2 : decide ((2048 : Int) < ((txt src).size : Int)) = false := by rw [txt_size, decide_eq_false_iff_not]; omega
  unfold writeF at hW
  cases hm : mayF ⟨ty, dst, src, num, bytes, 0, spin⟩
  · rw [hm] at hW hM
    rw [if_neg (by simp), show txt [] = ⟨#[]⟩ from rfl] at hW
    simp only at hW
    unfold Hd.v at hW hM ⊢
    simp only at hW hM ⊢
    generalize txt dst = ds at *
    generalize txt src = ss at *
    have HW := Lib.hid hW
    have HM := Lib.hid hM
    clear hW hM hm h1 h2
    go_enter Try.func7, Try.ntmps7
    go_wp2_with fail
    refine (awake_any _).mono ?_
    rintro e w1 ⟨rfl, b1⟩
    obtain ⟨B1, G1⟩ := box_below (L := [_, _, _, _, _, _, _]) b1
    obtain ⟨c0, c1, c2, c3, c4, c5, c6⟩ := hd_cells G1
    have hf := fun k => G1.free k
    have G2 := Lib.hid (G1.set 5 (.int .i64 0))
    have B2 := Lib.hid (B1.setCell (p := ⟨w.heap.size, 5, none⟩) (Nat.le_refl _) (.int .i64 0))
    clear b1 B1 G1
    go_wp2_with fail
    refine (HW.out _).mono ?_
    rintro e w3 ⟨rfl, b⟩
    have B3 := Lib.hid (B2.out.trans (b.mono B2.out.size))
    have G3 : blk w3 w.heap.size 24 [.int .i64 ty, .string ds, .string ss, .int .u64 (num : Int), .int .i64 bytes, .int .i64 0, .bool spin] := G2.out.below b G2.out.lt
    clear c0 c1 c2 c3 c4 c5 c6 hf
    obtain ⟨c0, c1, c2, c3, c4, c5, c6⟩ := hd_cells G3
    clear b B2 G2 G3
    go_wp2_with fail
    refine (HM.out _).mono ?_
    rintro e w4 ⟨rfl, b⟩
    have B4 := Lib.hid (B3.out.trans (b.mono B3.out.size))
    clear b B3 c0 c1 c2 c3 c4 c5 c6
    go_wp2_with fail
    go_ret
    exact ⟨rfl, B4.out⟩
  · rw [hm] at hW
    rw [if_pos rfl] at hW
    simp only at hW
    obtain ⟨wl, hwl⟩ : ∃ wl, bytesF ⟨ty, dst, src, num, bytes, 0, spin⟩ = wl := ⟨_, rfl⟩
    rw [hwl] at hW
    have hL := fun w => Long_any wl w
    have hwlen : wl.length ≤ 10000 := by have := bytes_len _ hm; rw [hwl] at this; omega
    by_cases h3 : ty = 3
    · have hl3 : LongF wl = false := by rw [← hwl]; exact short_bytes _ hm h3
      rw [hl3] at hL
      subst h3
      unfold Hd.v at hW ⊢
      simp only at hW ⊢
      generalize txt dst = ds at *
      generalize txt src = ss at *
      generalize txt wl = ws at *
      have HW := Lib.hid hW
      have HL := Lib.hid hL
      clear hW hM hm h1 h2 hL hwl hwlen hl3
      go_enter Try.func7, Try.ntmps7
      go_wp2_with fail
      refine (awake_any _).mono ?_
      rintro e w1 ⟨rfl, b1⟩
      obtain ⟨B1, G1⟩ := box_below (L := [_, _, _, _, _, _, _]) b1
      obtain ⟨c0, c1, c2, c3, c4, c5, c6⟩ := hd_cells G1
      have hf := fun k => G1.free k
      have G2 := Lib.hid (G1.set 5 (.int .i64 0))
      have B2 := Lib.hid (B1.setCell (p := ⟨w.heap.size, 5, none⟩) (Nat.le_refl _) (.int .i64 0))
      clear b1 B1 G1
      go_wp2_with fail
      refine (HW.out _).mono ?_
      rintro e w3 ⟨rfl, b⟩
      have B3 := Lib.hid (B2.out.trans (b.mono B2.out.size))
      have G3 : blk w3 w.heap.size 24 [.int .i64 3, .string ds, .string ss, .int .u64 (num : Int), .int .i64 bytes, .int .i64 0, .bool spin] := G2.out.below b G2.out.lt
      clear c0 c1 c2 c3 c4 c5 c6 hf
      obtain ⟨c0, c1, c2, c3, c4, c5, c6⟩ := hd_cells G3
      clear b B2 G2 G3
      go_wp2_with fail
      go_quiet (first | (go_at_call 14; exact Calls.quiet_of_same ((HL.out _).mono (fun e w' h => ⟨h.1, h.2.symm⟩))))
      go_wp2_with fail
      go_ret
      exact ⟨rfl, below_drewN B3.out _⟩
    · have hl3 : LongF wl = true := by rw [← hwl]; exact long_bytes _ hm h3
      rw [hl3] at hL
      have hr : ∀ cid : Int, 0 ≤ cid ∧ cid ≤ 20 → readF wl cid (-1) = (⟨ty, dst, src, (tellF (be bytes.toNat num) (-1)).1, bytes, 0, false⟩, [], 0) := by
        intro cid hc
        have := read_write ⟨ty, dst, src, num, bytes, 0, spin⟩ [] [] cid hm h3 rfl hc
        rw [List.append_nil, List.append_nil, hwl] at this
        exact this
      have hR1 := fun bl w hb => Read_any wl ((a % 21 : Nat) : Int) (-1) bl w (by omega) hb (by omega)
      have hR2 := fun bl w hb => Read_any wl ((b % 21 : Nat) : Int) (-1) bl w (by omega) hb (by omega)
      rw [hr _ (by omega)] at hR1 hR2
      have r1 := rem21 a ha
      have r2 := rem21 b hb
      generalize (tellF (be bytes.toNat num) (-1)).1 = N at *
      obtain ⟨ca, hca⟩ : ∃ ca, a % 21 = ca := ⟨_, rfl⟩
      obtain ⟨cb, hcb⟩ : ∃ cb, b % 21 = cb := ⟨_, rfl⟩
      have hca2 : ca ≤ 20 := by omega
      have hcb2 : cb ≤ 20 := by omega
      rw [hca] at hR1 r1
      rw [hcb] at hR2 r2
      have ht1 : (ty != 3) = true := by simpa using h3
      have ht2 : (ty == 3) = false := by simpa using h3
      simp only at hR1 hR2
      rw [show txt [] = ⟨#[]⟩ from rfl] at hR1 hR2
      unfold Hd.v at hW hR1 hR2 ⊢
      simp only at hW hR1 hR2 ⊢
      generalize txt dst = ds at *
      generalize txt src = ss at *
      generalize txt wl = ws at *
      have HW := Lib.hid hW
      have HL := Lib.hid hL
      have HR1 := Lib.hid hR1
      have HR2 := Lib.hid hR2
      clear hW hM hm h1 h2 hL hwl hwlen hl3 h3 hr hR1 hR2 hca hcb
      go_enter Try.func7, Try.ntmps7
      go_wp2_with fail
      refine (awake_any _).mono ?_
      rintro e w1 ⟨rfl, b1⟩
      obtain ⟨B1, G1⟩ := box_below (L := [_, _, _, _, _, _, _]) b1
      obtain ⟨c0, c1, c2, c3, c4, c5, c6⟩ := hd_cells G1
      have hf := fun k => G1.free k
      have G2 := Lib.hid (G1.set 5 (.int .i64 0))
      have B2 := Lib.hid (B1.setCell (p := ⟨w.heap.size, 5, none⟩) (Nat.le_refl _) (.int .i64 0))
      clear b1 B1 G1
      go_wp2_with fail
      refine (HW.out _).mono ?_
      rintro e w3 ⟨rfl, bb⟩
      have B3 := Lib.hid (B2.out.trans (bb.mono B2.out.size))
      have G3 : blk w3 w.heap.size 24 [.int .i64 ty, .string ds, .string ss, .int .u64 (num : Int), .int .i64 bytes, .int .i64 0, .bool spin] := G2.out.below bb G2.out.lt
      clear c0 c1 c2 c3 c4 c5 c6 hf
      obtain ⟨c0, c1, c2, c3, c4, c5, c6⟩ := hd_cells G3
      have HG3 := Lib.hid G3
      clear bb B2 G2 G3
      go_wp2_with fail
      go_quiet (first | (go_at_call 14; exact Calls.quiet_of_same ((HL.out _).mono (fun e w' h => ⟨h.1, h.2.symm⟩))))
      go_wp2_with fail
      refine (ask_minus _).mono ?_
      rintro e w4 ⟨bl, rfl, hbl, bb, _⟩
      have B4 := Lib.hid ((below_drewN B3.out _).trans (bb.mono (below_drewN B3.out _).size))
      have G4 := Lib.hid ((HG3.out.drewN _).below bb HG3.out.lt)
      have HL4 := Lib.hid hbl
      clear bb B3 HG3 hbl c0 c1 c2 c3 c4 c5 c6
      go_wp2_with fail
      refine (HR1.out _ _ HL4.out).mono ?_
      rintro e w5 ⟨rfl, bb⟩
      have B5 := Lib.hid (B4.out.trans (bb.mono B4.out.size))
      have G5 := Lib.hid (G4.out.below bb G4.out.lt)
      have HL5 := Lib.hid (HL4.out.below bb HL4.out.lt)
      clear bb B4 G4 HL4
      go_wp2_with fail
      refine (HR2.out _ _ (HL5.out.alloc _)).mono ?_
      rintro e w6 ⟨rfl, bb⟩
      have hx := (blk.new w5 24 [.int .i64 ty, .string ds, .string ss, .int .u64 (N : Int), .int .i64 bytes, .int .i64 0, .bool false]).below bb (by simp)
      have bb2 : Below w5.heap.size w5 w6 := ((Below.refl _ _).alloc (Nat.le_refl _) _).trans (bb.mono (by simp))
      have B6 := Lib.hid (B5.out.trans (bb2.mono B5.out.size))
      obtain ⟨c0, c1, c2, c3, c4, c5, c6⟩ := hd_cells (G5.out.below bb2 G5.out.lt)
      obtain ⟨x0, x1, x2, x3, x4, x5, x6⟩ := hd_cells hx
      have hlt1 := (G5.out.below bb2 G5.out.lt).lt
      have hlt2 := hx.lt
      clear bb bb2 B5 G5 HL5 hx
      go_wp2_with fail
      go_ret
      exact ⟨rfl, B6.out.alloc B6.out.size _⟩

theorem types_walk (h : Hd) (a : Int) (wa : (Lit.int .u8 a).wf = true) (b : Int) (wb : (Lit.int .u8 b).wf = true) (w : World) :
    Calls Try.prog 7 #[h.v, .int .u8 a, .int .u8 b] w fun e w' => e = .returned (.bool true) ∧ Below w.heap.size w w' := by
  by_cases h1 : h.dst.length ≤ 2048 ∧ h.src.length ≤ 2048
  · have ba := bounds_u8 wa
    have bb := bounds_u8 wb
    obtain ⟨m, rfl⟩ := Int.eq_ofNat_of_zero_le ba.1
    obtain ⟨n, rfl⟩ := Int.eq_ofNat_of_zero_le bb.1
    exact types_near h m n (by omega) (by omega) w h1.1 h1.2
  · exact types_far h.ty (txt h.dst) (txt h.src) h.num h.bytes h.size h.spin a b w (by rw [txt_size, txt_size]; omega)

end Go.Proofs.Ytngnfijpfghodaa
