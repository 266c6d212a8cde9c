/- Contracts of the law's ask, and of the reader's ending. -/
import Derived.Test.YtngnfijpfghodaaDf
namespace Go.Proofs.Ytngnfijpfghodaa
open Go.ChangeShapes Go.WideShapes Go.RowKit
set_option linter.unusedVariables false

/-- The law's answer: c for each type. -/
def askL (c : Int) : List Value := [.int .i64 c, .int .i64 c, .int .i64 c, .int .i64 c]
def askV (bl : Nat) : Value := .func (.func 24) #[] #[.pointer (some ⟨bl, 0, none⟩)]

theorem ask1_any (k bl : Nat) (c : Int) (w : World) (hk : k < 4) (hL : blk w bl 40 (askL c)) :
    Calls Try.prog 24 #[.int .i64 (k : Int), .pointer (some ⟨bl, 0, none⟩)] w fun e w' => e = .returned (.int .i64 c) ∧ w = w' := by
  have q0 := hL.cell (k := 0) rfl
  have q1 := hL.cell (k := 1) rfl
  have q2 := hL.cell (k := 2) rfl
  have q3 := hL.cell (k := 3) rfl
  clear hL
  have hc : k = 0 ∨ k = 1 ∨ k = 2 ∨ k = 3 := by omega
  rcases hc with rfl | rfl | rfl | rfl
  all_goals
    go_enter Try.func24, Try.ntmps24
    go_wp2_with fail
    go_ret
    exact ⟨rfl, rfl⟩

theorem ask_any (c : Int) (w : World) :
    Calls Try.prog 15 #[.agg #[.int .i64 c, .int .i64 c, .int .i64 c, .int .i64 c]] w fun e w' => ∃ bl, e = .returned (askV bl) ∧ blk w' bl 40 (askL c) ∧ Below w.heap.size w w' ∧ w.heap.size ≤ bl := by
  have hb := blk.new w 40 (askL c)
  unfold askL at hb
  have HB := Lib.hid hb
  clear hb
  go_enter Try.func15, Try.ntmps15
  go_wp2_with fail
  go_ret
  exact ⟨_, rfl, HB.out, (Below.refl _ _).alloc (Nat.le_refl _) _, Nat.le_refl _⟩

set_option maxRecDepth 100000 in
set_option maxHeartbeats 4000000 in
theorem end_any (b bl t : Nat) (dst src : List UInt8) (m : Nat) (spin : Bool) (r : Rd) (behind c : Int) (w : World) (hR : RdIs w b r) (hL : blk w bl 40 (askL c)) (hne : bl ≠ b) (ht : t < 4)
    (h2 : (r.take (m : Int)).2.bad = true ∨ 0 ≤ behind) (hc : -9223372036854775808 ≤ c) :
    Calls Try.prog 25 #[.pointer (some ⟨b, 0, none⟩), (Hd.mk (t : Int) dst src 0 (m : Int) 0 spin).v, .int .i64 behind, askV bl] w fun e w' =>
      e = .returned (.tuple #[(endF r ⟨(t : Int), dst, src, 0, (m : Int), 0, spin⟩ behind c).1.1.v, .string (txt (endF r ⟨(t : Int), dst, src, 0, (m : Int), 0, spin⟩ behind c).1.2.1), .int .i64 (endF r ⟨(t : Int), dst, src, 0, (m : Int), 0, spin⟩ behind c).1.2.2]) ∧
      RdIs w' b (endF r ⟨(t : Int), dst, src, 0, (m : Int), 0, spin⟩ behind c).2 ∧ Only (fun k => k = b) w w' := by
  have hb1 : b < w.heap.size := hR.lt
  have k1 := fun w h => take_any b r (m : Int) w h (.inr (by omega))
  have k2 := fun w h => take_any b (r.take (m : Int)).2 behind w h h2
  have k3 := fun w => Tell_any (txt (r.take (m : Int)).1) c w hc
  rw [byt_txt] at k3
  unfold endF
  simp only
  generalize tellF (r.take (m : Int)).1 c = te at *
  obtain ⟨N, E⟩ := te
  generalize ((r.take (m : Int)).2.take behind).1 = pay at *
  generalize ((r.take (m : Int)).2.take behind).2 = r2 at *
  generalize (r.take (m : Int)).2 = r1 at *
  generalize (r.take (m : Int)).1 = num at *
  simp only at k3
  obtain ⟨l2, bad⟩ := r2
  have K1 := Lib.hid k1
  have K2 := Lib.hid k2
  have K3 := Lib.hid k3
  have HL := Lib.hid hL
  have S0 : OpenSt w ((w.alloc (.cells #[.int .i64 (t : Int), .string (txt dst), .string (txt src), .int .u64 0, .int .i64 (m : Int), .int .i64 0, .bool spin] 24)).alloc (.cells zeroH.toArray 24)) b w.heap.size (w.heap.size + 1) r [.int .i64 (t : Int), .string (txt dst), .string (txt src), .int .u64 0, .int .i64 (m : Int), .int .i64 0, .bool spin] zeroH := by
    refine ⟨blk.alloc (blk.alloc hR _) _, blk.alloc (blk.new w _ _) _, ?_, ((Only.refl _ w).alloc _).alloc _, hb1, Nat.le_refl _, by omega, by omega⟩
    have h := blk.new (w.alloc (.cells #[.int .i64 (t : Int), .string (txt dst), .string (txt src), .int .u64 0, .int .i64 (m : Int), .int .i64 0, .bool spin] 24)) 24 zeroH
    rw [show (w.alloc (.cells #[.int .i64 (t : Int), .string (txt dst), .string (txt src), .int .u64 0, .int .i64 (m : Int), .int .i64 0, .bool spin] 24)).heap.size = w.heap.size + 1 by simp] at h
    exact h
  have G0 := Lib.hid S0
  clear k1 k2 k3 hL S0 h2 hR
  unfold Hd.v askV
  simp only
  by_cases hfail : bad = true ∨ 16384 < behind
  · rw [if_pos hfail]
    simp only [Hd.zero]
    cases bad
    · have hb : 16384 < behind := by rcases hfail with h | h; cases h; exact h
      have hbd : decide (16384 < behind) = true := by simpa using hb
      clear hfail
      go_enter Try.func25, Try.ntmps25
      go_wp2_with fail
      refine (K1.out _ G0.out.rd).mono ?_
      rintro e w1 ⟨rfl, g, o⟩
      have G1 := Lib.hid (G0.out.next g o)
      clear g o G0
      go_wp2_with fail
      refine (K2.out _ G1.out.rd).mono ?_
      rintro e w2 ⟨rfl, g, o⟩
      have S2 := G1.out.next g o
      have p1 := S2.rd.cell (k := 1) rfl
      simp only at p1
      obtain ⟨q0, q1, q2, q3, q4, q5, q6⟩ := hd_cells S2.h
      obtain ⟨z0, z1, z2, z3, z4, z5, z6⟩ := hd_cells S2.z
      have zf := fun k => S2.z.free k
      have qf := fun k => S2.h.free k
      have G2 := Lib.hid S2
      clear g o G1 S2
      go_wp2_with fail
      have S9 := G2.out.put7 (.int .i64 0) (.string ⟨#[]⟩) (.string ⟨#[]⟩) (.int .u64 0) (.int .i64 0) (.int .i64 0) (.bool false)
      change bodyPost _ _ _ _ _ (put7 w2 (w.heap.size + 1) (.int .i64 0) (.string ⟨#[]⟩) (.string ⟨#[]⟩) (.int .u64 0) (.int .i64 0) (.int .i64 0) (.bool false))
      generalize put7 w2 (w.heap.size + 1) (.int .i64 0) (.string ⟨#[]⟩) (.string ⟨#[]⟩) (.int .u64 0) (.int .i64 0) (.int .i64 0) (.bool false) = F at S9 ⊢
      obtain ⟨x0, x1, x2, x3, x4, x5, x6⟩ := hd_cells S9.z
      refine bodyPost_ret (v := .tuple #[.agg #[.int .i64 0, .string ⟨#[]⟩, .string ⟨#[]⟩, .int .u64 0, .int .i64 0, .int .i64 0, .bool false], .string ⟨#[]⟩, .int .i64 2]) (by simp [results, Try.results25, go_sem, x0, x1, x2, x3, x4, x5, x6]) rfl ⟨rfl, S9.rd, S9.on⟩
    · clear hfail
      go_enter Try.func25, Try.ntmps25
      go_wp2_with fail
      refine (K1.out _ G0.out.rd).mono ?_
      rintro e w1 ⟨rfl, g, o⟩
      have G1 := Lib.hid (G0.out.next g o)
      clear g o G0
      go_wp2_with fail
      refine (K2.out _ G1.out.rd).mono ?_
      rintro e w2 ⟨rfl, g, o⟩
      have S2 := G1.out.next g o
      have p1 := S2.rd.cell (k := 1) rfl
      simp only at p1
      obtain ⟨q0, q1, q2, q3, q4, q5, q6⟩ := hd_cells S2.h
      obtain ⟨z0, z1, z2, z3, z4, z5, z6⟩ := hd_cells S2.z
      have zf := fun k => S2.z.free k
      have qf := fun k => S2.h.free k
      have G2 := Lib.hid S2
      clear g o G1 S2
      go_wp2_with fail
      have S9 := G2.out.put7 (.int .i64 0) (.string ⟨#[]⟩) (.string ⟨#[]⟩) (.int .u64 0) (.int .i64 0) (.int .i64 0) (.bool false)
      change bodyPost _ _ _ _ _ (put7 w2 (w.heap.size + 1) (.int .i64 0) (.string ⟨#[]⟩) (.string ⟨#[]⟩) (.int .u64 0) (.int .i64 0) (.int .i64 0) (.bool false))
      generalize put7 w2 (w.heap.size + 1) (.int .i64 0) (.string ⟨#[]⟩) (.string ⟨#[]⟩) (.int .u64 0) (.int .i64 0) (.int .i64 0) (.bool false) = F at S9 ⊢
      obtain ⟨x0, x1, x2, x3, x4, x5, x6⟩ := hd_cells S9.z
      refine bodyPost_ret (v := .tuple #[.agg #[.int .i64 0, .string ⟨#[]⟩, .string ⟨#[]⟩, .int .u64 0, .int .i64 0, .int .i64 0, .bool false], .string ⟨#[]⟩, .int .i64 2]) (by simp [results, Try.results25, go_sem, x0, x1, x2, x3, x4, x5, x6]) rfl ⟨rfl, S9.rd, S9.on⟩
  · rw [if_neg hfail]
    have hb : bad = false := by cases bad; rfl; exact absurd (.inl rfl) hfail
    subst hb
    have hbd : decide (16384 < behind) = false := by rw [decide_eq_false_iff_not]; exact fun h => hfail (.inr h)
    clear hfail
    by_cases hE : E = 0
    · subst hE
      rw [if_neg (by simp)]
      simp only
      go_enter Try.func25, Try.ntmps25
      go_wp2_with fail
      refine (K1.out _ G0.out.rd).mono ?_
      rintro e w1 ⟨rfl, g, o⟩
      have G1 := Lib.hid (G0.out.next g o)
      clear g o G0
      go_wp2_with fail
      refine (K2.out _ G1.out.rd).mono ?_
      rintro e w2 ⟨rfl, g, o⟩
      have S2 := G1.out.next g o
      have p1 := S2.rd.cell (k := 1) rfl
      simp only at p1
      obtain ⟨q0, q1, q2, q3, q4, q5, q6⟩ := hd_cells S2.h
      obtain ⟨z0, z1, z2, z3, z4, z5, z6⟩ := hd_cells S2.z
      have zf := fun k => S2.z.free k
      have qf := fun k => S2.h.free k
      have G2 := Lib.hid S2
      clear g o G1 S2
      go_wp2_with fail
      refine (ask1_any t bl c _ ht (blk.only HL.out G2.out.on hne)).mono ?_
      rintro e w3 ⟨rfl, rfl⟩
      go_wp2_with fail
      refine (K3.out _).mono ?_
      rintro e w4 ⟨rfl, b4⟩
      have S4 := G2.out.next (G2.out.rd.below b4 G2.out.rd.lt) (Only.ofBelow b4)
      clear q0 q1 q2 q3 q4 q5 q6 z0 z1 z2 z3 z4 z5 z6 zf qf p1
      obtain ⟨q0, q1, q2, q3, q4, q5, q6⟩ := hd_cells S4.h
      obtain ⟨z0, z1, z2, z3, z4, z5, z6⟩ := hd_cells S4.z
      have zf := fun k => S4.z.free k
      have qf := fun k => S4.h.free k
      have G4 := Lib.hid S4
      clear b4 S4 G2
      go_wp2_with fail
      have S5 := (G4.out.setH 3 (.int .u64 (N : Int))).setH 5 (.int .i64 behind)
      have G5 := Lib.hid S5
      clear S5
      have S9 := G5.out.put7 (.int .i64 (t : Int)) (.string (txt dst)) (.string (txt src)) (.int .u64 (N : Int)) (.int .i64 (m : Int)) (.int .i64 behind) (.bool spin)
      change bodyPost _ _ _ _ _ (put7 ((w4.setCell ⟨w.heap.size, 3, none⟩ (.int .u64 (N : Int))).setCell ⟨w.heap.size, 5, none⟩ (.int .i64 behind)) (w.heap.size + 1) (.int .i64 (t : Int)) (.string (txt dst)) (.string (txt src)) (.int .u64 (N : Int)) (.int .i64 (m : Int)) (.int .i64 behind) (.bool spin))
      generalize put7 ((w4.setCell ⟨w.heap.size, 3, none⟩ (.int .u64 (N : Int))).setCell ⟨w.heap.size, 5, none⟩ (.int .i64 behind)) (w.heap.size + 1) (.int .i64 (t : Int)) (.string (txt dst)) (.string (txt src)) (.int .u64 (N : Int)) (.int .i64 (m : Int)) (.int .i64 behind) (.bool spin) = F at S9 ⊢
      obtain ⟨x0, x1, x2, x3, x4, x5, x6⟩ := hd_cells S9.z
      refine bodyPost_ret (v := .tuple #[.agg #[.int .i64 (t : Int), .string (txt dst), .string (txt src), .int .u64 (N : Int), .int .i64 (m : Int), .int .i64 behind, .bool spin], .string (txt pay), .int .i64 0]) (by simp [results, Try.results25, go_sem, x0, x1, x2, x3, x4, x5, x6]) rfl ⟨rfl, S9.rd, S9.on⟩
    · rw [if_pos hE]
      simp only [Hd.zero]
      have hE2 : (E != 0) = true := by simpa using hE
      have hE3 : (E == 0) = false := by rw [beq_eq_false_iff_ne]; exact hE
      clear hE
      go_enter Try.func25, Try.ntmps25
      go_wp2_with fail
      refine (K1.out _ G0.out.rd).mono ?_
      rintro e w1 ⟨rfl, g, o⟩
      have G1 := Lib.hid (G0.out.next g o)
      clear g o G0
      go_wp2_with fail
      refine (K2.out _ G1.out.rd).mono ?_
      rintro e w2 ⟨rfl, g, o⟩
      have S2 := G1.out.next g o
      have p1 := S2.rd.cell (k := 1) rfl
      simp only at p1
      obtain ⟨q0, q1, q2, q3, q4, q5, q6⟩ := hd_cells S2.h
      obtain ⟨z0, z1, z2, z3, z4, z5, z6⟩ := hd_cells S2.z
      have zf := fun k => S2.z.free k
      have qf := fun k => S2.h.free k
      have G2 := Lib.hid S2
      clear g o G1 S2
      go_wp2_with fail
      refine (ask1_any t bl c _ ht (blk.only HL.out G2.out.on hne)).mono ?_
      rintro e w3 ⟨rfl, rfl⟩
      go_wp2_with fail
      refine (K3.out _).mono ?_
      rintro e w4 ⟨rfl, b4⟩
      have S4 := G2.out.next (G2.out.rd.below b4 G2.out.rd.lt) (Only.ofBelow b4)
      clear q0 q1 q2 q3 q4 q5 q6 z0 z1 z2 z3 z4 z5 z6 zf qf p1
      obtain ⟨q0, q1, q2, q3, q4, q5, q6⟩ := hd_cells S4.h
      obtain ⟨z0, z1, z2, z3, z4, z5, z6⟩ := hd_cells S4.z
      have zf := fun k => S4.z.free k
      have qf := fun k => S4.h.free k
      have G4 := Lib.hid S4
      clear b4 S4 G2
      go_wp2_with fail
      have S9 := G4.out.put7 (.int .i64 0) (.string ⟨#[]⟩) (.string ⟨#[]⟩) (.int .u64 0) (.int .i64 0) (.int .i64 0) (.bool false)
      change bodyPost _ _ _ _ _ (put7 w4 (w.heap.size + 1) (.int .i64 0) (.string ⟨#[]⟩) (.string ⟨#[]⟩) (.int .u64 0) (.int .i64 0) (.int .i64 0) (.bool false))
      generalize put7 w4 (w.heap.size + 1) (.int .i64 0) (.string ⟨#[]⟩) (.string ⟨#[]⟩) (.int .u64 0) (.int .i64 0) (.int .i64 0) (.bool false) = F at S9 ⊢
      obtain ⟨x0, x1, x2, x3, x4, x5, x6⟩ := hd_cells S9.z
      refine bodyPost_ret (v := .tuple #[.agg #[.int .i64 0, .string ⟨#[]⟩, .string ⟨#[]⟩, .int .u64 0, .int .i64 0, .int .i64 0, .bool false], .string ⟨#[]⟩, .int .i64 E]) (by simp [results, Try.results25, go_sem, x0, x1, x2, x3, x4, x5, x6]) rfl ⟨rfl, S9.rd, S9.on⟩

end Go.Proofs.Ytngnfijpfghodaa
