/- space: awake's walk. -/
import Derived.Test.YtmnmpmiocgfalaaSn
namespace Go.Proofs.Ytmnmpmiocgfalaa
open Go.ChangeShapes Go.WideShapes Go.RowKit
set_option linter.unusedVariables false
set_option linter.unusedSimpArgs false

set_option maxRecDepth 100000 in
set_option maxHeartbeats 8000000 in
theorem awake_ok (w : World) : Calls Try.prog 9 #[] w fun e w' => e = .returned (.bool true) ∧ Below w.heap.size w w' := by
  obtain ⟨b, hb⟩ : ∃ b, w.heap.size = b := ⟨_, rfl⟩
  obtain ⟨w1, hw1⟩ : ∃ w1, w.alloc (.cells #[.slice none 0 0, .int .u64 0, .bool false, .int .u64 0, .bool false, .int .u64 0, .slice none 0 0, .int .u64 0, .bool false] 34) = w1 := ⟨_, rfl⟩
  have hs1 : w1.heap.size = b + 1 := by rw [← hw1, ← hb]; simp
  obtain ⟨w2, hw2⟩ : ∃ w2, w1.alloc (.cells #[.int .u64 1, .int .u64 0, .int .u64 0, .int .u64 0, .bool false, .string ⟨#[]⟩, .string ⟨#[]⟩, .slice none 0 0] 43) = w2 := ⟨_, rfl⟩
  have W0 : Hid (AwS w b (b + 1) (.slice none 0 0) (.slice none 0 0) Sp0 w2) := Lib.hid (by
    have h1 := SpIs.start w
    rw [hw1, hb] at h1
    have hb1 : Below w1.heap.size w1 w2 := by rw [← hw2]; exact (Below.refl _ _).alloc (Nat.le_refl _) _
    have hbw : Below w.heap.size w w1 := by rw [← hw1]; exact (Below.refl _ _).alloc (Nat.le_refl _) _
    refine ⟨by rw [hb]; exact h1.next hb1, ?_, hbw.trans (hb1.mono hbw.size)⟩
    have := blk.new w1 43 pingF.vals
    rw [hs1] at this
    rw [← hw2]
    exact this)
  have HB := Lib.hid hb
  have HS2 := Lib.hid (show w2.heap.size = b + 2 by rw [← hw2]; simp; omega)
  go_enter Try.func9, Try.ntmps9
  go_wp2_with fail
  clear hw1 hw2 hs1 hb
  have HL := Largest_any W0.out.sp
  rw [show sg (mostR Sp0.R).2 (mostR Sp0.R).1 = -1 from rfl] at HL
  refine HL.mono ?_
  rintro e w3 ⟨rfl, hb3⟩
  have W3 := Lib.hid (W0.out.next hb3)
  clear hb3 W0 HL
  go_wp2_with fail
  have HL := Acked_any2 W3.out.sp
  rw [show sg Sp0.L.bi Sp0.L.bn = -1 from rfl] at HL
  refine HL.mono ?_
  rintro e w4 ⟨rfl, hb4⟩
  have W4 := Lib.hid (W3.out.next hb4)
  clear hb4 W3 HL
  go_wp2_with fail
  refine (W4.out.ack0).mono ?_
  rintro e w5 ⟨rfl, h5⟩
  have W5 := Lib.hid h5
  clear h5 W4
  go_wp2_with fail
  refine (AwS.got0 (W5.out.next ((Below.refl _ _).alloc (Nat.le_refl _) _))).mono ?_
  rintro e w6 ⟨rfl, u6, h6⟩
  have W6 := Lib.hid h6
  clear h6 W5
  go_wp2_with fail
  refine (W6.out.got1).mono ?_
  rintro e w7 ⟨rfl, u7, h7⟩
  have W7 := Lib.hid h7
  clear h7 W6
  go_wp2_with fail
  refine (W7.out.got2).mono ?_
  rintro e w8 ⟨rfl, u8, h8⟩
  have W8 := Lib.hid h8
  clear h8 W7
  go_wp2_with fail
  have HL := Must_any W8.out.sp
  rw [show A2.must = true from rfl] at HL
  refine HL.mono ?_
  rintro e w9 ⟨rfl, h9⟩
  subst h9
  clear HL
  go_wp2_with fail
  refine (W8.out.ack1).mono ?_
  rintro e w10 ⟨p, c, rfl, h10⟩
  have W10 := Lib.hid h10.box
  clear h10 W8
  go_wp2_with fail
  refine (W10.out.sent1).mono ?_
  rintro e w11 ⟨rfl, fa, fc, v11, h11⟩
  have W11 := Lib.hid h11
  clear h11 W10
  go_wp2_with fail
  refine (W11.out.sent2).mono ?_
  rintro e w12 ⟨rfl, v12, h12⟩
  have W12 := Lib.hid h12
  clear h12 W11
  go_wp2_with fail
  have HL := LastAsk_any W12.out.aw.sp
  rw [show lastF (A5 fa fc).L.op = 10 from rfl, show (!(A5 fa fc).L.op.isEmpty) = true from rfl] at HL
  refine HL.mono ?_
  rintro e w13 ⟨rfl, h13⟩
  have W13 := Lib.hid (W12.out.next h13)
  clear h13 W12 HL
  go_wp2_with fail
  have HL := Flying_any _ b _ _ _ _ _ W13.out.aw.sp.led W13.out.aw.sp.inv.len1 (fun q hq => (W13.out.aw.sp.inv.le q hq).2.2)
  rw [show flyF (A5 fa fc).L.op = 100 from rfl] at HL
  refine HL.mono ?_
  rintro e w14 ⟨rfl, h14⟩
  have W14 := Lib.hid (W13.out.next h14)
  clear h14 W13 HL
  go_wp2_with fail
  refine (AwY.take1 (W14.out.next ((Below.refl _ _).alloc (Nat.le_refl _) _)) (blk.new _ _ _) (fun e => by have := (W14.out.aw.sp.set.lt _ e).2; omega)).mono ?_
  rintro e w15 ⟨pg, cg, rfl, v15, h15⟩
  have W15 := Lib.hid h15
  clear h15 W14
  have q0 := W15.out.aw.ping.cell (k := 0) rfl
  have q1 := W15.out.aw.ping.cell (k := 1) rfl
  have q2 := W15.out.aw.ping.cell (k := 2) rfl
  have q3 := W15.out.aw.ping.cell (k := 3) rfl
  have q4 := W15.out.aw.ping.cell (k := 4) rfl
  have q5 := W15.out.aw.ping.cell (k := 5) rfl
  have q6 := W15.out.aw.ping.cell (k := 6) rfl
  have q7 := W15.out.aw.ping.cell (k := 7) rfl
  simp only [pingF] at q0 q1 q2 q3 q4 q5 q6 q7
  go_wp2_with fail
  refine (W15.out.take2).mono ?_
  rintro e w16 ⟨rfl, h16⟩
  have W16 := Lib.hid h16
  have x0 := h16.xb.cell (k := 0) rfl
  have x1 := h16.xb.cell (k := 1) rfl
  have x2 := h16.xb.cell (k := 2) rfl
  have x3 := h16.xb.cell (k := 3) rfl
  have x4 := h16.xb.cell (k := 4) rfl
  have x5 := h16.xb.cell (k := 5) rfl
  have x6 := h16.xb.cell (k := 6) rfl
  have x7 := h16.xb.cell (k := 7) rfl
  have xl := h16.xb.lt
  clear h16 W15 q0 q1 q2 q3 q4 q5 q6 q7
  go_wp2_with fail
  have HSm : Hid (Calls Try.prog 27 #[.agg #[.int .u64 2, .int .u64 4, .int .u64 0, .int .u64 0, .bool false, .string ⟨#[]⟩, .string ⟨#[]⟩, .slice p 2 c], .agg #[.int .u64 2, .int .u64 4, .int .u64 0, .int .u64 0, .bool false, .string ⟨#[]⟩, .string ⟨#[]⟩, .slice (some ⟨w16.heap.size, 0, none⟩) 2 2]] (w16.alloc (.cells #[.int .u64 2, .int .u64 2, .int .u64 0, .int .u64 0] 47)) fun e w' => e = .returned (.bool true) ∧ Below (w16.alloc (.cells #[.int .u64 2, .int .u64 2, .int .u64 0, .int .u64 0] 47)).heap.size (w16.alloc (.cells #[.int .u64 2, .int .u64 2, .int .u64 0, .int .u64 0] 47)) w') := Lib.hid (by
    obtain ⟨Bx, hx⟩ := W16.out.xl
    have hx2 := own_below hx ((Below.refl _ _).alloc (Nat.le_refl _) (.cells #[.int .u64 2, .int .u64 2, .int .u64 0, .int .u64 0] 47))
    have hy := blk.new w16 47 [.int .u64 2, .int .u64 2, .int .u64 0, .int .u64 0]
    refine same03 ⟨2, 4, 0, 0, false, ⟨#[]⟩, ⟨#[]⟩, p, [(2, 2), (0, 0)], c⟩ (some ⟨w16.heap.size, 0, none⟩) 2 _ ?_ ?_ (by show 2 ≤ _; decide)
    · intro _
      obtain ⟨g, cap1, hv, _, hg, hc, _⟩ := own_view hx2 (by decide)
      injection hv with hv _ _
      refine ⟨g, 0, hv, hg, fun i r hr => ?_⟩
      have hi : i = 0 ∨ i = 1 := by
        have := (List.getElem?_eq_some_iff.1 hr).1
        simp at this
        omega
      rcases hi with rfl | rfl
      · simp at hr
        subst hr
        exact ⟨hc 0 _ rfl, hc 1 _ rfl⟩
      · simp at hr
        subst hr
        exact ⟨hc 2 _ rfl, hc 3 _ rfl⟩
    · intro _
      refine ⟨w16.heap.size, 0, rfl, hy.lt, fun i r hr => ?_⟩
      have hi : i = 0 ∨ i = 1 := by
        have := (List.getElem?_eq_some_iff.1 hr).1
        simp at this
        omega
      rcases hi with rfl | rfl
      · simp at hr
        subst hr
        exact ⟨hy.cell rfl, hy.cell rfl⟩
      · simp at hr
        subst hr
        exact ⟨hy.cell rfl, hy.cell rfl⟩)
  refine HSm.out.mono ?_
  rintro e w17 ⟨rfl, hb17⟩
  have W17 := Lib.hid ((W16.out.next ((Below.refl _ _).alloc (Nat.le_refl _) _)).next hb17)
  clear hb17 HSm W16 x0 x1 x2 x3 x4 x5 x6 x7 xl
  go_wp2_with fail
  have HL := Must_any W17.out.aw.sp
  rw [show A6.must = false from rfl] at HL
  refine HL.mono ?_
  rintro e w18 ⟨rfl, h18⟩
  subst h18
  clear HL
  go_wp2_with fail
  have HL := Largest_any W17.out.aw.sp
  rw [show sg (mostR A6.R).2 (mostR A6.R).1 = 2 from rfl] at HL
  refine HL.mono ?_
  rintro e w19 ⟨rfl, h19⟩
  have W19 := Lib.hid (W17.out.next h19)
  clear h19 W17 HL
  go_wp2_with fail
  have HL := Acked_any2 W19.out.aw.sp
  rw [show sg A6.L.bi A6.L.bn = 0 from rfl] at HL
  refine HL.mono ?_
  rintro e w20 ⟨rfl, h20⟩
  have W20 := Lib.hid (W19.out.next h20)
  clear h20 W19 HL
  go_wp2_with fail
  have HL := Num_any W20.out.aw.sp
  refine HL.mono ?_
  rintro e w21 ⟨rfl, h21⟩
  subst h21
  clear HL
  go_wp2_with fail
  have HL := Came_any 2 W20.out.aw.sp
  rw [show coversR A6.R 2 2 = true from rfl] at HL
  refine HL.mono ?_
  rintro e w22 ⟨rfl, h22⟩
  have W22 := Lib.hid (W20.out.next h22)
  clear h22 W20 HL
  go_wp2_with fail
  have HL := Came_any 1 W22.out.aw.sp
  rw [show coversR A6.R 1 1 = false from rfl] at HL
  refine HL.mono ?_
  rintro e w23 ⟨rfl, h23⟩
  have W23 := Lib.hid (W22.out.next h23)
  clear h23 W22 HL
  go_wp2_with fail
  go_ret
  exact ⟨rfl, W23.out.aw.bel⟩

end Go.Proofs.Ytmnmpmiocgfalaa
