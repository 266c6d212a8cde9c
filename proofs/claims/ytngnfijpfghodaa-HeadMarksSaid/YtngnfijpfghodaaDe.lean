/- Contracts of the reader's size and of opening. -/
import Derived.Test.YtngnfijpfghodaaDd
namespace Go.Proofs.Ytngnfijpfghodaa
open Go.ChangeShapes Go.WideShapes Go.RowKit
set_option linter.unusedVariables false

theorem takeL_rest (l : List UInt8) : (takeL l).2.1.length ≤ l.length := by
  cases l with
  | nil => simp [takeL]
  | cons b r =>
    by_cases h : (b :: r).length < 2 ^ (b.toNat / 64)
    · simp only [takeL, if_pos h]; simp
    · simp only [takeL, if_neg h]; simp

theorem takeL_nat (l : List UInt8) : (takeL l).2.2 = 0 ∨ (takeL l).2.2 = 2 := by
  cases l with
  | nil => exact .inr rfl
  | cons b r =>
    by_cases h : (b :: r).length < 2 ^ (b.toNat / 64)
    · simp only [takeL, if_pos h]; exact .inr (by trivial)
    · simp only [takeL, if_neg h]; exact .inl (by trivial)

theorem ret_i64 {a b : Int} (h : a = b) : Ending.returned (.int .i64 a) = .returned (.int .i64 b) := by rw [h]

set_option maxHeartbeats 1000000 in
theorem size_lost (b : Nat) (r : Rd) (w : World) (hR : RdIs w b r) (h : (r.bad || !(decide ((takeL r.s).2.2 = 0) && decide ((takeL r.s).1 ≤ 16388))) = true) :
    Calls Try.prog 33 #[.pointer (some ⟨b, 0, none⟩)] w fun e w' => e = .returned (.int .i64 0) ∧ RdIs w' b ⟨r.s, true⟩ ∧ Only (fun k => k = b) w w' := by
  have ht := Take_any (txt r.s) w
  rw [byt_txt] at ht
  have hE := takeL_nat r.s
  have hm := fun w c h => must_any b r c w h
  have c0 := hR.cell (k := 0) rfl
  have HR := Lib.hid hR
  generalize takeL r.s = p at *
  obtain ⟨N, R, E⟩ := p
  simp only at ht h hE
  obtain ⟨l, bad⟩ := r
  simp only at h c0 ⊢
  unfold Rd.must at hm
  simp only at hm
  generalize txt R = rs at *
  generalize txt l = s at *
  have HT := Lib.hid ht
  have HM := Lib.hid hm
  clear ht hm hR
  rcases hE with rfl | rfl
  · obtain ⟨d, hd⟩ : ∃ d, decide (N ≤ 16388) = d := ⟨_, rfl⟩
    have hd2 : decide ((N : Int) ≤ 16388) = d := by rw [← hd, decide_eq_decide]; omega
    rw [hd] at h
    simp only [decide_true, Bool.true_and] at h
    clear hd
    go_enter Try.func33, Try.ntmps33
    go_wp2_with fail
    refine HT.out.mono ?_
    rintro e w1 ⟨rfl, b1⟩
    have G1 := Lib.hid (HR.out.below b1 HR.out.lt)
    have O1 := Lib.hid (Only.ofBelow (S := fun k => k = b) b1)
    clear b1 c0
    go_wp2_with fail
    refine (HM.out _ _ G1.out).mono ?_
    rintro e w2 ⟨rfl, g2, o2⟩
    rw [h] at g2
    have c1 := g2.cell (k := 1) rfl
    have G2 := Lib.hid g2
    have O2 := Lib.hid (O1.out.trans o2)
    clear g2 o2
    simp only at c1
    go_wp2_with fail
    go_ret
    exact ⟨rfl, G2.out, O2.out⟩
  · clear h
    go_enter Try.func33, Try.ntmps33
    go_wp2_with fail
    refine HT.out.mono ?_
    rintro e w1 ⟨rfl, b1⟩
    have G1 := Lib.hid (HR.out.below b1 HR.out.lt)
    have O1 := Lib.hid (Only.ofBelow (S := fun k => k = b) b1)
    clear b1 c0
    go_wp2_with fail
    refine (HM.out _ _ G1.out).mono ?_
    rintro e w2 ⟨rfl, g2, o2⟩
    rw [Bool.not_false, Bool.or_true] at g2
    have c1 := g2.cell (k := 1) rfl
    have G2 := Lib.hid g2
    have O2 := Lib.hid (O1.out.trans o2)
    clear g2 o2
    simp only at c1
    go_wp2_with fail
    go_ret
    exact ⟨rfl, G2.out, O2.out⟩

set_option maxHeartbeats 1000000 in
theorem size_got (b N : Nat) (l R : List UInt8) (w : World) (hR : RdIs w b ⟨l, false⟩) (ht : takeL l = (N, R, 0)) (hN : N ≤ 16388) (hlen : l.length ≤ 100000) :
    Calls Try.prog 33 #[.pointer (some ⟨b, 0, none⟩)] w fun e w' => e = .returned (.int .i64 (N : Int)) ∧ RdIs w' b ⟨R, !decide (sizeF N = l.length - R.length)⟩ ∧ Only (fun k => k = b) w w' := by
  have htk := Take_any (txt l) w
  have hrl := takeL_rest l
  rw [byt_txt, ht] at htk
  rw [ht] at hrl
  simp only at htk hrl
  have hm := fun w c h => must_any b ⟨l, false⟩ c w h
  have hm2 := fun w c h => must_any b ⟨R, false⟩ c w h
  have hsz := fun w => Size_any N w
  obtain ⟨q, hq⟩ : ∃ q, decide (sizeF N = l.length - R.length) = q := ⟨_, rfl⟩
  have hq2 : (((sizeF N : Nat) : Int) == (l.length : Int) - (R.length : Int)) = q := by
    rw [← hq, Bool.eq_iff_iff, beq_iff_eq, decide_eq_true_iff]
    omega
  rw [hq]
  have hs1 := txt_size l
  have hs2 := txt_size R
  have c0 := hR.cell (k := 0) rfl
  have HR := Lib.hid hR
  unfold Rd.must at hm hm2
  simp only [Bool.false_or] at hm hm2 c0
  have hset := fun w (h : RdIs w b ⟨l, !true⟩) => (show RdIs (w.setCell ⟨b, 0, none⟩ (.string (txt R))) b ⟨R, false⟩ from blk.set h 0 (.string (txt R)))
  generalize txt R = rs at *
  generalize txt l = s at *
  generalize l.length = L at *
  generalize R.length = RL at *
  generalize sizeF N = S at *
  have hd2 : decide ((N : Int) ≤ 16388) = true := by rw [decide_eq_true_iff]; omega
  have HT := Lib.hid htk
  have HM := Lib.hid hm
  have HM2 := Lib.hid hm2
  have HS := Lib.hid hsz
  have HSet := Lib.hid hset
  have Hq := Lib.hid hq
  clear htk hm hm2 hR hsz ht hset hq
  go_enter Try.func33, Try.ntmps33
  go_wp2_with fail
  refine HT.out.mono ?_
  rintro e w1 ⟨rfl, b1⟩
  have G1 := Lib.hid (HR.out.below b1 HR.out.lt)
  have O1 := Lib.hid (Only.ofBelow (S := fun k => k = b) b1)
  clear b1 c0
  go_wp2_with fail
  refine (HM.out _ _ G1.out).mono ?_
  rintro e w2 ⟨rfl, g2, o2⟩
  have c1 := g2.cell (k := 1) rfl
  have f0 := g2.free 0
  have c0 := g2.cell (k := 0) rfl
  have G2 := Lib.hid (HSet.out _ g2)
  have O2 := Lib.hid (Only.setCell (p := ⟨b, 0, none⟩) (O1.out.trans o2) (.inl rfl) (.string rs))
  clear g2 o2
  simp only [Bool.not_true] at c1
  go_wp2_with fail
  refine (HS.out _).mono ?_
  rintro e w3 ⟨rfl, rfl⟩
  go_wp2_with fail
  refine (HM2.out _ _ G2.out).mono ?_
  rintro e w4 ⟨rfl, g4, o4⟩
  have G4 := Lib.hid g4
  have O4 := Lib.hid (O2.out.trans o4)
  clear g4 o4
  go_wp2_with fail
  go_ret
  exact ⟨rfl, G4.out, O4.out⟩

theorem size_rd_any (b : Nat) (r : Rd) (w : World) (hR : RdIs w b r) (hlen : r.s.length ≤ 100000) :
    Calls Try.prog 33 #[.pointer (some ⟨b, 0, none⟩)] w fun e w' => e = .returned (.int .i64 r.size.1) ∧ RdIs w' b r.size.2 ∧ Only (fun k => k = b) w w' := by
  unfold Rd.size
  by_cases h : (r.bad || !(decide ((takeL r.s).2.2 = 0) && decide ((takeL r.s).1 ≤ 16388))) = true
  · rw [if_pos h]
    exact size_lost b r w hR h
  · rw [if_neg h]
    obtain ⟨l, bad⟩ := r
    simp only [Bool.or_eq_true, Bool.not_eq_true', Bool.and_eq_false_iff, not_or, decide_eq_false_iff_not, Decidable.not_not, Bool.not_eq_true] at h
    obtain ⟨rfl, h1, h2⟩ := h
    exact size_got b _ l _ w hR (by rw [← h1]) h2 hlen

end Go.Proofs.Ytngnfijpfghodaa
