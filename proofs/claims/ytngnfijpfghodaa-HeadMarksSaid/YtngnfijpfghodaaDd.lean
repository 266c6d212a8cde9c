/- Contracts of the reader's take, one, must, cid. -/
import Derived.Test.YtngnfijpfghodaaDb
namespace Go.Proofs.Ytngnfijpfghodaa
open Go.ChangeShapes Go.WideShapes Go.RowKit
set_option linter.unusedVariables false

/-- A reader lies in block b. -/
def RdIs (w : World) (b : Nat) (r : Rd) : Prop := blk w b 54 [.string (txt r.s), .bool r.bad]

theorem txt_take (l : List UInt8) (n : Nat) : (txt l).extract 0 n = txt (l.take n) := by
  rw [← txt_byt ((txt l).extract 0 n), byt_extract, byt_txt]
  simp
theorem txt_drop (l : List UInt8) (n m : Nat) (h : m = l.length) : (txt l).extract n m = txt (l.drop n) := by
  rw [← txt_byt ((txt l).extract n m), byt_extract, byt_txt, h, List.take_length]

theorem take_lost (b : Nat) (r : Rd) (n : Int) (w : World) (hR : RdIs w b r) (h : r.bad = true ∨ (r.s.length : Int) < n) :
    Calls Try.prog 23 #[.pointer (some ⟨b, 0, none⟩), .int .i64 n] w fun e w' => e = .returned (.string ⟨#[]⟩) ∧ RdIs w' b ⟨[], true⟩ ∧ Only (fun k => k = b) w w' := by
  obtain ⟨l, bad⟩ := r
  simp only at h
  have c0 := hR.cell (k := 0) rfl
  have c1 := hR.cell (k := 1) rfl
  have f0 := hR.free 0
  have f1 := hR.free 1
  have hs := txt_size l
  have H1 := Lib.hid ((blk.set hR 0 (.string ⟨#[]⟩)).set 1 (.bool true))
  have H2 := Lib.hid (Only.setCell (S := fun k => k = b) (p := ⟨b, 1, none⟩) (Only.setCell (S := fun k => k = b) (p := ⟨b, 0, none⟩) (Only.refl _ w) (.inl rfl) (.string ⟨#[]⟩)) (.inl rfl) (.bool true))
  simp only at c0 c1
  generalize txt l = s at *
  generalize l.length = L at *
  clear hR
  by_cases hl : (L : Int) < n
  · go_enter Try.func23, Try.ntmps23
    go_wp2_with fail
    go_ret
    exact ⟨rfl, H1.out, H2.out⟩
  · obtain rfl : bad = true := by rcases h with h | h; exact h; exact absurd h hl
    clear h
    go_enter Try.func23, Try.ntmps23
    go_wp2_with fail
    go_ret
    exact ⟨rfl, H1.out, H2.out⟩

theorem take_got (b : Nat) (l : List UInt8) (n : Nat) (w : World) (hR : RdIs w b ⟨l, false⟩) (h : n ≤ l.length) :
    Calls Try.prog 23 #[.pointer (some ⟨b, 0, none⟩), .int .i64 (n : Int)] w fun e w' => e = .returned (.string (txt (l.take n))) ∧ RdIs w' b ⟨l.drop n, false⟩ ∧ Only (fun k => k = b) w w' := by
  have c0 := hR.cell (k := 0) rfl
  have c1 := hR.cell (k := 1) rfl
  have f0 := hR.free 0
  have hs := txt_size l
  have e1 := txt_take l n
  have e2 := txt_drop l n l.length rfl
  have H1 := Lib.hid (blk.set hR 0 (.string (txt (l.drop n))))
  have H2 := Lib.hid (Only.setCell (S := fun k => k = b) (p := ⟨b, 0, none⟩) (Only.refl _ w) (.inl rfl) (.string (txt (l.drop n))))
  simp only at c0 c1
  generalize txt (l.take n) = s1 at *
  generalize hs2 : txt (l.drop n) = s2 at *
  have Hs2 := Lib.hid hs2
  generalize txt l = s at *
  generalize l.length = L at *
  clear hR hs2
  go_enter Try.func23, Try.ntmps23
  go_wp2_with fail
  go_ret
  exact ⟨rfl, by unfold RdIs; rw [Hs2.out]; exact H1.out, H2.out⟩

theorem take_any (b : Nat) (r : Rd) (n : Int) (w : World) (hR : RdIs w b r) (hn : r.bad = true ∨ 0 ≤ n) :
    Calls Try.prog 23 #[.pointer (some ⟨b, 0, none⟩), .int .i64 n] w fun e w' => e = .returned (.string (txt (r.take n).1)) ∧ RdIs w' b (r.take n).2 ∧ Only (fun k => k = b) w w' := by
  unfold Rd.take
  by_cases h : r.bad = true ∨ (r.s.length : Int) < n
  · rw [if_pos h]
    exact take_lost b r n w hR h
  · rw [if_neg h]
    have hb : r.bad = false := by
      cases hb : r.bad
      · rfl
      · exact absurd (.inl hb) h
    obtain ⟨l, bad⟩ := r
    simp only at hb
    subst hb
    have hn0 : 0 ≤ n := by rcases hn with hn | hn; cases hn; exact hn
    obtain ⟨m, rfl⟩ := Int.eq_ofNat_of_zero_le hn0
    have hm : m ≤ l.length := by
      by_cases hm : m ≤ l.length
      · exact hm
      · exfalso; apply h; right; simp only; omega
    exact take_got b l m w hR hm

theorem must_any (b : Nat) (r : Rd) (c : Bool) (w : World) (hR : RdIs w b r) :
    Calls Try.prog 27 #[.pointer (some ⟨b, 0, none⟩), .bool c] w fun e w' => e = .returned (.tuple #[]) ∧ RdIs w' b (r.must c) ∧ Only (fun k => k = b) w w' := by
  have c1 := hR.cell (k := 1) rfl
  have f1 := hR.free 1
  have H1 := fun x => Lib.hid (blk.set hR 1 (.bool x))
  have H2 := fun x => Lib.hid (Only.setCell (S := fun k => k = b) (p := ⟨b, 1, none⟩) (Only.refl _ w) (.inl rfl) (.bool x))
  obtain ⟨l, bad⟩ := r
  simp only at c1
  clear hR
  cases bad
  · go_enter Try.func27, Try.ntmps27
    go_wp2_with fail
    go_end0
    exact ⟨rfl, by simp only [Rd.must, Bool.false_or]; exact (H1 (!c)).out, (H2 (!c)).out⟩
  · go_enter Try.func27, Try.ntmps27
    go_wp2_with fail
    go_end0
    exact ⟨rfl, by simp only [Rd.must, Bool.true_or]; exact (H1 true).out, (H2 true).out⟩

theorem one_any (b : Nat) (r : Rd) (w : World) (hR : RdIs w b r) :
    Calls Try.prog 26 #[.pointer (some ⟨b, 0, none⟩)] w fun e w' => e = .returned (.int .u8 (r.one.1 : Int)) ∧ RdIs w' b r.one.2 ∧ Only (fun k => k = b) w w' := by
  have ht := take_any b r 1 w hR (.inr (by omega))
  obtain ⟨a, x, hx⟩ : ∃ a x, r.take 1 = (a, x) := ⟨_, _, rfl⟩
  unfold Rd.one
  rw [hx] at ht ⊢
  simp only at ht ⊢
  have HT := Lib.hid ht
  clear ht hx
  cases a with
  | nil =>
    have e : (hd0 []) = 0 := rfl
    rw [e]
    have e2 : txt [] = ⟨#[]⟩ := rfl
    rw [e2] at HT
    go_enter Try.func26, Try.ntmps26
    go_wp2_with fail
    refine HT.out.mono ?_
    rintro e w1 ⟨rfl, h1, h2⟩
    have H1 := Lib.hid h1
    have H2 := Lib.hid h2
    clear h1 h2
    go_wp2_with fail
    go_ret
    exact ⟨rfl, H1.out, H2.out⟩
  | cons y a =>
    have e : (hd0 (y :: a)) = y.toNat := rfl
    rw [e]
    have h0 : 0 < (txt (y :: a)).size := by rw [txt_size]; simp
    have hx0 : (txt (y :: a))[0].toNat = y.toNat := rfl
    have hne := not_empty _ h0
    have hb : (txt (y :: a)).toList.isEmpty = false := by simpa using hne
    generalize txt (y :: a) = s at *
    generalize y.toNat = Y at *
    clear hne
    go_enter Try.func26, Try.ntmps26
    go_wp2_with fail
    refine HT.out.mono ?_
    rintro e w1 ⟨rfl, h1, h2⟩
    have H1 := Lib.hid h1
    have H2 := Lib.hid h2
    clear h1 h2
    go_wp2_with fail
    go_ret
    exact ⟨rfl, H1.out, H2.out⟩

theorem one_lt (r : Rd) : r.one.1 < 256 := by
  unfold Rd.one hd0
  split
  · simp
  · simp only; exact UInt8.toNat_lt _

set_option maxHeartbeats 1000000 in
theorem cid_any (b : Nat) (r : Rd) (w : World) (hR : RdIs w b r) :
    Calls Try.prog 32 #[.pointer (some ⟨b, 0, none⟩)] w fun e w' => e = .returned (.string (txt r.cid.1)) ∧ RdIs w' b r.cid.2 ∧ Only (fun k => k = b) w w' := by
  have h1 := one_any b r w hR
  have hlt := one_lt r
  unfold Rd.cid
  generalize r.one.1 = x at *
  generalize r.one.2 = r1 at *
  have h2 := fun w h => must_any b r1 (decide (x ≤ 20)) w h
  have h3 := fun w h => take_any b (r1.must (decide (x ≤ 20))) (x : Int) w h (.inr (by omega))
  generalize r1.must (decide (x ≤ 20)) = r2 at *
  generalize r2.take (x : Int) = p at *
  have K1 := Lib.hid h1
  have K2 := Lib.hid h2
  have K3 := Lib.hid h3
  obtain ⟨d, hd⟩ : ∃ d, decide (x ≤ 20) = d := ⟨_, rfl⟩
  rw [hd] at K2
  have hd2 : decide ((x : Int) ≤ 20) = d := by rw [← hd, decide_eq_decide]; omega
  clear h1 h2 h3 hR
  go_enter Try.func32, Try.ntmps32
  go_wp2_with fail
  refine K1.out.mono ?_
  rintro e w1 ⟨rfl, g1, o1⟩
  have G1 := Lib.hid g1
  have O1 := Lib.hid o1
  clear g1 o1
  go_wp2_with fail
  refine (K2.out _ G1.out).mono ?_
  rintro e w2 ⟨rfl, g2, o2⟩
  have G2 := Lib.hid g2
  have O2 := Lib.hid (O1.out.trans o2)
  clear g2 o2
  go_wp2_with fail
  refine (K3.out _ G2.out).mono ?_
  rintro e w3 ⟨rfl, g3, o3⟩
  have G3 := Lib.hid g3
  have O3 := Lib.hid (O2.out.trans o3)
  clear g3 o3
  go_wp2_with fail
  go_ret
  exact ⟨rfl, G3.out, O3.out⟩

end Go.Proofs.Ytngnfijpfghodaa
