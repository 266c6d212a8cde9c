/- Write whole; the law's awake. -/
import Derived.Test.YtngnfijpfghodaaDj
import Derived.Test.YtngnfijpfghodaaDi
namespace Go.Proofs.Ytngnfijpfghodaa
open Go.ChangeShapes Go.WideShapes Go.RowKit
set_option linter.unusedVariables false

theorem Write_any (h : Hd) (w : World) : Calls Try.prog 9 #[h.v] w fun e w' => e = .returned (.tuple #[.string (txt (writeF h).1), .int .i64 (writeF h).2]) ∧ Below w.heap.size w w' := by
  unfold writeF
  cases hm : mayF h
  · exact write_bad h w hm
  · obtain ⟨ty, dst, src, num, bytes, size, spin⟩ := h
    have hm2 := hm
    unfold mayF longF at hm2
    simp at hm2
    have h1 : 1 ≤ bytes := by omega
    have h2 : 0 ≤ size := by omega
    obtain ⟨b, rfl⟩ := Int.eq_ofNat_of_zero_le (show 0 ≤ bytes by omega)
    obtain ⟨z, rfl⟩ := Int.eq_ofNat_of_zero_le h2
    by_cases h3 : ty = 3
    · subst h3
      exact write_short dst src num b _ spin w hm
    · have h4 : ty = ((ty.toNat : Nat) : Int) ∧ (ty.toNat = 0 ∨ ty.toNat = 2) := by omega
      rw [h4.1] at hm ⊢
      exact write_long ty.toNat dst src num b z spin w h4.2 hm

def awS : List UInt8 := [192, 0, 0, 0, 1, 2, 97, 98, 1, 99, 0, 4, 5]
def awH : Hd := ⟨0, [97, 98], [99], 5, 1, 3, false⟩
def awY : Hd := ⟨3, [97, 98, 99], [], 7, 1, 4, true⟩

theorem aw_write : writeF awH = (awS, 0) := by kernel_rfl
theorem aw_write2 : writeF ⟨1, [], [], 0, 0, 0, false⟩ = ([], 2) := by kernel_rfl
theorem aw_read : readF (awS ++ [120, 121, 122, 33]) 0 0 = (awH, [120, 121, 122], 0) := by kernel_rfl
theorem aw_read2 : readF [96, 97, 98, 99, 7, 114, 101, 115, 116] 3 0 = (awY, [114, 101, 115, 116], 0) := by kernel_rfl
theorem aw_read3 : readF awS 21 0 = (Hd.zero, [], 1) := by kernel_rfl
theorem aw_whole : Whole (awS ++ [120, 121, 122, 64, 114, 101, 115, 116]) = some [awS ++ [120, 121, 122], [64, 114, 101, 115, 116]] := by kernel_rfl
theorem aw_may : mayF awH = true := by kernel_rfl
theorem aw_may2 : mayF Hd.zero = false := by kernel_rfl

theorem ask_zero (w : World) : Calls Try.prog 15 #[.agg #[.int .i64 0, .int .i64 0, .int .i64 0, .int .i64 0]] w fun e w' => ∃ bl, e = .returned (askV bl) ∧ blk w' bl 40 (askL 0) ∧ Below w.heap.size w w' ∧ w.heap.size ≤ bl := ask_any 0 w

set_option maxRecDepth 100000 in
set_option maxHeartbeats 4000000 in
theorem awake_any (w : World) : Calls Try.prog 8 #[] w fun e w' => e = .returned (.bool true) ∧ Below w.heap.size w w' := by
  have h1 := fun w => Write_any awH w
  have h2 := fun w => Write_any ⟨1, [], [], 0, 0, 0, false⟩ w
  have h3 := fun bl w hL => Read_any (awS ++ [120, 121, 122, 33]) 0 0 bl w (by decide) hL (by decide)
  have h4 := fun bl w hL => Read_any [96, 97, 98, 99, 7, 114, 101, 115, 116] 3 0 bl w (by decide) hL (by decide)
  have h5 := fun bl w hL => Read_any awS 21 0 bl w (by decide) hL (by decide)
  have h6 := fun w => Whole_any (awS ++ [120, 121, 122, 64, 114, 101, 115, 116]) w (by decide)
  have h7 := fun w => Long_any awS w
  have h8 := fun w => Long_any [] w
  have h9 := fun w => May_any awH w
  have h10 := fun w => May_any Hd.zero w
  unfold WEnd at h6
  rw [aw_write] at h1
  rw [aw_write2] at h2
  rw [aw_read] at h3
  rw [aw_read2] at h4
  rw [aw_read3] at h5
  rw [aw_whole] at h6
  rw [aw_may] at h9
  rw [aw_may2] at h10
  rw [show LongF awS = true from rfl] at h7
  rw [show LongF [] = false from rfl] at h8
  have c1 : txt awS ++ ⟨#[120, 121, 122, 33]⟩ = txt (awS ++ [120, 121, 122, 33]) := by rw [← txt_append]; rfl
  have c2 : txt awS ++ ⟨#[120, 121, 122, 64, 114, 101, 115, 116]⟩ = txt (awS ++ [120, 121, 122, 64, 114, 101, 115, 116]) := by rw [← txt_append]; rfl
  have z1 : (txt awS).size = 13 := rfl
  have b1 : ((txt awS).toList == [192, 0, 0, 0, 1, 2, 97, 98, 1, 99, 0, 4, 5]) = true := by rw [toList_txt]; rfl
  generalize txt (awS ++ [120, 121, 122, 33]) = s1 at *
  generalize txt (awS ++ [120, 121, 122, 64, 114, 101, 115, 116]) = s2 at *
  generalize txt awS = s at *
  have H1 : Hid (∀ w, Calls Try.prog 9 #[.agg #[.int .i64 0, .string ⟨#[97, 98]⟩, .string ⟨#[99]⟩, .int .u64 5, .int .i64 1, .int .i64 3, .bool false]] w fun e w' => e = .returned (.tuple #[.string s, .int .i64 0]) ∧ Below w.heap.size w w') := Lib.hid h1
  have H2 : Hid (∀ w, Calls Try.prog 9 #[.agg #[.int .i64 1, .string ⟨#[]⟩, .string ⟨#[]⟩, .int .u64 0, .int .i64 0, .int .i64 0, .bool false]] w fun e w' => e = .returned (.tuple #[.string ⟨#[]⟩, .int .i64 2]) ∧ Below w.heap.size w w') := Lib.hid h2
  have H3 : Hid (∀ bl w, blk w bl 40 (askL 0) → Calls Try.prog 16 #[.string s1, .int .i64 0, askV bl] w fun e w' => e = .returned (.tuple #[.agg #[.int .i64 0, .string ⟨#[97, 98]⟩, .string ⟨#[99]⟩, .int .u64 5, .int .i64 1, .int .i64 3, .bool false], .string ⟨#[120, 121, 122]⟩, .int .i64 0]) ∧ Below w.heap.size w w') := Lib.hid h3
  have H4 : Hid (∀ bl w, blk w bl 40 (askL 0) → Calls Try.prog 16 #[.string ⟨#[96, 97, 98, 99, 7, 114, 101, 115, 116]⟩, .int .i64 3, askV bl] w fun e w' => e = .returned (.tuple #[.agg #[.int .i64 3, .string ⟨#[97, 98, 99]⟩, .string ⟨#[]⟩, .int .u64 7, .int .i64 1, .int .i64 4, .bool true], .string ⟨#[114, 101, 115, 116]⟩, .int .i64 0]) ∧ Below w.heap.size w w') := Lib.hid h4
  have H5 : Hid (∀ bl w, blk w bl 40 (askL 0) → Calls Try.prog 16 #[.string s, .int .i64 21, askV bl] w fun e w' => e = .returned (.tuple #[.agg #[.int .i64 0, .string ⟨#[]⟩, .string ⟨#[]⟩, .int .u64 0, .int .i64 0, .int .i64 0, .bool false], .string ⟨#[]⟩, .int .i64 1]) ∧ Below w.heap.size w w') := Lib.hid h5
  have H6 : Hid (∀ w, Calls Try.prog 13 #[.string s2] w fun e w' => ∃ g cap, e = .returned (.tuple #[.slice (some ⟨g, 0, none⟩) 2 cap, .int .i64 0]) ∧ w'.cell? ⟨g, 1, none⟩ = some (.string ⟨#[64, 114, 101, 115, 116]⟩) ∧ Below w.heap.size w w') := Lib.hid (fun w => (h6 w).mono (by
    rintro e w' ⟨hb, ⟨hn, _⟩ | ⟨L, v, hL, rfl, hO⟩⟩
    · cases hn
    · injection hL with hL
      subst hL
      obtain ⟨g, cap, rfl, _, _, hc, _⟩ := own_view hO (by decide)
      exact ⟨g, cap, rfl, hc 1 _ rfl, hb⟩))
  have H7 := Lib.hid h7
  have H8 : Hid (∀ w, Calls Try.prog 14 #[.string ⟨#[]⟩] w fun e w' => e = .returned (.bool false) ∧ w = w') := Lib.hid h8
  have H9 : Hid (∀ w, Calls Try.prog 11 #[.agg #[.int .i64 0, .string ⟨#[97, 98]⟩, .string ⟨#[99]⟩, .int .u64 5, .int .i64 1, .int .i64 3, .bool false]] w fun e w' => e = .returned (.bool true) ∧ Below w.heap.size w w') := Lib.hid h9
  have H10 : Hid (∀ w, Calls Try.prog 11 #[.agg #[.int .i64 0, .string ⟨#[]⟩, .string ⟨#[]⟩, .int .u64 0, .int .i64 0, .int .i64 0, .bool false]] w fun e w' => e = .returned (.bool false) ∧ Below w.heap.size w w') := Lib.hid h10
  clear h1 h2 h3 h4 h5 h6 h7 h8 h9 h10
  go_enter Try.func8, Try.ntmps8
  go_wp2_with fail
  refine (H1.out _).mono ?_
  rintro e w1 ⟨rfl, b⟩
  obtain ⟨B1, G1⟩ := box_below (L := [_, _, _, _, _, _, _]) b
  have HB1 := Lib.hid B1
  have HG1 := Lib.hid G1
  clear b B1 G1
  go_wp2_with fail
  refine (H2.out _).mono ?_
  rintro e w2 ⟨rfl, b⟩
  have HB2 := Lib.hid (HB1.out.trans (b.mono HB1.out.size))
  have HG2 := Lib.hid (HG1.out.below b HG1.out.lt)
  clear b HB1 HG1
  go_wp2_with fail
  refine (ask_zero _).mono ?_
  rintro e w3 ⟨bl, rfl, hbl, b, _⟩
  have HB3 := Lib.hid (HB2.out.trans (b.mono HB2.out.size))
  have HG3 := Lib.hid (HG2.out.below b HG2.out.lt)
  have HL3 := Lib.hid hbl
  clear b HB2 HG2 hbl
  go_wp2_with fail
  refine (H3.out _ _ HL3.out).mono ?_
  rintro e w4 ⟨rfl, b⟩
  have HB4 := Lib.hid (HB3.out.trans (b.mono HB3.out.size))
  have HG4 := Lib.hid (HG3.out.below b HG3.out.lt)
  clear b HB3 HG3 HL3
  go_wp2_with fail
  refine (ask_zero _).mono ?_
  rintro e w5 ⟨bl2, rfl, hbl, b, _⟩
  have hx5 := (blk.new w4 24 [.int .i64 0, .string ⟨#[97, 98]⟩, .string ⟨#[99]⟩, .int .u64 5, .int .i64 1, .int .i64 3, .bool false]).below b (by simp)
  have HX5 := Lib.hid hx5
  have b' : Below w4.heap.size w4 w5 := ((Below.refl _ _).alloc (Nat.le_refl _) _).trans (b.mono (by simp))
  have HB5 := Lib.hid (HB4.out.trans (b'.mono HB4.out.size))
  have HG5 := Lib.hid (HG4.out.below b' HG4.out.lt)
  have HL5 := Lib.hid hbl
  clear b b' HB4 HG4 hbl hx5
  go_wp2_with fail
  refine (H4.out _ _ HL5.out).mono ?_
  rintro e w6 ⟨rfl, b⟩
  have HB6 := Lib.hid (HB5.out.trans (b.mono HB5.out.size))
  have HG6 := Lib.hid (HG5.out.below b HG5.out.lt)
  have HX6 := Lib.hid (HX5.out.below b HX5.out.lt)
  clear b HB5 HG5 HX5 HL5
  go_wp2_with fail
  refine (ask_zero _).mono ?_
  rintro e w7 ⟨bl3, rfl, hbl, b, _⟩
  have hy7 := (blk.new w6 24 [.int .i64 3, .string ⟨#[97, 98, 99]⟩, .string ⟨#[]⟩, .int .u64 7, .int .i64 1, .int .i64 4, .bool true]).below b (by simp)
  have HY7 := Lib.hid hy7
  have b' : Below w6.heap.size w6 w7 := ((Below.refl _ _).alloc (Nat.le_refl _) _).trans (b.mono (by simp))
  have HB7 := Lib.hid (HB6.out.trans (b'.mono HB6.out.size))
  have HG7 := Lib.hid (HG6.out.below b' HG6.out.lt)
  have HX7 := Lib.hid (HX6.out.below b' HX6.out.lt)
  have HL7 := Lib.hid hbl
  clear b b' HB6 HG6 HX6 hbl hy7
  go_wp2_with fail
  refine (H5.out _ _ HL7.out).mono ?_
  rintro e w8 ⟨rfl, b⟩
  have HB8 := Lib.hid (HB7.out.trans (b.mono HB7.out.size))
  have HG8 := Lib.hid (HG7.out.below b HG7.out.lt)
  have HX8 := Lib.hid (HX7.out.below b HX7.out.lt)
  have HY8 := Lib.hid (HY7.out.below b HY7.out.lt)
  clear b HB7 HG7 HX7 HY7 HL7
  go_wp2_with fail
  refine (H6.out _).mono ?_
  rintro e w9 ⟨g, cap, rfl, hc, b⟩
  have b' : Below w8.heap.size w8 w9 := ((Below.refl _ _).alloc (Nat.le_refl _) _).trans (b.mono (by simp))
  have HB9 := Lib.hid (HB8.out.trans (b'.mono HB8.out.size))
  have HG9 := Lib.hid (HG8.out.below b' HG8.out.lt)
  have HX9 := Lib.hid (HX8.out.below b' HX8.out.lt)
  have HY9 := Lib.hid (HY8.out.below b' HY8.out.lt)
  obtain ⟨g0, g1, g2, g3, g4, g5, g6⟩ := hd_cells HG9.out
  obtain ⟨x0, x1, x2, x3, x4, x5, x6⟩ := hd_cells HX9.out
  obtain ⟨y0, y1, y2, y3, y4, y5, y6⟩ := hd_cells HY9.out
  clear b b' HB8 HG8 HX8 HY8
  go_wp2_with fail
  refine (H7.out _).mono ?_
  rintro e w10 ⟨rfl, rfl⟩
  go_wp2_with fail
  refine (H8.out _).mono ?_
  rintro e w10 ⟨rfl, rfl⟩
  go_wp2_with fail
  refine (H9.out _).mono ?_
  rintro e w10 ⟨rfl, b⟩
  have HB10 := Lib.hid (HB9.out.trans (b.mono HB9.out.size))
  clear b HB9 HG9 HX9 HY9 g0 g1 g2 g3 g4 g5 g6 x0 x1 x2 x3 x4 x5 x6 y0 y1 y2 y3 y4 y5 y6 hc
  go_wp2_with fail
  refine (H10.out _).mono ?_
  rintro e w11 ⟨rfl, b⟩
  have HB11 := Lib.hid (HB10.out.trans (b.mono HB10.out.size))
  clear b HB10
  go_wp2_with fail
  go_ret
  exact ⟨rfl, HB11.out⟩

end Go.Proofs.Ytngnfijpfghodaa
