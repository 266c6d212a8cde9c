/- web: contract of Take. -/
import Derived.Test.YtgnoiheekgmleaaEb
namespace Go.Proofs.Ytgnoiheekgmleaa
open Go.ChangeShapes Go.WideShapes Go.RowKit
set_option linter.unusedVariables false

theorem txt_take (l : List UInt8) (n : Nat) : (txt l).extract 0 n = txt (l.take n) := by
  rw [← txt_byt ((txt l).extract 0 n), byt_extract, byt_txt]
  rfl
theorem txt_drop (l : List UInt8) (n m : Nat) (h : m = l.length) : (txt l).extract n m = txt (l.drop n) := by
  rw [← txt_byt ((txt l).extract n m), byt_extract, byt_txt, h, List.take_length]

/-- What Take answers, as it lies in a frame. -/
def takeV (t : Nat × List UInt8 × List UInt8 × Int) : Value := .tuple #[.int .u64 (t.1 : Int), .string (txt t.2.1), .string (txt t.2.2.1), .int .i64 t.2.2.2]

set_option maxRecDepth 100000 in
set_option maxHeartbeats 2000000 in
theorem wTake_any (s : ByteArray) (w : World) (hs : s.size ≤ 1000000) :
    Calls Try.prog 16 #[.string s] w fun e w' => e = .returned (takeV (wtake (byt s))) ∧ Below w.heap.size w w' := by
  have h1 := number_any s w hs
  have hle := wnum_le (byt s)
  rw [byt_length] at hle
  have herr := wnum_err (byt s)
  unfold wtake
  rcases hN : wnum (byt s) with ⟨k, r, e⟩
  rw [hN] at h1 hle herr
  simp only at h1 hle herr
  have h2 := fun W => number_any (txt r) W (by rw [txt_size]; omega)
  rw [byt_txt] at h2
  obtain ⟨R, hR⟩ : ∃ R, txt r = R := ⟨_, rfl⟩
  rw [hR] at h1 h2
  have H1 := Lib.hid h1
  have H2 := Lib.hid h2
  clear h1 h2 hN
  rcases herr with rfl | he
  · by_cases hb : badKind k = true
    · rw [if_neg (fun h => h rfl), if_pos hb]
      have hk : k = 2 ∨ k = 6 ∨ k = 8 ∨ k = 9 := by unfold badKind at hb; simp at hb; omega
      clear hb hR hle H2
      rcases hk with rfl | rfl | rfl | rfl
      all_goals
        go_enter Try.func16, Try.ntmps16
        go_wp2_with fail
        refine H1.out.mono ?_
        rintro e w1 ⟨rfl, hb1⟩
        have HB := Lib.hid hb1
        clear hb1 H1
        go_wp2_with fail
        exact bodyPost_ret (v := takeV (0, [], [], 2)) (by simp [takeV, results, Try.results16, go_sem, txt]) rfl ⟨rfl, HB.out⟩
    · rw [if_neg (fun h => h rfl), if_neg hb]
      have hk : k ≠ 2 ∧ k ≠ 6 ∧ k ≠ 8 ∧ k ≠ 9 := by unfold badKind at hb; simp at hb; omega
      have d2 : ((k : Int) == 2) = false := by rw [beq_eq_false_iff_ne]; omega
      have d6 : ((k : Int) == 6) = false := by rw [beq_eq_false_iff_ne]; omega
      have d8 : ((k : Int) == 8) = false := by rw [beq_eq_false_iff_ne]; omega
      have d9 : ((k : Int) == 9) = false := by rw [beq_eq_false_iff_ne]; omega
      have hle2 := wnum_le r
      have herr2 := wnum_err r
      unfold wtake2
      rcases hN2 : wnum r with ⟨n, r2, e2⟩
      have h2 := H2.out
      rw [hN2] at h2 hle2 herr2
      simp only at h2 hle2 herr2
      have H2' := Lib.hid h2
      clear H2 h2 hN2 hb hk
      rcases herr2 with rfl | he2
      · rw [if_neg (fun h => h rfl)]
        have hsz : (txt r2).size = r2.length := txt_size _
        have ht := txt_take r2 n
        have hd := txt_drop r2 n r2.length rfl
        obtain ⟨R2, hR2⟩ : ∃ R2, txt r2 = R2 := ⟨_, rfl⟩
        obtain ⟨Z, hZ⟩ : ∃ Z, r2.length = Z := ⟨_, rfl⟩
        have h2 := H2'.out
        rw [hR2] at h2 hsz ht hd
        rw [hZ] at hsz hd hle2
        have H3 := Lib.hid h2
        have hc : IntKind.u64.wrap (Z : Int) = (Z : Int) := IntWalk.u64_in _ (by omega)
        have HT := Lib.hid ht
        have HD := Lib.hid hd
        have HZ := Lib.hid hZ
        have hsz2 : R2.size = Z := hsz
        have hZs : Z ≤ 1000000 := by omega
        clear H2' h2 ht hd hR2 hZ hsz hle2 hle hR
        by_cases hlt : Z < n
        · rw [if_pos (by rw [HZ.out]; exact hlt)]
          have d0 : (Z : Int) < (n : Int) := by omega
          go_enter Try.func16, Try.ntmps16
          go_wp2_with fail
          refine H1.out.mono ?_
          rintro e w1 ⟨rfl, hb1⟩
          have HB1 := Lib.hid hb1
          clear hb1 H1
          go_wp2_with fail
          refine (H3.out _).mono ?_
          rintro e w2 ⟨rfl, hb2⟩
          have HB := Lib.hid (HB1.out.trans (hb2.mono HB1.out.size))
          clear hb2 H3
          go_wp2_with fail
          exact bodyPost_ret (v := takeV (0, [], [], 13)) (by simp [takeV, results, Try.results16, go_sem, txt]) rfl ⟨rfl, HB.out⟩
        · rw [if_neg (by rw [HZ.out]; exact hlt)]
          have d0 : ¬ (Z : Int) < (n : Int) := by omega
          have d0' : decide (Z < n) = false := decide_eq_false hlt
          have d1 : (n : Int) ≤ (Z : Int) := by omega
          have d1' : n ≤ Z := by omega
          go_enter Try.func16, Try.ntmps16
          go_wp2_with fail
          refine H1.out.mono ?_
          rintro e w1 ⟨rfl, hb1⟩
          have HB1 := Lib.hid hb1
          clear hb1 H1
          go_wp2_with fail
          refine (H3.out _).mono ?_
          rintro e w2 ⟨rfl, hb2⟩
          have HB := Lib.hid (HB1.out.trans (hb2.mono HB1.out.size))
          clear hb2 H3
          go_wp2_with fail
          go_quiet (fail)
          go_wp2_with fail
          exact bodyPost_ret (v := takeV (k, r2.take n, r2.drop n, 0)) (by simp [takeV, results, Try.results16, go_sem, HT.out, HD.out]) rfl ⟨rfl, ⟨HB.out.os, HB.out.tape, HB.out.output, HB.out.size, HB.out.block⟩⟩
      · have he3 : e2 ≠ 0 := by omega
        rw [if_pos he3]
        have d0 : (e2 == 0) = false := by rw [beq_eq_false_iff_ne]; exact he3
        have HE : Hid (txt [] = (⟨#[]⟩ : ByteArray)) := Lib.hid rfl
        clear he3 he2 hle hle2 hR
        go_enter Try.func16, Try.ntmps16
        go_wp2_with fail
        refine H1.out.mono ?_
        rintro e w1 ⟨rfl, hb1⟩
        have HB1 := Lib.hid hb1
        clear hb1 H1
        go_wp2_with fail
        refine (H2'.out _).mono ?_
        rintro e w2 ⟨rfl, hb2⟩
        have HB := Lib.hid (HB1.out.trans (hb2.mono HB1.out.size))
        clear hb2 H2'
        go_wp2_with fail
        exact bodyPost_ret (v := takeV (0, [], [], e2)) (by simp [takeV, results, Try.results16, go_sem, txt]) rfl ⟨rfl, HB.out⟩
  · have he3 : e ≠ 0 := by omega
    rw [if_pos he3]
    have d0 : (e == 0) = false := by rw [beq_eq_false_iff_ne]; exact he3
    clear he3 he hle hR H2
    go_enter Try.func16, Try.ntmps16
    go_wp2_with fail
    refine H1.out.mono ?_
    rintro e w1 ⟨rfl, hb1⟩
    have HB := Lib.hid hb1
    clear hb1 H1
    go_wp2_with fail
    exact bodyPost_ret (v := takeV (0, [], [], e)) (by simp [takeV, results, Try.results16, go_sem, txt]) rfl ⟨rfl, HB.out⟩

end Go.Proofs.Ytgnoiheekgmleaa
