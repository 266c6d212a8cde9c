/- space: the reference's Same of frames that tell the same. -/
import Derived.Test.YtmnmpmiocgfalaaSl
namespace Go.Proofs.Ytmnmpmiocgfalaa
open Go.ChangeShapes Go.WideShapes Go.RowKit
set_option linter.unusedVariables false
set_option linter.unusedSimpArgs false

set_option maxRecDepth 100000 in
set_option maxHeartbeats 4000000 in
theorem same03 (f : Frm) (lp2 : Option Addr) (lc2 : Nat) (w : World) (hA : RgAt w f.lp f.rs) (hB : RgAt w lp2 f.rs) (hl : f.rs.length ≤ 1000000) :
    Calls Try.prog 27 #[frmV f, frmV { f with lp := lp2, lc := lc2 }] w fun e w' => e = .returned (.bool true) ∧ Below w.heap.size w w' := by
  obtain ⟨kind, a, b, c, fin, data, more, lp, rs, lc⟩ := f
  unfold frmV
  simp only at hA hB hl ⊢
  obtain ⟨H, hH⟩ : ∃ H, w.heap.size = H := ⟨_, rfl⟩
  have hb1 : Below w.heap.size w (w.alloc (.cells #[.int .u64 (kind : Int), .int .u64 (a : Int), .int .u64 (b : Int), .int .u64 (c : Int), .bool fin, .string data, .string more, .slice lp rs.length lc] 43)) := (Below.refl _ _).alloc (Nat.le_refl _) _
  have hk1 := blk.new w 43 [.int .u64 (kind : Int), .int .u64 (a : Int), .int .u64 (b : Int), .int .u64 (c : Int), .bool fin, .string data, .string more, .slice lp rs.length lc]
  obtain ⟨w1, hw1⟩ : ∃ w1, w.alloc (.cells #[.int .u64 (kind : Int), .int .u64 (a : Int), .int .u64 (b : Int), .int .u64 (c : Int), .bool fin, .string data, .string more, .slice lp rs.length lc] 43) = w1 := ⟨_, rfl⟩
  rw [hw1] at hb1 hk1
  have hs1 : w1.heap.size = H + 1 := by rw [← hw1, ← hH]; simp
  have hb2 : Below w.heap.size w (w1.alloc (.cells #[.int .u64 (kind : Int), .int .u64 (a : Int), .int .u64 (b : Int), .int .u64 (c : Int), .bool fin, .string data, .string more, .slice lp2 rs.length lc2] 43)) := hb1.alloc hb1.size _
  have hk2 := hk1.alloc (.cells #[.int .u64 (kind : Int), .int .u64 (a : Int), .int .u64 (b : Int), .int .u64 (c : Int), .bool fin, .string data, .string more, .slice lp2 rs.length lc2] 43)
  have hj2 := blk.new w1 43 [.int .u64 (kind : Int), .int .u64 (a : Int), .int .u64 (b : Int), .int .u64 (c : Int), .bool fin, .string data, .string more, .slice lp2 rs.length lc2]
  obtain ⟨w2, hw2⟩ : ∃ w2, w1.alloc (.cells #[.int .u64 (kind : Int), .int .u64 (a : Int), .int .u64 (b : Int), .int .u64 (c : Int), .bool fin, .string data, .string more, .slice lp2 rs.length lc2] 43) = w2 := ⟨_, rfl⟩
  rw [hw2] at hb2 hk2 hj2
  rw [hH] at hk2
  rw [hs1] at hj2
  have HA := Lib.hid (hA.below hb2)
  have HB := Lib.hid (hB.below hb2)
  have Hb2 := Lib.hid hb2
  have HK := Lib.hid hk2
  have HJ := Lib.hid hj2
  obtain ⟨n, hn⟩ : ∃ n, rs.length = n := ⟨_, rfl⟩
  rw [hn] at hw1 hw2 hl hk2 hj2 ⊢
  have HN := Lib.hid hn
  have x0 := hk2.cell (k := 0) rfl
  have x1 := hk2.cell (k := 1) rfl
  have x2 := hk2.cell (k := 2) rfl
  have x3 := hk2.cell (k := 3) rfl
  have x4 := hk2.cell (k := 4) rfl
  have x5 := hk2.cell (k := 5) rfl
  have x6 := hk2.cell (k := 6) rfl
  have x7 := hk2.cell (k := 7) rfl
  have y0 := hj2.cell (k := 0) rfl
  have y1 := hj2.cell (k := 1) rfl
  have y2 := hj2.cell (k := 2) rfl
  have y3 := hj2.cell (k := 3) rfl
  have y4 := hj2.cell (k := 4) rfl
  have y5 := hj2.cell (k := 5) rfl
  have y6 := hj2.cell (k := 6) rfl
  have y7 := hj2.cell (k := 7) rfl
  have HH := Lib.hid hH
  clear hA hB hb1 hk1 hb2 hk2 hj2 hn
  go_enter Try.func27, Try.ntmps27
  go_wp2_with fail
  clear hw1 hw2 hs1 hH
  go_loopw [5] (fun v5 wr => ∃ j : Nat, j ≤ n ∧ v5 = .int .i64 j ∧ Below w2.heap.size w2 wr) (fun v5 _ => n - (intOf v5).toNat)
  case atStart => exact ⟨0, by omega, rfl, Below.refl _ _⟩
  case round =>
    obtain ⟨j, hj, rfl, hbw⟩ := hrel
    have l1 := HK.out.lt
    have l2 := HJ.out.lt
    have z7 := (hbw.cell (p := ⟨H, 7, none⟩) l1).trans x7
    have u7 := (hbw.cell (p := ⟨H + 1, 7, none⟩) l2).trans y7
    have Hb := Lib.hid hbw
    by_cases hlt : j < n
    · obtain ⟨⟨a1, a2⟩, ha⟩ : ∃ r, rs[j]? = some r := ⟨_, List.getElem?_eq_getElem (by rw [HN.out]; exact hlt)⟩
      obtain ⟨g, o, rfl, hg, hc⟩ := HA.out (by rw [HN.out]; omega)
      obtain ⟨g', o', rfl, hg', hc'⟩ := HB.out (by rw [HN.out]; omega)
      have c0 := (hbw.cell (p := ⟨g, o + j * 2, none⟩) hg).trans (hc j _ ha).1
      have c1 := (hbw.cell (p := ⟨g, o + j * 2 + 1, none⟩) hg).trans (hc j _ ha).2
      have d0 := (hbw.cell (p := ⟨g', o' + j * 2, none⟩) hg').trans (hc' j _ ha).1
      have d1 := (hbw.cell (p := ⟨g', o' + j * 2 + 1, none⟩) hg').trans (hc' j _ ha).2
      have f1 : ((a1 : Int) == (a1 : Int)) = true := by simp
      have f2 : ((a2 : Int) == (a2 : Int)) = true := by simp
      simp only at c0 c1 d0 d1
      clear hc hc' hbw ha x0 x1 x2 x3 x4 x5 x6 x7 y0 y1 y2 y3 y4 y5 y6 y7 HA HB
      go_wp2_with fail
      go_quiet (fail)
      go_wp2_with fail
      go_roundw
      case rel => exact ⟨j + 1, by omega, by go_num, ⟨Hb.out.os, Hb.out.tape, Hb.out.output, Hb.out.size, Hb.out.block⟩⟩
      case measure => simp [intOf]; omega
    · have hj5 : ¬ (j : Int) < (n : Int) := by omega
      have k1 := HK.out.below hbw l1
      have k2 := HJ.out.below hbw l2
      clear x0 x1 x2 x3 x4 x5 x6 x7 y0 y1 y2 y3 y4 y5 y6 y7 z7 u7
      have x0 := k1.cell (k := 0) rfl
      have x1 := k1.cell (k := 1) rfl
      have x2 := k1.cell (k := 2) rfl
      have x3 := k1.cell (k := 3) rfl
      have x4 := k1.cell (k := 4) rfl
      have x5 := k1.cell (k := 5) rfl
      have x6 := k1.cell (k := 6) rfl
      have x7 := k1.cell (k := 7) rfl
      have y0 := k2.cell (k := 0) rfl
      have y1 := k2.cell (k := 1) rfl
      have y2 := k2.cell (k := 2) rfl
      have y3 := k2.cell (k := 3) rfl
      have y4 := k2.cell (k := 4) rfl
      have y5 := k2.cell (k := 5) rfl
      have y6 := k2.cell (k := 6) rfl
      have y7 := k2.cell (k := 7) rfl
      rw [HN.out] at x7 y7
      clear hbw k1 k2 HA HB
      go_wp2_with fail
      go_ret
      exact ⟨rfl, Hb2.out.trans (Hb.out.mono Hb2.out.size)⟩

end Go.Proofs.Ytmnmpmiocgfalaa
