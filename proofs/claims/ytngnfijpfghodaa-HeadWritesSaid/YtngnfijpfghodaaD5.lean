/- The law HeadWrites, walked. -/
import Derived.Test.YtngnfijpfghodaaDs
namespace Go.Proofs.Ytngnfijpfghodaa
open Go.ChangeShapes Go.WideShapes Go.RowKit
set_option linter.unusedVariables false

theorem s8_any {w x x' : World} {b n : Nat} {v0 v1 v2 v3 v4 v5 v6 : Value} (hb : Below n x x') (h : Below w.heap.size w x ∧ x.cell? ⟨b, 0, none⟩ = some v0 ∧ x.cell? ⟨b, 1, none⟩ = some v1 ∧ x.cell? ⟨b, 2, none⟩ = some v2 ∧ x.cell? ⟨b, 3, none⟩ = some v3 ∧ x.cell? ⟨b, 4, none⟩ = some v4 ∧ x.cell? ⟨b, 5, none⟩ = some v5 ∧ x.cell? ⟨b, 6, none⟩ = some v6) (hn : n = x.heap.size) :
    Below w.heap.size w x' ∧ x'.cell? ⟨b, 0, none⟩ = some v0 ∧ x'.cell? ⟨b, 1, none⟩ = some v1 ∧ x'.cell? ⟨b, 2, none⟩ = some v2 ∧ x'.cell? ⟨b, 3, none⟩ = some v3 ∧ x'.cell? ⟨b, 4, none⟩ = some v4 ∧ x'.cell? ⟨b, 5, none⟩ = some v5 ∧ x'.cell? ⟨b, 6, none⟩ = some v6 := by
  subst hn
  obtain ⟨h1, k0, k1, k2, k3, k4, k5, k6⟩ := h
  have hl := World.block_lt_of_cell? _ _ k0
  exact ⟨h1.trans (hb.mono h1.size), (hb.cell (p := ⟨b, 0, none⟩) hl).trans k0, (hb.cell (p := ⟨b, 1, none⟩) hl).trans k1, (hb.cell (p := ⟨b, 2, none⟩) hl).trans k2, (hb.cell (p := ⟨b, 3, none⟩) hl).trans k3, (hb.cell (p := ⟨b, 4, none⟩) hl).trans k4, (hb.cell (p := ⟨b, 5, none⟩) hl).trans k5, (hb.cell (p := ⟨b, 6, none⟩) hl).trans k6⟩

set_option maxRecDepth 100000 in
set_option maxHeartbeats 1000000 in
theorem writes_far (ty : Int) (ds ss : ByteArray) (num : Nat) (bytes size : Int) (spin : Bool) (w : World) (h : (2048 : Int) < (ds.size : Int) ∨ (2048 : Int) < (ss.size : Int)) :
    Calls Try.prog 3 #[.agg #[.int .i64 ty, .string ds, .string ss, .int .u64 (num : Int), .int .i64 bytes, .int .i64 size, .bool spin]] w fun e w' => e = .returned (.bool true) ∧ Below w.heap.size w w' := by
  by_cases h1 : (2048 : Int) < (ds.size : Int)
  · have d1 : decide ((2048 : Int) < (ds.size : Int)) = true := by simpa using h1
    clear h h1
    go_enter Try.func3, Try.ntmps3
    go_wp2_with fail
    refine (awake_any _).mono ?_
    rintro e w1 ⟨rfl, b1⟩
    obtain ⟨B1, G1⟩ := box_below (L := [_, _, _, _, _, _, _]) b1
    obtain ⟨c0, c1, c2, c3, c4, c5, c6⟩ := hd_cells G1
    have HB := Lib.hid B1
    clear b1 B1 G1
    go_wp2_with fail
    go_ret
    exact ⟨rfl, HB.out⟩
  · have h2 : (2048 : Int) < (ss.size : Int) := by rcases h with h | h; exact absurd h h1; exact h
    have d1 : decide ((2048 : Int) < (ds.size : Int)) = false := by simpa using h1
    have d2 : decide ((2048 : Int) < (ss.size : Int)) = true := by simpa using h2
    clear h h1 h2
    go_enter Try.func3, Try.ntmps3
    go_wp2_with fail
    refine (awake_any _).mono ?_
    rintro e w1 ⟨rfl, b1⟩
    obtain ⟨B1, G1⟩ := box_below (L := [_, _, _, _, _, _, _]) b1
    obtain ⟨c0, c1, c2, c3, c4, c5, c6⟩ := hd_cells G1
    have HB := Lib.hid B1
    clear b1 B1 G1
    go_wp2_with fail
    go_ret
    exact ⟨rfl, HB.out⟩

set_option maxRecDepth 100000 in
set_option maxHeartbeats 8000000 in
theorem writes_near (h : Hd) (w : World) (h1 : h.dst.length ≤ 2048) (h2 : h.src.length ≤ 2048) :
    Calls Try.prog 3 #[h.v] w fun e w' => e = .returned (.bool true) ∧ Below w.heap.size w w' := by
  have hW := fun w => Write_any h w
  have hR := fun w => rWrite_any h w
  have hM := fun w => May_any h w
  have hN := fun w => rMay_any h w
  obtain ⟨ty, dst, src, num, bytes, size, spin⟩ := h
  simp only at h1 h2
  have d1 : decide ((2048 : Int) < ((txt dst).size : Int)) = false := by rw [txt_size, decide_eq_false_iff_not]; omega
  have d2 : decide ((2048 : Int) < ((txt src).size : Int)) = false := by rw [txt_size, decide_eq_false_iff_not]; omega
  generalize mayF ⟨ty, dst, src, num, bytes, size, spin⟩ = m at *
  generalize writeF ⟨ty, dst, src, num, bytes, size, spin⟩ = q at *
  obtain ⟨l, E⟩ := q
  unfold Hd.v at hW hR hM hN ⊢
  simp only at hW hR hM hN ⊢
  generalize txt dst = ds at *
  generalize txt src = ss at *
  generalize txt l = s at *
  have hs : (s.toList == s.toList) = true := beq_self_eq_true _
  have hE : (E == E) = true := beq_self_eq_true _
  have HW := Lib.hid hW
  have HR := Lib.hid hR
  have HM := Lib.hid hM
  have HN := Lib.hid hN
  clear hW hR hM hN h1 h2
  go_enter Try.func3, Try.ntmps3
  go_wp2_with fail
  refine (awake_any _).mono ?_
  rintro e w1 ⟨rfl, b1⟩
  obtain ⟨B1, G1⟩ := box_below (L := [_, _, _, _, _, _, _]) b1
  obtain ⟨c0, c1, c2, c3, c4, c5, c6⟩ := hd_cells G1
  have HB1 := Lib.hid B1
  have HG1 := Lib.hid G1
  clear b1 B1 G1
  go_wp2_with fail
  refine (HW.out _).mono ?_
  rintro e w2 ⟨rfl, bb⟩
  have HB2 := Lib.hid (HB1.out.trans (bb.mono HB1.out.size))
  have HG2 := Lib.hid (HG1.out.below bb HG1.out.lt)
  clear c0 c1 c2 c3 c4 c5 c6 bb HB1 HG1
  obtain ⟨c0, c1, c2, c3, c4, c5, c6⟩ := hd_cells HG2.out
  go_wp2_with fail
  refine (HR.out _).mono ?_
  rintro e w3 ⟨rfl, bb⟩
  have HB3 := Lib.hid (HB2.out.trans (bb.mono HB2.out.size))
  have HG3 := Lib.hid (HG2.out.below bb HG2.out.lt)
  clear c0 c1 c2 c3 c4 c5 c6 bb HB2 HG2
  obtain ⟨c0, c1, c2, c3, c4, c5, c6⟩ := hd_cells HG3.out
  go_wp2_with fail
  have hS0 : Below w.heap.size w w3.drew ∧ w3.drew.cell? ⟨w.heap.size, 0, none⟩ = some (.int .i64 ty) ∧ w3.drew.cell? ⟨w.heap.size, 1, none⟩ = some (.string ds) ∧ w3.drew.cell? ⟨w.heap.size, 2, none⟩ = some (.string ss) ∧ w3.drew.cell? ⟨w.heap.size, 3, none⟩ = some (.int .u64 (num : Int)) ∧ w3.drew.cell? ⟨w.heap.size, 4, none⟩ = some (.int .i64 bytes) ∧ w3.drew.cell? ⟨w.heap.size, 5, none⟩ = some (.int .i64 size) ∧ w3.drew.cell? ⟨w.heap.size, 6, none⟩ = some (.bool spin) := ⟨HB3.out.drew, c0, c1, c2, c3, c4, c5, c6⟩
  clear c0 c1 c2 c3 c4 c5 c6 HW HR
  go_region_held3 (fun w' => Below w.heap.size w w' ∧ w'.cell? ⟨w.heap.size, 0, none⟩ = some (.int .i64 ty) ∧ w'.cell? ⟨w.heap.size, 1, none⟩ = some (.string ds) ∧ w'.cell? ⟨w.heap.size, 2, none⟩ = some (.string ss) ∧ w'.cell? ⟨w.heap.size, 3, none⟩ = some (.int .u64 (num : Int)) ∧ w'.cell? ⟨w.heap.size, 4, none⟩ = some (.int .i64 bytes) ∧ w'.cell? ⟨w.heap.size, 5, none⟩ = some (.int .i64 size) ∧ w'.cell? ⟨w.heap.size, 6, none⟩ = some (.bool spin))
    (first | assumption | (apply s8_any; assumption; assumption; rfl))
    (first | (go_at_call 11; refine (HM.out _).mono ?_; rintro e x4 ⟨rfl, b4⟩) | (go_at_call 12; refine (HN.out _).mono ?_; rintro e x5 ⟨rfl, b5⟩))
  all_goals
    have hS := ‹Below w.heap.size w _ ∧ _›
    have HS := Lib.hid hS.1
    go_wp2_with fail
    go_ret
    exact ⟨rfl, HS.out⟩

theorem writes_walk (h : Hd) (w : World) : Calls Try.prog 3 #[h.v] w fun e w' => e = .returned (.bool true) ∧ Below w.heap.size w w' := by
  by_cases h1 : h.dst.length ≤ 2048 ∧ h.src.length ≤ 2048
  · exact writes_near h w h1.1 h1.2
  · exact writes_far h.ty (txt h.dst) (txt h.src) h.num h.bytes h.size h.spin w (by rw [txt_size, txt_size]; omega)

end Go.Proofs.Ytngnfijpfghodaa
