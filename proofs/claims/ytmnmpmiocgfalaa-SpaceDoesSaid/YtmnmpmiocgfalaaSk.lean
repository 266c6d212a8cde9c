/- space: Ack. -/
import Derived.Test.YtmnmpmiocgfalaaSj
namespace Go.Proofs.Ytmnmpmiocgfalaa
open Go.ChangeShapes Go.WideShapes Go.RowKit
set_option linter.unusedVariables false
set_option linter.unusedSimpArgs false

/-- What Ack comes to. -/
def AckSpEnd (B b : Nat) (v u : Value) (s : Sp) (now : Nat) (w : World) (e : Ending) (w' : World) : Prop :=
  (s.R = [] ∧ e = .returned (.tuple #[.agg #[.int .u64 0, .int .u64 0, .int .u64 0, .int .u64 0, .bool false, .string ⟨#[]⟩, .string ⟨#[]⟩, .slice none 0 0], .bool false]) ∧ Below w.heap.size w w') ∨
  (0 < s.R.length ∧ ∃ p cap, e = .returned (.tuple #[.agg #[.int .u64 2, .int .u64 (sinceF s.when now : Int), .int .u64 0, .int .u64 0, .bool false, .string ⟨#[]⟩, .string ⟨#[]⟩, .slice p (min 32 s.R.length) cap], .bool true]) ∧
    w'.ownsRow w.heap.size 47 2 (.slice p (min 32 s.R.length) cap) (min 32 s.R.length) (rgs (s.R.take (min 32 s.R.length))) ∧ SpTo B b v u w { s with must := false } v u w')

set_option maxRecDepth 100000 in
set_option maxHeartbeats 2000000 in
theorem Ack_sp (B b : Nat) (v u : Value) (s : Sp) (w : World) (now : Nat) (h : SpIs B b v u s w) (hnow : now < 2 ^ 64) :
    Calls Try.prog 12 #[.pointer (some ⟨b, 0, none⟩), .int .u64 (now : Int)] w (AckSpEnd B b v u s now w) := by
  have hb := h.lt
  have hb0 : Below w.heap.size w (w.alloc (.cells #[.int .u64 0, .int .u64 0, .int .u64 0, .int .u64 0, .bool false, .string ⟨#[]⟩, .string ⟨#[]⟩, .slice none 0 0] 43)) := (Below.refl _ _).alloc (Nat.le_refl _) _
  have HB0 := Lib.hid hb0
  have H0 := Lib.hid (h.next hb0)
  have HK := Lib.hid (blk.new w 43 [.int .u64 0, .int .u64 0, .int .u64 0, .int .u64 0, .bool false, .string ⟨#[]⟩, .string ⟨#[]⟩, .slice none 0 0])
  have HT := Lib.hid (top_ok b B u s.R _ 32 H0.out.setIs (by have := h.len; omega) (by decide))
  have hN32 : topN 32 s.R.length = min 32 s.R.length := rfl
  rw [hN32] at HT
  obtain ⟨N, hN⟩ : ∃ N, min 32 s.R.length = N := ⟨_, rfl⟩
  unfold AckSpEnd
  rw [hN] at HT ⊢
  have hNl : N ≤ 32 := by omega
  have HN := Lib.hid hN
  have HSi := fun w => Lib.hid (since_any s.when now w h.wh hnow)
  have HH := Lib.hid h
  clear h hb0 hN hN32
  go_enter Try.func12, Try.ntmps12
  go_wp2_with fail
  refine HT.out.mono ?_
  rintro e w1 ⟨vl, rfl, ho, hb1⟩
  obtain ⟨p, cap, rfl, -⟩ := own_shape ho
  have hk := HK.out.below hb1 (by simp)
  have H1 := Lib.hid (H0.out.next hb1)
  have HB1 := Lib.hid (HB0.out.trans (hb1.mono (by simp)))
  rcases Nat.eq_zero_or_pos N with rfl | hpos
  · have hR : s.R = [] := by
      have := HN.out
      exact List.eq_nil_of_length_eq_zero (by omega)
    have HRR := Lib.hid hR
    have hkl := hk.lt
    have k0 := hk.cell (k := 0) rfl
    have k1 := hk.cell (k := 1) rfl
    have k2 := hk.cell (k := 2) rfl
    have k3 := hk.cell (k := 3) rfl
    have k4 := hk.cell (k := 4) rfl
    have k5 := hk.cell (k := 5) rfl
    have k6 := hk.cell (k := 6) rfl
    have k7 := hk.cell (k := 7) rfl
    have g0 := hk.free 0
    have g1 := hk.free 1
    have g2 := hk.free 2
    have g3 := hk.free 3
    have g4 := hk.free 4
    have g5 := hk.free 5
    have g6 := hk.free 6
    have g7 := hk.free 7
    clear ho hb1 hR hk HK
    go_wp2_with fail
    refine bodyPost_ret (v := .tuple #[.agg #[.int .u64 0, .int .u64 0, .int .u64 0, .int .u64 0, .bool false, .string ⟨#[]⟩, .string ⟨#[]⟩, .slice none 0 0], .bool false]) (by simp [results, Try.results12, go_sem, k0, k1, k2, k3, k4, k5, k6, k7]) rfl (.inl ⟨HRR.out, rfl, ?_⟩)
    repeat (with_reducible refine Below.setCell ?_ (by simp) _)
    exact HB1.out
  · have c8 : w1.cell? ⟨b, 8, none⟩ = some (.bool s.must) := H1.out.led.led.cell (k := 8) rfl
    have f8 : w1.frozen? ⟨b, 8, none⟩ = false := H1.out.led.led.free 8
    have c7 : w1.cell? ⟨b, 7, none⟩ = some (.int .u64 (s.when : Int)) := H1.out.led.led.cell (k := 7) rfl
    have hb1l := H1.out.lt
    have HC8 := Lib.hid (H1.out.cell (s' := { s with must := false }) 8 (.bool false) rfl rfl rfl HH.out.wh)
    have hkl := hk.lt
    have hne : b ≠ w.heap.size := by omega
    have k0 := hk.cell (k := 0) rfl
    have k1 := hk.cell (k := 1) rfl
    have k2 := hk.cell (k := 2) rfl
    have k3 := hk.cell (k := 3) rfl
    have k4 := hk.cell (k := 4) rfl
    have k5 := hk.cell (k := 5) rfl
    have k6 := hk.cell (k := 6) rfl
    have k7 := hk.cell (k := 7) rfl
    have g0 := hk.free 0
    have g1 := hk.free 1
    have g2 := hk.free 2
    have g3 := hk.free 3
    have g4 := hk.free 4
    have g5 := hk.free 5
    have g6 := hk.free 6
    have g7 := hk.free 7
    have HHK := Lib.hid hk
    have HO := Lib.hid ho
    have hn0 : ((N : Int) == 0) = false := by rw [beq_eq_false_iff_ne]; omega
    clear ho hb1 hk HK HB0 H0
    go_wp2_with fail
    refine (HSi _).out.mono ?_
    rintro e w2 ⟨rfl, hw2⟩
    subst hw2
    go_wp2_with fail
    have hon : ∀ y, Only (fun k => k = w.heap.size) (w1.setCell ⟨b, 8, none⟩ (.bool false)) y → y.ownsRow w.heap.size 47 2 (.slice p N cap) N (rgs (s.R.take N)) ∧ SpTo B b v u w { s with must := false } v u y := by
      intro y hy
      have hk8 := HHK.out.set_other (p := ⟨b, 8, none⟩) (by simpa using hne) (.bool false)
      have ho8 := ownsRow_setCell_other (a := ⟨b, 8, none⟩) HO.out (own_ne HO.out H1.out.led.led (by decide)) (.bool false)
      refine ⟨own_only (own_base ho8 (by simp)) hy (fun k hk e => own_ne ho8 hk8 (by decide) (by rw [hk, e])), ?_, ?_, .inl rfl, .inl rfl⟩
      · exact HC8.out.is.only hy hne (fun k hk e => own_ne HC8.out.is.led.own hk8 (by decide) (by rw [hk, e])) (fun k hk e => own_ne HC8.out.is.set hk8 (by decide) (by rw [hk, e]))
      · exact ((Only.ofBelow HB1.out).then HC8.out.on (fun i hi => .inl hi)).then hy (fun i hi => .inr (by rw [hi]; exact Nat.le_refl _))
    have HON := Lib.hid hon
    clear hon
    have hfin := fun y hy => HON.out y hy
    refine bodyPost_ret (v := .tuple #[.agg #[.int .u64 2, .int .u64 (sinceF s.when now : Int), .int .u64 0, .int .u64 0, .bool false, .string ⟨#[]⟩, .string ⟨#[]⟩, .slice p N cap], .bool true]) (by simp [results, Try.results12, go_sem, k0, k1, k2, k3, k4, k5, k6, k7, hne, Ne.symm hne]) rfl (.inr ⟨by have := HN.out; omega, p, cap, rfl, hfin _ ?_⟩)
    repeat (with_reducible refine Only.setCell ?_ (.inl (by rfl)) _)
    exact Only.refl _ _

/-- The closure that Take makes. -/
theorem take1_fn (tb top : Nat) (q : Pk) (w : World) (hb : tb < w.heap.size) (hc : w.cell? ⟨tb, 0, none⟩ = some (.int .u64 (top : Int))) :
    Calls Try.prog 54 (#[pkV q] ++ #[.pointer (some ⟨tb, 0, none⟩)]) w fun e w' => e = .returned (.bool (decide (q.num = top))) ∧ Below w.heap.size w w' := by
  obtain ⟨num, time, size, asks, fa, fl, fc⟩ := q
  unfold pkV
  simp only
  go_enter Try.func54, Try.ntmps54
  go_wp2_with fail
  go_ret
  refine ⟨ret_bool ?_, (Below.refl _ _).alloc (Nat.le_refl _) _⟩
  rw [Bool.eq_iff_iff]
  simp only [beq_iff_eq, decide_eq_true_eq]
  omega

end Go.Proofs.Ytmnmpmiocgfalaa
