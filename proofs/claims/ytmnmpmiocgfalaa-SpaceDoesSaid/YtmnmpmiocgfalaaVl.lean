/- space: the reference's Ack. -/
import Derived.Test.YtmnmpmiocgfalaaVk
namespace Go.Proofs.Ytmnmpmiocgfalaa
open Go.ChangeShapes Go.WideShapes Go.RowKit
set_option linter.unusedVariables false
set_option linter.unusedSimpArgs false

/-- The reference's Ack's end. -/
def RAckEnd (B b bl : Nat) (v u : Value) (s : Sp) (now : Nat) (w : World) (e : Ending) (w' : World) : Prop :=
  (s.R = [] ∧ e = .returned (.tuple #[.agg #[.int .u64 0, .int .u64 0, .int .u64 0, .int .u64 0, .bool false, .string ⟨#[]⟩, .string ⟨#[]⟩, .slice none 0 0], .bool false]) ∧ Below w.heap.size w w') ∨
  (0 < s.R.length ∧ ∃ p cap, e = .returned (.tuple #[.agg #[.int .u64 2, .int .u64 (sinceF s.when now : Int), .int .u64 0, .int .u64 0, .bool false, .string ⟨#[]⟩, .string ⟨#[]⟩, .slice p (min 32 s.R.length) cap], .bool true]) ∧
    w'.ownsRow w.heap.size 47 2 (.slice p (min 32 s.R.length) cap) (min 32 s.R.length) (rgs (s.R.take (min 32 s.R.length))) ∧ RsTo B b bl v u w { s with must := false } v u w')

set_option maxRecDepth 100000 in
set_option maxHeartbeats 4000000 in
theorem rAck15 (B b bl : Nat) (v u : Value) (s : Sp) (w : World) (now : Nat) (h : RsIs B b bl v u s w) (hnow : now < 2 ^ 64) :
    Calls Try.prog 26 #[.pointer (some ⟨b, 0, none⟩), .int .u64 (now : Int)] w (RAckEnd B b bl v u s now w) := by
  have hb := h.lt
  obtain ⟨w0, hw0⟩ : ∃ w0, w.alloc (.cells #[.int .u64 0, .int .u64 0, .int .u64 0, .int .u64 0, .bool false, .string ⟨#[]⟩, .string ⟨#[]⟩, .slice none 0 0] 43) = w0 := ⟨_, rfl⟩
  have hb0 : Below w.heap.size w w0 := by rw [← hw0]; exact (Below.refl _ _).alloc (Nat.le_refl _) _
  have hk0 : blk w0 w.heap.size 43 [.int .u64 0, .int .u64 0, .int .u64 0, .int .u64 0, .bool false, .string ⟨#[]⟩, .string ⟨#[]⟩, .slice none 0 0] := by rw [← hw0]; exact blk.new w _ _
  obtain ⟨pu, cu, hu, -⟩ := own_shape h.set
  subst hu
  have HB0 := Lib.hid hb0
  have H0 := Lib.hid (h.next hb0)
  have HK := Lib.hid hk0
  have c2 : w0.cell? ⟨b, 2, none⟩ = some (.slice pu s.R.length cu) := H0.out.at_.cell (k := 2) rfl
  have hbl0 := H0.out.lt
  obtain ⟨M, hM⟩ : ∃ M, s.R.length = M := ⟨_, rfl⟩
  unfold RAckEnd
  have HH := Lib.hid h
  have HM := Lib.hid hM
  rw [hM] at c2
  have HSi := fun w => Lib.hid (ago_any s.when now w h.wh hnow)
  have hkl := hk0.lt
  rcases Nat.eq_zero_or_pos M with rfl | hpos
  · have HRR := Lib.hid (List.eq_nil_of_length_eq_zero hM)
    have k0 := hk0.cell (k := 0) rfl
    have k1 := hk0.cell (k := 1) rfl
    have k2 := hk0.cell (k := 2) rfl
    have k3 := hk0.cell (k := 3) rfl
    have k4 := hk0.cell (k := 4) rfl
    have k5 := hk0.cell (k := 5) rfl
    have k6 := hk0.cell (k := 6) rfl
    have k7 := hk0.cell (k := 7) rfl
    have g0 := hk0.free 0
    have g1 := hk0.free 1
    have g2 := hk0.free 2
    have g3 := hk0.free 3
    have g4 := hk0.free 4
    have g5 := hk0.free 5
    have g6 := hk0.free 6
    have g7 := hk0.free 7
    clear h hb0 hk0 hM
    go_enter Try.func26, Try.ntmps26
    go_wp2_with fail
    refine bodyPost_ret (v := .tuple #[.agg #[.int .u64 0, .int .u64 0, .int .u64 0, .int .u64 0, .bool false, .string ⟨#[]⟩, .string ⟨#[]⟩, .slice none 0 0], .bool false]) (by simp [results, Try.results26, go_sem, k0, k1, k2, k3, k4, k5, k6, k7]) rfl (.inl ⟨HRR.out, rfl, ?_⟩)
    repeat (with_reducible refine Below.setCell ?_ (by simp) _)
    exact HB0.out
  · have hne : b ≠ w.heap.size := by omega
    have hn0 : ((M : Int) == 0) = false := by rw [beq_eq_false_iff_ne]; omega
    have c4 : w0.cell? ⟨b, 4, none⟩ = some (.bool s.must) := H0.out.at_.cell (k := 4) rfl
    have f4 : w0.frozen? ⟨b, 4, none⟩ = false := H0.out.at_.free 4
    obtain ⟨w1, hw1⟩ : ∃ w1, w0.setCell ⟨b, 4, none⟩ (.bool false) = w1 := ⟨_, rfl⟩
    have hT1 : RsTo B b bl v (.slice pu M cu) w { s with must := false } v (.slice pu M cu) w1 := by
      rw [← hw1]
      have := HM.out
      rw [this] at H0
      exact RsTo.ahead HB0.out ((RsTo.same H0.out (Below.refl _ _)).cells 4 (.bool false) rfl rfl rfl rfl HH.out.wh)
    have hk1 : blk w1 w.heap.size 43 [.int .u64 0, .int .u64 0, .int .u64 0, .int .u64 0, .bool false, .string ⟨#[]⟩, .string ⟨#[]⟩, .slice none 0 0] := by rw [← hw1]; exact hk0.set_other (p := ⟨b, 4, none⟩) hne _
    have HT1 := Lib.hid hT1
    have HK1 := Lib.hid hk1
    have d3 : w1.cell? ⟨b, 3, none⟩ = some (.int .u64 (s.when : Int)) := hT1.is.at_.cell (k := 3) rfl
    have hbl1 := hT1.is.lt
    have hs1 : w.heap.size ≤ w1.heap.size := hT1.on.size
    have HTop := Lib.hid (fun y (hy : Below w1.heap.size w1 y) => rtop_ok b B (.slice pu M cu) s.R y 32 (hT1.is.next hy).ris (by have := h.len; omega) (by decide))
    have hN32 : topN 32 s.R.length = min 32 s.R.length := rfl
    rw [hN32] at HTop
    obtain ⟨N, hN⟩ : ∃ N, min 32 s.R.length = N := ⟨_, rfl⟩
    rw [hN] at HTop ⊢
    clear h hb0 hk0 hM hT1 hk1 HB0 H0 HK hN32 hN
    go_enter Try.func26, Try.ntmps26
    go_wp2_with fail
    go_region_with
      (first
        | (go_at_call 64; refine (HSi _).out.mono ?_; rintro e w2 ⟨rfl, hw2⟩; subst hw2)
        | (go_at_call 65; refine (HTop.out _ (Below.refl _ _).drew).mono ?_; rintro e w3 ⟨vl, rfl, ho, hb3⟩; (obtain ⟨p, cap, hvl, -⟩ := own_shape ho); subst hvl; (have hk3 := HK1.out.below ((Below.refl _ _).drew.trans hb3) (Nat.lt_of_lt_of_le hkl (by rw [← hw1]; simp))); (have k0 := hk3.cell (k := 0) rfl); (have k1 := hk3.cell (k := 1) rfl); (have k2 := hk3.cell (k := 2) rfl); (have k3 := hk3.cell (k := 3) rfl); (have k4 := hk3.cell (k := 4) rfl); (have k5 := hk3.cell (k := 5) rfl); (have k6 := hk3.cell (k := 6) rfl); (have k7 := hk3.cell (k := 7) rfl); (have g0 := hk3.free 0); (have g1 := hk3.free 1); (have g2 := hk3.free 2); (have g3 := hk3.free 3); (have g4 := hk3.free 4); (have g5 := hk3.free 5); (have g6 := hk3.free 6); (have g7 := hk3.free 7); (have HHK := Lib.hid hk3); (have HO := Lib.hid ho); (have HT3 := Lib.hid (HT1.out.then ((Below.refl _ _).drew.trans hb3))); (have d3' : w3.cell? ⟨b, 3, none⟩ = some (.int .u64 (s.when : Int)) := HT3.out.is.at_.cell (k := 3) rfl); (have D3 := Lib.hid d3'); clear ho hb3 hk3))
    all_goals
      have hon : ∀ y, Only (fun k => k = w.heap.size) w3 y → y.ownsRow w.heap.size 47 2 (.slice p N cap) N (rgs (s.R.take N)) ∧ RsTo B b bl v (.slice pu M cu) w { s with must := false } v (.slice pu M cu) y := by
        intro y hy
        refine ⟨own_only (own_base HO.out hs1) hy (fun k hk e => own_ne HO.out HHK.out (by decide) (by rw [hk, e])), HT3.out.is.only hy hne ?_ (fun k hk e => own_ne HT3.out.is.led.own HHK.out (by decide) (by rw [hk, e])) (fun k hk e => own_ne HT3.out.is.set HHK.out (by decide) (by rw [hk, e])), ?_, .inl rfl, .inl rfl⟩
        · intro e
          have := HH.out.led.led.lt
          omega
        · exact HT3.out.on.then hy (fun i hi => .inr (by rw [hi]; exact Nat.le_refl _))
      have HON := Lib.hid hon
      clear hon
      have hfin : ∀ y, Only (fun k => k = w.heap.size) w3 y → y.ownsRow w.heap.size 47 2 (.slice p N cap) N (rgs (s.R.take N)) ∧ RsTo B b bl v (.slice pu s.R.length cu) w { s with must := false } v (.slice pu s.R.length cu) y := fun y hy => by have := HON.out y hy; rw [HM.out]; exact this
      go_wp2_with fail
      refine bodyPost_ret (v := .tuple #[.agg #[.int .u64 2, .int .u64 (sinceF s.when now : Int), .int .u64 0, .int .u64 0, .bool false, .string ⟨#[]⟩, .string ⟨#[]⟩, .slice p N cap], .bool true]) (by simp [results, Try.results26, go_sem, k0, k1, k2, k3, k4, k5, k6, k7, hne, Ne.symm hne]) rfl (.inr ⟨by have := HM.out; omega, p, cap, rfl, hfin _ ?_⟩)
      repeat (with_reducible refine Only.setCell ?_ (.inl (by rfl)) _)
      exact Only.refl _ _

end Go.Proofs.Ytmnmpmiocgfalaa
