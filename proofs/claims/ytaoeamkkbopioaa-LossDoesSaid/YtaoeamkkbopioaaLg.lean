/- Contracts of Lost and Due. -/
import Derived.Test.YtaoeamkkbopioaaLf
namespace Go.Proofs.Ytaoeamkkbopioaa
open Go.ChangeShapes Go.WideShapes Go.RowKit
set_option linter.unusedVariables false

def lostP (bi : Bool) (bn now wait : Nat) (p : Pk) : Bool := farF bi bn p.num || (behindF bi bn p.num && decide (p.time ≤ now) && decide (wait ≤ now - p.time))

theorem u64_sub (a b : Nat) (h : b ≤ a) (ha : a < 2 ^ 64) : IntKind.u64.wrap ((a : Int) - (b : Int)) = ((a - b : Nat) : Int) := by
  rw [IntKind.wrap_u64]
  omega

set_option maxRecDepth 100000 in
set_option maxHeartbeats 1000000 in
theorem lost_fn (b lb nb wb : Nat) (p : Pk) (bn now wait : Nat) (bi : Bool) (w : World) (hb : b < w.heap.size) (hn : w.cell? ⟨b, 3, none⟩ = some (.int .u64 (bn : Int))) (hi : w.cell? ⟨b, 4, none⟩ = some (.bool bi)) (hbn : bn < 2 ^ 63)
    (hlb : lb < w.heap.size) (hnb : nb < w.heap.size) (hwb : wb < w.heap.size) (cl : w.cell? ⟨lb, 0, none⟩ = some (.pointer (some ⟨b, 0, none⟩))) (cn : w.cell? ⟨nb, 0, none⟩ = some (.int .u64 (now : Int))) (cw : w.cell? ⟨wb, 0, none⟩ = some (.int .u64 (wait : Int))) (hnow : now < 2 ^ 64) :
    Calls Try.prog 36 (#[pkV p] ++ #[.pointer (some ⟨lb, 0, none⟩), .pointer (some ⟨nb, 0, none⟩), .pointer (some ⟨wb, 0, none⟩)]) w fun e w' => e = .returned (.bool (lostP bi bn now wait p)) ∧ Below w.heap.size w w' := by
  obtain ⟨num, time, size, asks, fa, fl, fc⟩ := p
  have hlt := fun W h1 h2 h3 => late_any b num time size asks (.slice fa fl fc) bn bi W h1 h2 h3 hbn
  unfold lostP pkV
  simp only
  have hfb : behindF bi bn num = false → farF bi bn num = false := by intro h; rw [farF, h]; rfl
  obtain ⟨far, hfar⟩ : ∃ x, farF bi bn num = x := ⟨_, rfl⟩
  obtain ⟨beh, hbeh⟩ : ∃ x, behindF bi bn num = x := ⟨_, rfl⟩
  rw [hfar, hbeh] at hlt hfb ⊢
  have HL := Lib.hid hlt
  clear hlt hfar hbeh
  have hW : Below w.heap.size w (w.alloc (.cells #[.int .u64 (num : Int), .int .u64 (time : Int), .int .u64 (size : Int), .bool asks, .slice fa fl fc] 38)) := (Below.refl _ _).alloc (Nat.le_refl _) _
  have hnw : blk (w.alloc (.cells #[.int .u64 (num : Int), .int .u64 (time : Int), .int .u64 (size : Int), .bool asks, .slice fa fl fc] 38)) w.heap.size 38 [.int .u64 (num : Int), .int .u64 (time : Int), .int .u64 (size : Int), .bool asks, .slice fa fl fc] := blk.new w _ _
  have HW := Lib.hid (And.intro hW hnw)
  clear hW hnw
  cases far
  · cases beh
    · clear hfb
      go_enter Try.func36, Try.ntmps36
      go_wp2_with fail
      refine (HL.out _ (by simp; omega) (by rw [HW.out.1.cell (p := ⟨b, 3, none⟩) hb]; exact hn) (by rw [HW.out.1.cell (p := ⟨b, 4, none⟩) hb]; exact hi)).mono ?_
      rintro e w2 ⟨rfl, hb2⟩
      have Hb2 := Lib.hid (HW.out.1.trans (hb2.mono HW.out.1.size))
      clear hb2
      go_wp2_with fail
      go_ret
      exact ⟨rfl, Hb2.out⟩
    · clear hfb
      by_cases h1 : time ≤ now
      · have d1 : decide (time ≤ now) = true := by simpa using h1
        have hwr := u64_sub now time h1 hnow
        obtain ⟨m, hm⟩ : ∃ m, now - time = m := ⟨_, rfl⟩
        rw [hm] at hwr ⊢
        clear hm hnow
        by_cases h2 : wait ≤ m
        · have d2 : decide (wait ≤ m) = true := by simpa using h2
          rw [d1, d2]
          clear d1
          go_enter Try.func36, Try.ntmps36
          go_wp2_with fail
          refine (HL.out _ (by simp; omega) (by rw [HW.out.1.cell (p := ⟨b, 3, none⟩) hb]; exact hn) (by rw [HW.out.1.cell (p := ⟨b, 4, none⟩) hb]; exact hi)).mono ?_
          rintro e w2 ⟨rfl, hb2⟩
          have hx := HW.out.2.below hb2 (by simp)
          have e1 := hx.cell (k := 1) rfl
          have e2 := (hb2.cell (p := ⟨nb, 0, none⟩) (by simp; omega)).trans ((HW.out.1.cell (p := ⟨nb, 0, none⟩) hnb).trans cn)
          have e3 := (hb2.cell (p := ⟨wb, 0, none⟩) (by simp; omega)).trans ((HW.out.1.cell (p := ⟨wb, 0, none⟩) hwb).trans cw)
          have Hb2 := Lib.hid (HW.out.1.trans (hb2.mono HW.out.1.size))
          clear hb2 hx
          go_wp2_with fail
          go_ret
          exact ⟨rfl, Hb2.out⟩
        · have d2 : decide (wait ≤ m) = false := by simpa using h2
          rw [d1, d2]
          clear d1
          go_enter Try.func36, Try.ntmps36
          go_wp2_with fail
          refine (HL.out _ (by simp; omega) (by rw [HW.out.1.cell (p := ⟨b, 3, none⟩) hb]; exact hn) (by rw [HW.out.1.cell (p := ⟨b, 4, none⟩) hb]; exact hi)).mono ?_
          rintro e w2 ⟨rfl, hb2⟩
          have hx := HW.out.2.below hb2 (by simp)
          have e1 := hx.cell (k := 1) rfl
          have e2 := (hb2.cell (p := ⟨nb, 0, none⟩) (by simp; omega)).trans ((HW.out.1.cell (p := ⟨nb, 0, none⟩) hnb).trans cn)
          have e3 := (hb2.cell (p := ⟨wb, 0, none⟩) (by simp; omega)).trans ((HW.out.1.cell (p := ⟨wb, 0, none⟩) hwb).trans cw)
          have Hb2 := Lib.hid (HW.out.1.trans (hb2.mono HW.out.1.size))
          clear hb2 hx
          go_wp2_with fail
          go_ret
          exact ⟨rfl, Hb2.out⟩
      · have d1 : decide (time ≤ now) = false := by simpa using h1
        rw [d1]
        go_enter Try.func36, Try.ntmps36
        go_wp2_with fail
        refine (HL.out _ (by simp; omega) (by rw [HW.out.1.cell (p := ⟨b, 3, none⟩) hb]; exact hn) (by rw [HW.out.1.cell (p := ⟨b, 4, none⟩) hb]; exact hi)).mono ?_
        rintro e w2 ⟨rfl, hb2⟩
        have hx := HW.out.2.below hb2 (by simp)
        have e1 := hx.cell (k := 1) rfl
        have e2 := (hb2.cell (p := ⟨nb, 0, none⟩) (by simp; omega)).trans ((HW.out.1.cell (p := ⟨nb, 0, none⟩) hnb).trans cn)
        have Hb2 := Lib.hid (HW.out.1.trans (hb2.mono HW.out.1.size))
        clear hb2 hx
        go_wp2_with fail
        go_ret
        exact ⟨rfl, Hb2.out⟩
  · cases beh
    · exact absurd (hfb rfl) (by decide)
    · clear hfb
      go_enter Try.func36, Try.ntmps36
      go_wp2_with fail
      refine (HL.out _ (by simp; omega) (by rw [HW.out.1.cell (p := ⟨b, 3, none⟩) hb]; exact hn) (by rw [HW.out.1.cell (p := ⟨b, 4, none⟩) hb]; exact hi)).mono ?_
      rintro e w2 ⟨rfl, hb2⟩
      have Hb2 := Lib.hid (HW.out.1.trans (hb2.mono HW.out.1.size))
      clear hb2
      go_wp2_with fail
      go_ret
      exact ⟨rfl, Hb2.out⟩

set_option maxRecDepth 100000 in
set_option maxHeartbeats 1000000 in
theorem Lost_any (B b : Nat) (T : TypeId) (rest : List Value) (v : Value) (S : Lg) (w : World) (now wait : Nat) (h : Owns B b T rest v S w) (hlen : S.op.length ≤ 1000) (hbn : S.bn < 2 ^ 63) (hnow : now < 2 ^ 64) :
    Calls Try.prog 12 #[.pointer (some ⟨b, 0, none⟩), .int .u64 (now : Int), .int .u64 (wait : Int)] w (Told B b T rest v S w (lostP S.bi S.bn now wait)) := by
  have eg : ∀ args w, (callFunc 36 args).run Try.prog w = .ok (.enter 36 args) w := enters_of Try.func36 (by kernel_rfl) rfl
  have hbl := h.led.lt
  obtain ⟨W, hWe⟩ : ∃ W, ((w.alloc (.cells #[.pointer (some ⟨b, 0, none⟩)] 67)).alloc (.cells #[.int .u64 (now : Int)] 25)).alloc (.cells #[.int .u64 (wait : Int)] 25) = W := ⟨_, rfl⟩
  have hWb : Below w.heap.size w W := by
    rw [← hWe]
    exact (((Below.refl _ _).alloc (Nat.le_refl _) _).alloc (by simp) _).alloc (by simp; omega) _
  have hb0 : blk W w.heap.size 67 [.pointer (some ⟨b, 0, none⟩)] := by rw [← hWe]; exact ((blk.new w _ _).alloc _).alloc _
  have hb1 : blk W (w.heap.size + 1) 25 [.int .u64 (now : Int)] := by
    rw [← hWe]
    have := (blk.new (w.alloc (.cells #[.pointer (some ⟨b, 0, none⟩)] 67)) 25 [.int .u64 (now : Int)]).alloc (.cells #[.int .u64 (wait : Int)] 25)
    rw [World.size_alloc] at this
    exact this
  have hb2 : blk W (w.heap.size + 1 + 1) 25 [.int .u64 (wait : Int)] := by
    rw [← hWe]
    have := blk.new ((w.alloc (.cells #[.pointer (some ⟨b, 0, none⟩)] 67)).alloc (.cells #[.int .u64 (now : Int)] 25)) 25 [.int .u64 (wait : Int)]
    rw [World.size_alloc, World.size_alloc] at this
    exact this
  have hOw : Owns B b T rest v S W := ⟨h.led.below hWb hbl, own_below h.own hWb, Nat.le_trans h.bw hWb.size, h.bb, h.ty⟩
  have hsp := split_any B b T rest v S W (lostP S.bi S.bn now wait) 36 #[.pointer (some ⟨w.heap.size, 0, none⟩), .pointer (some ⟨w.heap.size + 1, 0, none⟩), .pointer (some ⟨w.heap.size + 1 + 1, 0, none⟩)] eg
    (fun W2 p hb => by
      have g0 := hb0.below hb hb0.lt
      have g1 := hb1.below hb hb1.lt
      have g2 := hb2.below hb hb2.lt
      have gl : LedIs W2 b T rest v S := hOw.led.below hb hOw.led.lt
      exact lost_fn b _ _ _ p S.bn now wait S.bi W2 gl.lt (gl.cell rfl) (gl.cell rfl) hbn g0.lt g1.lt g2.lt (g0.cell rfl) (g1.cell rfl) (g2.cell rfl) hnow) hOw.led hOw.own hlen
  have hend := fun e w' => split_told (w' := w') (e := e) h hWb (f := lostP S.bi S.bn now wait)
  obtain ⟨f, hf⟩ : ∃ f, lostP S.bi S.bn now wait = f := ⟨_, rfl⟩
  rw [hf] at hsp hend ⊢
  have c0 := hb0.cell (k := 0) rfl
  have HS := Lib.hid hsp
  have HE := Lib.hid hend
  clear hsp hend h hb0 hb1 hb2 hOw hWb hf hnow
  go_enter Try.func12, Try.ntmps12
  go_wp2_with fail
  refine HS.out.mono ?_
  intro e w' hs
  have ht := HE.out e w' hs
  obtain ⟨vg, v', rfl, h2⟩ := ht
  have H2 := Lib.hid h2
  clear h2 hs
  go_wp2_with fail
  go_ret
  exact ⟨vg, v', rfl, H2.out⟩

end Go.Proofs.Ytaoeamkkbopioaa
