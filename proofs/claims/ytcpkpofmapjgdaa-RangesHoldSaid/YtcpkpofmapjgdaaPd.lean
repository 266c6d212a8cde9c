/- ranges: the law RangesHold, walked. -/
import Derived.Test.YtcpkpofmapjgdaaPc
import Derived.Deep.RegionHeld
import Derived.StillTailTactics
namespace Go.Proofs.Ytcpkpofmapjgdaa
open Go.ChangeShapes Go.WideShapes Go.RowKit
set_option linter.unusedVariables false

/-- A range of those that came in, and a set under way. -/
def ArgSt (w : World) (g o i : Nat) (r : Rg) (b : Nat) (v : Value) (L : List Rg) (x : World) : Prop :=
  (x.cell? ⟨g, o + i * 2, none⟩ = some (.int .u64 (r.1 : Int)) ∧ x.cell? ⟨g, o + i * 2 + 1, none⟩ = some (.int .u64 (r.2 : Int))) ∧ St w b v L x
theorem ArgSt.of {w : World} {g o i : Nat} {r : Rg} {b : Nat} {v : Value} {L : List Rg} (hg : g < w.heap.size) (hc : w.cell? ⟨g, o + i * 2, none⟩ = some (.int .u64 (r.1 : Int)) ∧ w.cell? ⟨g, o + i * 2 + 1, none⟩ = some (.int .u64 (r.2 : Int))) {x : World} (h : St w b v L x) :
    ArgSt w g o i r b v L x :=
  ⟨⟨(h.bel.cell (p := ⟨g, o + i * 2, none⟩) hg).trans hc.1, (h.bel.cell (p := ⟨g, o + i * 2 + 1, none⟩) hg).trans hc.2⟩, h⟩
theorem St.drew {w0 w : World} {b : Nat} {v : Value} {L : List Rg} (h : St w0 b v L w) : St w0 b v L w.drew := h.next (Below.drew2 (Below.refl _ _))
theorem St.drewN {w0 w : World} {b : Nat} {v : Value} {L : List Rg} (h : St w0 b v L w) (k : Nat) : St w0 b v L (w.drewN k) := h.next ⟨rfl, rfl, rfl, Nat.le_refl _, fun _ _ => rfl⟩

set_option maxRecDepth 100000 in
set_option maxHeartbeats 8000000 in
theorem hold_walk (p : Option Addr) (cap : Nat) (xs : List Rg) (n : Nat) (w : World) (hA : RgAt w p xs) (hl : xs.length ≤ maxLen) (hn64 : n < 18446744073709551616) :
    Calls Try.prog 5 #[.slice p xs.length cap, .int .u64 (n : Int)] w fun e w' => e = .returned (.bool true) ∧ Below w.heap.size w w' := by
  obtain ⟨N, hN⟩ : ∃ N, xs.length = N := ⟨_, rfl⟩
  rw [hN] at hl ⊢
  have hl2 : N ≤ 9223372036854775807 := hl
  have HN := Lib.hid hN
  have HA := Lib.hid hA
  clear hN hA hl
  go_enter Try.func5, Try.ntmps5
  go_wp2_with fail
  refine (awake_ok w).mono ?_
  rintro e w0 ⟨rfl, hb0⟩
  have hst := St.start w0
  obtain ⟨b, hb⟩ : ∃ b, w0.heap.size = b := ⟨_, rfl⟩
  obtain ⟨w1, hw1⟩ : ∃ w1, w0.alloc (.cells #[.slice none 0 0] 27) = w1 := ⟨_, rfl⟩
  rw [hw1, hb] at hst
  have HA0 : Hid (RgAt w0 p xs) := Lib.hid (fun h => by
    obtain ⟨g, o, hp, hg, hc⟩ := HA.out h
    exact ⟨g, o, hp, Nat.lt_of_lt_of_le hg hb0.size, fun i r hr => ⟨⟨(hb0.cell (p := ⟨g, o + i * 2, none⟩) hg).trans (hc i r hr).1.1, (hb0.cell (p := ⟨g, o + i * 2 + 1, none⟩) hg).trans (hc i r hr).1.2⟩, (hc i r hr).2⟩⟩)
  have HST := Lib.hid hst
  have HB0 := Lib.hid hb0
  clear hst hb0 HA
  go_wp2_with (rw [hw1, hb])
  clear hw1
  go_loopw [6, 7] (fun v6 v7 W => ∃ (j : Nat) (v : Value) (L : List Rg) (inn : Bool), j ≤ N ∧ j ≤ 190 ∧ v6 = .bool inn ∧ v7 = .int .i64 j ∧ St w0 b v L W ∧ L.length ≤ j ∧ (inn = true ↔ hasR L n)) (fun _ v7 _ => 190 - (intOf v7).toNat)
  case atStart => exact ⟨0, _, [], false, by omega, by omega, rfl, rfl, HST.out, Nat.le_refl _, by unfold hasR; simp⟩
  case round =>
    obtain ⟨j, v, L, inn, hj, hj190, rfl, rfl, hst, hlen, hin⟩ := hrel
    have HS := Lib.hid hst
    have HI := Lib.hid hin
    have HL := Lib.hid hlen
    clear hst hin hlen
    by_cases hlt : j < N
    · by_cases h190 : j < 190
      · obtain ⟨⟨r1, r2⟩, hr⟩ : ∃ r, xs[j]? = some r := ⟨_, List.getElem?_eq_getElem (by rw [HN.out]; exact hlt)⟩
        obtain ⟨g, o, rfl, hg, hc⟩ := HA0.out (by rw [HN.out]; omega)
        obtain ⟨hc1, hr1, hr2⟩ := hc j _ hr
        simp only at hr1 hr2
        have HArg := Lib.hid (fun v L x (h : St w0 b v L x) => ArgSt.of (i := j) (o := o) (r := (r1, r2)) hg hc1 h)
        obtain ⟨⟨d0, d1⟩, -⟩ := HArg.out _ _ _ HS.out
        have hadd := HS.out.drew.add r1 r2 hr1 hr2
        have HAdd := Lib.hid hadd
        simp only at d0 d1
        clear hr hc hc1 hadd
        obtain ⟨sp1, sp2, sp3, sp4, sp5⟩ := add_spec HS.out.ok r1 r2
        have hlen' := addR_len L r1 r2
        have hLj := HL.out
        obtain ⟨E, hE⟩ : ∃ E, addE L r1 r2 = E := ⟨_, rfl⟩
        obtain ⟨L', hL'⟩ : ∃ L', addR L r1 r2 = L' := ⟨_, rfl⟩
        rw [hE, hL'] at HAdd
        rw [hE] at sp1 sp2 sp3 sp4 sp5
        rw [hL'] at sp1 sp2 hlen'
        rcases sp5 with rfl | rfl | rfl
        · -- it came
          obtain ⟨t1, t2, t3, t4⟩ := sp1 rfl
          have HT := Lib.hid t4
          have hcov : ∃ r ∈ L', r.1 ≤ r1 ∧ r2 ≤ r.2 := by rw [t3]; exact put_covers L r1 r2
          have HCov := Lib.hid hcov
          clear sp1 sp2 sp3 sp4 t3 t4 hE hL' hcov
          have HLen := Lib.hid (show L'.length ≤ j + 1 by omega)
          clear hlen' hLj
          go_wp2_with fail
          go_still_tail 10, (by kernel_rfl)
          change wpList _ _ _ _ _ wr.drew
          have key : ∃ inn2 : Bool, (inn2 = true ↔ hasR L' n) ∧ (inn = true ∧ inn2 = true ∨ inn = false ∧ r1 ≤ n ∧ n ≤ r2 ∧ inn2 = true ∨ inn = false ∧ (n < r1 ∨ r1 ≤ n ∧ r2 < n) ∧ inn2 = false) := by
            have h1 := HT.out n
            have h2 := HI.out
            cases inn with
            | true => exact ⟨true, by rw [h1]; exact ⟨fun _ => .inr (h2.1 rfl), fun _ => rfl⟩, .inl ⟨rfl, rfl⟩⟩
            | false =>
              by_cases hh : r1 ≤ n ∧ n ≤ r2
              · exact ⟨true, by rw [h1]; exact ⟨fun _ => .inl hh, fun _ => rfl⟩, .inr (.inl ⟨rfl, hh.1, hh.2, rfl⟩)⟩
              · exact ⟨false, by rw [h1, ← h2]; simp only [hh, false_or], .inr (.inr ⟨rfl, by omega, rfl⟩)⟩
          obtain ⟨inn2, hi2, hor⟩ := key
          have HI2 := Lib.hid hi2
          clear hi2
          have tail : ∀ v' x, St w0 b v' L' x → (∀ y, St w0 b v' L' y → Calls Try.prog 21 #[.pointer (some ⟨b, 0, none⟩), .int .u64 (r1 : Int), .int .u64 (r2 : Int)] y fun e z => e = .returned (.bool true) ∧ St w0 b v' L' z) ∧
              (∀ y, St w0 b v' L' y → Calls Try.prog 19 #[.pointer (some ⟨b, 0, none⟩), .int .u64 (r1 : Int)] y fun e z => e = .returned (.bool true) ∧ St w0 b v' L' z) ∧
              (∀ y, St w0 b v' L' y → Calls Try.prog 19 #[.pointer (some ⟨b, 0, none⟩), .int .u64 (r2 : Int)] y fun e z => e = .returned (.bool true) ∧ St w0 b v' L' z) := by
            intro v' x hx
            refine ⟨fun y hy => ?_, fun y hy => ?_, fun y hy => ?_⟩
            · have := hy.covers r1 r2
              rw [(covers_iff hy.ok r1 r2).2 ⟨t1, HCov.out⟩] at this
              exact this.mono (fun e z h => ⟨h.1, h.2.2⟩)
            · have := hy.has r1
              rw [(has_iff hy.ok r1).2 ((HT.out r1).2 (.inl ⟨Nat.le_refl _, t1⟩))] at this
              exact this.mono (fun e z h => ⟨h.1, h.2.2⟩)
            · have := hy.has r2
              rw [(has_iff hy.ok r2).2 ((HT.out r2).2 (.inl ⟨t1, Nat.le_refl _⟩))] at this
              exact this.mono (fun e z h => ⟨h.1, h.2.2⟩)
          have HTail := Lib.hid tail
          clear tail
          rcases hor with ⟨rfl, rfl⟩ | ⟨rfl, k1, k2, rfl⟩ | ⟨rfl, k1, rfl⟩
          rotate_left 2
          rcases k1 with k1 | ⟨k1, k2⟩
          all_goals try have k1' : (r1 : Int) ≤ (n : Int) := by omega
          all_goals try have k1' : (n : Int) < (r1 : Int) := by omega
          all_goals try have k2' : (n : Int) ≤ (r2 : Int) := by omega
          all_goals try have k2' : (r2 : Int) < (n : Int) := by omega
          all_goals
            go_wp2_with (go_at_call 11; refine HAdd.out.mono ?_; rintro e x1 ⟨rfl, v', hst', -⟩; have HS' := Lib.hid hst'; obtain ⟨⟨e0, e1⟩, -⟩ := HArg.out _ _ _ hst'; simp only at e0 e1; obtain ⟨hcv, hh1, hh2⟩ := HTail.out v' x1 hst'; have HCv := Lib.hid hcv; have HH1 := Lib.hid hh1; have HH2 := Lib.hid hh2; clear hst' hcv hh1 hh2)
          all_goals
            go_region_held (fun w' => (w'.cell? ⟨g, o + j * 2, none⟩ = some (.int .u64 (r1 : Int)) ∧ w'.cell? ⟨g, o + j * 2 + 1, none⟩ = some (.int .u64 (r2 : Int))) ∧ St w0 b v' L' w')
              (first | with_reducible assumption | exact HArg.out _ _ _ HS'.out.drew | (refine HArg.out _ _ _ ?_; with_reducible assumption))
              (first | (go_at_call 21; refine (HCv.out _ (by first | with_reducible assumption | exact HS'.out.drew)).mono ?_; rintro e y1 ⟨rfl, hy1⟩) | (go_at_call 19; refine (HH1.out _ (by first | with_reducible assumption | exact HS'.out.drew)).mono ?_; rintro e y2 ⟨rfl, hy2⟩) | (go_at_call 19; refine (HH2.out _ (by first | with_reducible assumption | exact HS'.out.drew)).mono ?_; rintro e y3 ⟨rfl, hy3⟩))
          all_goals
            go_wp2_with fail
            go_roundw
            case rel =>
              first
                | exact ⟨j + 1, v', L', true, by omega, by omega, by simp <;> omega, by go_num, by assumption, HLen.out, by simpa using HI2.out⟩
                | exact ⟨j + 1, v', L', false, by omega, by omega, by simp <;> omega, by go_num, by assumption, HLen.out, by simpa using HI2.out⟩
            case measure => simp [intOf]; omega
        · -- it may not be
          obtain rfl := sp2 (by decide)
          have hbad := sp3.1 rfl
          clear sp1 sp2 sp3 sp4 hE hL' hlen' hLj
          have hor : (r2 < r1 ∧ decide ((r1 : Int) ≤ (r2 : Int)) = false ∧ decide (r1 ≤ r2) = false) ∨ (r1 ≤ r2 ∧ 4611686018427387903 < r2 ∧ decide ((r1 : Int) ≤ (r2 : Int)) = true ∧ decide (r1 ≤ r2) = true) := by
            by_cases h : r1 ≤ r2
            · exact .inr ⟨h, by omega, by rw [decide_eq_true_iff]; omega, decide_eq_true h⟩
            · exact .inl ⟨by omega, by rw [decide_eq_false_iff_not]; omega, decide_eq_false h⟩
          clear hbad
          rcases hor with ⟨g1, g2, g4⟩ | ⟨g1, g2, g3, g4⟩
          all_goals
            go_wp2_with fail
            go_still_tail 10, (by kernel_rfl)
            change wpList _ _ _ _ _ wr.drew
            go_wp2_with (go_at_call 11; refine HAdd.out.mono ?_; rintro e x1 ⟨rfl, v', hst', -⟩; have HS' := Lib.hid hst'; obtain ⟨⟨e0, e1⟩, -⟩ := HArg.out _ _ _ hst'; simp only at e0 e1; clear hst')
          all_goals
            go_quiet (fail)
            go_wp2_with fail
            go_roundw
            case rel => exact ⟨j + 1, v', L', inn, by omega, by omega, rfl, by go_num, by first | exact HS'.out | exact HS'.out.drewN _, by have := HL.out; omega, HI.out⟩
            case measure => simp [intOf]; omega
        · exfalso
          have := sp4 rfl
          omega
      · have hh := HS.out.has n
        rw [show coversR L n n = inn from Bool.eq_iff_iff.2 ((has_iff HS.out.ok n).trans HI.out.symm)] at hh
        have HH := Lib.hid hh
        clear hh
        go_wp2_with fail
        refine HH.out.mono ?_
        rintro e x1 ⟨rfl, -, hst'⟩
        have HF := Lib.hid (HB0.out.trans (hst'.bel.mono HB0.out.size))
        clear hst' HH
        go_wp2_with fail
        go_ret
        exact ⟨by simp, HF.out⟩
    · have hh := HS.out.has n
      rw [show coversR L n n = inn from Bool.eq_iff_iff.2 ((has_iff HS.out.ok n).trans HI.out.symm)] at hh
      have HH := Lib.hid hh
      clear hh
      go_wp2_with fail
      refine HH.out.mono ?_
      rintro e x1 ⟨rfl, -, hst'⟩
      have HF := Lib.hid (HB0.out.trans (hst'.bel.mono HB0.out.size))
      clear hst' HH
      go_wp2_with fail
      go_ret
      exact ⟨by simp, HF.out⟩

end Go.Proofs.Ytcpkpofmapjgdaa
