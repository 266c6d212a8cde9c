/- ranges: the law RangesApart, walked. Printed by wip/tools. -/
import Derived.Test.YtcpkpofmapjgdaaPv
import Derived.StillTailTactics
import Derived.IntWalk
import Derived.Deep.DeepCutAuto
import Derived.Deep.LoopGhost
import Derived.Deep.CutBlock
namespace Go.Proofs.Ytcpkpofmapjgdaa
open Go.ChangeShapes Go.WideShapes Go.RowKit
set_option linter.unusedVariables false

theorem okR_next : ∀ (L : List Rg) (t : Nat), OkB t L → ∀ (k : Nat) (q r : Rg), L[k]? = some q → L[k + 1]? = some r → r.2 + 2 ≤ q.1
  | [], _, _, k, q, r, h, _ => by simp at h
  | a :: L, t, h, 0, q, r, h1, h2 => by
    simp at h1 h2
    subst h1
    exact (OkB.below h.2.2 r (List.mem_of_getElem? h2)).2
  | a :: L, t, h, k + 1, q, r, h1, h2 => by
    simp only [List.getElem?_cons_succ] at h1 h2
    exact okR_next L a.1 h.2.2 k q r h1 h2

/-- What an act has come to. -/
def ApStep (w0 : World) (b : Nat) (pw : Option Addr) (L : List Rg) (s6 : Value) (wx : World) : Prop :=
  ∃ (E : Nat) (v' : Value) (L' : List Rg), s6 = .int .i64 (E : Int) ∧ St w0 b v' L' wx ∧ RV wx pw L ∧ (E ≠ 0 → L' = L) ∧ (E = 4 → 200 ≤ L'.length) ∧ (E = 0 ∨ E = 3 ∨ E = 4)

set_option maxRecDepth 100000 in
set_option maxHeartbeats 8000000 in
theorem apart_walk (p : Option Addr) (cap : Nat) (xs : List Act1) (w : World) (hA : ActsAt w p xs) (hl : xs.length ≤ maxLen) :
    Calls Try.prog 6 #[.slice p xs.length cap] w fun e w' => e = .returned (.bool true) ∧ Below w.heap.size w w' := by
  obtain ⟨N, hN⟩ : ∃ N, xs.length = N := ⟨_, rfl⟩
  rw [hN] at hl ⊢
  have hl2 : N ≤ 9223372036854775807 := hl
  have HN := Lib.hid hN
  have HA := Lib.hid hA
  clear hN hA hl
  go_enter Try.func6, Try.ntmps6
  go_wp2_with fail
  refine (awake_ok w).mono ?_
  rintro e w0 ⟨rfl, hb0⟩
  have hst := St.start w0
  obtain ⟨b, hb⟩ : ∃ b, w0.heap.size = b := ⟨_, rfl⟩
  obtain ⟨w1, hw1⟩ : ∃ w1, w0.alloc (.cells #[.slice none 0 0] 27) = w1 := ⟨_, rfl⟩
  rw [hw1, hb] at hst
  have HA0 : Hid (ActsAt w0 p xs) := Lib.hid (fun h => by
    obtain ⟨g, o, hp, hg, hc⟩ := HA.out h
    exact ⟨g, o, hp, Nat.lt_of_lt_of_le hg hb0.size, fun i r hr => ⟨⟨(hb0.cell (p := ⟨g, o + i * 3, none⟩) hg).trans (hc i r hr).1.1, (hb0.cell (p := ⟨g, o + i * 3 + 1, none⟩) hg).trans (hc i r hr).1.2.1, (hb0.cell (p := ⟨g, o + i * 3 + 2, none⟩) hg).trans (hc i r hr).1.2.2⟩, (hc i r hr).2⟩⟩)
  have HST := Lib.hid hst
  have HB0 := Lib.hid hb0
  clear hst hb0 HA
  go_wp2_with (rw [hw1, hb])
  clear hw1
  go_loopw [4] (fun v7 W => ∃ (j : Nat) (v : Value) (L : List Rg), j ≤ N ∧ j ≤ 400 ∧ v7 = .int .i64 j ∧ St w0 b v L W) (fun v7 _ => 400 - (intOf v7).toNat)
  case atStart => exact ⟨0, _, [], by omega, by omega, rfl, HST.out⟩
  case round =>
    obtain ⟨j, v, L, hj, hj190, rfl, hst⟩ := hrel
    have HS := Lib.hid hst
    clear hst
    by_cases hlt : j < N
    · by_cases h190 : j < 400
      · obtain ⟨⟨K, lo, hi⟩, hr⟩ : ∃ r, xs[j]? = some r := ⟨_, List.getElem?_eq_getElem (by rw [HN.out]; exact hlt)⟩
        obtain ⟨g, o, rfl, hg, hc⟩ := HA0.out (by rw [HN.out]; omega)
        obtain ⟨hc1, hr1, hr2⟩ := hc j _ hr
        simp only at hr1 hr2 hc1
        have HCc := Lib.hid (fun x (h : Below w0.heap.size w0 x) => (⟨(h.cell (p := ⟨g, o + j * 3, none⟩) hg).trans hc1.1, (h.cell (p := ⟨g, o + j * 3 + 1, none⟩) hg).trans hc1.2.1, (h.cell (p := ⟨g, o + j * 3 + 2, none⟩) hg).trans hc1.2.2⟩ : x.cell? ⟨g, o + j * 3, none⟩ = some (.int .i64 K) ∧ x.cell? ⟨g, o + j * 3 + 1, none⟩ = some (.int .u64 (lo : Int)) ∧ x.cell? ⟨g, o + j * 3 + 2, none⟩ = some (.int .u64 (hi : Int))))
        clear hr hc hc1
        have s0 := HS.out.ranges
        have S0 := Lib.hid s0
        clear s0
        go_wp2_with fail
        refine S0.out.mono ?_
        rintro e x1 ⟨pw, cw, rfl, hrow, hbk, hst⟩
        have hne := own_base_le hrow
        have hbl := HS.out.is.lt
        have hvb := own_base_le HS.out.is.own
        have hn1 : ∀ k, (Value.slice pw L.length cw).ownBlock = some k → k ≠ b := fun k hk => by have := hne k hk; omega
        have hn2 : ∀ k, (Value.slice pw L.length cw).ownBlock = some k → v.ownBlock ≠ some k := fun k hk hv => by have := hne k hk; have := hvb k hv; omega
        have HRow := Lib.hid hrow
        have HN1 := Lib.hid hn1
        have HN2 := Lib.hid hn2
        have HS1 := Lib.hid hst
        obtain ⟨q0, q1, q2⟩ := HCc.out x1 hst.bel
        obtain ⟨Q, hQ⟩ : ∃ Q, L.length = Q := ⟨_, rfl⟩
        rw [hQ] at HRow HN1 HN2 ⊢
        have HQ := Lib.hid hQ
        clear hrow hbk hne hbl hvb hn1 hn2 hst S0 hQ
        go_upto_block 2 with (fail)
        go_cut [6] (fun s6 wx => ApStep w0 b pw L s6 wx)
        case first =>
          by_cases k0 : K = 0
          · subst k0
            have hadd := HS1.out.drew.add lo hi hr1 hr2
            have HAdd := Lib.hid hadd
            clear hadd
            go_wp2_with fail
            go_still_tail 10, (by kernel_rfl)
            change wpList _ _ _ _ _ x1.drew
            go_wp2_with (go_at_call 11; refine HAdd.out.mono ?_; rintro e x2 ⟨rfl, v', hst', hto⟩; have HS2 := Lib.hid hst'; have HTo := Lib.hid hto; clear hst' hto)
            go_meet
            obtain ⟨s1, s2, s3, s4, s5⟩ := add_spec HS1.out.ok lo hi
            refine ⟨_, v', _, rfl, HS2.out, RV.of_row (HTo.out.row (own_below HRow.out (Below.drew2 (Below.refl _ _))) HN1.out HN2.out), s2, fun h => by rw [s2 (by omega)]; exact s4 h, s5⟩
          · have e0 : (K == 0) = false := by rw [beq_eq_false_iff_ne]; exact k0
            by_cases k1 : K = 1
            · subst k1
              have hdr := HS1.out.drop lo
              have HDr := Lib.hid hdr
              clear hdr
              go_wp2_with fail
              refine HDr.out.mono ?_
              rintro e x2 ⟨rfl, v', hst', hto⟩
              have HS2 := Lib.hid hst'
              have HTo := Lib.hid hto
              clear hst' hto
              go_wp2_with fail
              go_meet
              exact ⟨0, v', _, rfl, HS2.out, RV.of_row (HTo.out.row HRow.out HN1.out HN2.out), fun h => absurd rfl h, (fun h => by cases h), .inl rfl⟩
            · have e1 : (K == 1) = false := by rw [beq_eq_false_iff_ne]; exact k1
              go_wp2_with fail
              go_meet
              exact ⟨0, v, L, rfl, HS1.out, RV.of_row HRow.out, fun h => absurd rfl h, (fun h => by cases h), .inl rfl⟩
        case rest =>
          obtain ⟨E, v', L', rfl, hst, hrv, hE1, hE2, hE3⟩ := hcut
          have HS2 := Lib.hid hst
          have HRv := Lib.hid hrv
          have s0 := hst.ranges
          obtain ⟨M, hM⟩ : ∃ M, L'.length = M := ⟨_, rfl⟩
          rw [hM] at s0 hE2
          have HM := Lib.hid hM
          have hM2 : M ≤ 200 := by rw [← hM]; exact hst.len
          have S0 := Lib.hid s0
          have HE1 := Lib.hid hE1
          clear s0 hst hrv hE1 hM
          go_wp2_with fail
          refine S0.out.mono ?_
          rintro e x3 ⟨px, cx, rfl, hrow3, hb3, hst3⟩
          have HS3 := Lib.hid hst3
          have HX3 := Lib.hid (RV.of_row hrow3)
          have HV3 := Lib.hid (HRv.out.below hb3)
          clear S0 hrow3 hb3 hst3
          rcases hE3 with rfl | rfl | rfl
          · clear hE2
            go_wp2_with fail
            obtain ⟨wo, rfl⟩ : ∃ wo : World, wo = wr := ⟨_, rfl⟩
            go_loopw [73] (fun v73 W => ∃ k : Nat, k ≤ M ∧ v73 = .int .i64 k ∧ St w0 b v' L' W ∧ RV W px L') (fun v73 _ => M - (intOf v73).toNat)
            case atStart => exact ⟨0, by omega, rfl, HS3.out, HX3.out⟩
            case round =>
              obtain ⟨k, hk, rfl, hst, hrv⟩ := hrel
              have HS4 := Lib.hid hst
              have HX4 := Lib.hid hrv
              clear hst hrv
              by_cases hkM : k < M
              · obtain ⟨⟨r1, r2⟩, hr⟩ : ∃ r, L'[k]? = some r := ⟨_, List.getElem?_eq_getElem (by rw [HM.out]; exact hkM)⟩
                obtain ⟨g, o, rfl, hg, hc⟩ := HX4.out (by rw [HM.out]; omega)
                obtain ⟨c0, c1⟩ := hc k _ hr
                have hb1 := OkB.below HS4.out.ok _ (List.mem_of_getElem? hr)
                simp only at c0 c1 hb1
                have t1 : decide (r2 < r1) = false := decide_eq_false (by omega)
                have t1' : decide ((r2 : Int) < (r1 : Int)) = false := decide_eq_false (by omega)
                have t2 : decide ((4611686018427387903 : Int) < (r2 : Int)) = false := decide_eq_false (by omega)
                by_cases hk0 : k = 0
                · subst hk0
                  clear hc hr hb1
                  simp only [Nat.zero_mul, Nat.add_zero] at c0 c1
                  go_wp2_with fail
                  go_quiet (fail)
                  go_wp2_with fail
                  go_roundw
                  case rel => exact ⟨1, by omega, by rfl, by first | exact HS4.out | exact HS4.out.drewN _, by first | exact HX4.out | exact HX4.out.below ⟨rfl, rfl, rfl, Nat.le_refl _, fun _ _ => rfl⟩⟩
                  case measure => simp [intOf]; omega
                · obtain ⟨k', hk'⟩ : ∃ k', k' + 1 = k := ⟨k - 1, by omega⟩
                  obtain ⟨⟨q1, q2⟩, hq⟩ : ∃ q, L'[k']? = some q := ⟨_, List.getElem?_eq_getElem (by rw [HM.out]; omega)⟩
                  obtain ⟨d0, d1⟩ := hc k' _ hq
                  have hst := okR_next L' _ HS4.out.ok k' _ _ hq (by rw [hk']; exact hr)
                  have hq1 := OkB.below HS4.out.ok _ (List.mem_of_getElem? hq)
                  simp only at d0 d1 hst hq1
                  obtain ⟨d, hd⟩ : ∃ d, d + 2 = q1 := ⟨q1 - 2, by omega⟩
                  have t3 : decide ((0 : Int) < (k : Int)) = true := decide_eq_true (by omega)
                  have t3' : decide (0 < k) = true := decide_eq_true (by omega)
                  have t4 : decide ((q1 : Int) < 2) = false := decide_eq_false (by omega)
                  have t4' : decide (q1 < 2) = false := decide_eq_false (by omega)
                  have t5 : decide (d < r2) = false := decide_eq_false (by omega)
                  have t5' : decide ((d : Int) < (r2 : Int)) = false := decide_eq_false (by omega)
                  have e1 : IntKind.i64.wrap ((k : Int) - 1) = (k' : Int) := by rw [show (k : Int) - 1 = (k' : Int) by omega]; exact IntWalk.i64_in _ (by omega)
                  have e2 : IntKind.u64.wrap ((q1 : Int) - 2) = (d : Int) := by rw [show (q1 : Int) - 2 = (d : Int) by omega]; exact IntWalk.u64_in _ (by omega)
                  have hk'M : k' < M := by omega
                  clear hc hr hb1 hq hst hq1 hd hk0
                  have HK' := Lib.hid hk'
                  clear hk'
                  go_wp2_with fail
                  go_quiet (fail)
                  go_wp2_with fail
                  go_roundw
                  case rel => exact ⟨k + 1, by omega, by go_num, by first | exact HS4.out | exact HS4.out.drewN _, by first | exact HX4.out | exact HX4.out.below ⟨rfl, rfl, rfl, Nat.le_refl _, fun _ _ => rfl⟩⟩
                  case measure => simp [intOf]; omega
              · obtain rfl : k = M := by omega
                go_wp2_with fail
                go_roundw
                case rel => exact ⟨j + 1, v', L', by omega, by omega, by go_num, HS4.out⟩
                case measure => simp [intOf]; omega
          · obtain rfl := HE1.out (by decide)
            have hsame := same_ok pw px Q M cw cx L' L' x3 HV3.out HX3.out HQ.out HM.out (by have := HM.out; have := HQ.out; omega) (by omega)
            rw [show decide (L' = L') = true from decide_eq_true rfl] at hsame
            have HSame := Lib.hid hsame
            clear hE2 hsame
            go_wp2_with fail
            refine HSame.out.mono ?_
            rintro e x4 ⟨rfl, hb4⟩
            have HS3' := Lib.hid (HS3.out.next hb4)
            have HX3' := Lib.hid (HX3.out.below hb4)
            clear hb4 HSame HS3 HX3
            have HS3 := HS3'
            have HX3 := HX3'
            clear HS3' HX3'
            go_wp2_with fail
            obtain ⟨wo, rfl⟩ : ∃ wo : World, wo = wr := ⟨_, rfl⟩
            go_loopw [73] (fun v73 W => ∃ k : Nat, k ≤ M ∧ v73 = .int .i64 k ∧ St w0 b v' L' W ∧ RV W px L') (fun v73 _ => M - (intOf v73).toNat)
            case atStart => exact ⟨0, by omega, rfl, HS3.out, HX3.out⟩
            case round =>
              obtain ⟨k, hk, rfl, hst, hrv⟩ := hrel
              have HS4 := Lib.hid hst
              have HX4 := Lib.hid hrv
              clear hst hrv
              by_cases hkM : k < M
              · obtain ⟨⟨r1, r2⟩, hr⟩ : ∃ r, L'[k]? = some r := ⟨_, List.getElem?_eq_getElem (by rw [HM.out]; exact hkM)⟩
                obtain ⟨g, o, rfl, hg, hc⟩ := HX4.out (by rw [HM.out]; omega)
                obtain ⟨c0, c1⟩ := hc k _ hr
                have hb1 := OkB.below HS4.out.ok _ (List.mem_of_getElem? hr)
                simp only at c0 c1 hb1
                have t1 : decide (r2 < r1) = false := decide_eq_false (by omega)
                have t1' : decide ((r2 : Int) < (r1 : Int)) = false := decide_eq_false (by omega)
                have t2 : decide ((4611686018427387903 : Int) < (r2 : Int)) = false := decide_eq_false (by omega)
                by_cases hk0 : k = 0
                · subst hk0
                  clear hc hr hb1
                  simp only [Nat.zero_mul, Nat.add_zero] at c0 c1
                  go_wp2_with fail
                  go_quiet (fail)
                  go_wp2_with fail
                  go_roundw
                  case rel => exact ⟨1, by omega, by rfl, by first | exact HS4.out | exact HS4.out.drewN _, by first | exact HX4.out | exact HX4.out.below ⟨rfl, rfl, rfl, Nat.le_refl _, fun _ _ => rfl⟩⟩
                  case measure => simp [intOf]; omega
                · obtain ⟨k', hk'⟩ : ∃ k', k' + 1 = k := ⟨k - 1, by omega⟩
                  obtain ⟨⟨q1, q2⟩, hq⟩ : ∃ q, L'[k']? = some q := ⟨_, List.getElem?_eq_getElem (by rw [HM.out]; omega)⟩
                  obtain ⟨d0, d1⟩ := hc k' _ hq
                  have hst := okR_next L' _ HS4.out.ok k' _ _ hq (by rw [hk']; exact hr)
                  have hq1 := OkB.below HS4.out.ok _ (List.mem_of_getElem? hq)
                  simp only at d0 d1 hst hq1
                  obtain ⟨d, hd⟩ : ∃ d, d + 2 = q1 := ⟨q1 - 2, by omega⟩
                  have t3 : decide ((0 : Int) < (k : Int)) = true := decide_eq_true (by omega)
                  have t3' : decide (0 < k) = true := decide_eq_true (by omega)
                  have t4 : decide ((q1 : Int) < 2) = false := decide_eq_false (by omega)
                  have t4' : decide (q1 < 2) = false := decide_eq_false (by omega)
                  have t5 : decide (d < r2) = false := decide_eq_false (by omega)
                  have t5' : decide ((d : Int) < (r2 : Int)) = false := decide_eq_false (by omega)
                  have e1 : IntKind.i64.wrap ((k : Int) - 1) = (k' : Int) := by rw [show (k : Int) - 1 = (k' : Int) by omega]; exact IntWalk.i64_in _ (by omega)
                  have e2 : IntKind.u64.wrap ((q1 : Int) - 2) = (d : Int) := by rw [show (q1 : Int) - 2 = (d : Int) by omega]; exact IntWalk.u64_in _ (by omega)
                  have hk'M : k' < M := by omega
                  clear hc hr hb1 hq hst hq1 hd hk0
                  have HK' := Lib.hid hk'
                  clear hk'
                  go_wp2_with fail
                  go_quiet (fail)
                  go_wp2_with fail
                  go_roundw
                  case rel => exact ⟨k + 1, by omega, by go_num, by first | exact HS4.out | exact HS4.out.drewN _, by first | exact HX4.out | exact HX4.out.below ⟨rfl, rfl, rfl, Nat.le_refl _, fun _ _ => rfl⟩⟩
                  case measure => simp [intOf]; omega
              · obtain rfl : k = M := by omega
                go_wp2_with fail
                go_roundw
                case rel => exact ⟨j + 1, v', L', by omega, by omega, by go_num, HS4.out⟩
                case measure => simp [intOf]; omega
          · obtain rfl := HE1.out (by decide)
            have hsame := same_ok pw px Q M cw cx L' L' x3 HV3.out HX3.out HQ.out HM.out (by have := HM.out; have := HQ.out; omega) (by omega)
            rw [show decide (L' = L') = true from decide_eq_true rfl] at hsame
            have HSame := Lib.hid hsame
            have hM3 : 200 ≤ M := hE2 rfl
            have hM4 : ¬ (M : Int) < 200 := by omega
            clear hE2 hsame
            go_wp2_with fail
            refine HSame.out.mono ?_
            rintro e x4 ⟨rfl, hb4⟩
            have HS3' := Lib.hid (HS3.out.next hb4)
            have HX3' := Lib.hid (HX3.out.below hb4)
            clear hb4 HSame HS3 HX3
            have HS3 := HS3'
            have HX3 := HX3'
            clear HS3' HX3'
            go_wp2_with fail
            obtain ⟨wo, rfl⟩ : ∃ wo : World, wo = wr := ⟨_, rfl⟩
            go_loopw [73] (fun v73 W => ∃ k : Nat, k ≤ M ∧ v73 = .int .i64 k ∧ St w0 b v' L' W ∧ RV W px L') (fun v73 _ => M - (intOf v73).toNat)
            case atStart => exact ⟨0, by omega, rfl, HS3.out, HX3.out⟩
            case round =>
              obtain ⟨k, hk, rfl, hst, hrv⟩ := hrel
              have HS4 := Lib.hid hst
              have HX4 := Lib.hid hrv
              clear hst hrv
              by_cases hkM : k < M
              · obtain ⟨⟨r1, r2⟩, hr⟩ : ∃ r, L'[k]? = some r := ⟨_, List.getElem?_eq_getElem (by rw [HM.out]; exact hkM)⟩
                obtain ⟨g, o, rfl, hg, hc⟩ := HX4.out (by rw [HM.out]; omega)
                obtain ⟨c0, c1⟩ := hc k _ hr
                have hb1 := OkB.below HS4.out.ok _ (List.mem_of_getElem? hr)
                simp only at c0 c1 hb1
                have t1 : decide (r2 < r1) = false := decide_eq_false (by omega)
                have t1' : decide ((r2 : Int) < (r1 : Int)) = false := decide_eq_false (by omega)
                have t2 : decide ((4611686018427387903 : Int) < (r2 : Int)) = false := decide_eq_false (by omega)
                by_cases hk0 : k = 0
                · subst hk0
                  clear hc hr hb1
                  simp only [Nat.zero_mul, Nat.add_zero] at c0 c1
                  go_wp2_with fail
                  go_quiet (fail)
                  go_wp2_with fail
                  go_roundw
                  case rel => exact ⟨1, by omega, by rfl, by first | exact HS4.out | exact HS4.out.drewN _, by first | exact HX4.out | exact HX4.out.below ⟨rfl, rfl, rfl, Nat.le_refl _, fun _ _ => rfl⟩⟩
                  case measure => simp [intOf]; omega
                · obtain ⟨k', hk'⟩ : ∃ k', k' + 1 = k := ⟨k - 1, by omega⟩
                  obtain ⟨⟨q1, q2⟩, hq⟩ : ∃ q, L'[k']? = some q := ⟨_, List.getElem?_eq_getElem (by rw [HM.out]; omega)⟩
                  obtain ⟨d0, d1⟩ := hc k' _ hq
                  have hst := okR_next L' _ HS4.out.ok k' _ _ hq (by rw [hk']; exact hr)
                  have hq1 := OkB.below HS4.out.ok _ (List.mem_of_getElem? hq)
                  simp only at d0 d1 hst hq1
                  obtain ⟨d, hd⟩ : ∃ d, d + 2 = q1 := ⟨q1 - 2, by omega⟩
                  have t3 : decide ((0 : Int) < (k : Int)) = true := decide_eq_true (by omega)
                  have t3' : decide (0 < k) = true := decide_eq_true (by omega)
                  have t4 : decide ((q1 : Int) < 2) = false := decide_eq_false (by omega)
                  have t4' : decide (q1 < 2) = false := decide_eq_false (by omega)
                  have t5 : decide (d < r2) = false := decide_eq_false (by omega)
                  have t5' : decide ((d : Int) < (r2 : Int)) = false := decide_eq_false (by omega)
                  have e1 : IntKind.i64.wrap ((k : Int) - 1) = (k' : Int) := by rw [show (k : Int) - 1 = (k' : Int) by omega]; exact IntWalk.i64_in _ (by omega)
                  have e2 : IntKind.u64.wrap ((q1 : Int) - 2) = (d : Int) := by rw [show (q1 : Int) - 2 = (d : Int) by omega]; exact IntWalk.u64_in _ (by omega)
                  have hk'M : k' < M := by omega
                  clear hc hr hb1 hq hst hq1 hd hk0
                  have HK' := Lib.hid hk'
                  clear hk'
                  go_wp2_with fail
                  go_quiet (fail)
                  go_wp2_with fail
                  go_roundw
                  case rel => exact ⟨k + 1, by omega, by go_num, by first | exact HS4.out | exact HS4.out.drewN _, by first | exact HX4.out | exact HX4.out.below ⟨rfl, rfl, rfl, Nat.le_refl _, fun _ _ => rfl⟩⟩
                  case measure => simp [intOf]; omega
              · obtain rfl : k = M := by omega
                go_wp2_with fail
                go_roundw
                case rel => exact ⟨j + 1, v', L', by omega, by omega, by go_num, HS4.out⟩
                case measure => simp [intOf]; omega
      · have hj5 : ¬ (j : Int) < 400 := by omega
        have HF := Lib.hid (HB0.out.trans (HS.out.bel.mono HB0.out.size))
        go_wp2_with fail
        go_ret
        exact ⟨rfl, HF.out⟩
    · have hj5 : ¬ (j : Int) < (N : Int) := by omega
      have HF := Lib.hid (HB0.out.trans (HS.out.bel.mono HB0.out.size))
      go_wp2_with fail
      go_ret
      exact ⟨rfl, HF.out⟩

end Go.Proofs.Ytcpkpofmapjgdaa
