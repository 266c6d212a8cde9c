/- ranges: the law RangesTop, walked. Printed by wip/tools. -/
import Derived.Test.YtcpkpofmapjgdaaPf
import Derived.StillTailTactics
namespace Go.Proofs.Ytcpkpofmapjgdaa
open Go.ChangeShapes Go.WideShapes Go.RowKit
set_option linter.unusedVariables false

/-- What lies where the call may write: a row of its own, of whatever content. -/
def Mine (w : World) (B : Nat) (p : Option Addr) (n cap : Nat) : Prop := ∃ xs, w.ownsRow B 45 2 (.slice p n cap) n xs
theorem Mine.at {w : World} {B : Nat} {p : Option Addr} {n cap : Nat} (h : Mine w B p n cap) {i : Nat} (hi : i < n) :
    ∃ g x y, p = some ⟨g, 0, none⟩ ∧ B ≤ g ∧ w.cell? ⟨g, i * 2, none⟩ = some x ∧ w.cell? ⟨g, i * 2 + 1, none⟩ = some y ∧ (∀ j, w.frozen? ⟨g, j, none⟩ = false) ∧
      (∀ u, Mine (w.setCell ⟨g, i * 2, none⟩ u) B p n cap) ∧ (∀ u u', Mine ((w.setCell ⟨g, i * 2, none⟩ u).setCell ⟨g, i * 2 + 1, none⟩ u') B p n cap) := by
  obtain ⟨xs, hx⟩ := h
  obtain ⟨g, cap1, hv, hB, hg, hc, hf⟩ := own_view hx (by omega)
  injection hv with e1 e2 e3
  subst e1 e3
  have hl := hx.1
  obtain ⟨x, h1⟩ : ∃ x, xs[i * 2]? = some x := ⟨_, List.getElem?_eq_getElem (by omega)⟩
  obtain ⟨y, h2⟩ : ∃ y, xs[i * 2 + 1]? = some y := ⟨_, List.getElem?_eq_getElem (by omega)⟩
  exact ⟨g, x, y, rfl, hB, hc _ _ h1, hc _ _ h2, hf, fun u => ⟨_, own_setCell hx _ u⟩, fun u u' => ⟨_, own_setCell (own_setCell hx _ u) _ u'⟩⟩

theorem own_cap {w : World} {B n cap s : Nat} {p : Option Addr} {xs : List Value} {e : TypeId} (h : w.ownsRow B e s (.slice p n cap) n xs) : n ≤ cap := by
  rcases h.2 with ⟨hv, h0⟩ | ⟨g, c, cur, hv, _, _, h1, _⟩
  · injection hv with e1 e2 e3
    omega
  · injection hv with e1 e2 e3
    omega

set_option maxRecDepth 100000 in
set_option maxHeartbeats 8000000 in
theorem top_walk (p : Option Addr) (cap : Nat) (xs : List Rg) (many : Int) (w : World) (hA : RgAt w p xs) (hl : xs.length ≤ maxLen) (hm : -9223372036854775808 ≤ many ∧ many < 9223372036854775808) :
    Calls Try.prog 9 #[.slice p xs.length cap, .int .i64 many] w fun e w' => e = .returned (.bool true) ∧ Below w.heap.size w w' := by
  obtain ⟨N, hN⟩ : ∃ N, xs.length = N := ⟨_, rfl⟩
  rw [hN] at hl ⊢
  have hl2 : N ≤ 9223372036854775807 := hl
  have HN := Lib.hid hN
  have HA := Lib.hid hA
  clear hN hA hl
  go_enter Try.func9, Try.ntmps9
  go_wp2_with fail
  refine (awake_ok w).mono ?_
  rintro e w0 ⟨rfl, hb0⟩
  have hst := St.start w0
  obtain ⟨b, hb⟩ : ∃ b, w0.heap.size = b := ⟨_, rfl⟩
  obtain ⟨w1, hw1⟩ : ∃ w1, w0.alloc (.cells #[.slice none 0 0] 27) = w1 := ⟨_, rfl⟩
  rw [hw1, hb] at hst
  have HA0 : Hid (RgAt w0 p xs) := Lib.hid (fun h => by
    obtain ⟨g, o, hp, hg, hc⟩ := HA.out h
    exact ⟨g, o, hp, Nat.lt_of_lt_of_le hg hb0.size, fun i r hr => ⟨⟨(hb0.cell (p := ⟨g, o + i * 2, none⟩) hg).trans (hc i r hr).1.1, (hb0.cell (p := ⟨g, o + i * 2 + 1, none⟩) hg).trans (hc i r hr).1.2⟩, (hc i r hr).2⟩⟩)
  have HST := Lib.hid hst
  have HB0 := Lib.hid hb0
  clear hst hb0 HA
  go_wp2_with (rw [hw1, hb])
  clear hw1
  go_loopw [6] (fun v7 W => ∃ (j : Nat) (v : Value) (L : List Rg), j ≤ N ∧ j ≤ 190 ∧ v7 = .int .i64 j ∧ St w0 b v L W) (fun v7 _ => 190 - (intOf v7).toNat)
  case atStart => exact ⟨0, _, [], by omega, by omega, rfl, HST.out⟩
  case round =>
    obtain ⟨j, v, L, hj, hj190, rfl, hst⟩ := hrel
    have HS := Lib.hid hst
    clear hst
    by_cases hlt : j < N
    · by_cases h190 : j < 190
      · obtain ⟨⟨r1, r2⟩, hr⟩ : ∃ r, xs[j]? = some r := ⟨_, List.getElem?_eq_getElem (by rw [HN.out]; exact hlt)⟩
        obtain ⟨g, o, rfl, hg, hc⟩ := HA0.out (by rw [HN.out]; omega)
        obtain ⟨hc1, hr1, hr2⟩ := hc j _ hr
        simp only at hr1 hr2
        obtain ⟨⟨d0, d1⟩, -⟩ := ArgSt.of (i := j) (o := o) (r := (r1, r2)) hg hc1 HS.out
        have hadd := HS.out.drew.add r1 r2 hr1 hr2
        have HAdd := Lib.hid hadd
        simp only at d0 d1
        clear hr hc hc1 hadd
        go_wp2_with fail
        go_still_tail 10, (by kernel_rfl)
        change wpList _ _ _ _ _ wr.drew
        go_wp2_with (go_at_call 11; refine HAdd.out.mono ?_; rintro e x1 ⟨rfl, v', hst', -⟩; have HS' := Lib.hid hst'; clear hst')
        go_roundw
        case rel => exact ⟨j + 1, v', _, by omega, by omega, by go_num, HS'.out⟩
        case measure => simp [intOf]; omega
      · have hj5 : ¬ (j : Int) < 190 := by omega
        clear HA0 HN
        have s0 := HS.out.ranges
        have S0 := Lib.hid s0
        clear s0
        go_wp2_with fail
        refine S0.out.mono ?_
        rintro e x1 ⟨pa, ca, rfl, hrow1, -, hst1⟩
        have HS1 := Lib.hid hst1
        have HA1 := Lib.hid (RV.of_row hrow1)
        have hca := own_cap hrow1
        clear hrow1 hst1 S0
        have s0 := HS1.out.top many hm
        have S0 := Lib.hid s0
        clear s0
        go_wp2_with fail
        refine S0.out.mono ?_
        rintro e x2 ⟨pt, ct, rfl, hrow2, hb2, -⟩
        have HM := Lib.hid (show Mine x2 x1.heap.size pt (topN many L.length) ct from ⟨_, hrow2⟩)
        have HA2 := Lib.hid (RV.of_row hrow2)
        have HB2 := Lib.hid hb2
        clear hrow2 hb2 S0
        obtain ⟨T, hT⟩ : ∃ T, topN many L.length = T := ⟨_, rfl⟩
        obtain ⟨M, hM⟩ : ∃ M, L.length = M := ⟨_, rfl⟩
        have hTM : min (max many 0) (M : Int) = (T : Int) ∧ T ≤ M := by
          rw [← hT, ← hM]
          unfold topN
          omega
        have hM2 : M ≤ 200 := by rw [← hM]; exact HS.out.len
        have HMl := Lib.hid hM
        rw [hT] at HM HA2
        rw [hT, hM]
        rw [hM] at hca
        have hsame := same_ok pt pa T T ct ca (L.take T) (L.take T) x2 HA2.out ((HA1.out.below HB2.out).take T) (by rw [List.length_take, HMl.out]; omega) (by rw [List.length_take, HMl.out]; omega) (by omega) (by omega)
        rw [show decide (L.take T = L.take T) = true from decide_eq_true rfl] at hsame
        have HSame := Lib.hid hsame
        obtain ⟨hT1, hT2⟩ := hTM
        have hTca : T ≤ ca := by omega
        clear hT hM hsame HA2
        go_wp2_with (go_at_call 15; refine HSame.out.mono ?_; rintro e x3 ⟨rfl, hb3⟩; have HB3 := Lib.hid hb3; clear hb3)
        have HMi := Lib.hid (show Mine x3 x1.heap.size pt T ct from by obtain ⟨ys, hx⟩ := HM.out; exact ⟨ys, own_below hx HB3.out⟩)
        have HBe := Lib.hid (HB2.out.trans (HB3.out.mono HB2.out.size))
        clear HM HB2 HB3 HSame hT1 hTca hca HS
        obtain ⟨wo, rfl⟩ : ∃ wo : World, wo = wr := ⟨_, rfl⟩
        go_loopw [57] (fun v57 W => ∃ i : Nat, i ≤ T ∧ v57 = .int .i64 i ∧ Mine W x1.heap.size pt T ct ∧ Below x1.heap.size x1 W) (fun v57 _ => T - (intOf v57).toNat)
        case atStart => exact ⟨0, by omega, rfl, HMi.out, HBe.out⟩
        case round =>
          obtain ⟨i, hi, rfl, hmi, hbe⟩ := hrel
          by_cases hiT : i < T
          · obtain ⟨g, x, y, rfl, hgB, k0, k1, hf, -, hs2⟩ := hmi.at hiT
            have HS2 := Lib.hid hs2
            have HBe2 := Lib.hid ((hbe.setCell (p := ⟨g, i * 2, none⟩) hgB (.int .u64 5)).setCell (p := ⟨g, i * 2 + 1, none⟩) hgB (.int .u64 6))
            have f0 := hf (i * 2)
            have f1 := hf (i * 2 + 1)
            clear hmi hbe hs2 hf
            go_wp2_with fail
            go_roundw
            case rel => exact ⟨i + 1, by omega, by go_num, HS2.out _ _, HBe2.out⟩
            case measure => simp [intOf]; omega
          · obtain rfl : i = T := by omega
            have hst2 := HS1.out.next hbe
            have HS2 := Lib.hid hst2
            have HA2 := Lib.hid (HA1.out.below hbe)
            have s0 := hst2.ranges
            have S0 := Lib.hid s0
            clear s0 hmi hbe hst2
            go_wp2_with fail
            refine S0.out.mono ?_
            rintro e x4 ⟨pg, cg, rfl, hrow4, hb4, -⟩
            have HMi2 := Lib.hid (show Mine x4 wr.heap.size pg L.length cg from ⟨_, hrow4⟩)
            have HB4 := Lib.hid hb4
            rw [HMl.out] at HMi2 ⊢
            clear S0 hrow4 hb4
            go_wp2_with fail
            obtain ⟨wp, rfl⟩ : ∃ wp : World, wp = wr := ⟨_, rfl⟩
            go_loopw [68] (fun v68 W => ∃ k : Nat, k ≤ M ∧ v68 = .int .i64 k ∧ Mine W wp.heap.size pg M cg ∧ Below wp.heap.size wp W) (fun v68 _ => M - (intOf v68).toNat)
            case atStart => exact ⟨0, by omega, rfl, HMi2.out, HB4.out⟩
            case round =>
              obtain ⟨k, hk, rfl, hmi, hbe⟩ := hrel
              by_cases hkM : k < M
              · obtain ⟨g, x, y, rfl, hgB, k0, k1, hf, hs1, -⟩ := hmi.at hkM
                have HS3 := Lib.hid hs1
                have HBe2 := Lib.hid (hbe.setCell (p := ⟨g, k * 2, none⟩) hgB (.int .u64 0))
                have f0 := hf (k * 2)
                clear hmi hbe hs1 hf
                go_wp2_with fail
                go_roundw
                case rel => exact ⟨k + 1, by omega, by go_num, HS3.out _, HBe2.out⟩
                case measure => simp [intOf]; omega
              · obtain rfl : k = M := by omega
                have hst3 := HS2.out.next hbe
                have HA3 := Lib.hid (HA2.out.below hbe)
                have s0 := hst3.ranges
                have S0 := Lib.hid s0
                clear s0 hmi hbe hst3
                go_wp2_with fail
                refine S0.out.mono ?_
                rintro e x5 ⟨pz, cz, rfl, hrow5, hb5, hst5⟩
                have hsame := same_ok pz pa L.length k cz ca L L x5 (RV.of_row hrow5) (HA3.out.below hb5) rfl HMl.out (by rw [HMl.out]; omega) (by omega)
                rw [show decide (L = L) = true from decide_eq_true rfl] at hsame
                have HSame := Lib.hid hsame
                have HB5 := Lib.hid hst5.bel
                clear hrow5 hb5 hst5 S0 hsame
                go_wp2_with fail
                refine HSame.out.mono ?_
                rintro e x6 ⟨rfl, hb6⟩
                have HF := Lib.hid (HB0.out.trans ((HB5.out.trans (hb6.mono HB5.out.size)).mono HB0.out.size))
                clear hb6 HSame
                go_wp2_with fail
                go_ret
                exact ⟨rfl, HF.out⟩
    · have hj5 : ¬ (j : Int) < (N : Int) := by omega
      clear HA0 HN
      have s0 := HS.out.ranges
      have S0 := Lib.hid s0
      clear s0
      go_wp2_with fail
      refine S0.out.mono ?_
      rintro e x1 ⟨pa, ca, rfl, hrow1, -, hst1⟩
      have HS1 := Lib.hid hst1
      have HA1 := Lib.hid (RV.of_row hrow1)
      have hca := own_cap hrow1
      clear hrow1 hst1 S0
      have s0 := HS1.out.top many hm
      have S0 := Lib.hid s0
      clear s0
      go_wp2_with fail
      refine S0.out.mono ?_
      rintro e x2 ⟨pt, ct, rfl, hrow2, hb2, -⟩
      have HM := Lib.hid (show Mine x2 x1.heap.size pt (topN many L.length) ct from ⟨_, hrow2⟩)
      have HA2 := Lib.hid (RV.of_row hrow2)
      have HB2 := Lib.hid hb2
      clear hrow2 hb2 S0
      obtain ⟨T, hT⟩ : ∃ T, topN many L.length = T := ⟨_, rfl⟩
      obtain ⟨M, hM⟩ : ∃ M, L.length = M := ⟨_, rfl⟩
      have hTM : min (max many 0) (M : Int) = (T : Int) ∧ T ≤ M := by
        rw [← hT, ← hM]
        unfold topN
        omega
      have hM2 : M ≤ 200 := by rw [← hM]; exact HS.out.len
      have HMl := Lib.hid hM
      rw [hT] at HM HA2
      rw [hT, hM]
      rw [hM] at hca
      have hsame := same_ok pt pa T T ct ca (L.take T) (L.take T) x2 HA2.out ((HA1.out.below HB2.out).take T) (by rw [List.length_take, HMl.out]; omega) (by rw [List.length_take, HMl.out]; omega) (by omega) (by omega)
      rw [show decide (L.take T = L.take T) = true from decide_eq_true rfl] at hsame
      have HSame := Lib.hid hsame
      obtain ⟨hT1, hT2⟩ := hTM
      have hTca : T ≤ ca := by omega
      clear hT hM hsame HA2
      go_wp2_with (go_at_call 15; refine HSame.out.mono ?_; rintro e x3 ⟨rfl, hb3⟩; have HB3 := Lib.hid hb3; clear hb3)
      have HMi := Lib.hid (show Mine x3 x1.heap.size pt T ct from by obtain ⟨ys, hx⟩ := HM.out; exact ⟨ys, own_below hx HB3.out⟩)
      have HBe := Lib.hid (HB2.out.trans (HB3.out.mono HB2.out.size))
      clear HM HB2 HB3 HSame hT1 hTca hca HS
      obtain ⟨wo, rfl⟩ : ∃ wo : World, wo = wr := ⟨_, rfl⟩
      go_loopw [57] (fun v57 W => ∃ i : Nat, i ≤ T ∧ v57 = .int .i64 i ∧ Mine W x1.heap.size pt T ct ∧ Below x1.heap.size x1 W) (fun v57 _ => T - (intOf v57).toNat)
      case atStart => exact ⟨0, by omega, rfl, HMi.out, HBe.out⟩
      case round =>
        obtain ⟨i, hi, rfl, hmi, hbe⟩ := hrel
        by_cases hiT : i < T
        · obtain ⟨g, x, y, rfl, hgB, k0, k1, hf, -, hs2⟩ := hmi.at hiT
          have HS2 := Lib.hid hs2
          have HBe2 := Lib.hid ((hbe.setCell (p := ⟨g, i * 2, none⟩) hgB (.int .u64 5)).setCell (p := ⟨g, i * 2 + 1, none⟩) hgB (.int .u64 6))
          have f0 := hf (i * 2)
          have f1 := hf (i * 2 + 1)
          clear hmi hbe hs2 hf
          go_wp2_with fail
          go_roundw
          case rel => exact ⟨i + 1, by omega, by go_num, HS2.out _ _, HBe2.out⟩
          case measure => simp [intOf]; omega
        · obtain rfl : i = T := by omega
          have hst2 := HS1.out.next hbe
          have HS2 := Lib.hid hst2
          have HA2 := Lib.hid (HA1.out.below hbe)
          have s0 := hst2.ranges
          have S0 := Lib.hid s0
          clear s0 hmi hbe hst2
          go_wp2_with fail
          refine S0.out.mono ?_
          rintro e x4 ⟨pg, cg, rfl, hrow4, hb4, -⟩
          have HMi2 := Lib.hid (show Mine x4 wr.heap.size pg L.length cg from ⟨_, hrow4⟩)
          have HB4 := Lib.hid hb4
          rw [HMl.out] at HMi2 ⊢
          clear S0 hrow4 hb4
          go_wp2_with fail
          obtain ⟨wp, rfl⟩ : ∃ wp : World, wp = wr := ⟨_, rfl⟩
          go_loopw [68] (fun v68 W => ∃ k : Nat, k ≤ M ∧ v68 = .int .i64 k ∧ Mine W wp.heap.size pg M cg ∧ Below wp.heap.size wp W) (fun v68 _ => M - (intOf v68).toNat)
          case atStart => exact ⟨0, by omega, rfl, HMi2.out, HB4.out⟩
          case round =>
            obtain ⟨k, hk, rfl, hmi, hbe⟩ := hrel
            by_cases hkM : k < M
            · obtain ⟨g, x, y, rfl, hgB, k0, k1, hf, hs1, -⟩ := hmi.at hkM
              have HS3 := Lib.hid hs1
              have HBe2 := Lib.hid (hbe.setCell (p := ⟨g, k * 2, none⟩) hgB (.int .u64 0))
              have f0 := hf (k * 2)
              clear hmi hbe hs1 hf
              go_wp2_with fail
              go_roundw
              case rel => exact ⟨k + 1, by omega, by go_num, HS3.out _, HBe2.out⟩
              case measure => simp [intOf]; omega
            · obtain rfl : k = M := by omega
              have hst3 := HS2.out.next hbe
              have HA3 := Lib.hid (HA2.out.below hbe)
              have s0 := hst3.ranges
              have S0 := Lib.hid s0
              clear s0 hmi hbe hst3
              go_wp2_with fail
              refine S0.out.mono ?_
              rintro e x5 ⟨pz, cz, rfl, hrow5, hb5, hst5⟩
              have hsame := same_ok pz pa L.length k cz ca L L x5 (RV.of_row hrow5) (HA3.out.below hb5) rfl HMl.out (by rw [HMl.out]; omega) (by omega)
              rw [show decide (L = L) = true from decide_eq_true rfl] at hsame
              have HSame := Lib.hid hsame
              have HB5 := Lib.hid hst5.bel
              clear hrow5 hb5 hst5 S0 hsame
              go_wp2_with fail
              refine HSame.out.mono ?_
              rintro e x6 ⟨rfl, hb6⟩
              have HF := Lib.hid (HB0.out.trans ((HB5.out.trans (hb6.mono HB5.out.size)).mono HB0.out.size))
              clear hb6 HSame
              go_wp2_with fail
              go_ret
              exact ⟨rfl, HF.out⟩

end Go.Proofs.Ytcpkpofmapjgdaa
