/- ranges: the law RangesCount, walked. Printed by wip/tools. -/
import Derived.Test.YtcpkpofmapjgdaaPv
import Derived.StillTailTactics
import Derived.IntWalk
namespace Go.Proofs.Ytcpkpofmapjgdaa
open Go.ChangeShapes Go.WideShapes Go.RowKit
set_option linter.unusedVariables false

/-- How many of the numbers below T there are. -/
def cnt (P : Nat → Bool) : Nat → Nat
  | 0 => 0
  | k + 1 => cnt P k + if P k then 1 else 0
theorem cnt_le (P : Nat → Bool) : ∀ T, cnt P T ≤ T
  | 0 => Nat.le_refl _
  | k + 1 => by
    have := cnt_le P k
    unfold cnt
    split <;> omega
theorem cnt_or (P Q R : Nat → Bool) (h : ∀ n, R n = (P n || Q n)) (hd : ∀ n, P n = true → Q n = false) : ∀ T, cnt R T = cnt P T + cnt Q T
  | 0 => rfl
  | k + 1 => by
    have ih := cnt_or P Q R h hd k
    have h1 := h k
    have h2 := hd k
    unfold cnt
    rw [ih, h1]
    cases hp : P k <;> cases hq : Q k <;> simp_all <;> omega
theorem cnt_span (a b : Nat) : ∀ T, cnt (fun n => decide (a ≤ n ∧ n ≤ b)) T = min T (b + 1) - a
  | 0 => by simp [cnt]
  | k + 1 => by
    have ih := cnt_span a b k
    unfold cnt
    rw [ih]
    by_cases h : a ≤ k ∧ k ≤ b
    · rw [if_pos (decide_eq_true h)]
      omega
    · rw [if_neg (by simpa using h)]
      omega
theorem cnt_none : ∀ T, cnt (fun _ => false) T = 0
  | 0 => rfl
  | k + 1 => by unfold cnt; simp [cnt_none k]
/-- Is a number there? -/
def hasB (L : List Rg) (n : Nat) : Bool := L.any fun r => decide (r.1 ≤ n ∧ n ≤ r.2)
theorem hasB_iff (L : List Rg) (n : Nat) : hasB L n = true ↔ hasR L n := by
  unfold hasB hasR
  simp
theorem count_is : ∀ (L : List Rg) (t T : Nat), OkB t L → (∀ r ∈ L, r.2 < T) → cnt (hasB L) T = countR L
  | [], t, T, _, _ => by
    have : hasB [] = fun _ => false := rfl
    rw [this, cnt_none]
    rfl
  | r :: L, t, T, h, hT => by
    have ih := count_is L r.1 T h.2.2 (fun q hq => hT q (List.mem_cons_of_mem _ hq))
    have hr := hT r (List.mem_cons_self ..)
    have h1 := h.1
    have e : countR (r :: L) = (r.2 - r.1 + 1) + countR L := by unfold countR; simp
    rw [cnt_or (fun n => decide (r.1 ≤ n ∧ n ≤ r.2)) (hasB L) (hasB (r :: L)) (fun n => rfl) (fun n hn => by
      have hn := of_decide_eq_true hn
      cases hb : hasB L n with
      | false => rfl
      | true =>
        have := OkB.lt h.2.2 ((hasB_iff _ _).1 hb)
        omega) T, ih, cnt_span, e]
    omega
theorem covers_hasB {L : List Rg} (h : OkR L) (n : Nat) : coversR L n n = hasB L n := by
  rw [Bool.eq_iff_iff, has_iff h, hasB_iff]
theorem below_put {L : List Rg} (h : OkR L) {T : Nat} (hT : ∀ r ∈ L, r.2 < T) (a b : Nat) (hb : b < T) : ∀ r ∈ addR L a b, r.2 < T := by
  obtain ⟨s1, s2, s3, s4, s5⟩ := add_spec h a b
  by_cases e : addE L a b = 0
  · obtain ⟨t1, t2, t3, t4⟩ := s1 e
    intro r hr
    have hk : OkR (addR L a b) := by rw [t3]; exact (put_spec L _ a b h t1 (by omega)).1
    have h0 := OkB.below hk r hr
    rcases (t4 r.2).1 ⟨r, hr, h0.1, Nat.le_refl _⟩ with h1 | ⟨q, hq, h1, h2⟩
    · omega
    · have := hT q hq
      omega
  · rw [s2 e]
    exact hT

set_option maxRecDepth 100000 in
set_option maxHeartbeats 8000000 in
theorem count_walk (p : Option Addr) (cap : Nat) (xs : List Rg) (w : World) (hA : PairsAt w p xs) (hl : xs.length ≤ maxLen) :
    Calls Try.prog 8 #[.slice p xs.length cap] w fun e w' => e = .returned (.bool true) ∧ Below w.heap.size w w' := by
  obtain ⟨N, hN⟩ : ∃ N, xs.length = N := ⟨_, rfl⟩
  rw [hN] at hl ⊢
  have hl2 : N ≤ 9223372036854775807 := hl
  have HN := Lib.hid hN
  have HA := Lib.hid hA
  clear hN hA hl
  go_enter Try.func8, Try.ntmps8
  go_wp2_with fail
  refine (awake_ok w).mono ?_
  rintro e w0 ⟨rfl, hb0⟩
  have hst := St.start w0
  obtain ⟨b, hb⟩ : ∃ b, w0.heap.size = b := ⟨_, rfl⟩
  obtain ⟨w1, hw1⟩ : ∃ w1, w0.alloc (.cells #[.slice none 0 0] 27) = w1 := ⟨_, rfl⟩
  rw [hw1, hb] at hst
  have HA0 : Hid (PairsAt w0 p xs) := Lib.hid (fun h => by
    obtain ⟨g, o, hp, hg, hc⟩ := HA.out h
    exact ⟨g, o, hp, Nat.lt_of_lt_of_le hg hb0.size, fun i r hr => ⟨⟨(hb0.cell (p := ⟨g, o + i * 2, none⟩) hg).trans (hc i r hr).1.1, (hb0.cell (p := ⟨g, o + i * 2 + 1, none⟩) hg).trans (hc i r hr).1.2⟩, (hc i r hr).2⟩⟩)
  have HST := Lib.hid hst
  have HB0 := Lib.hid hb0
  clear hst hb0 HA
  go_wp2_with (rw [hw1, hb])
  clear hw1
  go_loopw [4] (fun v7 W => ∃ (j : Nat) (v : Value) (L : List Rg), j ≤ N ∧ j ≤ 60 ∧ v7 = .int .i64 j ∧ St w0 b v L W ∧ ∀ r ∈ L, r.2 < 210) (fun v7 _ => 60 - (intOf v7).toNat)
  case atStart => exact ⟨0, _, [], by omega, by omega, rfl, HST.out, fun r hr => by cases hr⟩
  case round =>
    obtain ⟨j, v, L, hj, hj190, rfl, hst, hbelow⟩ := hrel
    have HS := Lib.hid hst
    have HW := Lib.hid hbelow
    clear hst hbelow
    by_cases hlt : j < N
    · by_cases h190 : j < 60
      · obtain ⟨⟨r1, r2⟩, hr⟩ : ∃ r, xs[j]? = some r := ⟨_, List.getElem?_eq_getElem (by rw [HN.out]; exact hlt)⟩
        obtain ⟨g, o, rfl, hg, hc⟩ := HA0.out (by rw [HN.out]; omega)
        obtain ⟨hc1, hr1, hr2⟩ := hc j _ hr
        simp only at hr1 hr2
        have d0 := (HS.out.bel.cell (p := ⟨g, o + j * 2, none⟩) hg).trans hc1.1
        have d1 := (HS.out.bel.cell (p := ⟨g, o + j * 2 + 1, none⟩) hg).trans hc1.2
        have hadd := HS.out.drew.add (r1 % 200) (r2 % 200) (by omega) (by omega)
        have HAdd := Lib.hid hadd
        simp only at d0 d1
        clear hr hc hc1 hadd
        have e1 : (IntKind.u64.wrap ((r1 : Int).tmod 200)) = ((r1 % 200 : Nat) : Int) := by rw [show ((r1 : Int).tmod 200) = ((r1 % 200 : Nat) : Int) by rw [Int.tmod_eq_emod_of_nonneg (by omega)]; omega]; exact IntWalk.u64_in _ (by omega)
        have e2 : (IntKind.u64.wrap ((r2 : Int).tmod 200)) = ((r2 % 200 : Nat) : Int) := by rw [show ((r2 : Int).tmod 200) = ((r2 % 200 : Nat) : Int) by rw [Int.tmod_eq_emod_of_nonneg (by omega)]; omega]; exact IntWalk.u64_in _ (by omega)
        have hbp := below_put HS.out.ok HW.out (r1 % 200) (r2 % 200) (by omega)
        have E1 := Lib.hid e1
        have E2 := Lib.hid e2
        have HBp := Lib.hid hbp
        clear e1 e2 hbp
        go_wp2_with fail
        go_still_tail 14, (by kernel_rfl)
        change wpList _ _ _ _ _ wr.drew
        rw [E1.out, E2.out]
        go_wp2_with (go_at_call 11; refine HAdd.out.mono ?_; rintro e x1 ⟨rfl, v', hst', -⟩; have HS' := Lib.hid hst'; clear hst')
        go_roundw
        case rel => exact ⟨j + 1, v', _, by omega, by omega, by go_num, HS'.out, HBp.out⟩
        case measure => simp [intOf]; omega
      · have hj5 : ¬ (j : Int) < 60 := by omega
        clear HA0 HN HST
        go_wp2_with fail
        obtain ⟨wo, rfl⟩ : ∃ wo : World, wo = wr := ⟨_, rfl⟩
        go_loopw [5, 6] (fun v5 v6 W => ∃ k : Nat, k ≤ 210 ∧ v5 = .int .u64 (cnt (hasB L) k : Nat) ∧ v6 = .int .u64 k ∧ St w0 b v L W) (fun _ v6 _ => 210 - (intOf v6).toNat)
        case atStart => exact ⟨0, by omega, rfl, rfl, HS.out⟩
        case round =>
          obtain ⟨k, hk, rfl, rfl, hst⟩ := hrel
          have HS2 := Lib.hid hst
          clear hst
          by_cases hk2 : k < 210
          · have hle := cnt_le (hasB L) k
            have hstep : cnt (hasB L) (k + 1) = cnt (hasB L) k + if hasB L k then 1 else 0 := rfl
            have HStep := Lib.hid hstep
            have s0 := HS2.out.has k
            rw [covers_hasB HS2.out.ok] at s0
            obtain ⟨C, hC⟩ : ∃ C, cnt (hasB L) k = C := ⟨_, rfl⟩
            rw [hC] at HStep hle ⊢
            clear hC hstep
            cases hb2 : hasB L k with
            | true =>
              rw [hb2, if_pos rfl] at HStep
              rw [hb2] at s0
              have S0 := Lib.hid s0
              clear s0 hb2
              go_wp2_with (go_at_call 19; refine S0.out.mono ?_; rintro e x2 ⟨rfl, -, hst2⟩; have HS3 := Lib.hid hst2; clear hst2)
              go_roundw
              case rel => exact ⟨k + 1, by omega, by rw [HStep.out]; go_num, by go_num, HS3.out⟩
              case measure => simp [intOf]; omega
            | false =>
              rw [hb2, if_neg (by decide)] at HStep
              rw [hb2] at s0
              have S0 := Lib.hid s0
              clear s0 hb2
              go_wp2_with (go_at_call 19; refine S0.out.mono ?_; rintro e x2 ⟨rfl, -, hst2⟩; have HS3 := Lib.hid hst2; clear hst2)
              go_roundw
              case rel => exact ⟨k + 1, by omega, by rw [HStep.out]; rfl, by go_num, HS3.out⟩
              case measure => simp [intOf]; omega
          · obtain rfl : k = 210 := by omega
            rw [count_is L _ 210 HS2.out.ok HW.out]
            have s0 := HS2.out.count
            have S0 := Lib.hid s0
            clear s0
            go_wp2_with fail
            refine S0.out.mono ?_
            rintro e x2 ⟨rfl, -, hst2⟩
            have HF := Lib.hid (HB0.out.trans (hst2.bel.mono HB0.out.size))
            clear hst2 S0
            go_wp2_with fail
            go_ret
            exact ⟨by simp, HF.out⟩
    · have hj5 : ¬ (j : Int) < (N : Int) := by omega
      clear HA0 HN HST
      go_wp2_with fail
      obtain ⟨wo, rfl⟩ : ∃ wo : World, wo = wr := ⟨_, rfl⟩
      go_loopw [5, 6] (fun v5 v6 W => ∃ k : Nat, k ≤ 210 ∧ v5 = .int .u64 (cnt (hasB L) k : Nat) ∧ v6 = .int .u64 k ∧ St w0 b v L W) (fun _ v6 _ => 210 - (intOf v6).toNat)
      case atStart => exact ⟨0, by omega, rfl, rfl, HS.out⟩
      case round =>
        obtain ⟨k, hk, rfl, rfl, hst⟩ := hrel
        have HS2 := Lib.hid hst
        clear hst
        by_cases hk2 : k < 210
        · have hle := cnt_le (hasB L) k
          have hstep : cnt (hasB L) (k + 1) = cnt (hasB L) k + if hasB L k then 1 else 0 := rfl
          have HStep := Lib.hid hstep
          have s0 := HS2.out.has k
          rw [covers_hasB HS2.out.ok] at s0
          obtain ⟨C, hC⟩ : ∃ C, cnt (hasB L) k = C := ⟨_, rfl⟩
          rw [hC] at HStep hle ⊢
          clear hC hstep
          cases hb2 : hasB L k with
          | true =>
            rw [hb2, if_pos rfl] at HStep
            rw [hb2] at s0
            have S0 := Lib.hid s0
            clear s0 hb2
            go_wp2_with (go_at_call 19; refine S0.out.mono ?_; rintro e x2 ⟨rfl, -, hst2⟩; have HS3 := Lib.hid hst2; clear hst2)
            go_roundw
            case rel => exact ⟨k + 1, by omega, by rw [HStep.out]; go_num, by go_num, HS3.out⟩
            case measure => simp [intOf]; omega
          | false =>
            rw [hb2, if_neg (by decide)] at HStep
            rw [hb2] at s0
            have S0 := Lib.hid s0
            clear s0 hb2
            go_wp2_with (go_at_call 19; refine S0.out.mono ?_; rintro e x2 ⟨rfl, -, hst2⟩; have HS3 := Lib.hid hst2; clear hst2)
            go_roundw
            case rel => exact ⟨k + 1, by omega, by rw [HStep.out]; rfl, by go_num, HS3.out⟩
            case measure => simp [intOf]; omega
        · obtain rfl : k = 210 := by omega
          rw [count_is L _ 210 HS2.out.ok HW.out]
          have s0 := HS2.out.count
          have S0 := Lib.hid s0
          clear s0
          go_wp2_with fail
          refine S0.out.mono ?_
          rintro e x2 ⟨rfl, -, hst2⟩
          have HF := Lib.hid (HB0.out.trans (hst2.bel.mono HB0.out.size))
          clear hst2 S0
          go_wp2_with fail
          go_ret
          exact ⟨by simp, HF.out⟩

end Go.Proofs.Ytcpkpofmapjgdaa
