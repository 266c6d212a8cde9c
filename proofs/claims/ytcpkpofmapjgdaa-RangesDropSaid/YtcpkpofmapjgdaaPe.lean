/- ranges: the law RangesDrop, walked. Printed by wip/tools. -/
import Derived.Test.YtcpkpofmapjgdaaPc
namespace Go.Proofs.Ytcpkpofmapjgdaa
open Go.ChangeShapes Go.WideShapes Go.RowKit
set_option linter.unusedVariables false

theorem least_ge {L : List Rg} (h : OkR L) (below : Nat) : (leastR (dropR L below)).2 = true → below ≤ (leastR (dropR L below)).1 := by
  obtain ⟨h1, h2⟩ := drop_spec L _ below h
  unfold leastR
  cases hq : (dropR L below).getLast? with
  | none => intro h; cases h
  | some r =>
    intro _
    have hr := List.mem_of_getLast? hq
    have hb := OkB.below h1 r hr
    exact ((h2 r.1).1 ⟨r, hr, Nat.le_refl _, hb.1⟩).2
theorem drop_has {L : List Rg} (h : OkR L) (below n : Nat) : coversR (dropR L below) n n = (coversR L n n && decide (below ≤ n)) := by
  obtain ⟨h1, h2⟩ := drop_spec L _ below h
  rw [Bool.eq_iff_iff, Bool.and_eq_true, decide_eq_true_iff, has_iff h1, has_iff h]
  exact h2 n

set_option maxRecDepth 100000 in
set_option maxHeartbeats 8000000 in
theorem dropl_walk (p : Option Addr) (cap : Nat) (xs : List Rg) (below n : Nat) (w : World) (hA : RgAt w p xs) (hl : xs.length ≤ maxLen) (hb64 : below < 2 ^ 64) (hn64 : n < 2 ^ 64) :
    Calls Try.prog 7 #[.slice p xs.length cap, .int .u64 (below : Int), .int .u64 (n : Int)] w fun e w' => e = .returned (.bool true) ∧ Below w.heap.size w w' := by
  obtain ⟨N, hN⟩ : ∃ N, xs.length = N := ⟨_, rfl⟩
  rw [hN] at hl ⊢
  have hl2 : N ≤ 9223372036854775807 := hl
  have HN := Lib.hid hN
  have HA := Lib.hid hA
  clear hN hA hl
  go_enter Try.func7, Try.ntmps7
  go_wp2_with fail
  refine (awake_ok w).mono ?_
  rintro e w0 ⟨rfl, hb0⟩
  have hst := St.start w0
  obtain ⟨b, hb⟩ : ∃ b, w0.heap.size = b := ⟨_, rfl⟩
  obtain ⟨w1, hw1⟩ : ∃ w1, w0.alloc (.cells #[.slice none 0 0] 27) = w1 := ⟨_, rfl⟩
  rw [hw1, hb] at hst
  have HA0 : Hid (RgAt w0 p xs) := Lib.hid (fun h => by
    obtain ⟨g, o, hp, hg, hc⟩ := HA.out h
    exact ⟨g, o, hp, Nat.lt_of_lt_of_le hg hb0.size, fun i r hr => ⟨⟨(hb0.cell (p := ⟨g, o + i * 2, none⟩) hg).trans (hc i r hr).1.1, (hb0.cell (p := ⟨g, o + i * 2 + 1, none⟩) hg).trans (hc i r hr).1.2⟩, (hc i r hr).2⟩⟩)
  have HST := Lib.hid hst
  have HB0 := Lib.hid hb0
  clear hst hb0 HA
  go_wp2_with (rw [hw1, hb])
  clear hw1
  go_loopw [8] (fun v7 W => ∃ (j : Nat) (v : Value) (L : List Rg), j ≤ N ∧ j ≤ 190 ∧ v7 = .int .i64 j ∧ St w0 b v L W) (fun v7 _ => 190 - (intOf v7).toNat)
  case atStart => exact ⟨0, _, [], by omega, by omega, rfl, HST.out⟩
  case round =>
    obtain ⟨j, v, L, hj, hj190, rfl, hst⟩ := hrel
    have HS := Lib.hid hst
    clear hst
    by_cases hlt : j < N
    · by_cases h190 : j < 190
      · obtain ⟨⟨r1, r2⟩, hr⟩ : ∃ r, xs[j]? = some r := ⟨_, List.getElem?_eq_getElem (by rw [HN.out]; exact hlt)⟩
        obtain ⟨g, o, rfl, hg, hc⟩ := HA0.out (by rw [HN.out]; omega)
        obtain ⟨hc1, hr1, hr2⟩ := hc j _ hr
        simp only at hr1 hr2
        obtain ⟨⟨d0, d1⟩, -⟩ := ArgSt.of (i := j) (o := o) (r := (r1, r2)) hg hc1 HS.out
        have hadd := HS.out.drew.add r1 r2 hr1 hr2
        have HAdd := Lib.hid hadd
        simp only at d0 d1
        clear hr hc hc1 hadd
        go_wp2_with fail
        go_still_tail 10, (by kernel_rfl)
        change wpList _ _ _ _ _ wr.drew
        go_wp2_with (go_at_call 11; refine HAdd.out.mono ?_; rintro e x1 ⟨rfl, v', hst', -⟩; have HS' := Lib.hid hst'; clear hst')
        go_roundw
        case rel => exact ⟨j + 1, v', _, by omega, by omega, by go_num, HS'.out⟩
        case measure => simp [intOf]; omega
      · have hj5 : ¬ (j : Int) < 190 := by omega
        have hg := least_ge HS.out.ok below
        have hd := drop_has HS.out.ok below n
        obtain ⟨had, hhad⟩ : ∃ had, coversR L n n = had := ⟨_, rfl⟩
        obtain ⟨D, hD⟩ : ∃ D, dropR L below = D := ⟨_, rfl⟩
        rw [hhad, hD] at hd
        rw [hD] at hg
        obtain ⟨lst, is, hli⟩ : ∃ lst is, leastR D = (lst, is) := ⟨_, _, rfl⟩
        rw [hli] at hg
        simp only at hg
        have HHad := Lib.hid hhad
        have HDD := Lib.hid hD
        have HLi := Lib.hid hli
        have HHd := Lib.hid hd
        clear hhad hD hli hd
        have s0 := HS.out.has n
        rw [HHad.out] at s0
        have S0 := Lib.hid s0
        clear s0
        go_wp2_with fail
        refine S0.out.mono ?_
        rintro e x1 ⟨rfl, -, hst1⟩
        clear S0
        have s0 := hst1.drop below
        rw [HDD.out] at s0
        have S0 := Lib.hid s0
        clear s0
        go_wp2_with fail
        refine S0.out.mono ?_
        rintro e x2 ⟨rfl, v2, hst2, -⟩
        clear hst1
        clear S0
        have s0 := hst2.least
        rw [HLi.out] at s0
        have S0 := Lib.hid s0
        clear s0
        go_wp2_with fail
        refine S0.out.mono ?_
        rintro e x3 ⟨rfl, -, hst3⟩
        clear hst2
        clear S0
        have s0 := hst3.has n
        rw [HHd.out] at s0
        have S0 := Lib.hid s0
        clear s0 hst3
        by_cases hbn : below ≤ n
        · have hbn2 : decide (below ≤ n) = true := decide_eq_true hbn
          have hbn3 : (below : Int) ≤ (n : Int) := by omega
          rw [hbn2, Bool.and_true] at S0
          cases had <;> cases is
          all_goals
            try have hg2 := hg rfl
            try have hg3 : (below : Int) ≤ (lst : Int) := by omega
            clear hg
            go_wp2_with fail
            refine S0.out.mono ?_
            rintro e x4 ⟨rfl, -, hst4⟩
            have HF := Lib.hid (HB0.out.trans (hst4.bel.mono HB0.out.size))
            clear hst4 S0
            go_wp2_with fail
            go_ret
            exact ⟨by simp <;> omega, HF.out⟩
        · have hbn2 : decide (below ≤ n) = false := decide_eq_false hbn
          have hbn3 : ¬ (below : Int) ≤ (n : Int) := by omega
          rw [hbn2, Bool.and_false] at S0
          cases had <;> cases is
          all_goals
            try have hg2 := hg rfl
            try have hg3 : (below : Int) ≤ (lst : Int) := by omega
            clear hg
            go_wp2_with fail
            refine S0.out.mono ?_
            rintro e x4 ⟨rfl, -, hst4⟩
            have HF := Lib.hid (HB0.out.trans (hst4.bel.mono HB0.out.size))
            clear hst4 S0
            go_wp2_with fail
            go_ret
            exact ⟨by simp <;> omega, HF.out⟩
    · have hj5 : ¬ (j : Int) < (N : Int) := by omega
      have hg := least_ge HS.out.ok below
      have hd := drop_has HS.out.ok below n
      obtain ⟨had, hhad⟩ : ∃ had, coversR L n n = had := ⟨_, rfl⟩
      obtain ⟨D, hD⟩ : ∃ D, dropR L below = D := ⟨_, rfl⟩
      rw [hhad, hD] at hd
      rw [hD] at hg
      obtain ⟨lst, is, hli⟩ : ∃ lst is, leastR D = (lst, is) := ⟨_, _, rfl⟩
      rw [hli] at hg
      simp only at hg
      have HHad := Lib.hid hhad
      have HDD := Lib.hid hD
      have HLi := Lib.hid hli
      have HHd := Lib.hid hd
      clear hhad hD hli hd
      have s0 := HS.out.has n
      rw [HHad.out] at s0
      have S0 := Lib.hid s0
      clear s0
      go_wp2_with fail
      refine S0.out.mono ?_
      rintro e x1 ⟨rfl, -, hst1⟩
      clear S0
      have s0 := hst1.drop below
      rw [HDD.out] at s0
      have S0 := Lib.hid s0
      clear s0
      go_wp2_with fail
      refine S0.out.mono ?_
      rintro e x2 ⟨rfl, v2, hst2, -⟩
      clear hst1
      clear S0
      have s0 := hst2.least
      rw [HLi.out] at s0
      have S0 := Lib.hid s0
      clear s0
      go_wp2_with fail
      refine S0.out.mono ?_
      rintro e x3 ⟨rfl, -, hst3⟩
      clear hst2
      clear S0
      have s0 := hst3.has n
      rw [HHd.out] at s0
      have S0 := Lib.hid s0
      clear s0 hst3
      by_cases hbn : below ≤ n
      · have hbn2 : decide (below ≤ n) = true := decide_eq_true hbn
        have hbn3 : (below : Int) ≤ (n : Int) := by omega
        rw [hbn2, Bool.and_true] at S0
        cases had <;> cases is
        all_goals
          try have hg2 := hg rfl
          try have hg3 : (below : Int) ≤ (lst : Int) := by omega
          clear hg
          go_wp2_with fail
          refine S0.out.mono ?_
          rintro e x4 ⟨rfl, -, hst4⟩
          have HF := Lib.hid (HB0.out.trans (hst4.bel.mono HB0.out.size))
          clear hst4 S0
          go_wp2_with fail
          go_ret
          exact ⟨by simp <;> omega, HF.out⟩
      · have hbn2 : decide (below ≤ n) = false := decide_eq_false hbn
        have hbn3 : ¬ (below : Int) ≤ (n : Int) := by omega
        rw [hbn2, Bool.and_false] at S0
        cases had <;> cases is
        all_goals
          try have hg2 := hg rfl
          try have hg3 : (below : Int) ≤ (lst : Int) := by omega
          clear hg
          go_wp2_with fail
          refine S0.out.mono ?_
          rintro e x4 ⟨rfl, -, hst4⟩
          have HF := Lib.hid (HB0.out.trans (hst4.bel.mono HB0.out.size))
          clear hst4 S0
          go_wp2_with fail
          go_ret
          exact ⟨by simp <;> omega, HF.out⟩

end Go.Proofs.Ytcpkpofmapjgdaa
