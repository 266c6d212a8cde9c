/- ranges: the law's awake. Printed by wip/tools/mkPb.py. -/
import Derived.Test.YtcpkpofmapjgdaaPa
namespace Go.Proofs.Ytcpkpofmapjgdaa
open Go.ChangeShapes Go.WideShapes Go.RowKit
set_option linter.unusedVariables false

set_option maxRecDepth 100000 in
set_option maxHeartbeats 8000000 in
theorem awake_ok (w : World) :
    Calls Try.prog 10 #[] w fun e w' => e = .returned (.bool true) ∧ Below w.heap.size w w' := by
  have h0 := St.start w
  obtain ⟨b, hb⟩ : ∃ b, w.heap.size = b := ⟨_, rfl⟩
  obtain ⟨w1, hw1⟩ : ∃ w1, w.alloc (.cells #[.slice none 0 0] 27) = w1 := ⟨_, rfl⟩
  have hst : St w b (.slice none 0 0) [] w1 := by rw [← hw1, ← hb]; exact h0
  clear h0
  have s0 := hst.most
  rw [show mostR [] = (0, false) by decide] at s0
  have S0 := Lib.hid s0
  clear s0 hst
  go_enter Try.func10, Try.ntmps10
  go_wp2_with (rw [hw1, hb])
  refine S0.out.mono ?_
  rintro e w2 ⟨rfl, -, hst⟩
  clear S0 hw1
  have s0 := hst.add 4 4 (by decide) (by decide)
  rw [show addE [] 4 4 = 0 by decide, show addR [] 4 4 = [(4, 4)] by decide] at s0
  have S0 := Lib.hid s0
  have HSt := Lib.hid hst
  clear s0 hst
  go_wp2_with fail
  refine S0.out.mono ?_
  rintro e w3 ⟨rfl, v3, hst, -⟩
  clear S0 HSt
  have s0 := hst.add 7 9 (by decide) (by decide)
  rw [show addE [(4, 4)] 7 9 = 0 by decide, show addR [(4, 4)] 7 9 = [(7, 9), (4, 4)] by decide] at s0
  have S0 := Lib.hid s0
  have HSt := Lib.hid hst
  clear s0 hst
  go_wp2_with fail
  refine S0.out.mono ?_
  rintro e w4 ⟨rfl, v4, hst, -⟩
  clear S0 HSt
  have s0 := hst.add 5 6 (by decide) (by decide)
  rw [show addE [(7, 9), (4, 4)] 5 6 = 0 by decide, show addR [(7, 9), (4, 4)] 5 6 = [(4, 9)] by decide] at s0
  have S0 := Lib.hid s0
  have HSt := Lib.hid hst
  clear s0 hst
  go_wp2_with fail
  refine S0.out.mono ?_
  rintro e w5 ⟨rfl, v5, hst, -⟩
  clear S0 HSt
  have s0 := hst.add 3 2 (by decide) (by decide)
  rw [show addE [(4, 9)] 3 2 = 3 by decide, show addR [(4, 9)] 3 2 = [(4, 9)] by decide] at s0
  have S0 := Lib.hid s0
  have HSt := Lib.hid hst
  clear s0 hst
  go_wp2_with fail
  refine S0.out.mono ?_
  rintro e w6 ⟨rfl, v6, hst, -⟩
  clear S0 HSt
  have s0 := hst.ranges
  have S0 := Lib.hid s0
  have HSt := Lib.hid hst
  clear s0 hst
  go_wp2_with fail
  refine S0.out.mono ?_
  rintro e w7 ⟨pA, cA, rfl, hrow, hbk, hst⟩
  have hne := own_base_le hrow
  have hbl := HSt.out.is.lt
  have hvb := own_base_le HSt.out.is.own
  have hn1 : ∀ k, (Value.slice pA [((4 : Nat), (9 : Nat))].length cA).ownBlock = some k → k ≠ b := fun k hk => by have := hne k hk; omega
  have hn2 : ∀ k, (Value.slice pA [((4 : Nat), (9 : Nat))].length cA).ownBlock = some k → v6.ownBlock ≠ some k := fun k hk hv => by have := hne k hk; have := hvb k hv; omega
  have HRow := Lib.hid hrow
  have HN1 := Lib.hid hn1
  have HN2 := Lib.hid hn2
  clear hrow hbk hne hbl hvb hn1 hn2
  clear S0 HSt
  have s0 := hst.least
  rw [show leastR [(4, 9)] = (4, true) by decide] at s0
  have S0 := Lib.hid s0
  have HSt := Lib.hid hst
  clear s0 hst
  go_wp2_with fail
  refine S0.out.mono ?_
  rintro e w8 ⟨rfl, hbk, hst⟩
  have hrow2 := own_below HRow.out hbk
  clear HRow
  have HRow := Lib.hid hrow2
  clear hrow2 hbk
  clear S0 HSt
  have s0 := hst.most
  rw [show mostR [(4, 9)] = (9, true) by decide] at s0
  have S0 := Lib.hid s0
  have HSt := Lib.hid hst
  clear s0 hst
  go_wp2_with fail
  refine S0.out.mono ?_
  rintro e w9 ⟨rfl, hbk, hst⟩
  have hrow2 := own_below HRow.out hbk
  clear HRow
  have HRow := Lib.hid hrow2
  clear hrow2 hbk
  clear S0 HSt
  have s0 := hst.count
  rw [show countR [(4, 9)] = 6 by decide] at s0
  have S0 := Lib.hid s0
  have HSt := Lib.hid hst
  clear s0 hst
  go_wp2_with fail
  refine S0.out.mono ?_
  rintro e w10 ⟨rfl, hbk, hst⟩
  have hrow2 := own_below HRow.out hbk
  clear HRow
  have HRow := Lib.hid hrow2
  clear hrow2 hbk
  clear S0 HSt
  have s0 := hst.has 5
  rw [show coversR [(4, 9)] 5 5 = true by decide] at s0
  have S0 := Lib.hid s0
  have HSt := Lib.hid hst
  clear s0 hst
  go_wp2_with fail
  refine S0.out.mono ?_
  rintro e w11 ⟨rfl, hbk, hst⟩
  have hrow2 := own_below HRow.out hbk
  clear HRow
  have HRow := Lib.hid hrow2
  clear hrow2 hbk
  clear S0 HSt
  have s0 := hst.covers 4 10
  rw [show coversR [(4, 9)] 4 10 = false by decide] at s0
  have S0 := Lib.hid s0
  have HSt := Lib.hid hst
  clear s0 hst
  go_wp2_with fail
  refine S0.out.mono ?_
  rintro e w12 ⟨rfl, hbk, hst⟩
  have hrow2 := own_below HRow.out hbk
  clear HRow
  have HRow := Lib.hid hrow2
  clear hrow2 hbk
  clear S0 HSt
  have s0 := hst.top 0 (by decide)
  rw [show topN 0 [((4 : Nat), (9 : Nat))].length = 0 by decide] at s0
  have S0 := Lib.hid s0
  have HSt := Lib.hid hst
  clear s0 hst
  go_wp2_with fail
  refine S0.out.mono ?_
  rintro e w13 ⟨pB, cB, rfl, -, hbk, hst⟩
  have hrow2 := own_below HRow.out hbk
  clear HRow
  have HRow := Lib.hid hrow2
  clear hrow2 hbk
  clear S0 HSt
  have s0 := hst.drop 8
  rw [show dropR [(4, 9)] 8 = [(8, 9)] by decide] at s0
  have S0 := Lib.hid s0
  clear s0 hst
  go_wp2_with fail
  refine S0.out.mono ?_
  rintro e w14 ⟨rfl, v14, hst, hto⟩
  have hrow2 := hto.row HRow.out HN1.out HN2.out
  clear HRow
  have HRow := Lib.hid hrow2
  clear hrow2 hto
  clear S0
  have s0 := hst.top 5 (by decide)
  rw [show topN 5 [((8 : Nat), (9 : Nat))].length = 1 by decide] at s0
  have S0 := Lib.hid s0
  have HSt := Lib.hid hst
  clear s0 hst
  go_wp2_with fail
  refine S0.out.mono ?_
  rintro e w15 ⟨pC, cC, rfl, hrowC, hbk, hst⟩
  have hrow2 := own_below HRow.out hbk
  obtain ⟨gA, rfl, a0, a1, -, -, -⟩ := row_at hrow2 (i := 0) (r := (4, 9)) rfl
  obtain ⟨gC, rfl, d0, d1, -, -, -⟩ := row_at hrowC (i := 0) (r := (8, 9)) rfl
  have HB := Lib.hid hst.bel
  simp only [Nat.zero_mul, Nat.zero_add] at a0 a1 d0 d1
  clear hrow2 hrowC hbk hst HRow
  clear S0 HSt
  go_wp2_with fail
  go_ret
  exact ⟨rfl, HB.out⟩

end Go.Proofs.Ytcpkpofmapjgdaa
