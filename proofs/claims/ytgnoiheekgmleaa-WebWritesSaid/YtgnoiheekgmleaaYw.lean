/- fields: the reference's New, may, find, named. -/
import Derived.Test.YtgnoiheekgmleaaUa
import Derived.Test.YtgnoiheekgmleaaUb
namespace Go.Proofs.Ytgnoiheekgmleaa
open Go.ChangeShapes Go.WideShapes Go.RowKit
set_option linter.unusedVariables false
set_option linter.unusedSimpArgs false

theorem RNew_any (m : Int) (hm : IntKind.i64.wrap m = m) (w : World) :
    Calls Try.prog 9 #[.int .i64 m] w fun e w' => ∃ b, e = .returned (.pointer (some ⟨b, 0, none⟩)) ∧ w.heap.size ≤ b ∧ blk w' b 73 [.slice none 0 0, .int .i64 (mostF m : Int)] ∧ Below w.heap.size w w' := by
  have he := mostF_eq m
  generalize mostF m = k at *
  have B1 := Lib.hid (fun o => (Below.refl w.heap.size w).alloc (Nat.le_refl _) o)
  have B2 := Lib.hid (fun k : Int => blk.new w 73 [.slice none 0 0, .int .i64 k])
  by_cases h1 : m < 0
  · have hk : (k : Int) = 0 := by omega
    have d1 : decide (m < 0) = true := decide_eq_true h1
    rw [hk]
    clear he hk
    go_enter Try.func9, Try.ntmps9
    go_wp2_with fail
    go_ret
    exact ⟨w.heap.size, rfl, Nat.le_refl _, B2.out _, B1.out _⟩
  · have d1 : decide (m < 0) = false := decide_eq_false h1
    by_cases h2 : 65536 < m
    · have hk : (k : Int) = 65536 := by omega
      have d2 : decide (65536 < m) = true := decide_eq_true h2
      rw [hk]
      clear he hk
      go_enter Try.func9, Try.ntmps9
      go_wp2_with fail
      go_ret
      exact ⟨w.heap.size, rfl, Nat.le_refl _, B2.out _, B1.out _⟩
    · have hk : (k : Int) = m := by omega
      have d2 : decide (65536 < m) = false := decide_eq_false h2
      rw [hk]
      clear he hk
      go_enter Try.func9, Try.ntmps9
      go_wp2_with fail
      go_ret
      exact ⟨w.heap.size, rfl, Nat.le_refl _, B2.out _, B1.out _⟩

set_option maxHeartbeats 1000000 in
theorem Rmay_any (f : Fl) (w : World) : Calls Try.prog 49 #[f.v] w fun e w' => e = .returned (.bool (mayFl f)) ∧ Below w.heap.size w w' := by
  obtain ⟨n, v⟩ := f
  unfold Fl.v mayFl
  simp only
  obtain ⟨c1, h1⟩ : ∃ c, decide (0 < n.size) = c := ⟨_, rfl⟩
  obtain ⟨c2, h2⟩ : ∃ c, decide (n.size ≤ 100) = c := ⟨_, rfl⟩
  obtain ⟨c3, h3⟩ : ∃ c, decide (v.size ≤ 200) = c := ⟨_, rfl⟩
  have g1 : decide ((1 : Int) ≤ (n.size : Int)) = c1 := by rw [← h1, decide_eq_decide]; omega
  have g2 : decide ((n.size : Int) ≤ 100) = c2 := by rw [← h2, decide_eq_decide]; omega
  have g3 : decide ((v.size : Int) ≤ 200) = c3 := by rw [← h3, decide_eq_decide]; omega
  rw [h1, h2, h3]
  have HB : Hid (∀ o : Obj, Below w.heap.size w (w.alloc o)) := Lib.hid (fun o => (Below.refl _ _).alloc (Nat.le_refl _) _)
  clear h1 h2 h3
  cases c1 <;> cases c2
  all_goals
    go_enter Try.func49, Try.ntmps49
    go_wp2_with fail
    go_ret
    exact ⟨rfl, HB.out _⟩

set_option maxRecDepth 100000 in
set_option maxHeartbeats 4000000 in
theorem Rfind_any (L : List Fl) (p : Option Addr) (cap : Nat) (f : Fl) (w : World) (hL : FV w p L) (hlen : L.length ≤ 10000) :
    Calls Try.prog 50 #[.slice p L.length cap, f.v] w fun e w' => e = .returned (.int .i64 (idxF L f)) ∧ Below w.heap.size w w' := by
  obtain ⟨N, hN⟩ : ∃ N, L.length = N := ⟨_, rfl⟩
  rw [hN] at hlen ⊢
  have hbx := blk.new w 84 [.string f.1, .string f.2]
  have hbb : Below w.heap.size w (w.alloc (.cells [.string f.1, .string f.2].toArray 84)) := (Below.refl _ _).alloc (Nat.le_refl _) _
  have q0 := hbx.cell (k := 0) rfl
  have q1 := hbx.cell (k := 1) rfl
  have hL2 := hL.below hbb
  obtain ⟨W, hW⟩ : ∃ W, w.alloc (.cells [.string f.1, .string f.2].toArray 84) = W := ⟨_, rfl⟩
  rw [hW] at q0 q1 hL2 hbb
  have HN := Lib.hid hN
  have HL := Lib.hid hL2
  have HBB := Lib.hid hbb
  have hWt : w.alloc (.cells #[.string f.1, .string f.2] 84) = W := hW
  obtain ⟨n0, v0⟩ := f
  unfold Fl.v
  simp only at q0 q1 hWt ⊢
  clear hN hL hL2 hbb hbx hW
  go_enter Try.func50, Try.ntmps50
  go_wp2_with fail
  go_loopw [4, 5] (fun _ i wr => ∃ j : Nat, j ≤ N ∧ i = .int .i64 j ∧ (∀ i, i < j → ∀ q, L[i]? = some q → q ≠ (n0, v0)) ∧ Below W.heap.size W wr) (fun _ i _ => N - (intOf i).toNat)
  case atStart => exact ⟨0, by omega, rfl, fun i hi => by omega, Below.refl _ _⟩
  case round =>
    obtain ⟨j, hj, rfl, hno, hbw⟩ := hrel
    have HNO := Lib.hid hno
    have HBW := Lib.hid hbw
    clear hno
    by_cases hlt : j < N
    · have hjl : j < L.length := by rw [HN.out]; exact hlt
      obtain ⟨q, hq⟩ : ∃ q, L[j]? = some q := ⟨_, List.getElem?_eq_getElem hjl⟩
      obtain ⟨g, o, rfl, hg, hc⟩ := HL.out (by omega)
      obtain ⟨k1, k2⟩ := hc j q hq
      obtain ⟨gn, gv⟩ := q
      simp only at k1 k2
      have HQ := Lib.hid hq
      have r1 := (hbw.cell (p := ⟨g, o + j * 2, none⟩) hg).trans k1
      have r2 := (hbw.cell (p := ⟨g, o + j * 2 + 1, none⟩) hg).trans k2
      have r3 := (hbw.cell (p := ⟨w.heap.size, 0, none⟩) (World.block_lt_of_cell? _ _ q0)).trans q0
      have r4 := (hbw.cell (p := ⟨w.heap.size, 1, none⟩) (World.block_lt_of_cell? _ _ q1)).trans q1
      obtain ⟨b1, hb1⟩ : ∃ b, (gn.toList == n0.toList) = b := ⟨_, rfl⟩
      obtain ⟨b2, hb2⟩ : ∃ b, (gv.toList == v0.toList) = b := ⟨_, rfl⟩
      have Hb1 := Lib.hid hb1
      have Hb2 := Lib.hid hb2
      clear hc k1 k2 hq hjl hbw
      cases b1 <;> cases b2
      case true.true =>
        go_wp2_with fail
        go_quiet (fail)
        go_wp2_with fail
        go_ret
        refine ⟨?_, HBB.out.trans ((below_drewN HBW.out _).mono HBB.out.size)⟩
        have e := fnd_at L (n0, v0) j (gn, gv) HQ.out HNO.out (by rw [← ba_eq Hb1.out, ← ba_eq Hb2.out])
        rw [e]
        rfl
      all_goals
        have hnq : (gn, gv) ≠ (n0, v0) := by
          intro e
          injection e with e1 e2
          subst e1 e2
          rw [beq_self_eq_true] at hb1 hb2
          revert hb1 hb2
          decide
        have HNQ := Lib.hid hnq
        clear hnq
        go_wp2_with fail
        go_quiet (fail)
        go_wp2_with fail
        go_roundw
        case rel => exact ⟨j + 1, by omega, by go_num, fun i hi q hq => by
          rcases Nat.lt_succ_iff_lt_or_eq.1 hi with h | h
          · exact HNO.out i h q hq
          · subst h
            rw [HQ.out] at hq
            injection hq with hq
            rw [← hq]
            exact HNQ.out, below_drewN HBW.out _⟩
        case measure => simp [intOf]; omega
    · obtain rfl : j = N := by omega
      have e := fnd_none L (n0, v0) (fun i hi q hq => HNO.out i (by rw [← HN.out]; exact hi) q hq)
      have HE := Lib.hid e
      clear e
      go_wp2_with fail
      go_ret
      exact ⟨by rw [HE.out]; rfl, HBB.out.trans (HBW.out.mono HBB.out.size)⟩

set_option maxRecDepth 100000 in
set_option maxHeartbeats 4000000 in
theorem Rnamed_any (n : ByteArray) (w : World) :
    Calls Try.prog 53 #[.string n] w fun e w' => e = .returned (.int .i64 (namedF n)) ∧ Below w.heap.size w w' := by
  unfold namedF
  have hl12 : fixedL.length = 12 := rfl
  have HRF := Lib.hid (fun w => RFixed_any w)
  have HAT := Lib.hid (fun j (hj : j < 12) => (List.getElem?_eq_getElem (show j < fixedL.length from hj)))
  have HW1 := Lib.hid (where_at fixedL (isName n))
  have HW0 := Lib.hid (where_none fixedL (isName n))
  have HFV := Lib.hid (fun (w : World) (B : Nat) (p : Option Addr) (k cap : Nat) (h : OwnR B w (.slice p k cap) fixedL) => h.fv)
  have HSH := Lib.hid (fun (w : World) (B : Nat) (v : Value) (h : OwnR B w v fixedL) => own_shape h)
  rw [hl12] at HSH
  obtain ⟨x, hx⟩ : ∃ x, whereF fixedL (isName n) = x := ⟨_, rfl⟩
  rw [hx] at HW1 HW0 ⊢
  clear hx
  go_enter Try.func53, Try.ntmps53
  go_wp2_with fail
  refine (HRF.out _).mono ?_
  rintro e w1 ⟨v1, rfl, o1, b1⟩
  obtain ⟨p, cap, rfl, _⟩ := HSH.out _ _ _ o1
  have V1 := Lib.hid (HFV.out _ _ _ _ _ o1)
  have B1 := Lib.hid b1
  clear o1 b1
  go_wp2_with fail
  go_loopw [2, 4] (fun _ i wr => ∃ j : Nat, j ≤ 12 ∧ i = .int .i64 j ∧ (∀ i, i < j → ∀ q, fixedL[i]? = some q → isName n q = false) ∧ Below w1.heap.size w1 wr) (fun _ i _ => 12 - (intOf i).toNat)
  case atStart => exact ⟨0, by omega, rfl, fun i hi => by omega, Below.refl _ _⟩
  case round =>
    obtain ⟨j, hj, rfl, hno, hbw⟩ := hrel
    have HNO := Lib.hid hno
    have HBW := Lib.hid hbw
    clear hno
    by_cases hlt : j < 12
    · obtain ⟨g, o, rfl, hg, hc⟩ := (V1.out.below hbw) (by rw [hl12]; omega)
      have hq := HAT.out j hlt
      generalize fixedL[j] = q at *
      obtain ⟨k1, k2⟩ := hc j q hq
      obtain ⟨gn, gv⟩ := q
      simp only at k1 k2
      obtain ⟨b1, hb1⟩ : ∃ b, (gn.toList == n.toList) = b := ⟨_, rfl⟩
      have Hb1 : Hid (isName n (gn, gv) = b1) := Lib.hid hb1
      have HQ := Lib.hid hq
      clear hc hq hbw
      cases b1
      · go_wp2_with fail
        go_roundw
        case rel => exact ⟨j + 1, by omega, by go_num, fun i hi q hq => by
          rcases Nat.lt_succ_iff_lt_or_eq.1 hi with h | h
          · exact HNO.out i h q hq
          · subst h
            rw [HQ.out] at hq
            injection hq with hq
            rw [← hq]
            exact Hb1.out, HBW.out⟩
        case measure => simp [intOf]; omega
      · have HE := Lib.hid (HW1.out j _ HQ.out HNO.out Hb1.out)
        go_wp2_with fail
        go_ret
        exact ⟨by rw [HE.out]; rfl, B1.out.trans (HBW.out.mono B1.out.size)⟩
    · obtain rfl : j = 12 := by omega
      have HE := Lib.hid (HW0.out (fun i hi q hq => HNO.out i (by rw [← hl12]; exact hi) q hq))
      clear hbw
      go_wp2_with fail
      go_ret
      exact ⟨by rw [HE.out]; rfl, B1.out.trans (HBW.out.mono B1.out.size)⟩

end Go.Proofs.Ytgnoiheekgmleaa
