/- Printed by wip/tools/does_tpl.py out of texts of other layers. -/
import Derived.Test.YtmnmpmiocgfalaaVa

namespace Go.Proofs.Ytmnmpmiocgfalaa
open Go.ChangeShapes Go.WideShapes Go.RowKit
set_option linter.unusedVariables false

def dueStep (bi : Bool) (bn : Nat) (m : Option Nat) (q : Pk) : Option Nat :=
  if behindF bi bn q.num then (match m with | none => some q.time | some t => some (min t q.time)) else m
def dueM (bi : Bool) (bn : Nat) (l : List Pk) : Option Nat := l.foldl (dueStep bi bn) none

theorem due_some (bi : Bool) (bn m : Nat) (l : List Pk) : l.foldl (dueStep bi bn) (some m) = some (minT bi bn m l) := by
  induction l generalizing m with
  | nil => rfl
  | cons q l ih =>
    rw [List.foldl_cons]
    unfold minT
    rw [List.foldl_cons]
    unfold dueStep
    split
    · exact ih _
    · exact ih _
theorem due_none (bi : Bool) (bn : Nat) (l : List Pk) (h : ∀ q ∈ l, behindF bi bn q.num = false) (m : Option Nat) : l.foldl (dueStep bi bn) m = m := by
  induction l with
  | nil => rfl
  | cons q l ih =>
    rw [List.foldl_cons]
    have : dueStep bi bn m q = m := by unfold dueStep; rw [h q (by simp), if_neg Bool.false_ne_true]
    rw [this]
    exact ih (fun x hx => h x (by simp [hx]))
theorem minT_none (bi : Bool) (bn : Nat) (l : List Pk) (h : ∀ q ∈ l, behindF bi bn q.num = false) (m : Nat) : minT bi bn m l = m := by
  have := due_some bi bn m l
  rw [due_none bi bn l h] at this
  exact (Option.some.inj this).symm
theorem due_find (bi : Bool) (bn : Nat) (l : List Pk) (p : Pk) (h : l.find? (fun q => behindF bi bn q.num) = some p) : dueM bi bn l = some (minT bi bn p.time l) := by
  obtain ⟨hp, pre, post, rfl, has⟩ := List.find?_eq_some_iff_append.1 h
  have has2 : ∀ q ∈ pre, behindF bi bn q.num = false := fun q hq => by simpa using has q hq
  unfold dueM minT
  rw [List.foldl_append, List.foldl_append, due_none bi bn pre has2, List.foldl_cons, List.foldl_cons]
  have e1 : pre.foldl (fun m q => if behindF bi bn q.num then min m q.time else m) p.time = p.time := minT_none bi bn pre has2 p.time
  have e2 : dueStep bi bn none p = some p.time := by unfold dueStep; rw [if_pos hp]
  rw [e1, e2, due_some, if_pos hp, Nat.min_self]
  rfl
theorem due_any (bi : Bool) (bn : Nat) (l : List Pk) (h : l.any (fun q => behindF bi bn q.num) = false) : dueM bi bn l = none := by
  refine due_none bi bn l (fun q hq => ?_) none
  rw [List.any_eq_false] at h
  simpa using h q hq

/-- What Due tells, in one. -/
def dueV (wait : Nat) : Option Nat → Value
  | none => .tuple #[.int .u64 0, .bool false]
  | some m => .tuple #[.int .u64 (IntKind.u64.wrap ((m : Nat) + (wait : Int))), .bool true]
theorem DueEnd.one {S : Lg} {wait : Nat} {w : World} {e : Ending} {w' : World} (h : DueEnd S wait w e w') : e = .returned (dueV wait (dueM S.bi S.bn S.op)) ∧ Below w.heap.size w w' := by
  obtain ⟨hb, h⟩ := h
  rcases h with ⟨h1, h2⟩ | ⟨p, h1, h2⟩
  · rw [due_any _ _ _ h1]; exact ⟨h2, hb⟩
  · rw [due_find _ _ _ _ h1]; exact ⟨h2, hb⟩

theorem beh_sg (bi : Bool) (bn num : Nat) : decide ((num : Int) < sg bi bn) = behindF bi bn num := by
  unfold sg behindF
  cases bi with
  | false =>
    rw [if_neg Bool.false_ne_true, Bool.false_and, decide_eq_false_iff_not]; omega
  | true =>
    rw [if_pos rfl, Bool.true_and, decide_eq_decide]; omega
theorem far_sg (bi : Bool) (bn num : Nat) : decide ((num : Int) + 3 ≤ sg bi bn) = farF bi bn num := by
  unfold sg farF behindF
  cases bi with
  | false =>
    rw [if_neg Bool.false_ne_true, Bool.false_and, Bool.false_and, decide_eq_false_iff_not]; omega
  | true =>
    rw [if_pos rfl, Bool.true_and, ← Bool.decide_and, decide_eq_decide]; omega

set_option maxRecDepth 100000 in
set_option maxHeartbeats 2000000 in
theorem rDue_any (B b : Nat) (v : Value) (S : Lg) (w : World) (wait : Nat) (h : ROwns B b v S w) (hI : Inv S) :
    Calls Try.prog 34 #[.pointer (some ⟨b, 0, none⟩), .int .u64 (wait : Int)] w fun e w' => e = .returned (dueV wait (dueM S.bi S.bn S.op)) ∧ Below w.heap.size w w' := by
  have hlen := hI.len1
  have hnm : ∀ p ∈ S.op, p.num ≤ 4611686018427387903 := fun p hp => Nat.le_trans (hI.le p hp).1 hI.ln
  obtain ⟨hs1, hs2⟩ := sg_bounds (is := S.bi) (Nat.le_trans hI.bl hI.ln)
  have hbl := h.led.lt
  have hO := h.own
  obtain ⟨p, cap, rfl, hpn⟩ := own_shape hO
  have c0 : w.cell? ⟨b, 0, none⟩ = some (.slice p S.op.length cap) := h.led.cell rfl
  have c2 := h.led.cell (k := 2) rfl
  have hbeh := fun num => beh_sg S.bi S.bn num
  obtain ⟨N, hN⟩ : ∃ N, S.op.length = N := ⟨_, rfl⟩
  obtain ⟨be, hbe⟩ : ∃ x, sg S.bi S.bn = x := ⟨_, rfl⟩
  rw [hN] at hpn hlen hO c0
  rw [hbe] at c2 hs1 hs2
  simp only [hbe] at hbeh
  have HN := Lib.hid hN
  have HO := Lib.hid hO
  have Hnm := Lib.hid hnm
  have Hbeh := Lib.hid hbeh
  clear h hN hO hpn hnm hI hbeh hbe
  go_enter Try.func34, Try.ntmps34
  go_wp2_with fail
  go_loopw [6, 7, 8] (fun is f i wr => ∃ j : Nat, ∃ z : Bool, ∃ t : Nat, j ≤ N ∧ i = .int .i64 j ∧ is = .bool z ∧ f = .int .u64 t ∧ dueM S.bi S.bn (S.op.take j) = (if z then some t else none) ∧ Below w.heap.size w wr) (fun _ _ i _ => N - (intOf i).toNat)
  case atStart => exact ⟨0, false, 0, by omega, rfl, rfl, rfl, rfl, Below.refl _ _⟩
  case round =>
    obtain ⟨j, z, t, hj, rfl, rfl, rfl, hm, hbw⟩ := hrel
    have e0 := (hbw.cell (p := ⟨b, 0, none⟩) hbl).trans c0
    have e2 := (hbw.cell (p := ⟨b, 2, none⟩) hbl).trans c2
    have hblr := Nat.lt_of_lt_of_le hbl hbw.size
    by_cases hlt : j < N
    · have hjl : j < S.op.length := by rw [HN.out]; exact hlt
      obtain ⟨q, hq⟩ : ∃ q, S.op[j] = q := ⟨_, rfl⟩
      have hq2 : S.op[j]? = some q := by rw [List.getElem?_eq_getElem hjl, hq]
      obtain ⟨g1, cap1, hv, hgB, hg1, k0, k1, k2, k3, k4⟩ := rpk_cells HO.out j q hq2
      injection hv with hv1 hv2 hv3
      subst hv1
      have hqm : q ∈ S.op := by rw [← hq]; exact List.getElem_mem _
      have hqn := Hnm.out q hqm
      have hst : dueM S.bi S.bn (S.op.take (j + 1)) = dueStep S.bi S.bn (if z then some t else none) q := by rw [List.take_succ_eq_append_getElem hjl, hq, ← hm]; unfold dueM; rw [List.foldl_append]; rfl
      have hbq := Hbeh.out q.num
      obtain ⟨num, time, size, asks, fa, fl, fc⟩ := q
      simp only at k0 k1 k2 k3 k4 hqn hbq
      unfold dueStep at hst
      simp only [← hbq] at hst
      have x0 := (hbw.cell (p := ⟨g1, j * 5, none⟩) hg1).trans k0
      have x1 := (hbw.cell (p := ⟨g1, j * 5 + 1, none⟩) hg1).trans k1
      have hg1r := Nat.lt_of_lt_of_le hg1 hbw.size
      have Hbw := Lib.hid hbw
      clear hbw hq hq2 k0 k1 k2 k3 k4 hv2 hv3 hqm hm hbq
      by_cases hb : (num : Int) < be
      · have db : decide ((num : Int) < be) = true := by rw [decide_eq_true_iff]; exact hb
        rw [db, if_pos rfl] at hst
        cases z
        · simp only [Bool.false_eq_true, if_false] at hst
          have Hst := Lib.hid hst
          clear hst
          go_wp2_with fail
          go_quiet (fail)
          go_wp2_with fail
          go_roundw
          case rel => exact ⟨j + 1, true, time, by omega, by go_num, rfl, rfl, Hst.out, below_drewN Hbw.out _⟩
          case measure => simp [intOf]; omega
        · simp only [if_true] at hst
          by_cases ht : time < t
          · have dt : decide (time < t) = true := by rw [decide_eq_true_iff]; exact ht
            have hst2 : dueM S.bi S.bn (S.op.take (j + 1)) = some time := by rw [hst]; congr 1; omega
            have Hst := Lib.hid hst2
            clear hst hst2
            go_wp2_with fail
            go_quiet (fail)
            go_wp2_with fail
            go_roundw
            case rel => exact ⟨j + 1, true, time, by omega, by go_num, rfl, rfl, Hst.out, below_drewN Hbw.out _⟩
            case measure => simp [intOf]; omega
          · have dt : decide (time < t) = false := by rw [decide_eq_false_iff_not]; exact ht
            have hst2 : dueM S.bi S.bn (S.op.take (j + 1)) = some t := by rw [hst]; congr 1; omega
            have Hst := Lib.hid hst2
            clear hst hst2
            go_wp2_with fail
            go_quiet (fail)
            go_wp2_with fail
            go_roundw
            case rel => exact ⟨j + 1, true, t, by omega, by go_num, rfl, rfl, Hst.out, below_drewN Hbw.out _⟩
            case measure => simp [intOf]; omega
      · have db : decide ((num : Int) < be) = false := by rw [decide_eq_false_iff_not]; exact hb
        rw [db, if_neg Bool.false_ne_true] at hst
        have Hst := Lib.hid hst
        clear hst
        go_wp2_with fail
        go_quiet (fail)
        go_wp2_with fail
        go_roundw
        case rel => exact ⟨j + 1, z, t, by omega, by go_num, rfl, rfl, Hst.out, below_drewN Hbw.out _⟩
        case measure => simp [intOf]; omega
    · obtain rfl : j = N := by omega
      rw [List.take_of_length_le (by rw [HN.out]; exact Nat.le_refl _)] at hm
      have Hm := Lib.hid hm
      have Hbw := Lib.hid hbw
      clear hm hbw
      cases z
      · go_wp2_with fail
        go_ret2
        exact ⟨by rw [Hm.out]; rfl, Hbw.out⟩
      · go_wp2_with fail
        go_ret2
        exact ⟨by rw [Hm.out]; rfl, Hbw.out⟩

end Go.Proofs.Ytmnmpmiocgfalaa
