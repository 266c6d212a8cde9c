/- space: the reference's May of an acknowledgement that may be. -/
import Derived.Test.YtmnmpmiocgfalaaSv
namespace Go.Proofs.Ytmnmpmiocgfalaa
open Go.ChangeShapes Go.WideShapes Go.RowKit
set_option linter.unusedVariables false
set_option linter.unusedSimpArgs false

/-- Ranges that fall, with a number between. -/
def okRs (rs : List (Nat × Nat)) : Prop := ∀ i r, rs[i]? = some r → r.1 ≤ r.2 ∧ r.2 ≤ 4611686018427387903 ∧ ∀ q, 0 < i → rs[i - 1]? = some q → r.2 + 2 ≤ q.1
theorem okRs_of : ∀ {L : List Rg} {t : Nat}, OkB t L → t ≤ 4611686018427387905 → okRs L := by
  intro L
  induction L with
  | nil => intro t _ _ i r h; simp at h
  | cons z L ih =>
    intro t ho ht i r hr
    have hz := OkB.below ho z (by simp)
    cases i with
    | zero =>
      simp at hr
      subst hr
      exact ⟨hz.1, by omega, fun q h => by omega⟩
    | succ i =>
      simp only [List.getElem?_cons_succ] at hr
      have hb := OkB.below ho.2.2 r (List.mem_of_getElem? hr)
      have := ih ho.2.2 (by have := hz.2; omega) i r hr
      refine ⟨this.1, this.2.1, fun q _ hq => ?_⟩
      cases i with
      | zero =>
        simp at hq
        subst hq
        exact hb.2
      | succ i =>
        simp only [Nat.add_sub_cancel, List.getElem?_cons_succ] at hq
        exact this.2.2 q (by omega) (by simpa using hq)

set_option maxRecDepth 100000 in
set_option maxHeartbeats 4000000 in
theorem ranges03_ok (rs : List (Nat × Nat)) (p : Option Addr) (cap : Nat) (w : World) (hr : RgAt w p rs) (hok : okRs rs) (h1 : 1 ≤ rs.length) (h64 : rs.length ≤ 64) :
    Calls Try.prog 48 #[.slice p rs.length cap] w fun e w' => e = .returned (.bool true) ∧ Below w.heap.size w w' := by
  obtain ⟨N, hN⟩ : ∃ N, rs.length = N := ⟨_, rfl⟩
  rw [hN] at h1 h64 ⊢
  have HN := Lib.hid hN
  have HR := Lib.hid hr
  have HO := Lib.hid hok
  clear hr hok hN
  go_enter Try.func48, Try.ntmps48
  go_wp2_with fail
  go_loopw [3] (fun i wr => ∃ j : Nat, j ≤ N ∧ i = .int .i64 j ∧ Below w.heap.size w wr) (fun i _ => N - (intOf i).toNat)
  case atStart => exact ⟨0, by omega, rfl, Below.refl _ _⟩
  case round =>
    obtain ⟨j, hj, rfl, hbw⟩ := hrel
    by_cases hlt : j < N
    · obtain ⟨⟨a1, a2⟩, ha⟩ : ∃ r, rs[j]? = some r := ⟨_, List.getElem?_eq_getElem (by rw [HN.out]; exact hlt)⟩
      obtain ⟨g, o, rfl, hg, hc⟩ := HR.out (by rw [HN.out]; omega)
      obtain ⟨k1, k2, k3⟩ := HO.out j _ ha
      simp only at k1 k2 k3
      have c0 := (hbw.cell (p := ⟨g, o + j * 2, none⟩) hg).trans (hc j _ ha).1
      have c1 := (hbw.cell (p := ⟨g, o + j * 2 + 1, none⟩) hg).trans (hc j _ ha).2
      have hgl : g < wr.heap.size := Nat.lt_of_lt_of_le hg hbw.size
      simp only at c0 c1
      have f1 : decide ((a2 : Int) < (a1 : Int)) = false := by rw [decide_eq_false_iff_not]; omega
      have f1n : decide (a2 < a1) = false := by rw [decide_eq_false_iff_not]; omega
      have f2 : decide ((4611686018427387904 : Int) ≤ (a2 : Int)) = false := by rw [decide_eq_false_iff_not]; omega
      have Hb := Lib.hid hbw
      cases j with
      | zero =>
        rw [Nat.zero_mul, Nat.add_zero] at c0 c1
        clear hc ha hbw k1 k2 k3
        go_wp2_with fail
        go_quiet (fail)
        go_wp2_with fail
        go_quiet (fail)
        go_wp2_with fail
        go_roundw
        case rel => exact ⟨1, by omega, by first | rfl | go_num, below_drewN Hb.out _⟩
        case measure => simp [intOf]; omega
      | succ i =>
        obtain ⟨⟨b1, b2⟩, hb⟩ : ∃ r, rs[i]? = some r := ⟨_, List.getElem?_eq_getElem (by rw [HN.out]; omega)⟩
        have k4 := k3 (b1, b2) (by omega) (by simpa using hb)
        simp only at k4
        have d0 := (hbw.cell (p := ⟨g, o + i * 2, none⟩) hg).trans (hc i _ hb).1
        simp only at d0
        have e1 : IntKind.i64.wrap (((i + 1 : Nat) : Int) - 1) = (i : Int) := by rw [IntWalk.i64_in _ (by omega)]; omega
        have e2 : IntKind.u64.wrap ((b1 : Int) - 2) = ((b1 - 2 : Nat) : Int) := u64_sub b1 2 (by omega) (by have := HO.out i _ hb; simp only at this; omega)
        have e3 : decide ((b1 : Int) < 2) = false := by rw [decide_eq_false_iff_not]; omega
        have e4 : decide (((b1 - 2 : Nat) : Int) < (a2 : Int)) = false := by rw [decide_eq_false_iff_not]; omega
        have e5 : decide (b1 - 2 < a2) = false := by rw [decide_eq_false_iff_not]; omega
        have e6 : decide ((0 : Int) < ((i + 1 : Nat) : Int)) = true := by rw [decide_eq_true_iff]; omega
        clear hc ha hb hbw k1 k2 k3 k4
        go_wp2_with fail
        go_quiet (fail)
        go_wp2_with fail
        go_quiet (fail)
        go_wp2_with fail
        go_roundw
        case rel => exact ⟨i + 1 + 1, by omega, by go_num, below_drewN Hb.out _⟩
        case measure => simp [intOf]; omega
    · obtain rfl : j = N := by omega
      have e1 : (1 : Int) ≤ (j : Int) := by omega
      have e2 : (j : Int) ≤ 64 := by omega
      have Hb := Lib.hid hbw
      clear hbw
      go_wp2_with fail
      go_ret
      exact ⟨rfl, Hb.out⟩

set_option maxRecDepth 100000 in
set_option maxHeartbeats 4000000 in
theorem may03_ack (rs : List (Nat × Nat)) (p : Option Addr) (cap : Nat) (w : World) (hr : RgAt w p rs) (hok : okRs rs) (h1 : 1 ≤ rs.length) (h64 : rs.length ≤ 64) :
    Calls Try.prog 14 #[.agg #[.int .u64 2, .int .u64 0, .int .u64 0, .int .u64 0, .bool false, .string ⟨#[]⟩, .string ⟨#[]⟩, .slice p rs.length cap]] w fun e w' => e = .returned (.bool true) ∧ Below w.heap.size w w' := by
  obtain ⟨W, hW⟩ : ∃ W, w.alloc (.cells #[.int .u64 2, .int .u64 0, .int .u64 0, .int .u64 0, .bool false, .string ⟨#[]⟩, .string ⟨#[]⟩, .slice p rs.length cap] 43) = W := ⟨_, rfl⟩
  have hb : Below w.heap.size w W := by rw [← hW]; exact (Below.refl _ _).alloc (Nat.le_refl _) _
  have HR := Lib.hid (ranges03_ok rs p cap W (hr.below hb) hok h1 h64)
  obtain ⟨N, hN⟩ : ∃ N, rs.length = N := ⟨_, rfl⟩
  rw [hN] at HR hW ⊢
  have hk : blk W w.heap.size 43 [.int .u64 2, .int .u64 0, .int .u64 0, .int .u64 0, .bool false, .string ⟨#[]⟩, .string ⟨#[]⟩, .slice p N cap] := by rw [← hW]; exact blk.new w _ _
  have HB := Lib.hid hb
  obtain ⟨H, hH⟩ : ∃ H, w.heap.size = H := ⟨_, rfl⟩
  rw [hH] at hk
  have x0 := hk.cell (k := 0) rfl
  have x1 := hk.cell (k := 1) rfl
  have x2 := hk.cell (k := 2) rfl
  have x3 := hk.cell (k := 3) rfl
  have x4 := hk.cell (k := 4) rfl
  have x5 := hk.cell (k := 5) rfl
  have x6 := hk.cell (k := 6) rfl
  have x7 := hk.cell (k := 7) rfl
  have hHl := hk.lt
  have hnum : ∀ w, Calls Try.prog 46 #[.int .u64 2] w fun e w' => e = .returned (.int .i64 1) ∧ w = w' := by
    intro w
    go_enter Try.func46, Try.ntmps46
    go_wp2_with fail
    go_ret
    exact ⟨rfl, rfl⟩
  have hdat : ∀ w, Calls Try.prog 47 #[.int .u64 2] w fun e w' => e = .returned (.bool false) ∧ w = w' := by
    intro w
    go_enter Try.func47, Try.ntmps47
    go_wp2_with fail
    go_ret
    exact ⟨rfl, rfl⟩
  have HNU := fun w => Lib.hid (hnum w)
  have HDA := fun w => Lib.hid (hdat w)
  have HH := Lib.hid hH
  clear hb hr hok hN hk hnum hdat
  go_enter Try.func14, Try.ntmps14
  go_wp2_with fail
  refine (HNU _).out.mono ?_
  rintro e w' ⟨rfl, rfl⟩
  go_wp2_with fail
  refine (HDA _).out.mono ?_
  rintro e w' ⟨rfl, rfl⟩
  go_wp2_with fail
  refine HR.out.mono ?_
  rintro e w2 ⟨rfl, hb2⟩
  have HB2 := Lib.hid (HB.out.trans (hb2.mono HB.out.size))
  clear hb2
  go_wp2_with fail
  go_ret
  exact ⟨rfl, HB2.out⟩

end Go.Proofs.Ytmnmpmiocgfalaa
