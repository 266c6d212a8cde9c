/- ranges: the document's answer: touch, Covers, Count, Top, Drop. -/
import Derived.Test.YtcpkpofmapjgdaaQa
import Derived.StillTailTactics
import Derived.IntWalk
namespace Go.Proofs.Ytcpkpofmapjgdaa
open Go.ChangeShapes Go.WideShapes Go.RowKit
set_option linter.unusedVariables false

/-- The document's set. -/
structure RIs (w : World) (b B : Nat) (v : Value) (L : List Rg) : Prop where
  at_ : blk w b 30 [v]
  own : w.ownsRow B 45 2 v L.length (rgs L)
  bw : B ≤ w.heap.size
  bb : B ≤ b
theorem RIs.lt {w : World} {b B : Nat} {v : Value} {L : List Rg} (h : RIs w b B v L) : b < w.heap.size := h.at_.lt
theorem RIs.next {w w' : World} {b B : Nat} {v : Value} {L : List Rg} (h : RIs w b B v L) (hb : Below w.heap.size w w') : RIs w' b B v L :=
  ⟨h.at_.below hb h.lt, own_below h.own hb, Nat.le_trans h.bw hb.size, h.bb⟩
/-- What it has come to: of old memory only the set itself has turned. -/
def RTo (b B : Nat) (w : World) (v' : Value) (L' : List Rg) (w' : World) : Prop :=
  RIs w' b B v' L' ∧ Only (fun k => k = b) w w' ∧ ∀ k, v'.ownBlock = some k → w.heap.size ≤ k

theorem RIs.to {w wr : World} {b B : Nat} {v v' : Value} {L L' : List Rg} (h : RIs w b B v L) (hb : Below w.heap.size w wr) (ho : wr.ownsRow w.heap.size 45 2 v' L'.length (rgs L')) : RTo b B w v' L' (wr.setCell ⟨b, 0, none⟩ v') := by
  have hl := h.lt
  have h2 := h.next hb
  have hne : v'.ownBlock ≠ some b := own_ne ho h2.at_ (by decide)
  have hO : Only (fun k => k = b) w (wr.setCell ⟨b, 0, none⟩ v') := Only.setCell (S := fun k => k = b) (p := ⟨b, 0, none⟩) (Only.ofBelow hb) (.inl rfl) _
  refine ⟨⟨blk.set h2.at_ 0 _, own_base (ownsRow_setCell_other (a := ⟨b, 0, none⟩) ho hne _) h.bw, Nat.le_trans h.bw hO.size, h.bb⟩, hO, fun k hk => (own_base_le ho k hk).1⟩

theorem Try.infoRg : (Try.prog.info? 45).map (fun i => (i.zero, i.size, i.bytes)) = some (some (.agg #[.int .u64 0, .int .u64 0]), 2, 16) := by kernel_rfl

set_option maxRecDepth 100000 in
set_option maxHeartbeats 1000000 in
theorem touch_ok (a1 a2 b1 b2 : Nat) (w : World) (h1 : a2 ≤ 4611686018427387903) (h2 : b2 ≤ 4611686018427387903) :
    Calls Try.prog 27 #[.agg #[.int .u64 (a1 : Int), .int .u64 (a2 : Int)], .agg #[.int .u64 (b1 : Int), .int .u64 (b2 : Int)]] w fun e w' => e = .returned (.bool (touchB (a1, a2) (b1, b2))) ∧ Below w.heap.size w w' := by
  have hb : Below w.heap.size w ((w.alloc (.cells #[.int .u64 (a1 : Int), .int .u64 (a2 : Int)] 45)).alloc (.cells #[.int .u64 (b1 : Int), .int .u64 (b2 : Int)] 45)) := ((Below.refl _ _).alloc (Nat.le_refl _) _).alloc (by rw [World.size_alloc]; omega) _
  have HB := Lib.hid hb
  clear hb
  have hor : touchB (a1, a2) (b1, b2) = (decide (a1 ≤ b2 + 1) && decide (b1 ≤ a2 + 1)) := rfl
  rw [hor]
  have HO := Lib.hid hor
  clear hor HO
  by_cases c1 : a1 ≤ b2 + 1
  · by_cases c2 : b1 ≤ a2 + 1
    · rw [decide_eq_true c1, decide_eq_true c2]
      have d1 : (a1 : Int) ≤ (b2 : Int) + 1 := by omega
      have d2 : decide ((b1 : Int) ≤ (a2 : Int) + 1) = true := decide_eq_true (by omega)
      go_enter Try.func27, Try.ntmps27
      go_wp2_with fail
      go_ret
      exact ⟨rfl, HB.out⟩
    · rw [decide_eq_true c1, decide_eq_false c2]
      have d1 : (a1 : Int) ≤ (b2 : Int) + 1 := by omega
      have d2 : decide ((b1 : Int) ≤ (a2 : Int) + 1) = false := decide_eq_false (by omega)
      go_enter Try.func27, Try.ntmps27
      go_wp2_with fail
      go_ret
      exact ⟨rfl, HB.out⟩
  · rw [decide_eq_false c1]
    have d1 : (b2 : Int) + 1 < (a1 : Int) := by omega
    go_enter Try.func27, Try.ntmps27
    go_wp2_with fail
    go_ret
    exact ⟨rfl, HB.out⟩

/-- No range up to j covers. -/
def noneUp (L : List Rg) (low high j : Nat) : Prop := ∀ i r, i < j → L[i]? = some r → ¬ (low ≤ high ∧ r.1 ≤ low ∧ high ≤ r.2)
theorem none_step {L : List Rg} {low high j : Nat} {r : Rg} (h : noneUp L low high j) (hr : L[j]? = some r) (hn : ¬ (low ≤ high ∧ r.1 ≤ low ∧ high ≤ r.2)) : noneUp L low high (j + 1) := by
  intro i q hi hq
  by_cases e : i = j
  · subst e
    rw [hr] at hq
    injection hq with hq
    subst hq
    exact hn
  · exact h i q (by omega) hq
theorem none_all {L : List Rg} (hOk : OkR L) {low high : Nat} (h : noneUp L low high L.length) : coversR L low high = false := by
  rw [Bool.eq_false_iff]
  intro hc
  obtain ⟨h1, r, hr, h2, h3⟩ := (covers_iff hOk low high).1 hc
  obtain ⟨i, hi, e⟩ := List.getElem_of_mem hr
  exact h i r hi (by rw [List.getElem?_eq_getElem hi, e]) ⟨h1, h2, h3⟩

set_option maxRecDepth 100000 in
set_option maxHeartbeats 2000000 in
theorem rcovers_ok (b B : Nat) (v : Value) (L : List Rg) (w : World) (low high : Nat) (h : RIs w b B v L) (hn : L.length ≤ 1000000) (hOk : OkR L) :
    Calls Try.prog 20 #[.pointer (some ⟨b, 0, none⟩), .int .u64 (low : Int), .int .u64 (high : Int)] w fun e w' => e = .returned (.bool (coversR L low high)) ∧ Below w.heap.size w w' := by
  have hbl := h.lt
  obtain ⟨p, cap, rfl, hpn⟩ := own_shape h.own
  have c0 : w.cell? ⟨b, 0, none⟩ = some (.slice p L.length cap) := h.at_.cell rfl
  obtain ⟨N, hN⟩ : ∃ N, L.length = N := ⟨_, rfl⟩
  have HO := Lib.hid h.own
  have HK := Lib.hid hOk
  have HN := Lib.hid hN
  rw [hN] at c0 hn
  clear h hOk hpn hN
  go_enter Try.func20, Try.ntmps20
  go_wp2_with fail
  go_loop [7] (fun i => ∃ j : Nat, j ≤ N ∧ i = .int .i64 j ∧ noneUp L low high j) (fun i => N - (intOf i).toNat)
  case atStart => exact ⟨0, by omega, rfl, fun i r hi => by omega⟩
  case round =>
    obtain ⟨j, hj, rfl, hnone⟩ := hrel
    have HNo := Lib.hid hnone
    clear hnone
    by_cases hlt : j < N
    · obtain ⟨⟨r1, r2⟩, hq⟩ : ∃ q, L[j]? = some q := ⟨_, List.getElem?_eq_getElem (by rw [HN.out]; exact hlt)⟩
      obtain ⟨g1, cap1, hv, hgB, hg1, k0, k1⟩ := rg_cells HO.out j _ hq
      injection hv with hv1 hv2 hv3
      subst hv1
      have HQ := Lib.hid hq
      clear hv2 hv3 hq
      simp only at k0 k1
      by_cases e1 : low ≤ high
      · by_cases e2 : r1 ≤ low
        · by_cases e3 : high ≤ r2
          · have hc : coversR L low high = true := (covers_iff HK.out low high).2 ⟨e1, (r1, r2), List.mem_of_getElem? HQ.out, e2, e3⟩
            have HC := Lib.hid hc
            clear hc
            have f1 : (low : Int) ≤ (high : Int) := by omega
            have f2 : (r1 : Int) ≤ (low : Int) := by omega
            have f3 : (high : Int) ≤ (r2 : Int) := by omega
            go_wp2_with fail
            go_ret
            rw [HC.out]
            exact ⟨rfl, Below.refl _ _⟩
          · have hns := Lib.hid (none_step HNo.out HQ.out (by simp only; omega))
            have f1 : (low : Int) ≤ (high : Int) := by omega
            have f2 : (r1 : Int) ≤ (low : Int) := by omega
            have f3 : (r2 : Int) < (high : Int) := by omega
            go_wp2_with fail
            go_round
            case rel => exact ⟨j + 1, by omega, by go_num, hns.out⟩
            case measure => simp [intOf]; omega
        · have hns := Lib.hid (none_step HNo.out HQ.out (by simp only; omega))
          have f1 : (low : Int) ≤ (high : Int) := by omega
          have f2 : (low : Int) < (r1 : Int) := by omega
          go_wp2_with fail
          go_round
          case rel => exact ⟨j + 1, by omega, by go_num, hns.out⟩
          case measure => simp [intOf]; omega
      · have hns := Lib.hid (none_step HNo.out HQ.out (by simp only; omega))
        have f1 : (high : Int) < (low : Int) := by omega
        go_wp2_with fail
        go_round
        case rel => exact ⟨j + 1, by omega, by go_num, hns.out⟩
        case measure => simp [intOf]; omega
    · obtain rfl : j = N := by omega
      go_wp2_with fail
      go_ret
      rw [none_all HK.out (by rw [HN.out]; exact HNo.out)]
      exact ⟨rfl, Below.refl _ _⟩

set_option maxRecDepth 100000 in
set_option maxHeartbeats 2000000 in
theorem rcount_ok (b B : Nat) (v : Value) (L : List Rg) (w : World) (h : RIs w b B v L) (hn : L.length ≤ 1000000) (hOk : OkR L) :
    Calls Try.prog 23 #[.pointer (some ⟨b, 0, none⟩)] w fun e w' => e = .returned (.int .u64 (countR L : Int)) ∧ Below w.heap.size w w' := by
  have hbl := h.lt
  obtain ⟨p, cap, rfl, hpn⟩ := own_shape h.own
  have c0 : w.cell? ⟨b, 0, none⟩ = some (.slice p L.length cap) := h.at_.cell rfl
  obtain ⟨N, hN⟩ : ∃ N, L.length = N := ⟨_, rfl⟩
  have HO := Lib.hid h.own
  have HK := Lib.hid hOk
  have HN := Lib.hid hN
  rw [hN] at c0 hn
  clear h hOk hpn hN
  go_enter Try.func23, Try.ntmps23
  go_wp2_with fail
  go_loopw [3, 4] (fun v3 i wr => ∃ j : Nat, j ≤ N ∧ i = .int .i64 j ∧ v3 = .int .u64 (countR (L.take j) : Int) ∧ Below w.heap.size w wr) (fun _ i _ => N - (intOf i).toNat)
  case atStart => exact ⟨0, by omega, rfl, rfl, Below.refl _ _⟩
  case round =>
    obtain ⟨j, hj, rfl, rfl, hbw⟩ := hrel
    have d := (hbw.cell (p := ⟨b, 0, none⟩) hbl).trans c0
    by_cases hlt : j < N
    · have hjl : j < L.length := by rw [HN.out]; exact hlt
      obtain ⟨⟨r1, r2⟩, hq⟩ : ∃ q, L[j]? = some q := ⟨_, List.getElem?_eq_getElem hjl⟩
      obtain ⟨g1, cap1, hv, hgB, hg1, k0, k1⟩ := rg_cells HO.out j _ hq
      injection hv with hv1 hv2 hv3
      subst hv1
      have d0 := (hbw.cell (p := ⟨g1, j * 2, none⟩) hg1).trans k0
      have d1 := (hbw.cell (p := ⟨g1, j * 2 + 1, none⟩) hg1).trans k1
      have hct := count_take L j _ hq
      have hcp := count_part L (j + 1)
      have hcl := count_le L _ HK.out
      have hr := HK.out.below _ (List.mem_of_getElem? hq)
      obtain ⟨C, hC⟩ : ∃ C, countR (L.take j) = C := ⟨_, rfl⟩
      rw [hC] at hct ⊢
      rw [hct] at hcp
      simp only at hr hct hcp d0 d1
      obtain ⟨D, hD⟩ : ∃ D, r1 + D = r2 := ⟨r2 - r1, by omega⟩
      have e1 : IntKind.u64.wrap ((r2 : Int) - (r1 : Int)) = (D : Int) := by rw [show (r2 : Int) - (r1 : Int) = (D : Int) by omega]; exact IntWalk.u64_in _ (by omega)
      have e2 : IntKind.u64.wrap ((D : Int) + 1) = ((D + 1 : Nat) : Int) := by rw [show (D : Int) + 1 = ((D + 1 : Nat) : Int) by omega]; exact IntWalk.u64_in _ (by omega)
      obtain ⟨D1, hD1⟩ : ∃ D1, D + 1 = D1 := ⟨_, rfl⟩
      rw [hD1] at e2
      have e3 : IntKind.u64.wrap ((C : Int) + (D1 : Int)) = ((C + D1 : Nat) : Int) := by rw [show (C : Int) + (D1 : Int) = ((C + D1 : Nat) : Int) by omega]; exact IntWalk.u64_in _ (by omega)
      obtain ⟨S, hS⟩ : ∃ S, C + D1 = S := ⟨_, rfl⟩
      rw [hS] at e3
      have hct2 : countR (L.take (j + 1)) = S := by omega
      have HC := Lib.hid hct2
      have Hbw := Lib.hid hbw
      clear hbw hC hct hct2 hcp hcl hq k0 k1 hv2 hv3 hr hD hD1 hS hjl
      go_wp2_with fail
      go_quiet (fail)
      go_wp2_with fail
      go_roundw
      case rel => exact ⟨j + 1, by omega, by go_num, by rw [HC.out], ⟨Hbw.out.os, Hbw.out.tape, Hbw.out.output, Hbw.out.size, Hbw.out.block⟩⟩
      case measure => simp [intOf]; omega
    · obtain rfl : j = N := by omega
      rw [List.take_of_length_le (by rw [HN.out]; exact Nat.le_refl _)]
      go_wp2_with fail
      go_ret
      exact ⟨rfl, hbw⟩

end Go.Proofs.Ytcpkpofmapjgdaa
