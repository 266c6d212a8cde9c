/- ranges: a set in memory; contracts of Least, Most, Count. -/
import Derived.Test.YtcpkpofmapjgdaaNp
import Derived.Test.YtcpkpofmapjgdaaRows
namespace Go.Proofs.Ytcpkpofmapjgdaa
open Go.ChangeShapes Go.WideShapes Go.RowKit
set_option linter.unusedVariables false

def rgVals (r : Rg) : List Value := [.int .u64 (r.1 : Int), .int .u64 (r.2 : Int)]
def rgs (l : List Rg) : List Value := l.flatMap rgVals
def rgV (r : Rg) : Value := .agg #[.int .u64 (r.1 : Int), .int .u64 (r.2 : Int)]
theorem rgs_append (a b : List Rg) : rgs (a ++ b) = rgs a ++ rgs b := by simp [rgs]
theorem rgs_one (p : Rg) : rgs [p] = rgVals p := by simp [rgs]
theorem rgs_length (l : List Rg) : (rgs l).length = l.length * 2 := by
  induction l with
  | nil => rfl
  | cons p l ih =>
    have : rgs (p :: l) = rgVals p ++ rgs l := rfl
    rw [this, List.length_append, ih, List.length_cons]
    simp [rgVals]
    omega
theorem rgs_at (l : List Rg) : ∀ (i : Nat) (p : Rg), l[i]? = some p → ∀ k, k < 2 → (rgs l)[i * 2 + k]? = (rgVals p)[k]? := by
  induction l with
  | nil => intro i p h; simp at h
  | cons q l ih =>
    intro i p h k hk
    have e : rgs (q :: l) = rgVals q ++ rgs l := rfl
    have e5 : (rgVals q).length = 2 := rfl
    rw [e]
    cases i with
    | zero =>
      simp at h
      subst h
      rw [List.getElem?_append_left (by rw [e5]; omega)]
      congr 1
      omega
    | succ i =>
      simp only [List.getElem?_cons_succ] at h
      rw [List.getElem?_append_right (by rw [e5]; omega), e5, ← ih i p h k hk]
      congr 1
      omega

theorem Try.infoR : (Try.prog.info? 45).map (fun i => (i.zero, i.size, i.bytes)) = some (some (.agg #[.int .u64 0, .int .u64 0]), 2, 16) := by kernel_rfl

/-- A set that lies in block b: its slice is v, its ranges are L. -/
structure SetIs (w : World) (b B : Nat) (v : Value) (L : List Rg) : Prop where
  at_ : blk w b 27 [v]
  own : w.ownsRow B 45 2 v L.length (rgs L)
  bw : B ≤ w.heap.size
  bb : B ≤ b

theorem SetIs.lt {w : World} {b B : Nat} {v : Value} {L : List Rg} (h : SetIs w b B v L) : b < w.heap.size := h.at_.lt
theorem SetIs.next {w w' : World} {b B : Nat} {v : Value} {L : List Rg} (h : SetIs w b B v L) (hb : Below w.heap.size w w') : SetIs w' b B v L :=
  ⟨h.at_.below hb h.lt, own_below h.own hb, Nat.le_trans h.bw hb.size, h.bb⟩

/-- A range's two cells at the place of element i. -/
theorem rg_cells {w : World} {base : Nat} {v : Value} {n : Nat} {l : List Rg} (h : w.ownsRow base 45 2 v n (rgs l)) (i : Nat) (p : Rg) (hp : l[i]? = some p) :
    ∃ g cap, v = .slice (some ⟨g, 0, none⟩) n cap ∧ base ≤ g ∧ g < w.heap.size ∧ w.cell? ⟨g, i * 2, none⟩ = some (.int .u64 (p.1 : Int)) ∧ w.cell? ⟨g, i * 2 + 1, none⟩ = some (.int .u64 (p.2 : Int)) := by
  have hl := h.1
  rw [rgs_length] at hl
  have hi : i < l.length := (List.getElem?_eq_some_iff.1 hp).1
  obtain ⟨g, cap, hv, hb, hg, hc, _⟩ := own_view h (by omega)
  exact ⟨g, cap, hv, hb, hg, hc _ _ (rgs_at l i p hp 0 (by omega)), hc _ _ (rgs_at l i p hp 1 (by omega))⟩

/-- The least number, and whether there is one. -/
def leastR (L : List Rg) : Nat × Bool := match L.getLast? with
  | none => (0, false)
  | some r => (r.1, true)
def mostR (L : List Rg) : Nat × Bool := match L with
  | [] => (0, false)
  | r :: _ => (r.2, true)

set_option maxRecDepth 100000 in
set_option maxHeartbeats 1000000 in
theorem most_ok (b B : Nat) (v : Value) (L : List Rg) (w : World) (h : SetIs w b B v L) (hn : L.length ≤ 1000000) (hOk : OkR L) :
    Calls Try.prog 25 #[.pointer (some ⟨b, 0, none⟩)] w fun e w' => e = .returned (.tuple #[.int .u64 ((mostR L).1 : Int), .bool (mostR L).2]) ∧ Below w.heap.size w w' := by
  have hbl := h.lt
  obtain ⟨p, cap, rfl, hpn⟩ := own_shape h.own
  have c0 : w.cell? ⟨b, 0, none⟩ = some (.slice p L.length cap) := h.at_.cell rfl
  cases L with
  | nil =>
    clear h hOk hpn
    simp only [List.length_nil] at c0
    go_enter Try.func25, Try.ntmps25
    go_wp2_with fail
    go_ret2
    exact ⟨rfl, Below.refl _ _⟩
  | cons r L =>
    obtain ⟨g, cap1, hv, hgB, hg1, k0, k1⟩ := rg_cells h.own 0 r rfl
    injection hv with hv1 hv2 hv3
    subst hv1
    obtain ⟨r1, r2⟩ := r
    obtain ⟨N, hN⟩ : ∃ N, ((r1, r2) :: L).length = N := ⟨_, rfl⟩
    have hN0 : 0 < N := by rw [← hN]; simp
    rw [hN] at c0 hn
    have e1 : mostR ((r1, r2) :: L) = (r2, true) := rfl
    rw [e1]
    clear h hOk hpn hN e1 hv2 hv3
    simp only [Nat.zero_mul, Nat.zero_add] at k0 k1
    go_enter Try.func25, Try.ntmps25
    go_wp2_with fail
    go_ret2
    exact ⟨rfl, Below.refl _ _⟩

set_option maxRecDepth 100000 in
set_option maxHeartbeats 1000000 in
theorem least_ok (b B : Nat) (v : Value) (L : List Rg) (w : World) (h : SetIs w b B v L) (hn : L.length ≤ 1000000) (hOk : OkR L) :
    Calls Try.prog 24 #[.pointer (some ⟨b, 0, none⟩)] w fun e w' => e = .returned (.tuple #[.int .u64 ((leastR L).1 : Int), .bool (leastR L).2]) ∧ Below w.heap.size w w' := by
  have hbl := h.lt
  obtain ⟨p, cap, rfl, hpn⟩ := own_shape h.own
  have c0 : w.cell? ⟨b, 0, none⟩ = some (.slice p L.length cap) := h.at_.cell rfl
  rcases hL : L.getLast? with _ | r
  · have : L = [] := List.getLast?_eq_none_iff.1 hL
    subst this
    clear h hOk hpn hL
    simp only [List.length_nil] at c0
    go_enter Try.func24, Try.ntmps24
    go_wp2_with fail
    go_ret2
    exact ⟨rfl, Below.refl _ _⟩
  · have e1 : leastR L = (r.1, true) := by unfold leastR; rw [hL]
    rw [e1]
    rw [List.getLast?_eq_getElem?] at hL
    obtain ⟨g, cap1, hv, hgB, hg1, k0, k1⟩ := rg_cells h.own _ r hL
    injection hv with hv1 hv2 hv3
    subst hv1
    have hN0 : 0 < L.length := by
      rcases Nat.eq_zero_or_pos L.length with h0 | h0
      · rw [List.getElem?_eq_none (by omega)] at hL; cases hL
      · exact h0
    obtain ⟨r1, r2⟩ := r
    obtain ⟨N, hN⟩ : ∃ N, L.length = N := ⟨_, rfl⟩
    rw [hN] at c0 hn hN0 k0 k1
    clear h hOk hpn hN e1 hv2 hv3 hL
    go_enter Try.func24, Try.ntmps24
    go_wp2_with fail
    go_region
    go_wp2_with fail
    go_ret2
    exact ⟨rfl, rfl, rfl, rfl, Nat.le_refl _, fun _ _ => rfl⟩

theorem count_take (L : List Rg) (j : Nat) (r : Rg) (h : L[j]? = some r) : countR (L.take (j + 1)) = countR (L.take j) + (r.2 - r.1 + 1) := by
  have hj : j < L.length := (List.getElem?_eq_some_iff.1 h).1
  have e : L[j] = r := by rw [List.getElem?_eq_getElem hj] at h; exact Option.some.inj h
  rw [List.take_succ_eq_append_getElem hj, e]
  unfold countR
  simp
theorem count_part (L : List Rg) (j : Nat) : countR (L.take j) ≤ countR L := by
  conv => rhs; rw [← List.take_append_drop j L]
  unfold countR
  rw [List.map_append, List.sum_append]
  omega

set_option maxRecDepth 100000 in
set_option maxHeartbeats 1000000 in
theorem count_ok (b B : Nat) (v : Value) (L : List Rg) (w : World) (h : SetIs w b B v L) (hn : L.length ≤ 1000000) (hOk : OkR L) :
    Calls Try.prog 22 #[.pointer (some ⟨b, 0, none⟩)] w fun e w' => e = .returned (.int .u64 (countR L : Int)) ∧ Below w.heap.size w w' := by
  have hbl := h.lt
  obtain ⟨p, cap, rfl, hpn⟩ := own_shape h.own
  have c0 : w.cell? ⟨b, 0, none⟩ = some (.slice p L.length cap) := h.at_.cell rfl
  obtain ⟨N, hN⟩ : ∃ N, L.length = N := ⟨_, rfl⟩
  have HO := Lib.hid h.own
  have HK := Lib.hid hOk
  have HN := Lib.hid hN
  rw [hN] at c0 hn
  clear h hOk hpn hN
  go_enter Try.func22, Try.ntmps22
  go_wp2_with fail
  go_loopw [3, 11] (fun v3 i wr => ∃ j : Nat, j ≤ N ∧ i = .int .i64 j ∧ v3 = .int .u64 (countR (L.take j) : Int) ∧ Below w.heap.size w wr) (fun _ i _ => N - (intOf i).toNat)
  case atStart => exact ⟨0, by omega, rfl, rfl, Below.refl _ _⟩
  case round =>
    obtain ⟨j, hj, rfl, rfl, hbw⟩ := hrel
    by_cases hlt : j < N
    · have hjl : j < L.length := by rw [HN.out]; exact hlt
      obtain ⟨⟨r1, r2⟩, hq⟩ : ∃ q, L[j]? = some q := ⟨_, List.getElem?_eq_getElem hjl⟩
      obtain ⟨g1, cap1, hv, hgB, hg1, k0, k1⟩ := rg_cells HO.out j _ hq
      injection hv with hv1 hv2 hv3
      subst hv1
      have d0 := (hbw.cell (p := ⟨g1, j * 2, none⟩) hg1).trans k0
      have d1 := (hbw.cell (p := ⟨g1, j * 2 + 1, none⟩) hg1).trans k1
      have hct := count_take L j _ hq
      have hcp := count_part L (j + 1)
      have hcl := count_le L _ HK.out
      have hr := HK.out.below _ (List.mem_of_getElem? hq)
      obtain ⟨C, hC⟩ : ∃ C, countR (L.take j) = C := ⟨_, rfl⟩
      rw [hC] at hct ⊢
      rw [hct] at hcp
      simp only at hr hct hcp
      have HC := Lib.hid hct
      have hb2 := hbw.alloc hbw.size (.cells #[.int .u64 (r1 : Int), .int .u64 (r2 : Int)] 45)
      have Hbw := Lib.hid hb2
      clear hbw hb2 hC hct hq k0 k1 hv2 hv3
      go_wp2_with fail
      go_roundw
      case rel => exact ⟨j + 1, by omega, by go_num, by rw [HC.out]; congr 1; omega, Hbw.out⟩
      case measure => simp [intOf]; omega
    · obtain rfl : j = N := by omega
      rw [List.take_of_length_le (by rw [HN.out]; exact Nat.le_refl _)]
      go_wp2_with fail
      go_ret
      exact ⟨rfl, hbw⟩

end Go.Proofs.Ytcpkpofmapjgdaa
