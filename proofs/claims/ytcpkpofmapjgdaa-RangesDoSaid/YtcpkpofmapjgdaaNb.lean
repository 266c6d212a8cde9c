/- ranges: contracts of place, Covers, Has. -/
import Derived.Test.YtcpkpofmapjgdaaNa
namespace Go.Proofs.Ytcpkpofmapjgdaa
open Go.ChangeShapes Go.WideShapes Go.RowKit
set_option linter.unusedVariables false

/-- The place of the first range that doesn't lie above a number. -/
def placeR : List Rg → Nat → Nat
  | [], _ => 0
  | r :: L, n => if n < r.1 then placeR L n + 1 else 0
theorem place_le : ∀ (L : List Rg) (n : Nat), placeR L n ≤ L.length
  | [], n => Nat.le_refl _
  | r :: L, n => by
    unfold placeR
    have := place_le L n
    split <;> simp <;> omega
/-- Ahead of it lie just those that are above. -/
theorem place_iff : ∀ (L : List Rg) (t n : Nat), OkB t L → ∀ i r, L[i]? = some r → (n < r.1 ↔ i < placeR L n)
  | [], t, n, _, i, r, hr => by simp at hr
  | q :: L, t, n, h, i, r, hr => by
    unfold placeR
    cases i with
    | zero =>
      simp at hr
      subst hr
      by_cases hc : n < q.1
      · rw [if_pos hc]; constructor <;> intro <;> omega
      · rw [if_neg hc]; constructor <;> intro <;> omega
    | succ i =>
      simp only [List.getElem?_cons_succ] at hr
      by_cases hc : n < q.1
      · rw [if_pos hc]
        have := place_iff L q.1 n h.2.2 i r hr
        omega
      · rw [if_neg hc]
        have := OkB.below h.2.2 r (List.mem_of_getElem? hr)
        omega

def coversR (L : List Rg) (low high : Nat) : Bool := decide (low ≤ high) && (match L[placeR L low]? with
  | none => false
  | some r => decide (high ≤ r.2))

set_option maxRecDepth 100000 in
set_option maxHeartbeats 1000000 in
theorem above_ok (w : World) (r1 r2 n : Nat) : Calls Try.prog 35 #[.agg #[.int .u64 (r1 : Int), .int .u64 (r2 : Int)], .int .u64 (n : Int)] w fun e w' => e = .returned (.int .i64 (if n < r1 then -1 else 1)) ∧ Below w.heap.size w w' := by
  by_cases hc : n < r1
  · rw [if_pos hc]
    have hb : Below w.heap.size w (w.alloc (.cells #[.int .u64 (r1 : Int), .int .u64 (r2 : Int)] 45)) := (Below.refl _ _).alloc (Nat.le_refl _) _
    go_enter Try.func35, Try.ntmps35
    go_wp2_with fail
    go_ret
    exact ⟨rfl, hb⟩
  · rw [if_neg hc]
    have hb : Below w.heap.size w (w.alloc (.cells #[.int .u64 (r1 : Int), .int .u64 (r2 : Int)] 45)) := (Below.refl _ _).alloc (Nat.le_refl _) _
    go_enter Try.func35, Try.ntmps35
    go_wp2_with fail
    go_ret
    exact ⟨rfl, hb⟩

set_option maxRecDepth 100000 in
set_option maxHeartbeats 1000000 in
theorem search_ok (B : Nat) (v : Value) (L : List Rg) (w : World) (n t : Nat) (h : w.ownsRow B 45 2 v L.length (rgs L)) (hn : L.length ≤ 1000000) (hOk : OkB t L) :
    Calls Try.prog 34 #[v, .int .u64 (n : Int), .func (.func 35) #[] #[]] w fun e w' => e = .returned (.tuple #[.int .i64 (placeR L n : Int), .bool false]) ∧ Below w.heap.size w w' := by
  obtain ⟨p, cap, rfl, hpn⟩ := own_shape h
  have hple := place_le L n
  obtain ⟨N, hN⟩ : ∃ N, L.length = N := ⟨_, rfl⟩
  have hiff := place_iff L t n hOk
  obtain ⟨P, hP⟩ : ∃ P, placeR L n = P := ⟨_, rfl⟩
  rw [hP] at hiff hple ⊢
  have HO := Lib.hid h
  have HN := Lib.hid hN
  have HI := Lib.hid hiff
  rw [hN] at hn hple ⊢
  clear h hOk hpn hN hiff hP
  go_enter Try.func34, Try.ntmps34
  go_wp2_with fail
  go_loopw [9, 10] (fun v9 v10 wr => ∃ i j : Nat, v9 = .int .i64 i ∧ v10 = .int .i64 j ∧ i ≤ P ∧ P ≤ j ∧ j ≤ N ∧ Below w.heap.size w wr) (fun v9 v10 _ => (intOf v10).toNat - (intOf v9).toNat)
  case atStart => exact ⟨0, N, rfl, rfl, by omega, by omega, by omega, Below.refl _ _⟩
  case round =>
    obtain ⟨i, j, rfl, rfl, h1, h2, h3, hbw⟩ := hrel
    by_cases hlt : i < j
    · obtain ⟨m, hm⟩ : ∃ m, (i + j) / 2 = m := ⟨_, rfl⟩
      have hmi : i ≤ m := by omega
      have hmj : m < j := by omega
      have hml : m < L.length := by rw [HN.out]; omega
      obtain ⟨⟨r1, r2⟩, hq⟩ : ∃ q, L[m]? = some q := ⟨_, List.getElem?_eq_getElem hml⟩
      have hme : ((i : Int) + (j : Int)) / 2 = (m : Int) := by omega
      obtain ⟨g1, cap1, hv, hgB, hg1, k0, k1⟩ := rg_cells HO.out m _ hq
      injection hv with hv1 hv2 hv3
      subst hv1
      have d0 := (hbw.cell (p := ⟨g1, m * 2, none⟩) hg1).trans k0
      have d1 := (hbw.cell (p := ⟨g1, m * 2 + 1, none⟩) hg1).trans k1
      have hi := HI.out m _ hq
      simp only at hi d0 d1
      have hcall := above_ok wr r1 r2 n
      have Hbw := Lib.hid hbw
      clear hbw k0 k1 hv2 hv3 hq
      by_cases hc : n < r1
      · rw [if_pos hc] at hcall
        have hmp : m < P := hi.1 hc
        have HC := Lib.hid hcall
        clear hcall hi hc hm
        go_wp2_with (rw [hme])
        refine HC.out.mono ?_
        rintro e w2 ⟨rfl, hb2⟩
        have hb3 := Lib.hid (Hbw.out.trans (hb2.mono Hbw.out.size))
        clear hb2
        go_wp2_with fail
        go_roundw
        case rel => exact ⟨m + 1, j, by go_num, rfl, by omega, by omega, by omega, hb3.out⟩
        case measure => simp [intOf]; omega
      · rw [if_neg hc] at hcall
        have hmp : P ≤ m := Nat.le_of_not_lt (fun h => hc (hi.2 h))
        have HC := Lib.hid hcall
        clear hcall hi hc hm
        go_wp2_with (rw [hme])
        refine HC.out.mono ?_
        rintro e w2 ⟨rfl, hb2⟩
        have hb3 := Lib.hid (Hbw.out.trans (hb2.mono Hbw.out.size))
        clear hb2
        go_wp2_with fail
        go_roundw
        case rel => exact ⟨i, m, rfl, by go_num, by omega, by omega, by omega, hb3.out⟩
        case measure => simp [intOf]; omega
    · obtain rfl : i = P := by omega
      obtain rfl : j = i := by omega
      by_cases hl : j < N
      · have hml : j < L.length := by rw [HN.out]; exact hl
        obtain ⟨⟨r1, r2⟩, hq⟩ : ∃ q, L[j]? = some q := ⟨_, List.getElem?_eq_getElem hml⟩
        obtain ⟨g1, cap1, hv, hgB, hg1, k0, k1⟩ := rg_cells HO.out j _ hq
        injection hv with hv1 hv2 hv3
        subst hv1
        have d0 := (hbw.cell (p := ⟨g1, j * 2, none⟩) hg1).trans k0
        have d1 := (hbw.cell (p := ⟨g1, j * 2 + 1, none⟩) hg1).trans k1
        have hi := HI.out j _ hq
        simp only at hi d0 d1
        have hc : ¬ n < r1 := by omega
        have hcall := above_ok wr r1 r2 n
        rw [if_neg hc] at hcall
        have HC := Lib.hid hcall
        have Hbw := Lib.hid hbw
        clear hbw k0 k1 hv2 hv3 hq hcall hi hc
        go_wp2_with fail
        refine HC.out.mono ?_
        rintro e w2 ⟨rfl, hb2⟩
        have hb3 := Lib.hid (Hbw.out.trans (hb2.mono Hbw.out.size))
        clear hb2
        go_wp2_with fail
        go_ret2
        exact ⟨rfl, hb3.out⟩
      · have Hbw := Lib.hid hbw
        clear hbw
        go_wp2_with fail
        go_ret2
        exact ⟨rfl, Hbw.out⟩

end Go.Proofs.Ytcpkpofmapjgdaa
