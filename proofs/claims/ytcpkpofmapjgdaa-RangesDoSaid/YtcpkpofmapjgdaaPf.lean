/- ranges: the reference's Same. -/
import Derived.Test.YtcpkpofmapjgdaaPc
namespace Go.Proofs.Ytcpkpofmapjgdaa
open Go.ChangeShapes Go.WideShapes Go.RowKit
set_option linter.unusedVariables false

/-- Ranges that may be read from p on. -/
def RV (w : World) (p : Option Addr) (L : List Rg) : Prop :=
  0 < L.length → ∃ g o, p = some ⟨g, o, none⟩ ∧ g < w.heap.size ∧ ∀ i r, L[i]? = some r → w.cell? ⟨g, o + i * 2, none⟩ = some (.int .u64 (r.1 : Int)) ∧ w.cell? ⟨g, o + i * 2 + 1, none⟩ = some (.int .u64 (r.2 : Int))
theorem RV.of_row {w : World} {B n cap : Nat} {p : Option Addr} {L : List Rg} (h : w.ownsRow B 45 2 (.slice p n cap) n (rgs L)) : RV w p L := by
  intro h0
  obtain ⟨r, hr⟩ : ∃ r, L[0]? = some r := ⟨_, List.getElem?_eq_getElem h0⟩
  obtain ⟨g, rfl, _, _, _, _, hg⟩ := row_at h hr
  refine ⟨g, 0, rfl, hg, fun i q hq => ?_⟩
  obtain ⟨g2, e, k0, k1, _⟩ := row_at h hq
  injection e with e
  injection e with e
  subst e
  rw [Nat.zero_add]
  exact ⟨k0, k1⟩
theorem RV.below {w w' : World} {p : Option Addr} {L : List Rg} (h : RV w p L) (hb : Below w.heap.size w w') : RV w' p L := by
  intro h0
  obtain ⟨g, o, e, hg, hc⟩ := h h0
  exact ⟨g, o, e, Nat.lt_of_lt_of_le hg hb.size, fun i r hr => ⟨(hb.cell (p := ⟨g, o + i * 2, none⟩) hg).trans (hc i r hr).1, (hb.cell (p := ⟨g, o + i * 2 + 1, none⟩) hg).trans (hc i r hr).2⟩⟩
theorem RV.take {w : World} {p : Option Addr} {L : List Rg} (h : RV w p L) (k : Nat) : RV w p (L.take k) := by
  intro h0
  obtain ⟨g, o, e, hg, hc⟩ := h (by rw [List.length_take] at h0; omega)
  exact ⟨g, o, e, hg, fun i r hr => hc i r (by
    rw [List.getElem?_take] at hr
    split at hr
    · exact hr
    · cases hr)⟩

theorem same_at {A B : List Rg} (h : A.length = B.length) {j : Nat} (hj : ∀ i, i < j → A[i]? = B[i]?) : (j = A.length → A = B) ∧ ∀ a b, A[j]? = some a → B[j]? = some b → a ≠ b → A ≠ B := by
  constructor
  · rintro rfl
    apply List.ext_getElem?
    intro i
    by_cases hi : i < A.length
    · exact hj i hi
    · rw [List.getElem?_eq_none (by omega), List.getElem?_eq_none (by omega)]
  · intro a b ha hb hne e
    subst e
    rw [ha] at hb
    injection hb with hb
    exact hne hb

set_option maxRecDepth 100000 in
set_option maxHeartbeats 4000000 in
theorem same_ok (p q : Option Addr) (n m cap cap2 : Nat) (A B : List Rg) (w : World) (hA : RV w p A) (hB : RV w q B) (hn : A.length = n) (hm : B.length = m) (h1 : n ≤ 1000000) (h2 : m ≤ 1000000) :
    Calls Try.prog 15 #[.slice p n cap, .slice q m cap2] w fun e w' => e = .returned (.bool (decide (A = B))) ∧ Below w.heap.size w w' := by
  by_cases hne : n = m
  · subst hne
    have hlen : A.length = B.length := by omega
    have HAl := Lib.hid hn
    have HL := Lib.hid hlen
    have HA := Lib.hid hA
    have HB := Lib.hid hB
    clear hlen hA hB hm hn
    go_enter Try.func15, Try.ntmps15
    go_wp2_with fail
    go_loopw [5] (fun v5 wr => ∃ j : Nat, j ≤ n ∧ v5 = .int .i64 j ∧ (∀ i, i < j → A[i]? = B[i]?) ∧ Below w.heap.size w wr) (fun v5 _ => n - (intOf v5).toNat)
    case atStart => exact ⟨0, by omega, rfl, fun i hi => by omega, Below.refl _ _⟩
    case round =>
      obtain ⟨j, hj, rfl, hpre, hbw⟩ := hrel
      obtain ⟨hs1, hs2⟩ := same_at HL.out hpre
      have HP := Lib.hid hpre
      have Hb := Lib.hid hbw
      by_cases hlt : j < n
      · obtain ⟨⟨a1, a2⟩, ha⟩ : ∃ r, A[j]? = some r := ⟨_, List.getElem?_eq_getElem (by rw [HAl.out]; exact hlt)⟩
        obtain ⟨⟨b1, b2⟩, hb⟩ : ∃ r, B[j]? = some r := ⟨_, List.getElem?_eq_getElem (by rw [← HL.out, HAl.out]; exact hlt)⟩
        obtain ⟨g, o, rfl, hg, hc⟩ := HA.out (by rw [HAl.out]; omega)
        obtain ⟨g', o', rfl, hg', hc'⟩ := HB.out (by rw [← HL.out, HAl.out]; omega)
        have c0 := (hbw.cell (p := ⟨g, o + j * 2, none⟩) hg).trans (hc j _ ha).1
        have c1 := (hbw.cell (p := ⟨g, o + j * 2 + 1, none⟩) hg).trans (hc j _ ha).2
        have d0 := (hbw.cell (p := ⟨g', o' + j * 2, none⟩) hg').trans (hc' j _ hb).1
        have d1 := (hbw.cell (p := ⟨g', o' + j * 2 + 1, none⟩) hg').trans (hc' j _ hb).2
        have hdiff := hs2 _ _ ha hb
        have hstep : a1 = b1 → a2 = b2 → ∀ i, i < j + 1 → A[i]? = B[i]? := by
          rintro rfl rfl i hi
          by_cases hij : i < j
          · exact HP.out i hij
          · obtain rfl : i = j := by omega
            rw [ha, hb]
        have HD := Lib.hid hdiff
        have HS := Lib.hid hstep
        simp only at c0 c1 d0 d1
        clear hc hc' hpre hs1 hs2 hdiff hstep hbw ha hb
        by_cases e1 : a1 = b1
        · by_cases e2 : a2 = b2
          · subst e1 e2
            have f1 : ((a1 : Int) == (a1 : Int)) = true := by simp
            have f2 : ((a2 : Int) == (a2 : Int)) = true := by simp
            go_wp2_with fail
            go_quiet (fail)
            go_wp2_with fail
            go_roundw
            case rel => exact ⟨j + 1, by omega, by go_num, HS.out (by trivial) (by trivial), ⟨Hb.out.os, Hb.out.tape, Hb.out.output, Hb.out.size, Hb.out.block⟩⟩
            case measure => simp [intOf]; omega
          · have f1 : ((a1 : Int) == (b1 : Int)) = true := by subst e1; simp
            have f2 : ((a2 : Int) == (b2 : Int)) = false := by rw [beq_eq_false_iff_ne]; omega
            have hd : decide (A = B) = false := decide_eq_false (HD.out (fun h => e2 (congrArg Prod.snd h)))
            have Hd := Lib.hid hd
            clear hd
            go_wp2_with fail
            go_quiet (fail)
            go_wp2_with fail
            go_ret
            rw [Hd.out]
            exact ⟨rfl, ⟨Hb.out.os, Hb.out.tape, Hb.out.output, Hb.out.size, Hb.out.block⟩⟩
        · have f1 : ((a1 : Int) == (b1 : Int)) = false := by rw [beq_eq_false_iff_ne]; omega
          have hd : decide (A = B) = false := decide_eq_false (HD.out (fun h => e1 (congrArg Prod.fst h)))
          have Hd := Lib.hid hd
          clear hd
          go_wp2_with fail
          go_quiet (fail)
          go_wp2_with fail
          go_ret
          rw [Hd.out]
          exact ⟨rfl, ⟨Hb.out.os, Hb.out.tape, Hb.out.output, Hb.out.size, Hb.out.block⟩⟩
      · have hj5 : ¬ (j : Int) < (n : Int) := by omega
        obtain rfl := hs1 (by rw [HAl.out]; omega)
        clear hpre hs2 hbw
        go_wp2_with fail
        go_ret
        exact ⟨by simp, Hb.out⟩
  · have hlen : A ≠ B := fun e => hne (by rw [← hn, ← hm, e])
    have hd : decide (A = B) = false := decide_eq_false hlen
    rw [hd]
    have hne2 : ¬ (n : Int) = (m : Int) := by omega
    clear hA hB hn hm hlen hd
    go_enter Try.func15, Try.ntmps15
    go_wp2_with fail
    go_ret
    exact ⟨rfl, Below.refl _ _⟩

end Go.Proofs.Ytcpkpofmapjgdaa
