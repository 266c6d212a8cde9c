/- The law HeadWhole, walked. -/
import Derived.Test.YtngnfijpfghodaaDw
namespace Go.Proofs.Ytngnfijpfghodaa
open Go.ChangeShapes Go.WideShapes Go.RowKit
set_option linter.unusedVariables false

theorem flat_take (L : List (List UInt8)) (j : Nat) (p : List UInt8) (h : L[j]? = some p) : (L.take (j + 1)).flatten = (L.take j).flatten ++ p := by
  have hj : j < L.length := (List.getElem?_eq_some_iff.1 h).1
  rw [List.take_succ_eq_append_getElem hj, List.flatten_append]
  have : L[j] = p := by rw [List.getElem?_eq_getElem hj] at h; injection h
  rw [this]
  simp
theorem flat_len (L : List (List UInt8)) (j : Nat) : (L.take j).flatten.length ≤ L.flatten.length := by
  conv => rhs; rw [← List.take_append_drop j L, List.flatten_append, List.length_append]
  omega

theorem flat_many (L : List (List UInt8)) (h : ∀ p ∈ L, p ≠ []) : L.length ≤ L.flatten.length := by
  induction L with
  | nil => simp
  | cons p L ih =>
    have h1 := h p (by simp)
    have h2 := ih (fun q hq => h q (by simp [hq]))
    have h3 := List.length_pos_iff.2 h1
    simp only [List.flatten_cons, List.length_append, List.length_cons]
    omega

set_option maxRecDepth 100000 in
set_option maxHeartbeats 4000000 in
theorem whole_walk (s : ByteArray) (_ : s.size ≤ maxLen) (w : World) : Calls Try.prog 4 #[.string s] w fun e w' => e = .returned (.bool true) ∧ Below w.heap.size w w' := by
  obtain ⟨l, hl⟩ : ∃ l, txt l = s := ⟨byt s, txt_byt s⟩
  have hsz : s.size = l.length := by rw [← hl, txt_size]
  by_cases hm : 2048 < l.length
  · have h1 := fun w => awake_any w
    have hd : decide ((2048 : Int) < (s.size : Int)) = true := by rw [decide_eq_true_iff]; omega
    clear hl hsz hm
    go_enter Try.func4, Try.ntmps4
    go_wp2_with fail
    refine (h1 _).mono ?_
    rintro e w1 ⟨rfl, b⟩
    have HB := Lib.hid b
    clear b
    go_wp2_with fail
    go_ret
    exact ⟨rfl, HB.out⟩
  · have hW := fun w => Whole_any l w (by omega)
    rw [hl] at hW
    unfold WEnd at hW
    obtain ⟨SL, hSL⟩ : ∃ n, l.length = n := ⟨_, rfl⟩
    rw [hSL] at hsz hm
    have hd : decide ((2048 : Int) < (SL : Int)) = false := by rw [decide_eq_false_iff_not]; omega
    have HW := Lib.hid hW
    have Hl := Lib.hid hl
    have HSL := Lib.hid hSL
    have hSLb : SL ≤ 2048 := by omega
    clear hl hW hm hSL
    go_enter Try.func4, Try.ntmps4
    go_wp2_with fail
    refine (awake_any _).mono ?_
    rintro e w1 ⟨rfl, b⟩
    have HB1 := Lib.hid b
    clear b
    go_wp2_with fail
    refine (HW.out _).mono ?_
    rintro e w2 ⟨b, ⟨hn, rfl⟩ | ⟨L, v, hL, rfl, hO⟩⟩
    · have HB2 := Lib.hid (HB1.out.trans (b.mono HB1.out.size))
      clear b hn
      go_wp2_with fail
      go_ret
      exact ⟨rfl, HB2.out⟩
    · have HB2 := Lib.hid (HB1.out.trans (b.mono HB1.out.size))
      obtain ⟨f1, f2, f3, f4⟩ := whole_laws l.length l L (Nat.le_refl _) hL
      obtain ⟨N, hN⟩ : ∃ N, L.length = N := ⟨_, rfl⟩
      have hN0 : 0 < N := by rw [← hN]; exact List.length_pos_iff.2 f2
      have hO2 : w2.ownsRow w1.heap.size 9 1 v L.length (strs L) := hO
      obtain ⟨g, cap, rfl, hx1, hg, hc, hx2⟩ := own_view hO2 (by omega)
      clear hx1 hx2
      rw [hN]
      have hNb : N ≤ 2048 := by have := flat_many L f3; rw [f1, HSL.out, hN] at this; omega
      have HN := Lib.hid hN
      have HF1 := Lib.hid f1
      have HF3 := Lib.hid f3
      have HF4 := Lib.hid f4
      have HC := Lib.hid hc
      have HG := hg
      have Hfin : Hid ((txt l).toList == s.toList) := Lib.hid (by rw [Hl.out]; exact beq_self_eq_true _)
      clear hN f1 f2 f3 f4 hc hO hO2 b hL
      go_wp2_with fail
      go_loopw [5, 6, 24] (fun a k i wr => ∃ j : Nat, j ≤ N ∧ i = .int .i64 j ∧ a = .string (txt (L.take j).flatten) ∧ wr = w2) (fun _ _ i _ => N - (intOf i).toNat)
      case atStart => exact ⟨0, by omega, rfl, rfl, rfl⟩
      case round =>
        obtain ⟨j, hj, rfl, rfl, rfl⟩ := hrel
        by_cases hlt : j < N
        · have hjl : j < L.length := by rw [HN.out]; exact hlt
          obtain ⟨p, hp⟩ : ∃ p, L[j]? = some p := ⟨_, List.getElem?_eq_getElem hjl⟩
          have hcell : wr.cell? ⟨g, j, none⟩ = some (.string (txt p)) := HC.out j _ (by simp [strs, hp])
          have hne := HF3.out p (List.mem_of_getElem? hp)
          have hps : 0 < (txt p).size := by rw [txt_size]; exact List.length_pos_iff.2 hne
          have hpe : (txt p).toList.isEmpty = false := by simpa using not_empty _ hps
          have hap := txt_append (L.take j).flatten p
          rw [← flat_take L j p hp] at hap
          have hlo : ∀ w, Calls Try.prog 14 #[.string (txt p)] w fun e w' => e = .returned (.bool (LongF p)) ∧ w = w' := fun w => Long_any p w
          have hz1 : (txt (L.take j).flatten).size ≤ 10000 := by
            rw [txt_size]
            have := flat_len L j
            rw [HF1.out, HSL.out] at this
            omega
          have hz2 : (txt p).size ≤ 10000 := by
            have h1 := flat_len L (j + 1)
            rw [flat_take L j p hp, List.length_append, HF1.out, HSL.out] at h1
            rw [txt_size]
            omega
          have hlong : j + 1 < N → LongF p = true := fun h => HF4.out j (by rw [HN.out]; exact h) p hp
          generalize LongF p = lp at *
          generalize hq : txt p = ps at *
          generalize txt (L.take j).flatten = ac at *
          generalize hq2 : txt (L.take (j + 1)).flatten = as2 at *
          have Hq2 := Lib.hid hq2
          have HLO := Lib.hid hlo
          clear hq hq2 hlo hne hps hp hjl
          by_cases hlast : j + 1 < N
          · obtain rfl := hlong hlast
            clear hlong
            go_wp2_with fail
            refine (HLO.out _).mono ?_
            rintro e w3 ⟨rfl, rfl⟩
            go_wp2_with fail
            go_roundw
            case rel => exact ⟨j + 1, by omega, by go_num, by rw [Hq2.out], trivial⟩
            case measure => simp [intOf]; omega
          · clear hlong
            go_wp2_with fail
            go_roundw
            case rel => exact ⟨j + 1, by omega, by go_num, by rw [Hq2.out], trivial⟩
            case measure => simp [intOf]; omega
        · obtain rfl : j = N := by omega
          rw [List.take_of_length_le (by rw [HN.out]; exact Nat.le_refl _), HF1.out]
          have hfin := Hfin.out
          generalize txt l = t at *
          clear HC
          go_wp2_with fail
          go_ret
          exact ⟨rfl, HB2.out⟩

end Go.Proofs.Ytngnfijpfghodaa
