/- The law HuffGoes, walked. -/
import Derived.Test.YtacjhnalhfhdkaaHw
import Derived.OpenShut
namespace Go.Proofs.Ytacjhnalhfhdkaa
open Go.ChangeShapes Go.WideShapes Go.RowKit
set_option linter.unusedVariables false

theorem byt_app2 (a b : ByteArray) : byt (a ++ b) = byt a ++ byt b := by simp [byt]
/-- Pack's and Size's answers, by name. -/
theorem PackIs2 (s : ByteArray) (hs : s.size ≤ 10000) : Gives 16 #[.string s] (.string (txt (packF (byt s)))) := fun w => Pack_any s w hs
theorem SizeIs2 (s : ByteArray) (hs : s.size ≤ 10000) : Gives 17 #[.string s] (.int .i64 (((encB (byt s)).length + 7) / 8 : Nat)) := Gives.of_eq fun w => Size_any s w hs

theorem take_goes (l r : List UInt8) : (packF l).take ((encB l).length / 8) = (packF (l ++ r)).take ((encB l).length / 8) := by
  have key : ∀ B m k, k ≤ m → (fb B m).take k = fb B k := by
    intro B m k h
    unfold fb
    rw [← List.map_take, List.take_range]
    congr 2
    omega
  unfold packF
  rw [key _ _ _ (by omega), key _ _ _ (by rw [encB_append, List.length_append]; omega), encB_append, List.append_assoc, fb_app _ _ _ (by omega), fb_app _ _ _ (by omega)]

set_option maxRecDepth 100000 in
set_option maxHeartbeats 1000000 in
theorem goes_big (a0 a1 : ByteArray) (w0 : a0.size ≤ maxLen) (w1 : a1.size ≤ maxLen) (w : World) (hm : ¬ (a0.size ≤ 150 ∧ a1.size ≤ 150)) :
    Calls Try.prog 9 #[.string a0, .string a1] w fun e w' => e = .returned (.bool true) ∧ Below w.heap.size w w' := by
  unfold maxLen at w0 w1
  have h47 : a0.size ≤ 9223372036854775807 := by omega
  have h48 : a1.size ≤ 9223372036854775807 := by omega
  clear w0 w1
  by_cases h3 : a0.size ≤ 150
  · have h4 : ¬ a1.size ≤ 150 := fun h => hm ⟨h3, h⟩
    clear hm
    go_enter Try.func9, Try.ntmps9
    go_wp2_with fail
    refine (awake_any _).mono ?_
    rintro e x0 ⟨rfl, b0⟩
    have B0 := Lib.hid b0
    clear b0
    go_wp2_with fail
    go_ret
    exact ⟨rfl, B0.out⟩
  · clear hm
    go_enter Try.func9, Try.ntmps9
    go_wp2_with fail
    refine (awake_any _).mono ?_
    rintro e x0 ⟨rfl, b0⟩
    have B0 := Lib.hid b0
    clear b0
    go_wp2_with fail
    go_ret
    exact ⟨rfl, B0.out⟩

set_option maxRecDepth 100000 in
set_option maxHeartbeats 1000000 in
theorem goes_walk (a0 a1 : ByteArray) (w0 : a0.size ≤ maxLen) (w1 : a1.size ≤ maxLen) (w : World) :
    Calls Try.prog 9 #[.string a0, .string a1] w fun e w' => e = .returned (.bool true) ∧ Below w.heap.size w w' := by
  by_cases hm : a0.size ≤ 150 ∧ a1.size ≤ 150
  · obtain ⟨h3, h4⟩ := hm
    have hbl := byt_length a0
    have happ : (a0 ++ a1).size = a0.size + a1.size := by simp
    have hP := PackIs2 a0 (by omega)
    have hQ := PackIs2 (a0 ++ a1) (by omega)
    rw [byt_app2] at hQ
    have hl1 := packF_length (byt a0)
    have hl2 := packF_length (byt a0 ++ byt a1)
    rw [encB_append, List.length_append] at hl2
    have htk := take_goes (byt a0) (byt a1)
    obtain ⟨l, hl⟩ : ∃ l, byt a0 = l := ⟨_, rfl⟩
    have hget : ∀ j (h : j < a0.size) (h2 : j < l.length), a0[j].toNat = l[j].toNat := by
      intro j h h2
      rw [byt_get]
      simp [hl]
    have hX := encB_len (byt a0)
    rw [hl] at hP hQ hl1 hl2 htk hbl hX
    obtain ⟨k, hk⟩ : ∃ k, (encB l).length / 8 = k := ⟨_, rfl⟩
    rw [hk] at htk
    have hk1 : k ≤ (txt (packF l)).size := by rw [txt_size]; omega
    have hk2 : k ≤ (txt (packF (l ++ byt a1))).size := by rw [txt_size]; omega
    have hext : (txt (packF l)).extract 0 k = (txt (packF (l ++ byt a1))).extract 0 k := by
      apply ByteArray.ext
      apply Array.toList_inj.1
      simp [txt]
      exact htk
    generalize txt (packF l) = P at *
    generalize txt (packF (l ++ byt a1)) = Q at *
    have HP := Lib.hid hP
    have HQ := Lib.hid hQ
    have Hget := Lib.hid hget
    have Hl := Lib.hid hl
    have Hbl := Lib.hid hbl
    have Hk := Lib.hid hk
    have Hext := Lib.hid hext
    clear hP hQ hget hl hbl hk hext hl1 hl2 htk
    go_enter Try.func9, Try.ntmps9
    go_wp2_with fail
    refine (awake_any _).mono ?_
    rintro e x0 ⟨rfl, b0⟩
    have B0 := Lib.hid b0
    clear b0
    go_wp2_with fail
    go_loop [5, 21] (fun n i => ∃ j m : Nat, j ≤ a0.size ∧ i = .int .i64 j ∧ m = (encB (l.take j)).length ∧ n = .int .i64 m) (fun _ i => a0.size - (intOf i).toNat)
    case atStart => exact ⟨0, 0, by omega, rfl, by simp [encB], rfl⟩
    case round =>
      obtain ⟨j, m, hj, rfl, hm, rfl⟩ := hrel
      have hml : m ≤ 12 * j := by
        have := encB_len (l.take j)
        rw [List.length_take] at this
        omega
      by_cases hlt : j < a0.size
      · obtain ⟨c, hc⟩ : ∃ c, a0[j].toNat = c := ⟨_, rfl⟩
        have hjl : j < l.length := by rw [Hbl.out]; exact hlt
        have hc8 : c < 256 := by rw [← hc]; exact a0[j].toNat_lt
        have hcl := hlen_le c
        have hnext : m + hlen c = (encB (l.take (j + 1))).length := by
          rw [encB_take l j hjl, List.length_append, ← hm, cb_length, ← hc, Hget.out j hlt hjl]
        obtain ⟨k, hk⟩ : ∃ k, hlen c = k := ⟨_, rfl⟩
        have hB := fun w => Bits_any c w hc8
        rw [hk] at hcl hnext hB
        have Hnext := Lib.hid hnext
        have HB := Lib.hid hB
        clear hnext hm hk hB
        go_wp2_with fail
        refine (HB.out _).mono ?_
        rintro e w' ⟨rfl, rfl⟩
        go_wp2_with fail
        go_round
        case rel => exact ⟨j + 1, m + k, by omega, by go_num, Hnext.out, by go_num⟩
        case measure => simp [intOf]; omega
      · obtain rfl : j = a0.size := by omega
        have hm2 : m = (encB l).length := by rw [hm, List.take_of_length_le (by rw [Hbl.out]; exact Nat.le_refl _)]
        have hmk : (m : Int) / 8 = (k : Int) := by
          have := Hk.out
          omega
        have hml2 : m ≤ 2000 := by omega
        have hdt : (m : Int).tdiv 8 = (k : Int) := by rw [Int.tdiv_eq_ediv_of_nonneg (by omega)]; exact hmk
        have g1 : decide ((k : Int) ≤ (P.size : Int)) = true := by rw [decide_eq_true_iff]; omega
        have g2 : decide ((k : Int) ≤ (Q.size : Int)) = true := by rw [decide_eq_true_iff]; omega
        clear hm hm2
        go_wp2_with fail
        refine (HP.out _).mono ?_
        rintro e x1 ⟨rfl, b1⟩
        have B1 := Lib.hid (B0.out.trans (b1.mono B0.out.size))
        clear b1 B0
        go_wp2_with fail
        refine (HQ.out _).mono ?_
        rintro e x2 ⟨rfl, b2⟩
        have B2 := Lib.hid (B1.out.trans (b2.mono B1.out.size))
        clear b2 B1
        go_wp2_with fail
        have hq : ((P.extract 0 k).toList == (Q.extract 0 k).toList) = true := by rw [Hext.out, beq_self_eq_true]
        go_quiet (fail)
        go_wp2_with fail
        go_ret
        exact ⟨rfl, below_drewN B2.out _⟩
  · exact goes_big a0 a1 w0 w1 w hm

end Go.Proofs.Ytacjhnalhfhdkaa
