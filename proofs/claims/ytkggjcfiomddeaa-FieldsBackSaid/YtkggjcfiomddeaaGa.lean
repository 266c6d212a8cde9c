/- fields: the reference's Number. -/
import Derived.Test.YtkggjcfiomddeaaFo
namespace Go.Proofs.Ytkggjcfiomddeaa
open Go.ChangeShapes Go.WideShapes Go.RowKit
set_option linter.unusedVariables false
set_option linter.unusedSimpArgs false

theorem high_or (high n k : Nat) (hh : high % 2 ^ k = 0) (hn : n < 2 ^ k) : high ||| n = high + n := by
  obtain ⟨a, ha⟩ : ∃ a, high = 2 ^ k * a := ⟨high / 2 ^ k, by have := Nat.div_add_mod high (2 ^ k); omega⟩
  rw [ha]
  exact (Nat.two_pow_add_eq_or_of_lt hn a).symm

theorem high_lt (high k : Nat) (hk : 1 ≤ k ∧ k ≤ 8) (hh : high % 2 ^ k = 0) (h8 : high < 256) : high + (2 ^ k - 1) < 256 := by
  have hc : k = 1 ∨ k = 2 ∨ k = 3 ∨ k = 4 ∨ k = 5 ∨ k = 6 ∨ k = 7 ∨ k = 8 := by omega
  rcases hc with rfl | rfl | rfl | rfl | rfl | rfl | rfl | rfl <;> (simp only [Nat.reducePow] at hh ⊢; omega)

theorem pow_le (j : Nat) (hj : j ≤ 8) : 2 ^ j ≤ 256 := by
  have : (2 : Nat) ^ j ≤ 2 ^ 8 := Nat.pow_le_pow_right (by omega) hj
  simpa using this

set_option maxRecDepth 100000 in
set_option maxHeartbeats 4000000 in
theorem RNumber_any (n k high : Nat) (w : World) (hk : 1 ≤ k ∧ k ≤ 8) (hn : n < 2 ^ 64) (hh : high < 256) (hz : high % 2 ^ k = 0) :
    Calls Try.prog 13 #[.int .u64 (n : Int), .int .i64 (k : Int), .int .u8 (high : Int)] w fun e w' => e = .returned (.string (txt (numberF n k high))) ∧ Below w.heap.size w w' := by
  obtain ⟨f1, f2⟩ := full_facts k hk
  have hl := high_lt high k hk hz hh
  obtain ⟨res, hres⟩ : ∃ r, txt (numberF n k high) = r := ⟨_, rfl⟩
  have HRES := Lib.hid hres
  rw [hres]
  clear hres
  go_enter Try.func13, Try.ntmps13
  go_wp2_with fail
  go_loop [7, 8] (fun f i => ∃ j : Nat, j ≤ k ∧ i = .int .i64 j ∧ f = .int .u64 ((2 ^ j : Nat) : Int)) (fun _ i => k - (intOf i).toNat)
  case atStart => exact ⟨0, by omega, rfl, rfl⟩
  case round =>
    obtain ⟨j, hj, rfl, rfl⟩ := hrel
    by_cases hlt : j < k
    · have hp := pow_le j (by omega)
      have hs : 2 ^ (j + 1) = 2 ^ j * 2 := Nat.pow_succ 2 j
      have HS := Lib.hid hs
      clear hs
      generalize 2 ^ j = P at *
      have hw : IntKind.u64.wrap ((P : Int) * 2) = ((P * 2 : Nat) : Int) := IntWalk.u64_in _ (by omega)
      obtain ⟨P2, hP2⟩ : ∃ P2, P * 2 = P2 := ⟨_, rfl⟩
      rw [hP2] at hw HS
      clear hP2
      go_wp2_with fail
      go_round
      case rel => exact ⟨j + 1, by omega, by go_num, by rw [HS.out]⟩
      case measure => simp [intOf]; omega
    · have hjk : j = k := by omega
      subst hjk
      obtain ⟨F, hF⟩ : ∃ F, 2 ^ j - 1 = F := ⟨_, rfl⟩
      have hF1 : 2 ^ j = F + 1 := by omega
      have hor := high_or high F j hz (by omega)
      have horn : n < F → high ||| n = high + n := fun h => high_or high n j hz (by omega)
      have HRES2 := HRES.out
      unfold numberF at HRES2
      rw [hF] at f1 f2 hl HRES2
      rw [hF1]
      have hwf : IntKind.u64.wrap (((F + 1 : Nat) : Int) - 1) = (F : Int) := by rw [IntWalk.u64_in _ (by omega)]; omega
      have hwf2 : IntKind.u64.wrap ((F : Int) + 1 - 1) = (F : Int) := by rw [IntWalk.u64_in _ (by omega)]; omega
      rw [hor] at HRES2
      clear hF hF1 hor HRES hz
      by_cases hltF : n < F
      · rw [if_pos hltF, horn hltF] at HRES2
        have hd : decide ((n : Int) < (F : Int)) = true := by simpa using hltF
        have ho8 : high + n < 256 := by omega
        have hw8 : IntKind.u8.wrap (n : Int) = n := IntWalk.u8_in _ (by omega)
        have hw9 : IntKind.u8.wrap ((high : Int) + (n : Int)) = ((high + n : Nat) : Int) := by rw [IntWalk.u8_in _ (by omega)]; omega
        have hcv := conv_one8 (high + n) ho8
        rw [HRES2] at hcv
        generalize high + n = x at *
        clear HRES2 horn
        go_wp2_with fail
        go_ret
        exact ⟨rfl, (Below.refl _ _).alloc (Nat.le_refl _) _⟩
      · rw [if_neg hltF] at HRES2
        have hd : decide ((n : Int) < (F : Int)) = false := by simpa using hltF
        have ho8 : high + F < 256 := by omega
        have hw8 : IntKind.u8.wrap (F : Int) = F := IntWalk.u8_in _ (by omega)
        have hw9 : IntKind.u8.wrap ((high : Int) + (F : Int)) = ((high + F : Nat) : Int) := by rw [IntWalk.u8_in _ (by omega)]; omega
        generalize high + F = x at *
        obtain ⟨m0, hm0⟩ : ∃ m0, n - F = m0 := ⟨_, rfl⟩
        have hm0i : IntKind.u64.wrap ((n : Int) - (F : Int)) = (m0 : Int) := by rw [IntWalk.u64_in _ (by omega)]; omega
        have hm0b : m0 < 2 ^ 64 := by omega
        rw [hm0] at HRES2
        have HOWN := Lib.hid (Own8.one w.heap.size w x ho8 (Nat.le_refl _))
        have HR := Lib.hid HRES2
        clear hm0 HRES2 horn
        go_wp2_with fail
        go_loopw [0, 9] (fun v0 v9 wr => ∃ (m : Nat) (l : List UInt8), m < 2 ^ 64 ∧ l.length + (tailF m).length ≤ 1 + (tailF m0).length ∧ v0 = .int .u64 (m : Int) ∧ Own8 w.heap.size wr v9 l ∧ l ++ tailF m = UInt8.ofNat x :: tailF m0 ∧ Below w.heap.size w wr) (fun v0 _ _ => (intOf v0).toNat)
        case atStart => exact ⟨m0, [UInt8.ofNat x], hm0b, by simp, rfl, HOWN.out, rfl, (Below.refl _ _).alloc (Nat.le_refl _) _⟩
        case round =>
          obtain ⟨m, l, hm, hlen, rfl, ho, hap, hbw⟩ := hrel
          have htl := tailF_len 9 m0 (by have : (128 : Nat) ^ (9 + 1) = 2 ^ 70 := by decide
                                         omega)
          have hll : l.length ≤ 1000000 := by omega
          have HO := Lib.hid ho
          have HBW := Lib.hid hbw
          have HAP := Lib.hid hap
          have HLEN := Lib.hid hlen
          have hsz := hbw.size
          clear ho hbw hap hlen htl
          by_cases h128 : m < 128
          · have hd1 : decide ((127 : Int) < (m : Int)) = false := by rw [decide_eq_false_iff_not]; omega
            have e1 : (UInt8.ofNat m).toNat = m := by simp only [UInt8.toNat_ofNat']; omega
            have hw10 : IntKind.u8.wrap (m : Int) = m := IntWalk.u8_in _ (by omega)
            have hfin := HAP.out
            rw [tailF_small m h128] at hfin
            have HFIN := Lib.hid hfin
            clear hfin
            go_wp2_with (at_builtin; refine app8 wr rfl _ _ rfl w.heap.size u9 l _ (UInt8.ofNat m) (by rw [e1]) rfl rfl HO.out hll hsz ?_)
            intro v' wn hO hB
            have HB := Lib.hid (HBW.out.trans hB)
            have hcv := conv_own w.heap.size wn v' _ hO
            rw [HFIN.out, HR.out] at hcv
            clear hO hB
            go_wp2_with fail
            go_ret
            exact ⟨rfl, HB.out⟩
          · have hd1 : decide ((127 : Int) < (m : Int)) = true := by rw [decide_eq_true_iff]; omega
            obtain ⟨y, hy⟩ : ∃ y, m % 128 + 128 = y := ⟨_, rfl⟩
            obtain ⟨m2, hm2⟩ : ∃ m2, m / 128 = m2 := ⟨_, rfl⟩
            have hy8 : y < 256 := by omega
            have hob : IntKind.u64.wrap ((m : Int) % 128 + 128) = (y : Int) := by rw [IntWalk.u64_in _ (by omega)]; omega
            have hob2 : IntKind.u8.wrap (y : Int) = y := IntWalk.u8_in _ (by omega)
            have e1 : (UInt8.ofNat y).toNat = y := by simp only [UInt8.toNat_ofNat']; omega
            have hdv : (m : Int) / 128 = (m2 : Int) := by omega
            have happ := tailF_app l m h128
            rw [HAP.out, hy, hm2] at happ
            have hl2 : (l ++ [UInt8.ofNat y]).length + (tailF m2).length ≤ 1 + (tailF m0).length := by
              have h1 := HLEN.out
              rw [tailF_big m h128, List.length_cons, hm2] at h1
              rw [List.length_append, List.length_singleton]
              omega
            have hml : m2 < m := by omega
            have HAPP := Lib.hid happ
            have HL2 := Lib.hid hl2
            have hm2b : m2 < 2 ^ 64 := by omega
            clear happ hl2 hy hm2
            go_wp2_with (at_builtin; refine app8 wr rfl _ _ rfl w.heap.size u9 l _ (UInt8.ofNat y) (by rw [e1]) rfl rfl HO.out hll hsz ?_)
            intro v' wn hO hB
            have HB := Lib.hid (HBW.out.trans hB)
            have HO2 := Lib.hid hO
            clear hO hB
            go_wp2_with fail
            go_roundw
            case rel => exact ⟨m2, _, hm2b, HL2.out, rfl, HO2.out, HAPP.out, HB.out⟩
            case measure => simp [intOf]; omega

end Go.Proofs.Ytkggjcfiomddeaa
