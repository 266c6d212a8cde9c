/- fields: contracts of more and TakeNumber. -/
import Derived.Test.YtgnoiheekgmleaaFa
namespace Go.Proofs.Ytgnoiheekgmleaa
open Go.ChangeShapes Go.WideShapes Go.RowKit
set_option linter.unusedVariables false

/-- What follows a first byte of which all bits are 1. -/
def moreG : Nat → Nat → Nat → List UInt8 → Nat × List UInt8 × Bool
  | 0, _, _, _ => (0, [], false)
  | _ + 1, _, _, [] => (0, [], false)
  | k + 1, i, n, b :: r => if b.toNat < 128 then (n + b.toNat % 128 * 128 ^ i, r, decide (i = 0) || decide (b.toNat ≠ 0)) else moreG k (i + 1) (n + b.toNat % 128 * 128 ^ i) r
def moreF (l : List UInt8) : Nat × List UInt8 × Bool := moreG 9 0 0 l

/-- A number off, of k bits of the first byte. -/
def takeF (l : List UInt8) (k : Nat) : Nat × List UInt8 × Bool :=
  match l with
  | [] => (0, [], false)
  | b :: r => if b.toNat % 2 ^ k < 2 ^ k - 1 then (b.toNat % 2 ^ k, r, true)
    else if (moreF r).2.2 = false ∨ 4294967296 - (2 ^ k - 1) < (moreF r).1 then (0, [], false)
    else (2 ^ k - 1 + (moreF r).1, (moreF r).2.1, true)

theorem and_127 (x : Nat) (hx : x < 256) : bits BinOp.and IntKind.u8 (x : Int) 127 = ((x % 128 : Nat) : Int) := by
  have H : ∀ x : Fin 256, bits BinOp.and IntKind.u8 (x.val : Int) 127 = ((x.val % 128 : Nat) : Int) := by decide +kernel
  exact H ⟨x, hx⟩

theorem pow128 (i : Nat) (hi : i ≤ 8) : 128 ^ i ≤ 72057594037927936 := by
  have : (128 : Nat) ^ i ≤ 128 ^ 8 := Nat.pow_le_pow_right (by omega) hi
  have e : (128 : Nat) ^ 8 = 72057594037927936 := by decide
  omega

theorem shl_seven (c i : Nat) (hc : c < 128) (hi : i ≤ 8) : IntKind.u64.wrap ((c : Int) * 2 ^ (7 * i)) = ((c * 128 ^ i : Nat) : Int) := by
  have e : (2 : Int) ^ (7 * i) = ((128 ^ i : Nat) : Int) := by
    rw [Int.pow_mul]
    simp
  have hp := pow128 i hi
  rw [e, ← Int.natCast_mul]
  have hm : c * 128 ^ i ≤ 127 * 72057594037927936 := Nat.mul_le_mul (by omega) hp
  exact IntWalk.u64_in _ (by omega)

set_option maxRecDepth 100000 in
set_option maxHeartbeats 4000000 in
theorem more_any (s : ByteArray) (w : World) (hs : s.size ≤ 100000) :
    Calls Try.prog 78 #[.string s] w fun e w' => e = .returned (.tuple #[.int .u64 ((moreF (byt s)).1 : Int), .string (txt (moreF (byt s)).2.1), .bool (moreF (byt s)).2.2]) ∧ Below w.heap.size w w' := by
  have hbl := byt_length s
  obtain ⟨l, hl⟩ : ∃ l, byt s = l := ⟨_, rfl⟩
  rw [hl] at hbl ⊢
  have hget : ∀ j (h : j < s.size) (h2 : j < l.length), s[j].toNat = l[j].toNat := by
    intro j h h2
    rw [byt_get]
    simp [hl]
  have hext : ∀ j, s.extract j s.size = txt (l.drop j) := by
    intro j
    rw [← txt_byt (s.extract j s.size)]
    congr 1
    simp only [byt, ByteArray.data_extract, Array.toList_extract, List.extract_eq_take_drop]
    have : s.data.toList = l := hl
    rw [this, List.take_of_length_le (by rw [List.length_drop, hbl]; exact Nat.le_refl _)]
  obtain ⟨SL, hSL⟩ : ∃ n, s.size = n := ⟨_, rfl⟩
  obtain ⟨M, hM⟩ : ∃ M : Nat, min SL 9 = M := ⟨_, rfl⟩
  have hM9 : M ≤ 9 := by omega
  have hMS : M ≤ SL := by omega
  have hMe : M = 9 ∨ M = SL := by omega
  have m1 : min (SL : Int) 9 = (M : Int) := by omega
  have m2 : (if (9 : Int) < (SL : Int) then (9 : Int) else (SL : Int)) = (M : Int) := by split <;> omega
  have m3 : (if (SL : Int) < 9 then (SL : Int) else (9 : Int)) = (M : Int) := by split <;> omega
  have Hget := Lib.hid hget
  have Hext := Lib.hid hext
  have Hbl := Lib.hid hbl
  clear hget hext hbl hl hM
  go_enter Try.func78, Try.ntmps78
  go_wp2_with fail
  go_loop [5, 6, 10] (fun n _ i => ∃ j m : Nat, j ≤ M ∧ i = .int .i64 j ∧ n = .int .u64 m ∧ m < 128 ^ j ∧ moreF l = moreG (9 - j) j m (l.drop j)) (fun _ _ i => M - (intOf i).toNat)
  case atStart => exact ⟨0, 0, by omega, rfl, rfl, by simp, rfl⟩
  case round =>
    obtain ⟨j, m, hj, rfl, rfl, hm, hg⟩ := hrel
    have HG := Lib.hid hg
    clear hg
    by_cases hlt : j < M
    · have hjS : j < s.size := by omega
      have hjl : j < l.length := by rw [Hbl.out]; exact hjS
      obtain ⟨c, hc⟩ : ∃ c, s[j].toNat = c := ⟨_, rfl⟩
      have hcl : l[j].toNat = c := by rw [← Hget.out j hjS hjl, hc]
      have hc8 : c < 256 := by rw [← hc]; exact UInt8.toNat_lt _
      have ha := and_127 c hc8
      have hsh := shl_seven (c % 128) j (Nat.mod_lt _ (by omega)) (by omega)
      have hP := pow128 j (by omega)
      obtain ⟨P, hPe⟩ : ∃ P, 128 ^ j = P := ⟨_, rfl⟩
      have hstep : l.drop j = l[j] :: l.drop (j + 1) := List.drop_eq_getElem_cons hjl
      have hg2 := HG.out
      rw [hstep, show 9 - j = (9 - (j + 1)) + 1 by omega, moreG, hcl, hPe] at hg2
      rw [hPe] at hsh hP hm
      obtain ⟨d, hd⟩ : ∃ d, c % 128 = d := ⟨_, rfl⟩
      rw [hd] at ha hsh hg2
      have hd128 : d < 128 := by omega
      have hdP : d * P ≤ 127 * P := Nat.mul_le_mul_right _ (by omega)
      have hjoin : m ||| d * P = m + d * P := by
        have e : P = 2 ^ (7 * j) := by rw [← hPe, Nat.pow_mul]
        rw [Nat.or_comm, Nat.add_comm]
        rw [e] at hm ⊢
        exact nat_join (7 * j) (d * 2 ^ (7 * j)) m (Nat.mul_mod_left _ _) hm
      have hor : bits BinOp.or IntKind.u64 (m : Int) ((d * P : Nat) : Int) = ((m + d * P : Nat) : Int) := by
        rw [u64_or_nat _ _ (by omega) (by omega), hjoin]
      have hmn : m + d * P < 128 ^ (j + 1) := by rw [Nat.pow_succ, hPe]; omega
      have hext := Hext.out (j + 1)
      rw [hSL] at hext
      obtain ⟨q, hq⟩ : ∃ q, txt (l.drop (j + 1)) = q := ⟨_, rfl⟩
      rw [hq] at hext
      have HQ := Lib.hid hq
      clear hq
      have hj1 : (j : Int) + 1 ≤ (SL : Int) := by omega
      obtain ⟨dp, hdp⟩ : ∃ dp, d * P = dp := ⟨_, rfl⟩
      rw [hdp] at hsh hor hmn hg2
      obtain ⟨m9, hm9⟩ : ∃ m9, m + dp = m9 := ⟨_, rfl⟩
      rw [hm9] at hor hmn hg2
      have HG2 := Lib.hid hg2
      have HMN := Lib.hid hmn
      have HDP : Hid (d * 128 ^ j = dp) := Lib.hid (by rw [hPe]; exact hdp)
      clear hg2 hmn hcl hstep hjoin hdP hPe hd hm hdp hm9 hP HG
      by_cases h128 : c < 128
      · have d1 : decide ((c : Int) < 128) = true := by rw [decide_eq_true_iff]; omega
        have hfin := HG2.out
        rw [if_pos h128] at hfin
        by_cases hj0 : j = 0
        · subst hj0
          have hdd : dp = d := by have := HDP.out; rw [Nat.pow_zero, Nat.mul_one] at this; exact this.symm
          rw [hdd] at hor
          clear hdd
          have HFIN := Lib.hid hfin
          clear hfin
          go_wp2_with fail
          go_quiet (fail)
          go_wp2_with fail
          go_ret3
          exact ⟨by rw [HFIN.out, ← HQ.out]; rfl, below_drewN (Below.refl _ _) _⟩
        · have e0 : ((j : Int) == 0) = false := by rw [beq_eq_false_iff_ne]; omega
          obtain ⟨cz, hcz⟩ : ∃ cz, decide (c ≠ 0) = cz := ⟨_, rfl⟩
          have hcz2 : ((c : Int) != 0) = cz := by
            rw [← hcz, Bool.eq_iff_iff, bne_iff_ne, decide_eq_true_iff]
            omega
          rw [hcz, decide_eq_false hj0, Bool.false_or] at hfin
          have HFIN := Lib.hid hfin
          clear hfin hcz
          go_wp2_with fail
          go_quiet (fail)
          go_wp2_with fail
          go_ret3
          exact ⟨by rw [HFIN.out, ← HQ.out]; rfl, below_drewN (Below.refl _ _) _⟩
      · have d1 : decide ((c : Int) < 128) = false := by rw [decide_eq_false_iff_not]; omega
        have hfin := HG2.out
        rw [if_neg h128] at hfin
        have HFIN := Lib.hid hfin
        clear hfin
        go_wp2_with fail
        go_round
        case rel => exact ⟨j + 1, m9, by omega, by go_num, rfl, HMN.out, HFIN.out⟩
        case measure => simp [intOf]; omega
    · obtain rfl : j = M := by omega
      have hz : moreF l = (0, [], false) := by
        rw [HG.out]
        rcases hMe with h9 | hS
        · rw [h9]; rfl
        · have e : l.drop j = [] := List.drop_of_length_le (by rw [Hbl.out, hSL, hS]; exact Nat.le_refl _)
          rw [e]
          cases 9 - j <;> rfl
      have HZ := Lib.hid hz
      clear hz HG
      go_wp2_with fail
      go_ret3
      exact ⟨by rw [HZ.out]; rfl, Below.refl _ _⟩

set_option maxRecDepth 100000 in
set_option maxHeartbeats 4000000 in
theorem TakeNumber_any (s : ByteArray) (k : Nat) (w : World) (hs : s.size ≤ 100000) (hk : 1 ≤ k ∧ k ≤ 8) :
    Calls Try.prog 66 #[.string s, .int .i64 (k : Int)] w fun e w' => e = .returned (.tuple #[.int .u64 ((takeF (byt s) k).1 : Int), .string (txt (takeF (byt s) k).2.1), .bool (takeF (byt s) k).2.2]) ∧ Below w.heap.size w w' := by
  have hbl := byt_length s
  cases hb : byt s with
  | nil =>
    have h0 : s.size = 0 := by rw [← hbl, hb]; rfl
    have hs0 : s = ⟨#[]⟩ := by rw [← txt_byt s, hb]; rfl
    subst hs0
    go_enter Try.func66, Try.ntmps66
    go_wp2_with fail
    go_ret3
    exact ⟨rfl, Below.refl _ _⟩
  | cons b r =>
    have h0 : 0 < s.size := by rw [← hbl, hb]; simp
    have hx0 : s[0].toNat = b.toNat := by rw [byt_get]; simp [hb]
    have hne : s.toList.isEmpty = false := by rw [ByteArray.toList_eq]; have : s.data.toList = b :: r := hb; rw [this]; rfl
    have hext : s.extract 1 s.size = txt r := by
      rw [← txt_byt (s.extract 1 s.size)]
      congr 1
      simp only [byt, ByteArray.data_extract, Array.toList_extract, List.extract_eq_take_drop]
      have : s.data.toList = b :: r := hb
      rw [this, List.drop_succ_cons, List.drop_zero, List.take_of_length_le (by rw [← hbl, hb]; simp)]
    have hsz : s.size = r.length + 1 := by rw [← hbl, hb]; simp
    have hrs : (txt r).size ≤ 100000 := by
      have h1 : (txt r).size = r.length := by simp [txt, ByteArray.size]
      omega
    have hmore := fun w => more_any (txt r) w hrs
    rw [byt_txt] at hmore
    have hb8 : b.toNat < 256 := UInt8.toNat_lt _
    have hsh := shl_bits k hk
    obtain ⟨f1, f2⟩ := full_facts k hk
    obtain ⟨SL, hSL⟩ : ∃ n, s.size = n := ⟨_, rfl⟩
    have hand : bits BinOp.and IntKind.u64 (b.toNat : Int) ((2 ^ k - 1 : Nat) : Int) = ((b.toNat % 2 ^ k : Nat) : Int) := by
      have hc : k = 1 ∨ k = 2 ∨ k = 3 ∨ k = 4 ∨ k = 5 ∨ k = 6 ∨ k = 7 ∨ k = 8 := by omega
      have H : ∀ x : Fin 256, bits BinOp.and IntKind.u64 (x.val : Int) 1 = ((x.val % 2 : Nat) : Int) ∧ bits BinOp.and IntKind.u64 (x.val : Int) 3 = ((x.val % 4 : Nat) : Int) ∧ bits BinOp.and IntKind.u64 (x.val : Int) 7 = ((x.val % 8 : Nat) : Int) ∧ bits BinOp.and IntKind.u64 (x.val : Int) 15 = ((x.val % 16 : Nat) : Int) ∧ bits BinOp.and IntKind.u64 (x.val : Int) 31 = ((x.val % 32 : Nat) : Int) ∧ bits BinOp.and IntKind.u64 (x.val : Int) 63 = ((x.val % 64 : Nat) : Int) ∧ bits BinOp.and IntKind.u64 (x.val : Int) 127 = ((x.val % 128 : Nat) : Int) ∧ bits BinOp.and IntKind.u64 (x.val : Int) 255 = ((x.val % 256 : Nat) : Int) := by decide +kernel
      have h := H ⟨b.toNat, hb8⟩
      obtain ⟨g1, g2, g3, g4, g5, g6, g7, g8⟩ := h
      rcases hc with rfl | rfl | rfl | rfl | rfl | rfl | rfl | rfl
      · exact g1
      · exact g2
      · exact g3
      · exact g4
      · exact g5
      · exact g6
      · exact g7
      · exact g8
    have hdef : takeF (b :: r) k = if b.toNat % 2 ^ k < 2 ^ k - 1 then (b.toNat % 2 ^ k, r, true)
      else if (moreF r).2.2 = false ∨ 4294967296 - (2 ^ k - 1) < (moreF r).1 then (0, [], false)
      else (2 ^ k - 1 + (moreF r).1, (moreF r).2.1, true) := rfl
    rw [hdef]
    clear hdef
    generalize moreF r = q at *
    obtain ⟨m, rest, is⟩ := q
    simp only at hmore ⊢
    generalize b.toNat % 2 ^ k = n at *
    obtain ⟨F, hF⟩ : ∃ F, 2 ^ k - 1 = F := ⟨_, rfl⟩
    have hF1 : 2 ^ k = F + 1 := by omega
    rw [hF1] at hsh
    rw [hF] at f1 f2 hand ⊢
    have hs2 : IntKind.u64.wrap ((2 : Int) ^ k) = (F : Int) + 1 := hsh
    have hc0 : s[0].toNat = b.toNat := hx0
    generalize b.toNat = B at *
    generalize hrse : txt r = rs at *
    have HRS := Lib.hid hrse
    clear hrse
    rw [hSL] at hext h0
    have HM := Lib.hid hmore
    clear hF hF1 hsh hmore hb hbl hx0
    clear hsz hrs
    by_cases hlt : n < F
    · have hd : decide ((n : Int) < (F : Int)) = true := by simpa using hlt
      rw [if_pos hlt]
      have hS1 : (1 : Int) ≤ (SL : Int) := by omega
      go_enter Try.func66, Try.ntmps66
      go_wp2_with fail
      go_quiet (fail)
      go_wp2_with fail
      go_ret3
      exact ⟨by rw [← HRS.out]; rfl, below_drewN (Below.refl _ _) _⟩
    · have hd : decide ((n : Int) < (F : Int)) = false := by simpa using hlt
      rw [if_neg hlt]
      have hS1 : (1 : Int) ≤ (SL : Int) := by omega
      cases is
      · rw [if_pos (.inl rfl)]
        go_enter Try.func66, Try.ntmps66
        go_wp2_with fail
        refine (HM.out _).mono ?_
        rintro e w1 ⟨rfl, b1⟩
        have B1 := Lib.hid b1
        clear b1
        go_wp2_with fail
        go_ret3
        exact ⟨rfl, B1.out⟩
      · by_cases hmm : 4294967296 - F < m
        · rw [if_pos (.inr hmm)]
          have hdm : decide ((4294967296 : Int) - (F : Int) < (m : Int)) = true := by rw [decide_eq_true_iff]; omega
          clear hmm
          go_enter Try.func66, Try.ntmps66
          go_wp2_with fail
          refine (HM.out _).mono ?_
          rintro e w1 ⟨rfl, b1⟩
          have B1 := Lib.hid b1
          clear b1
          go_wp2_with fail
          go_ret3
          exact ⟨rfl, B1.out⟩
        · rw [if_neg (by simp; omega)]
          have hdm : decide ((4294967296 : Int) - (F : Int) < (m : Int)) = false := by rw [decide_eq_false_iff_not]; omega
          have hsum : IntKind.u64.wrap ((F : Int) + (m : Int)) = ((F + m : Nat) : Int) := IntWalk.u64_in _ (by omega)
          obtain ⟨fm, hfm⟩ : ∃ fm, F + m = fm := ⟨_, rfl⟩
          rw [hfm] at hsum ⊢
          clear hmm hfm
          go_enter Try.func66, Try.ntmps66
          go_wp2_with fail
          refine (HM.out _).mono ?_
          rintro e w1 ⟨rfl, b1⟩
          have B1 := Lib.hid b1
          clear b1
          go_wp2_with fail
          go_ret3
          exact ⟨rfl, B1.out⟩

end Go.Proofs.Ytgnoiheekgmleaa
