/- The law VarintNear, walked. -/
import Derived.Test.YtlpkapkabehdnaaAw
import Derived.Test.YtlpkapkabehdnaaP3
import Derived.OpenShut
namespace Go.Proofs.Ytlpkapkabehdnaa
open Go.ChangeShapes Go.WideShapes Go.RowKit
set_option linter.unusedVariables false

theorem num_digit (l : List UInt8) : ∀ j (h : j < l.length), num l / 256 ^ j % 256 = (l[l.length - 1 - j]'(by omega)).toNat := by
  refine snoc_rec (P := fun l => ∀ j (h : j < l.length), num l / 256 ^ j % 256 = (l[l.length - 1 - j]'(by omega)).toNat) (by intro j h; simp at h) ?_ l
  intro l b ih j h
  have hb := b.toNat_lt
  rw [num_snoc]
  rcases j with _ | j
  · simp
  · have hj : j < l.length := by simpa using h
    have e : (num l * 256 + b.toNat) / 256 ^ (j + 1) = num l / 256 ^ j := by
      rw [Nat.pow_succ, Nat.mul_comm (256 ^ j), ← Nat.div_div_eq_div_mul]
      congr 1
      omega
    rw [e, ih j hj]
    congr 1
    rw [List.getElem_append_left (by simp; omega)]
    congr 1
    simp
    omega

/-- What is told has just these bytes at its end, is small enough, and no other such number is nearer. -/
theorem tellN_near (w low next : Nat) (hw : 0 < w) (hw2 : w % 2 = 0) (hlow : low < w) (hnext : next ≤ 4611686018427387903) (hd : w ∣ 4611686018427387904) :
    tellN w low next % w = low ∧ tellN w low next ≤ 4611686018427387903 ∧
    (tellN w low next < w ∨ max (tellN w low next) next - min (tellN w low next) next ≤ max (tellN w low next - w) next - min (tellN w low next - w) next) ∧
    (4611686018427387903 < tellN w low next + w ∨ max (tellN w low next) next - min (tellN w low next) next < max (tellN w low next + w) next - min (tellN w low next + w) next) := by
  have hB := base_mod next w
  obtain ⟨B, hBe⟩ : ∃ B, next - next % w = B := ⟨_, rfl⟩
  rw [hBe] at hB
  have hlt := Nat.mod_lt next hw
  have hle := Nat.mod_le next w
  have hB62 : B + w ≤ 4611686018427387904 := by
    obtain ⟨x, rfl⟩ := Nat.dvd_of_mod_eq_zero hB
    obtain ⟨y, hy⟩ := hd
    have : x < y := by
      apply Nat.lt_of_mul_lt_mul_left (a := w)
      rw [← hy]
      omega
    rw [hy]
    have := Nat.mul_le_mul_left w this
    rw [Nat.mul_succ] at this
    exact this
  have hB0 : B = 0 ∨ w ≤ B := by
    rcases Nat.eq_zero_or_pos B with h0 | h0
    · exact .inl h0
    · exact .inr (Nat.le_of_dvd h0 (Nat.dvd_of_mod_eq_zero hB))
  have hm0 : (B + low) % w = low := by
    rw [Nat.add_mod, hB, Nat.zero_add, Nat.mod_mod, Nat.mod_eq_of_lt hlow]
  rcases tellN_cases w low next (B + low) (by rw [hBe]) with ⟨h, h2⟩ | ⟨h, h2, h3⟩ | ⟨h, h2, h3⟩
  · rw [h]
    refine ⟨by rw [Nat.add_mod_right, hm0], by omega, by omega, by omega⟩
  · rw [h]
    refine ⟨?_, by omega, by omega, by omega⟩
    have : B + low = (B + low - w) + w := by omega
    rw [this, Nat.add_mod_right] at hm0
    exact hm0
  · rw [h]
    refine ⟨hm0, by omega, by omega, by omega⟩

theorem far_c (x m F : Nat) (b : Nat) (w : World) (hF : F = max x m - min x m) (hx : x < 18446744073709551616) (hm : m < 18446744073709551616) (hc : w.cell? ⟨b, 0, none⟩ = some (.int .u64 (m : Int))) :
    Calls Try.prog 22 #[.int .u64 (x : Int), .pointer (some ⟨b, 0, none⟩)] w fun e w' => e = .returned (.int .u64 (F : Int)) ∧ w = w' := by
  rcases Nat.lt_trichotomy x m with h | h | h
  · go_enter Try.func22, Try.ntmps22
    go_wp2
    go_ret
    exact ⟨ret_int (by omega), rfl⟩
  · subst h
    go_enter Try.func22, Try.ntmps22
    go_wp2
    go_ret
    exact ⟨ret_int (by omega), rfl⟩
  · go_enter Try.func22, Try.ntmps22
    go_wp2
    go_ret
    exact ⟨ret_int (by omega), rfl⟩

theorem far_box (x m F : Nat) (w : World) (hF : F = max x m - min x m) (hx : x < 18446744073709551616) (hm : m < 18446744073709551616) :
    Calls Try.prog 22 #[.int .u64 (x : Int), .pointer (some ⟨w.heap.size, 0, none⟩)] (w.alloc (.cells #[.int .u64 (m : Int)] 22)) fun e w' => e = .returned (.int .u64 (F : Int)) ∧ w.alloc (.cells #[.int .u64 (m : Int)] 22) = w' :=
  far_c x m F w.heap.size _ hF hx hm (by rw [World.cell?_alloc_at _ _ _ _ rfl]; rfl)

theorem near_big (a1 : Int) (s : ByteArray) (w : World) (hm : ¬ s.size ≤ 1024) (h47 : s.size ≤ 9223372036854775807) :
    Calls Try.prog 7 #[.string s, .int .i64 a1] w fun e w' => e = .returned (.bool true) ∧ Below w.heap.size w w' := by
  go_enter Try.func7, Try.ntmps7
  go_wp2_with fail
  refine (awake_any _).mono ?_
  rintro e x0 ⟨rfl, b0⟩
  go_wp2_with fail
  go_ret
  exact ⟨rfl, b0⟩

set_option maxRecDepth 100000 in
theorem near_bad (a : Int) (s : ByteArray) (w : World) (c : Int) (ha0 : -9223372036854775808 ≤ a) (hm : s.size ≤ 1024) (hc : tellF (byt s) a = (0, c)) (hc5 : c = 5 ∨ c = 3) (hw : s.size < 1 ∨ (1 ≤ s.size ∧ 4 < s.size) ∨ (1 ≤ s.size ∧ s.size ≤ 4 ∧ 4611686018427387903 ≤ a)) :
    Calls Try.prog 7 #[.string s, .int .i64 a] w fun e w' => e = .returned (.bool true) ∧ Below w.heap.size w w' := by
  have hT := fun w => Tell_any s a w ha0
  rw [hc] at hT
  have HT := Lib.hid hT
  have hcz : (c != 0) = true := by rcases hc5 with rfl | rfl <;> rfl
  clear hT hc hc5
  rcases hw with hw | ⟨hw1, hw2⟩ | ⟨hw1, hw2, hw3⟩
  all_goals
    go_enter Try.func7, Try.ntmps7
    go_wp2_with fail
    refine (awake_any _).mono ?_
    rintro e x0 ⟨rfl, b0⟩
    go_wp2_with fail
    refine (HT.out _).mono ?_
    rintro e x1 ⟨rfl, b1⟩
    go_wp2_with fail
    go_ret
    exact ⟨rfl, b0.trans (b1.mono b0.size)⟩

theorem pow_dvd (n : Nat) (h : n ≤ 4) : 256 ^ n ∣ 4611686018427387904 := by
  have hc : n = 0 ∨ n = 1 ∨ n = 2 ∨ n = 3 ∨ n = 4 := by omega
  rcases hc with rfl | rfl | rfl | rfl | rfl <;> decide

set_option maxRecDepth 100000 in
set_option maxHeartbeats 2000000 in
theorem near_ok (a : Int) (s : ByteArray) (n t m p : Nat) (w : World) (ha0 : -9223372036854775808 ≤ a) (ha : a < 4611686018427387903) (hn : s.size = n) (h1 : 1 ≤ n) (h4 : n ≤ 4) (hp : 256 ^ n = p) (hm : nextF a = m) (ht : tellN p (num (byt s)) m = t) :
    Calls Try.prog 7 #[.string s, .int .i64 a] w fun e w' => e = .returned (.bool true) ∧ Below w.heap.size w w' := by
  have hT := fun w => Tell_any s a w ha0
  have hbl := byt_length s
  rw [show tellF (byt s) a = (t, 0) by unfold tellF; rw [if_neg (by omega), if_neg (by omega), hbl, hn, hp, hm, ht]] at hT
  have hp4 : p ≤ 4294967296 := by rw [← hp]; exact Nat.pow_le_pow_right (n := 256) (j := 4) (by omega) h4
  have hp0 : 0 < p := by rw [← hp]; exact Nat.pow_pos (by omega)
  have hml : m ≤ 4611686018427387903 := by unfold nextF at hm; omega
  have hnl := num_lt (byt s)
  rw [hbl, hn, hp] at hnl
  obtain ⟨n1, n2, n3, n4⟩ := tellN_near p (num (byt s)) m hp0 (by rw [← hp]; exact pow256_even n h1) hnl hml (by rw [← hp]; exact pow_dvd n h4)
  rw [ht] at n1 n2 n3 n4
  have hdig : ∀ j (h : j < n) (h2 : n - 1 - j < s.size), t / 256 ^ j % 256 = (s[n - 1 - j]).toNat := by
    intro j hj h2
    have h := num_digit (byt s) j (by omega)
    rw [← n1, ← hp] at h
    have e : 256 ^ n = 256 ^ j * 256 * 256 ^ (n - j - 1) := by
      rw [← Nat.pow_succ, ← Nat.pow_add]
      congr 1
      omega
    have e2 : t % 256 ^ n / 256 ^ j % 256 = t / 256 ^ j % 256 := by
      rw [e, Nat.mul_assoc, Nat.mod_mul_right_div_self]
      exact Nat.mod_mul_right_mod _ _ _
    rw [e2] at h
    rw [h, byt_get]
    congr 2
    omega
  have hpw := wrap256 n p (by omega) hp
  have HT := Lib.hid hT
  have Hdig := Lib.hid hdig
  have Hn3 := Lib.hid n3
  have Hn4 := Lib.hid n4
  have hmb : (a < -1 ∧ m = 0) ∨ (-1 ≤ a ∧ a + 1 = (m : Int)) := by unfold nextF at hm; omega
  clear hT hdig n3 n4 hbl hnl n1 ht hm hp
  go_enter Try.func7, Try.ntmps7
  go_wp2_with fail
  refine (awake_any _).mono ?_
  rintro e x0 ⟨rfl, b0⟩
  have B0 := Lib.hid b0
  clear b0
  go_wp2_with fail
  refine (HT.out _).mono ?_
  rintro e x1 ⟨rfl, b1⟩
  have B1 := Lib.hid (B0.out.trans (b1.mono B0.out.size))
  clear b1 B0
  go_wp2_with fail
  go_loop [7, 8] (fun x i => ∃ j q : Nat, j ≤ n ∧ i = .int .i64 ((n : Int) - 1 - j) ∧ q = t / 256 ^ j ∧ x = .int .u64 q) (fun _ i => (intOf i + 1).toNat)
  case atStart => exact ⟨0, t, by omega, by simp, by simp, rfl⟩
  case round =>
    obtain ⟨j, q, hj, rfl, hq, rfl⟩ := hrel
    by_cases hlt : j < n
    · obtain ⟨k, hk⟩ : ∃ k : Nat, n - 1 - j = k := ⟨_, rfl⟩
      have hks : k < s.size := by omega
      have hd := Hdig.out j hlt (by omega)
      rw [← hq] at hd
      have hdk : s[k].toNat = q % 256 := by rw [hd]; congr 2; exact hk.symm
      have hi : (n : Int) - 1 - j = (k : Int) := by omega
      have hne : ((q : Int) % 256 != ((q % 256 : Nat) : Int)) = false := by simp
      have hqt : q ≤ t := by rw [hq]; exact Nat.div_le_self _ _
      rw [hi]
      have Hq := Lib.hid hq
      have Hk := Lib.hid hk
      clear hd hq hi hk
      go_wp2
      go_round
      case rel =>
        refine ⟨j + 1, q / 256, by omega, ?_, ?_, by go_num⟩
        · have := Hk.out
          congr 1
          omega
        · rw [Hq.out, Nat.pow_succ, Nat.div_div_eq_div_mul]
      case measure => simp [intOf]
    · obtain rfl : j = n := by omega
      clear hq hlt hj
      rw [show (j : Int) - 1 - j = -1 by omega]
      obtain ⟨C, hC⟩ : ∃ C : Nat, (t : Int) + (p : Int) = (C : Int) := ⟨t + p, by omega⟩
      have hb1 : decide ((t : Int) ≤ 4611686018427387903) = true := by rw [decide_eq_true_eq]; omega
      rcases hmb with ⟨hm1, rfl⟩ | ⟨hm1, hm2⟩
      · obtain ⟨A, hA⟩ : ∃ A : Nat, A = max t 0 - min t 0 := ⟨_, rfl⟩
        by_cases hpt : t < p
        · have hb2 : decide (t < p) = true := decide_eq_true hpt
          by_cases htp : 4611686018427387903 < t + p
          · have hb3 : decide (4611686018427387903 < (C : Int)) = true := by rw [decide_eq_true_eq]; omega
            have HA := Lib.hid hA
            clear hA hpt htp
            go_wp2_with fail
            go_ret
            exact ⟨rfl, B1.out.alloc B1.out.size _⟩
          · have hb3 : decide (4611686018427387903 < (C : Int)) = false := by rw [decide_eq_false_iff_not]; omega
            obtain ⟨G, hG⟩ : ∃ G : Nat, G = max C 0 - min C 0 := ⟨_, rfl⟩
            have hb5 : decide (A < G) = true := decide_eq_true (by have := Hn4.out; omega)
            have HG := Lib.hid hG
            have HA := Lib.hid hA
            clear hA hpt htp
            clear hG
            go_wp2_with fail
            refine (far_box C 0 G x1 HG.out (by omega) (by omega)).mono ?_
            rintro e w2 ⟨rfl, rfl⟩
            go_wp2_with fail
            refine (far_box t 0 A x1 HA.out (by omega) (by omega)).mono ?_
            rintro e w2 ⟨rfl, rfl⟩
            go_wp2_with fail
            go_ret
            exact ⟨rfl, B1.out.alloc B1.out.size _⟩
        · have hb2 : decide (t < p) = false := decide_eq_false hpt
          by_cases htp : 4611686018427387903 < t + p
          · have hb3 : decide (4611686018427387903 < (C : Int)) = true := by rw [decide_eq_true_eq]; omega
            obtain ⟨D, hD⟩ : ∃ D : Nat, (t : Int) - (p : Int) = (D : Int) := ⟨t - p, by omega⟩
            obtain ⟨E, hE⟩ : ∃ E : Nat, E = max D 0 - min D 0 := ⟨_, rfl⟩
            have hb4 : decide (A ≤ E) = true := decide_eq_true (by have := Hn3.out; omega)
            have HE := Lib.hid hE
            have HA := Lib.hid hA
            clear hA hpt htp
            clear hE
            go_wp2_with fail
            refine (far_box D 0 E x1 HE.out (by omega) (by omega)).mono ?_
            rintro e w2 ⟨rfl, rfl⟩
            go_wp2_with fail
            refine (far_box t 0 A x1 HA.out (by omega) (by omega)).mono ?_
            rintro e w2 ⟨rfl, rfl⟩
            go_wp2_with fail
            go_ret
            exact ⟨rfl, B1.out.alloc B1.out.size _⟩
          · have hb3 : decide (4611686018427387903 < (C : Int)) = false := by rw [decide_eq_false_iff_not]; omega
            obtain ⟨D, hD⟩ : ∃ D : Nat, (t : Int) - (p : Int) = (D : Int) := ⟨t - p, by omega⟩
            obtain ⟨E, hE⟩ : ∃ E : Nat, E = max D 0 - min D 0 := ⟨_, rfl⟩
            have hb4 : decide (A ≤ E) = true := decide_eq_true (by have := Hn3.out; omega)
            have HE := Lib.hid hE
            obtain ⟨G, hG⟩ : ∃ G : Nat, G = max C 0 - min C 0 := ⟨_, rfl⟩
            have hb5 : decide (A < G) = true := decide_eq_true (by have := Hn4.out; omega)
            have HG := Lib.hid hG
            have HA := Lib.hid hA
            clear hA hpt htp
            clear hE
            clear hG
            go_wp2_with fail
            refine (far_box D 0 E x1 HE.out (by omega) (by omega)).mono ?_
            rintro e w2 ⟨rfl, rfl⟩
            go_wp2_with fail
            refine (far_box t 0 A x1 HA.out (by omega) (by omega)).mono ?_
            rintro e w2 ⟨rfl, rfl⟩
            go_wp2_with fail
            refine (far_box C 0 G x1 HG.out (by omega) (by omega)).mono ?_
            rintro e w2 ⟨rfl, rfl⟩
            go_wp2_with fail
            refine (far_box t 0 A x1 HA.out (by omega) (by omega)).mono ?_
            rintro e w2 ⟨rfl, rfl⟩
            go_wp2_with fail
            go_ret
            exact ⟨rfl, B1.out.alloc B1.out.size _⟩
      · obtain ⟨A, hA⟩ : ∃ A : Nat, A = max t m - min t m := ⟨_, rfl⟩
        by_cases hpt : t < p
        · have hb2 : decide (t < p) = true := decide_eq_true hpt
          by_cases htp : 4611686018427387903 < t + p
          · have hb3 : decide (4611686018427387903 < (C : Int)) = true := by rw [decide_eq_true_eq]; omega
            have HA := Lib.hid hA
            clear hA hpt htp
            go_wp2_with fail
            go_ret
            exact ⟨rfl, B1.out.alloc B1.out.size _⟩
          · have hb3 : decide (4611686018427387903 < (C : Int)) = false := by rw [decide_eq_false_iff_not]; omega
            obtain ⟨G, hG⟩ : ∃ G : Nat, G = max C m - min C m := ⟨_, rfl⟩
            have hb5 : decide (A < G) = true := decide_eq_true (by have := Hn4.out; omega)
            have HG := Lib.hid hG
            have HA := Lib.hid hA
            clear hA hpt htp
            clear hG
            go_wp2_with fail
            refine (far_box C m G x1 HG.out (by omega) (by omega)).mono ?_
            rintro e w2 ⟨rfl, rfl⟩
            go_wp2_with fail
            refine (far_box t m A x1 HA.out (by omega) (by omega)).mono ?_
            rintro e w2 ⟨rfl, rfl⟩
            go_wp2_with fail
            go_ret
            exact ⟨rfl, B1.out.alloc B1.out.size _⟩
        · have hb2 : decide (t < p) = false := decide_eq_false hpt
          by_cases htp : 4611686018427387903 < t + p
          · have hb3 : decide (4611686018427387903 < (C : Int)) = true := by rw [decide_eq_true_eq]; omega
            obtain ⟨D, hD⟩ : ∃ D : Nat, (t : Int) - (p : Int) = (D : Int) := ⟨t - p, by omega⟩
            obtain ⟨E, hE⟩ : ∃ E : Nat, E = max D m - min D m := ⟨_, rfl⟩
            have hb4 : decide (A ≤ E) = true := decide_eq_true (by have := Hn3.out; omega)
            have HE := Lib.hid hE
            have HA := Lib.hid hA
            clear hA hpt htp
            clear hE
            go_wp2_with fail
            refine (far_box D m E x1 HE.out (by omega) (by omega)).mono ?_
            rintro e w2 ⟨rfl, rfl⟩
            go_wp2_with fail
            refine (far_box t m A x1 HA.out (by omega) (by omega)).mono ?_
            rintro e w2 ⟨rfl, rfl⟩
            go_wp2_with fail
            go_ret
            exact ⟨rfl, B1.out.alloc B1.out.size _⟩
          · have hb3 : decide (4611686018427387903 < (C : Int)) = false := by rw [decide_eq_false_iff_not]; omega
            obtain ⟨D, hD⟩ : ∃ D : Nat, (t : Int) - (p : Int) = (D : Int) := ⟨t - p, by omega⟩
            obtain ⟨E, hE⟩ : ∃ E : Nat, E = max D m - min D m := ⟨_, rfl⟩
            have hb4 : decide (A ≤ E) = true := decide_eq_true (by have := Hn3.out; omega)
            have HE := Lib.hid hE
            obtain ⟨G, hG⟩ : ∃ G : Nat, G = max C m - min C m := ⟨_, rfl⟩
            have hb5 : decide (A < G) = true := decide_eq_true (by have := Hn4.out; omega)
            have HG := Lib.hid hG
            have HA := Lib.hid hA
            clear hA hpt htp
            clear hE
            clear hG
            go_wp2_with fail
            refine (far_box D m E x1 HE.out (by omega) (by omega)).mono ?_
            rintro e w2 ⟨rfl, rfl⟩
            go_wp2_with fail
            refine (far_box t m A x1 HA.out (by omega) (by omega)).mono ?_
            rintro e w2 ⟨rfl, rfl⟩
            go_wp2_with fail
            refine (far_box C m G x1 HG.out (by omega) (by omega)).mono ?_
            rintro e w2 ⟨rfl, rfl⟩
            go_wp2_with fail
            refine (far_box t m A x1 HA.out (by omega) (by omega)).mono ?_
            rintro e w2 ⟨rfl, rfl⟩
            go_wp2_with fail
            go_ret
            exact ⟨rfl, B1.out.alloc B1.out.size _⟩

theorem near_walk (a0 : ByteArray) (a1 : Int) (w0 : a0.size ≤ maxLen) (w1 : (Lit.int .i64 a1).wf = true) (w : World) :
    Calls Try.prog 7 #[.string a0, .int .i64 a1] w fun e w' => e = .returned (.bool true) ∧ Below w.heap.size w w' := by
  have h1 := bounds_i64 w1
  unfold maxLen at w0
  by_cases hm : a0.size ≤ 1024
  · have hbl := byt_length a0
    by_cases hs : a0.size < 1 ∨ 4 < a0.size
    · exact near_bad a1 a0 w 5 h1.1 hm (by unfold tellF; rw [if_pos (by omega)]) (.inl rfl) (by omega)
    · by_cases ha : 4611686018427387903 ≤ a1
      · exact near_bad a1 a0 w 3 h1.1 hm (by unfold tellF; rw [if_neg (by omega), if_pos ha]) (.inr rfl) (by omega)
      · exact near_ok a1 a0 _ _ _ _ w h1.1 (by omega) rfl (by omega) (by omega) rfl rfl rfl
  · exact near_big a1 a0 w hm w0

end Go.Proofs.Ytlpkapkabehdnaa
