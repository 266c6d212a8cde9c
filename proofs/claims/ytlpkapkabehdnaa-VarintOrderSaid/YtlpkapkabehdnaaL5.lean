/- The law VarintOrder, walked. -/
import Derived.Test.YtlpkapkabehdnaaAw
import Derived.Test.YtlpkapkabehdnaaP2
import Derived.OpenShut
namespace Go.Proofs.Ytlpkapkabehdnaa
open Go.ChangeShapes Go.WideShapes Go.RowKit
set_option linter.unusedVariables false

/-- Of as many bytes those are less whose number is less. -/
theorem less_num : ∀ a b : List UInt8, a.length = b.length → Op.bytesLess a b = decide (num a < num b)
  | [], [], _ => by simp [Op.bytesLess, num]
  | x :: a, y :: b, h => by
    have hl : a.length = b.length := by simpa using h
    rw [Op.bytesLess, less_num a b hl, num_cons, num_cons, ← hl]
    have h1 := num_lt a
    have h2 := num_lt b
    rw [← hl] at h2
    obtain ⟨p, hp⟩ : ∃ p, 256 ^ a.length = p := ⟨_, rfl⟩
    rw [hp] at h1 h2 ⊢
    rw [Bool.eq_iff_iff]
    simp only [Bool.or_eq_true, Bool.and_eq_true, decide_eq_true_eq, beq_iff_eq, UInt8.lt_iff_toNat_lt]
    constructor
    · rintro (h | ⟨rfl, h⟩)
      · have h3 : (x.toNat + 1) * p ≤ y.toNat * p := Nat.mul_le_mul_right _ h
        rw [Nat.add_mul] at h3
        omega
      · omega
    · intro h
      rcases Nat.lt_trichotomy x.toNat y.toNat with h3 | h3 | h3
      · exact .inl h3
      · right
        refine ⟨UInt8.toNat_inj.1 h3, ?_⟩
        rw [h3] at h
        omega
      · have h4 : (y.toNat + 1) * p ≤ x.toNat * p := Nat.mul_le_mul_right _ h3
        rw [Nat.add_mul] at h4
        omega

theorem put_less (k n m : Nat) (hk : k ≤ 3) (hn : n < lim k) (hm : m < lim k) : Op.bytesLess (put k n) (put k m) = decide (n < m) := by
  rw [less_num _ _ (by rw [put_length, put_length]), num_put k n hk hn, num_put k m hk hm, decide_eq_decide]
  omega

theorem put_less2 (k j n m : Nat) (hkj : k < j) (hj : j ≤ 3) (hn : n < lim k) (hm : m < lim j) : Op.bytesLess (put k n) (put j m) = true := by
  obtain ⟨x, l, _, hx, h1, _⟩ := put_eq k n (by omega) hn
  obtain ⟨y, r, _, hy, h2, _⟩ := put_eq j m hj hm
  rw [h1, h2, mark_or _ _ hx, mark_or _ _ hy, Op.bytesLess]
  have : UInt8.ofNat (x + k * 64) < UInt8.ofNat (y + j * 64) := by
    rw [UInt8.lt_iff_toNat_lt]
    simp only [UInt8.toNat_ofNat']
    omega
  rw [decide_eq_true this]
  rfl

theorem lst_mono (a b : Nat) (h : a ≤ b) : lst a ≤ lst b := by
  unfold lst
  split
  · omega
  · split
    · rw [if_neg (by omega)]; split <;> (try split) <;> omega
    · split
      · rw [if_neg (by omega), if_neg (by omega)]; split <;> omega
      · rw [if_neg (by omega), if_neg (by omega), if_neg (by omega)]; omega

theorem toList_txt (l : List UInt8) : (txt l).toList = l := by rw [ByteArray.toList_eq]; simp [txt]

set_option maxRecDepth 100000 in
set_option maxHeartbeats 1000000 in
theorem order_lt_lt (n m a b K : Nat) (P Q : ByteArray) (w : World) (ha : n % 4611686018427387904 = a) (hb : m % 4611686018427387904 = b) (hab : a < b)
    (hP : ∀ w, Calls Try.prog 11 #[.int .u64 (a : Int)] w fun e w' => e = .returned (.tuple #[.string P, .int .i64 0]) ∧ Below w.heap.size w w')
    (hQ : ∀ w, Calls Try.prog 11 #[.int .u64 (b : Int)] w fun e w' => e = .returned (.tuple #[.string Q, .int .i64 0]) ∧ Below w.heap.size w w')
    (hS : ∀ w, Calls Try.prog 17 #[.int .u64 (a : Int)] w fun e w' => e = .returned (.int .i64 (P.size : Int)) ∧ w = w')
    (hP8 : P.size ≤ 8) (hQ8 : Q.size ≤ 8)
    (hsz : P.size < Q.size) (hl : Op.bytesLess P.toList Q.toList = true) :
    Calls Try.prog 8 #[.int .u64 (n : Int), .int .u64 (m : Int)] w fun e w' => e = .returned (.bool true) ∧ Below w.heap.size w w' := by
  have ha2 : (n : Int) % 4611686018427387904 = (a : Int) := by omega
  have hb2 : (m : Int) % 4611686018427387904 = (b : Int) := by omega
  have HP := Lib.hid hP
  have HQ := Lib.hid hQ
  have HS := Lib.hid hS
  have hne : ((a : Int) != (b : Int)) = true := by rw [bne_iff_ne]; omega
  clear ha hb hP hQ hS
  go_enter Try.func8, Try.ntmps8
  go_wp2_with fail
  refine (awake_any _).mono ?_
  rintro e x0 ⟨rfl, b0⟩
  have B0 := Lib.hid b0
  clear b0
  go_wp2_with fail
  refine (HP.out _).mono ?_
  rintro e x1 ⟨rfl, b1⟩
  have B1 := Lib.hid (B0.out.trans (b1.mono B0.out.size))
  clear b1 B0
  go_wp2_with fail
  refine (HQ.out _).mono ?_
  rintro e x2 ⟨rfl, b2⟩
  have B2 := Lib.hid (B1.out.trans (b2.mono B1.out.size))
  clear b2 B1
  go_wp2_with fail
  refine (HS.out _).mono ?_
  rintro e x3 ⟨rfl, rfl⟩
  go_wp2_with fail
  go_ret
  exact ⟨rfl, B2.out⟩

set_option maxRecDepth 100000 in
set_option maxHeartbeats 1000000 in
theorem order_lt_eq (n m a b K : Nat) (P Q : ByteArray) (w : World) (ha : n % 4611686018427387904 = a) (hb : m % 4611686018427387904 = b) (hab : a < b)
    (hP : ∀ w, Calls Try.prog 11 #[.int .u64 (a : Int)] w fun e w' => e = .returned (.tuple #[.string P, .int .i64 0]) ∧ Below w.heap.size w w')
    (hQ : ∀ w, Calls Try.prog 11 #[.int .u64 (b : Int)] w fun e w' => e = .returned (.tuple #[.string Q, .int .i64 0]) ∧ Below w.heap.size w w')
    (hS : ∀ w, Calls Try.prog 17 #[.int .u64 (a : Int)] w fun e w' => e = .returned (.int .i64 (P.size : Int)) ∧ w = w')
    (hP8 : P.size ≤ 8) (hQ8 : Q.size ≤ 8)
    (hPs : P.size = K) (hQs : Q.size = K) (hl : Op.bytesLess P.toList Q.toList = true) :
    Calls Try.prog 8 #[.int .u64 (n : Int), .int .u64 (m : Int)] w fun e w' => e = .returned (.bool true) ∧ Below w.heap.size w w' := by
  have ha2 : (n : Int) % 4611686018427387904 = (a : Int) := by omega
  have hb2 : (m : Int) % 4611686018427387904 = (b : Int) := by omega
  have HP := Lib.hid hP
  have HQ := Lib.hid hQ
  have HS := Lib.hid hS
  have hne : ((a : Int) != (b : Int)) = true := by rw [bne_iff_ne]; omega
  clear ha hb hP hQ hS
  go_enter Try.func8, Try.ntmps8
  go_wp2_with fail
  refine (awake_any _).mono ?_
  rintro e x0 ⟨rfl, b0⟩
  have B0 := Lib.hid b0
  clear b0
  go_wp2_with fail
  refine (HP.out _).mono ?_
  rintro e x1 ⟨rfl, b1⟩
  have B1 := Lib.hid (B0.out.trans (b1.mono B0.out.size))
  clear b1 B0
  go_wp2_with fail
  refine (HQ.out _).mono ?_
  rintro e x2 ⟨rfl, b2⟩
  have B2 := Lib.hid (B1.out.trans (b2.mono B1.out.size))
  clear b2 B1
  go_wp2_with fail
  refine (HS.out _).mono ?_
  rintro e x3 ⟨rfl, rfl⟩
  go_wp2_with fail
  go_ret
  exact ⟨rfl, B2.out⟩

set_option maxRecDepth 100000 in
set_option maxHeartbeats 1000000 in
theorem order_gt_lt (n m a b K : Nat) (P Q : ByteArray) (w : World) (ha : n % 4611686018427387904 = a) (hb : m % 4611686018427387904 = b) (hab : b < a)
    (hP : ∀ w, Calls Try.prog 11 #[.int .u64 (b : Int)] w fun e w' => e = .returned (.tuple #[.string P, .int .i64 0]) ∧ Below w.heap.size w w')
    (hQ : ∀ w, Calls Try.prog 11 #[.int .u64 (a : Int)] w fun e w' => e = .returned (.tuple #[.string Q, .int .i64 0]) ∧ Below w.heap.size w w')
    (hS : ∀ w, Calls Try.prog 17 #[.int .u64 (b : Int)] w fun e w' => e = .returned (.int .i64 (P.size : Int)) ∧ w = w')
    (hP8 : P.size ≤ 8) (hQ8 : Q.size ≤ 8)
    (hsz : P.size < Q.size) (hl : Op.bytesLess P.toList Q.toList = true) :
    Calls Try.prog 8 #[.int .u64 (n : Int), .int .u64 (m : Int)] w fun e w' => e = .returned (.bool true) ∧ Below w.heap.size w w' := by
  have ha2 : (n : Int) % 4611686018427387904 = (a : Int) := by omega
  have hb2 : (m : Int) % 4611686018427387904 = (b : Int) := by omega
  have HP := Lib.hid hP
  have HQ := Lib.hid hQ
  have HS := Lib.hid hS
  have hne : ((a : Int) != (b : Int)) = true := by rw [bne_iff_ne]; omega
  clear ha hb hP hQ hS
  go_enter Try.func8, Try.ntmps8
  go_wp2_with fail
  refine (awake_any _).mono ?_
  rintro e x0 ⟨rfl, b0⟩
  have B0 := Lib.hid b0
  clear b0
  go_wp2_with fail
  refine (HP.out _).mono ?_
  rintro e x1 ⟨rfl, b1⟩
  have B1 := Lib.hid (B0.out.trans (b1.mono B0.out.size))
  clear b1 B0
  go_wp2_with fail
  refine (HQ.out _).mono ?_
  rintro e x2 ⟨rfl, b2⟩
  have B2 := Lib.hid (B1.out.trans (b2.mono B1.out.size))
  clear b2 B1
  go_wp2_with fail
  refine (HS.out _).mono ?_
  rintro e x3 ⟨rfl, rfl⟩
  go_wp2_with fail
  go_ret
  exact ⟨rfl, B2.out⟩

set_option maxRecDepth 100000 in
set_option maxHeartbeats 1000000 in
theorem order_gt_eq (n m a b K : Nat) (P Q : ByteArray) (w : World) (ha : n % 4611686018427387904 = a) (hb : m % 4611686018427387904 = b) (hab : b < a)
    (hP : ∀ w, Calls Try.prog 11 #[.int .u64 (b : Int)] w fun e w' => e = .returned (.tuple #[.string P, .int .i64 0]) ∧ Below w.heap.size w w')
    (hQ : ∀ w, Calls Try.prog 11 #[.int .u64 (a : Int)] w fun e w' => e = .returned (.tuple #[.string Q, .int .i64 0]) ∧ Below w.heap.size w w')
    (hS : ∀ w, Calls Try.prog 17 #[.int .u64 (b : Int)] w fun e w' => e = .returned (.int .i64 (P.size : Int)) ∧ w = w')
    (hP8 : P.size ≤ 8) (hQ8 : Q.size ≤ 8)
    (hPs : P.size = K) (hQs : Q.size = K) (hl : Op.bytesLess P.toList Q.toList = true) :
    Calls Try.prog 8 #[.int .u64 (n : Int), .int .u64 (m : Int)] w fun e w' => e = .returned (.bool true) ∧ Below w.heap.size w w' := by
  have ha2 : (n : Int) % 4611686018427387904 = (a : Int) := by omega
  have hb2 : (m : Int) % 4611686018427387904 = (b : Int) := by omega
  have HP := Lib.hid hP
  have HQ := Lib.hid hQ
  have HS := Lib.hid hS
  have hne : ((a : Int) != (b : Int)) = true := by rw [bne_iff_ne]; omega
  clear ha hb hP hQ hS
  go_enter Try.func8, Try.ntmps8
  go_wp2_with fail
  refine (awake_any _).mono ?_
  rintro e x0 ⟨rfl, b0⟩
  have B0 := Lib.hid b0
  clear b0
  go_wp2_with fail
  refine (HP.out _).mono ?_
  rintro e x1 ⟨rfl, b1⟩
  have B1 := Lib.hid (B0.out.trans (b1.mono B0.out.size))
  clear b1 B0
  go_wp2_with fail
  refine (HQ.out _).mono ?_
  rintro e x2 ⟨rfl, b2⟩
  have B2 := Lib.hid (B1.out.trans (b2.mono B1.out.size))
  clear b2 B1
  go_wp2_with fail
  refine (HS.out _).mono ?_
  rintro e x3 ⟨rfl, rfl⟩
  go_wp2_with fail
  go_ret
  exact ⟨rfl, B2.out⟩

set_option maxRecDepth 100000 in
set_option maxHeartbeats 1000000 in
theorem order_same (n m a b K : Nat) (P Q : ByteArray) (w : World) (ha : n % 4611686018427387904 = a) (hb : m % 4611686018427387904 = b) (hab : a = b)
    (hP : ∀ w, Calls Try.prog 11 #[.int .u64 (a : Int)] w fun e w' => e = .returned (.tuple #[.string P, .int .i64 0]) ∧ Below w.heap.size w w')
    (hQ : ∀ w, Calls Try.prog 11 #[.int .u64 (b : Int)] w fun e w' => e = .returned (.tuple #[.string Q, .int .i64 0]) ∧ Below w.heap.size w w')
    (hS : ∀ w, Calls Try.prog 17 #[.int .u64 (a : Int)] w fun e w' => e = .returned (.int .i64 (P.size : Int)) ∧ w = w')
    (hP8 : P.size ≤ 8) (hQ8 : Q.size ≤ 8)
    (hPs : P.size = K) (hQs : Q.size = K) (hl : Op.bytesLess P.toList Q.toList = false) :
    Calls Try.prog 8 #[.int .u64 (n : Int), .int .u64 (m : Int)] w fun e w' => e = .returned (.bool true) ∧ Below w.heap.size w w' := by
  have ha2 : (n : Int) % 4611686018427387904 = (a : Int) := by omega
  have hb2 : (m : Int) % 4611686018427387904 = (b : Int) := by omega
  have HP := Lib.hid hP
  have HQ := Lib.hid hQ
  have HS := Lib.hid hS
  clear ha hb hP hQ hS
  subst hab
  go_enter Try.func8, Try.ntmps8
  go_wp2_with fail
  refine (awake_any _).mono ?_
  rintro e x0 ⟨rfl, b0⟩
  have B0 := Lib.hid b0
  clear b0
  go_wp2_with fail
  refine (HP.out _).mono ?_
  rintro e x1 ⟨rfl, b1⟩
  have B1 := Lib.hid (B0.out.trans (b1.mono B0.out.size))
  clear b1 B0
  go_wp2_with fail
  refine (HQ.out _).mono ?_
  rintro e x2 ⟨rfl, b2⟩
  have B2 := Lib.hid (B1.out.trans (b2.mono B1.out.size))
  clear b2 B1
  go_wp2_with fail
  refine (HS.out _).mono ?_
  rintro e x3 ⟨rfl, rfl⟩
  go_wp2_with fail
  go_ret
  exact ⟨rfl, B2.out⟩

theorem put_facts (x : Nat) (hx : x < 4611686018427387904) :
    (∀ w, Calls Try.prog 11 #[.int .u64 (x : Int)] w fun e w' => e = .returned (.tuple #[.string (txt (put (lst x) x)), .int .i64 0]) ∧ Below w.heap.size w w') ∧
    (∀ w, Calls Try.prog 17 #[.int .u64 (x : Int)] w fun e w' => e = .returned (.int .i64 ((txt (put (lst x) x)).size : Int)) ∧ w = w') ∧ (txt (put (lst x) x)).size = 2 ^ lst x := by
  refine ⟨?_, ?_, by rw [txt_size, put_length]⟩
  · have h := Put_any x
    rw [show putF x = (put (lst x) x, 0) by simp only [putF]; rw [if_pos hx]] at h
    exact h
  · have h := Size_any x
    rw [show sizeF x = 2 ^ lst x by simp only [sizeF]; rw [if_pos hx]] at h
    rw [txt_size, put_length]
    exact h

theorem order_walk (a0 a1 : Int) (w0 : (Lit.int .u64 a0).wf = true) (w1 : (Lit.int .u64 a1).wf = true) (w : World) :
    Calls Try.prog 8 #[.int .u64 a0, .int .u64 a1] w fun e w' => e = .returned (.bool true) ∧ Below w.heap.size w w' := by
  have h0 := bounds_u64 w0
  have h1 := bounds_u64 w1
  obtain ⟨n, rfl⟩ := Int.eq_ofNat_of_zero_le h0.1
  obtain ⟨m, rfl⟩ := Int.eq_ofNat_of_zero_le h1.1
  obtain ⟨a, ha⟩ : ∃ a, n % 4611686018427387904 = a := ⟨_, rfl⟩
  obtain ⟨b, hb⟩ : ∃ b, m % 4611686018427387904 = b := ⟨_, rfl⟩
  have hal : a < 4611686018427387904 := by rw [← ha]; exact Nat.mod_lt _ (by omega)
  have hbl : b < 4611686018427387904 := by rw [← hb]; exact Nat.mod_lt _ (by omega)
  obtain ⟨pa, sa, za⟩ := put_facts a hal
  obtain ⟨pb, sb, zb⟩ := put_facts b hbl
  have h8a : (txt (put (lst a) a)).size ≤ 8 := by rw [za]; exact pow_le8 _ (lst_le a)
  have h8b : (txt (put (lst b) b)).size ≤ 8 := by rw [zb]; exact pow_le8 _ (lst_le b)
  have hla := lst_lim a hal
  have hlb := lst_lim b hbl
  have l3a := lst_le a
  have l3b := lst_le b
  have pw : ∀ x y : Nat, x < y → 2 ^ x < 2 ^ y := fun x y h => Nat.pow_lt_pow_right (by omega) h
  rcases Nat.lt_trichotomy a b with h | h | h
  · have hm := lst_mono a b (by omega)
    by_cases hk : lst a < lst b
    · exact order_lt_lt n m a b 0 _ _ w ha hb h pa pb sa h8a h8b (by rw [za, zb]; exact pw _ _ hk) (by rw [toList_txt, toList_txt]; exact put_less2 _ _ _ _ hk l3b hla hlb)
    · have he : lst a = lst b := by omega
      exact order_lt_eq n m a b (2 ^ lst b) _ _ w ha hb h pa pb sa h8a h8b (by rw [za, he]) zb (by
        rw [toList_txt, toList_txt, he, put_less _ _ _ l3b (by rw [← he]; exact hla) hlb]
        exact decide_eq_true h)
  · subst h
    exact order_same n m a a _ _ _ w ha hb rfl pa pa sa h8a h8a za za (by
      rw [toList_txt, put_less _ _ _ l3a hla hla]
      exact decide_eq_false (by omega))
  · have hm := lst_mono b a (by omega)
    by_cases hk : lst b < lst a
    · exact order_gt_lt n m a b 0 _ _ w ha hb h pb pa sb h8b h8a (by rw [za, zb]; exact pw _ _ hk) (by rw [toList_txt, toList_txt]; exact put_less2 _ _ _ _ hk l3a hlb hla)
    · have he : lst b = lst a := by omega
      exact order_gt_eq n m a b (2 ^ lst a) _ _ w ha hb h pb pa sb h8b h8a (by rw [zb, he]) za (by
        rw [toList_txt, toList_txt, he, put_less _ _ _ l3a (by rw [← he]; exact hlb) hla]
        exact decide_eq_true h)

end Go.Proofs.Ytlpkapkabehdnaa
