/- Plain laws of heads: what is written is read; what goes on; what stays bad. -/
import Derived.Test.YtngnfijpfghodaaDp
import Derived.Test.YtngnfijpfghodaaDh
import Derived.Test.YtngnfijpfghodaaDc
namespace Go.Proofs.Ytngnfijpfghodaa
open Go.RowKit
set_option linter.unusedVariables false

theorem lim_pos (k : Nat) : 0 < lim k := by
  match k with
  | 0 | 1 | 2 => simp [lim]
  | k + 3 => simp [lim]

theorem pow_lim (k : Nat) (hk : k ≤ 3) : 256 ^ (2 ^ k) = 4 * lim k := by
  have hc : k = 0 ∨ k = 1 ∨ k = 2 ∨ k = 3 := by omega
  rcases hc with rfl | rfl | rfl | rfl <;> rfl

theorem num_put (k n : Nat) (hk : k ≤ 3) (hn : n < lim k) : num (put k n) = n + k * lim k := by
  rw [put, num_be, pow_lim k hk]
  apply Nat.mod_eq_of_lt
  have : k * lim k ≤ 3 * lim k := Nat.mul_le_mul_right _ hk
  omega

theorem take_put (k n : Nat) (r : List UInt8) (hk : k ≤ 3) (hn : n < lim k) : takeL (put k n ++ r) = (n, r, 0) := by
  obtain ⟨x, l, h1, hx, h2, hl⟩ := put_eq k n hk hn
  have hnum := num_put k n hk hn
  rw [mark_or _ _ hx] at h2
  rw [h2] at hnum ⊢
  have hb : (UInt8.ofNat (x + k * 64)).toNat / 64 = k := by
    simp only [UInt8.toNat_ofNat']
    omega
  rw [List.cons_append, takeL, hb]
  rw [if_neg (by simp; omega)]
  have e1 : (UInt8.ofNat (x + k * 64) :: (l ++ r)).take (2 ^ k) = UInt8.ofNat (x + k * 64) :: l := by
    rw [← hl, List.take_succ_cons, List.take_left]
  have e2 : (UInt8.ofNat (x + k * 64) :: (l ++ r)).drop (2 ^ k) = r := by
    rw [← hl, List.drop_succ_cons, List.drop_left]
  rw [e1, e2, hnum, Nat.add_mul_mod_self_right, Nat.mod_eq_of_lt hn]

/-! ### What was laid is taken off -/

theorem rd_take (a y : List UInt8) (n : Int) (hn : n = (a.length : Int)) : (⟨a ++ y, false⟩ : Rd).take n = (a, ⟨y, false⟩) := by
  subst hn
  unfold Rd.take
  rw [if_neg (by simp only [List.length_append]; simp; omega)]
  simp
theorem rd_one (b : UInt8) (y : List UInt8) : (⟨b :: y, false⟩ : Rd).one = (b.toNat, ⟨y, false⟩) := by
  unfold Rd.one
  rw [show b :: y = [b] ++ y from rfl, rd_take [b] y 1 rfl]
  rfl
theorem rd_cid (d y : List UInt8) (h : d.length ≤ 20) : (⟨textF d ++ y, false⟩ : Rd).cid = (d, ⟨y, false⟩) := by
  unfold Rd.cid textF
  rw [List.cons_append, rd_one]
  have e : (UInt8.ofNat (d.length % 256)).toNat = d.length := by simp only [UInt8.toNat_ofNat']; omega
  simp only [e]
  unfold Rd.must
  simp only [decide_eq_true h, Bool.not_true, Bool.or_false]
  exact rd_take d y _ rfl
theorem rd_size (n : Nat) (y : List UInt8) (h : n ≤ 16388) : (⟨(putF n).1 ++ y, false⟩ : Rd).size = ((n : Int), ⟨y, false⟩) := by
  have hp : putF n = (put (lst n) n, 0) := by unfold putF; rw [if_pos (by omega)]
  rw [hp]
  have ht := take_put (lst n) n y (lst_le n) (lst_lim n (by omega))
  unfold Rd.size
  simp only [ht]
  rw [if_neg (by simp; omega)]
  have e : sizeF n = (put (lst n) n ++ y).length - y.length := by
    rw [List.length_append, put_length]
    unfold sizeF
    rw [if_pos (by omega)]
    exact (Nat.add_sub_cancel _ _).symm
  rw [decide_eq_true e]
  rfl

/-- All that stands ahead of the number, in a long head. -/
def preF (h : Hd) : List UInt8 := [UInt8.ofNat (192 + (16 * h.ty + h.bytes - 1).toNat), 0, 0, 0, 1] ++ textF h.dst ++ textF h.src ++ (if h.ty = 0 then [0] else []) ++ (putF (h.bytes + h.size).toNat).1
theorem bytesF_long (h : Hd) (h3 : h.ty ≠ 3) : bytesF h = preF h ++ be h.bytes.toNat h.num := by
  unfold bytesF preF
  rw [if_neg h3]

theorem may_facts (h : Hd) (hm : mayF h = true) : (h.ty = 0 ∨ h.ty = 2 ∨ h.ty = 3) ∧ h.dst.length ≤ 20 ∧ h.src.length ≤ 20 ∧ h.num ≤ 4611686018427387903 ∧ 1 ≤ h.bytes ∧ h.bytes ≤ 4 ∧ 0 ≤ h.size ∧ h.size ≤ 16384 ∧ (h.ty = 3 → h.src.length = 0) ∧ (h.ty ≠ 3 → h.spin = false) := by
  unfold mayF longF at hm
  simp at hm
  obtain ⟨⟨⟨⟨⟨⟨⟨⟨a1, a2⟩, a3⟩, a4⟩, a5⟩, a6⟩, a7⟩, a8⟩, a9⟩ := hm
  refine ⟨by omega, a2, a3, a4, a5, a6, a7, a8, ?_, ?_⟩
  · intro h3
    rw [if_neg (by omega)] at a9
    rw [a9]
    rfl
  · intro h3
    rw [if_pos (by omega)] at a9
    exact a9

theorem first_nat (ty b : Nat) (ht : ty = 0 ∨ ty = 2) (hb : 1 ≤ b) (hb4 : b ≤ 4) : (UInt8.ofNat (192 + (16 * (ty : Int) + (b : Int) - 1).toNat)).toNat = 192 + 16 * ty + (b - 1) := by
  have e : (16 * (ty : Int) + (b : Int) - 1).toNat = 16 * ty + (b - 1) := by omega
  rw [e]
  simp only [UInt8.toNat_ofNat']
  rcases ht with rfl | rfl <;> omega

/-- A long head that was written is opened. -/
theorem open_write (h : Hd) (y : List UInt8) (hm : mayF h = true) (h3 : h.ty ≠ 3) : openF ⟨preF h ++ y, false⟩ = (⟨h.ty, h.dst, h.src, 0, h.bytes, 0, false⟩, h.bytes + h.size, ⟨y, false⟩) := by
  obtain ⟨m1, m2, m3, m4, m5, m6, m7, m8, m9, m10⟩ := may_facts h hm
  obtain ⟨ty, dst, src, num, bytes, size, spin⟩ := h
  simp only at *
  obtain ⟨t, rfl⟩ := Int.eq_ofNat_of_zero_le (show 0 ≤ ty by omega)
  obtain ⟨b, rfl⟩ := Int.eq_ofNat_of_zero_le (show 0 ≤ bytes by omega)
  obtain ⟨z, rfl⟩ := Int.eq_ofNat_of_zero_le m7
  have ht : t = 0 ∨ t = 2 := by omega
  have hf := first_nat t b ht (by omega) (by omega)
  unfold preF
  simp only
  generalize UInt8.ofNat (192 + (16 * ((t : Nat) : Int) + (b : Int) - 1).toNat) = f at *
  have hone : (⟨[f, 0, 0, 0, 1] ++ textF dst ++ textF src ++ (if ((t : Nat) : Int) = 0 then [0] else []) ++ (putF ((b : Int) + (z : Int)).toNat).1 ++ y, false⟩ : Rd).one = (192 + 16 * t + (b - 1), ⟨[0, 0, 0, 1] ++ (textF dst ++ (textF src ++ ((if ((t : Nat) : Int) = 0 then [0] else []) ++ ((putF (b + z)).1 ++ y)))), false⟩) := by
    have := rd_one f ([0, 0, 0, 1] ++ (textF dst ++ (textF src ++ ((if ((t : Nat) : Int) = 0 then [0] else []) ++ ((putF (b + z)).1 ++ y)))))
    rw [hf] at this
    rw [← this]
    have e : ((b : Int) + (z : Int)).toNat = b + z := by omega
    rw [e]
    simp
  generalize (⟨[f, 0, 0, 0, 1] ++ textF dst ++ textF src ++ (if ((t : Nat) : Int) = 0 then [0] else []) ++ (putF ((b : Int) + (z : Int)).toNat).1 ++ y, false⟩ : Rd) = R at *
  have ht16 : (192 + 16 * t + (b - 1)) / 16 % 4 = t := by rcases ht with rfl | rfl <;> omega
  have hb4 : (192 + 16 * t + (b - 1)) % 4 + 1 = b := by rcases ht with rfl | rfl <;> omega
  have h1 : o1 R = ⟨[0, 0, 0, 1] ++ (textF dst ++ (textF src ++ ((if ((t : Nat) : Int) = 0 then [0] else []) ++ ((putF (b + z)).1 ++ y)))), false⟩ := by
    unfold o1 okFirst Rd.must
    rw [hone]
    simp only [ht16]
    have e1 : decide (192 ≤ 192 + 16 * t + (b - 1)) = true := by simp; omega
    have e2 : decide ((192 + 16 * t + (b - 1)) / 4 % 4 = 0) = true := by rcases ht with rfl | rfl <;> simp <;> omega
    have e3 : longF (t : Int) = true := by rcases ht with rfl | rfl <;> rfl
    rw [e1, e2, e3]
    rfl
  have h2 : o2 R = ⟨textF dst ++ (textF src ++ ((if ((t : Nat) : Int) = 0 then [0] else []) ++ ((putF (b + z)).1 ++ y))), false⟩ := by
    unfold o2 Rd.must
    rw [h1, rd_take [0, 0, 0, 1] _ 4 rfl]
    simp
  have h4 : (o2 R).cid = (dst, ⟨textF src ++ ((if ((t : Nat) : Int) = 0 then [0] else []) ++ ((putF (b + z)).1 ++ y)), false⟩) := by rw [h2, rd_cid _ _ m2]
  have h5 : (o2 R).cid.2.cid = (src, ⟨(if ((t : Nat) : Int) = 0 then [0] else []) ++ ((putF (b + z)).1 ++ y), false⟩) := by rw [h4]; exact rd_cid _ _ m3
  have h6 : o5 R = ⟨(putF (b + z)).1 ++ y, false⟩ := by
    unfold o5
    rw [h5, hone]
    simp only [ht16]
    rcases ht with rfl | rfl
    · rw [if_pos rfl]
      simp only [Int.natCast_zero, if_true]
      rw [List.cons_append, List.nil_append, rd_one]
      rfl
    · rw [if_neg (by omega)]
      rfl
  have h7 : (o5 R).size = (((b + z : Nat) : Int), ⟨y, false⟩) := by rw [h6]; exact rd_size _ _ (by omega)
  unfold openF
  rw [h7, h5, h4, hone]
  simp only [ht16, hb4]
  unfold Rd.must
  have e1 : decide ((b : Int) ≤ ((b + z : Nat) : Int)) = true := decide_eq_true (by omega)
  have e2 : decide (((b + z : Nat) : Int) ≤ (b : Int) + 16384) = true := decide_eq_true (by omega)
  rw [e1, e2]
  simp

theorem tell_good (l : List UInt8) (h1 : 1 ≤ l.length) (h4 : l.length ≤ 4) : (tellF l (-1)).2 = 0 := by
  unfold tellF
  rw [if_neg (by omega), if_neg (by omega)]

/-- A number and what stands behind it are taken. -/
theorem end_write (h : Hd) (q s more : List UInt8) (b : Nat) (hb : h.bytes = (b : Int)) (hq : q.length = b) (h1 : 1 ≤ b) (h4 : b ≤ 4) (hs : s.length ≤ 16384) :
    endF ⟨q ++ (s ++ more), false⟩ h (s.length : Int) (-1) = (({ h with num := (tellF q (-1)).1, size := (s.length : Int) }, s, 0), ⟨more, false⟩) := by
  unfold endF
  rw [rd_take q (s ++ more) h.bytes (by rw [hb, hq])]
  simp only
  rw [rd_take s more _ rfl]
  simp only [Bool.false_eq_true, false_or]
  rw [if_neg (by omega), if_neg (by rw [tell_good q (by omega) (by omega)]; simp)]

theorem pre_first (h : Hd) : ∃ b t, preF h = b :: t ∧ b = UInt8.ofNat (192 + (16 * h.ty + h.bytes - 1).toNat) := ⟨_, _, rfl, rfl⟩

theorem long_write (h : Hd) (y : List UInt8) (hm : mayF h = true) (h3 : h.ty ≠ 3) : LongF (preF h ++ y) = true := by
  obtain ⟨m1, m2, m3, m4, m5, m6, m7, m8, m9, m10⟩ := may_facts h hm
  obtain ⟨t, ht⟩ := Int.eq_ofNat_of_zero_le (show 0 ≤ h.ty by omega)
  obtain ⟨b, hb⟩ := Int.eq_ofNat_of_zero_le (show 0 ≤ h.bytes by omega)
  have hf := first_nat t b (by omega) (by omega) (by omega)
  rw [← ht, ← hb] at hf
  obtain ⟨x, l, e, rfl⟩ := pre_first h
  rw [e, List.cons_append]
  show decide (128 ≤ _) = true
  rw [hf]
  simp; omega

/-- A written long head, and what stands behind it, are read; whatever else follows. -/
theorem read_write (h : Hd) (s more : List UInt8) (cid : Int) (hm : mayF h = true) (h3 : h.ty ≠ 3) (hs : h.size = (s.length : Int)) (hc : 0 ≤ cid ∧ cid ≤ 20) :
    readF (bytesF h ++ (s ++ more)) cid (-1) = (⟨h.ty, h.dst, h.src, (tellF (be h.bytes.toNat h.num) (-1)).1, h.bytes, h.size, false⟩, s, 0) := by
  obtain ⟨m1, m2, m3, m4, m5, m6, m7, m8, m9, m10⟩ := may_facts h hm
  unfold readF
  rw [if_neg (by omega), bytesF_long h h3, List.append_assoc, if_pos (long_write h _ hm h3), open_write h _ hm h3]
  simp only
  have e : h.bytes + h.size - h.bytes = (s.length : Int) := by omega
  rw [e, end_write _ (be h.bytes.toNat h.num) s more h.bytes.toNat (by simp only; omega) (be_length _ _) (by omega) (by omega) (by omega)]
  simp only [hs]

/-- So it is taken off whole. -/
theorem read_all (h : Hd) (s : List UInt8) (hm : mayF h = true) (h3 : h.ty ≠ 3) (hs : h.size = (s.length : Int)) :
    (endF (openF ⟨bytesF h ++ s, false⟩).2.2 (openF ⟨bytesF h ++ s, false⟩).1 ((openF ⟨bytesF h ++ s, false⟩).2.1 - (openF ⟨bytesF h ++ s, false⟩).1.bytes) (-1)).2 = ⟨[], false⟩ := by
  obtain ⟨m1, m2, m3, m4, m5, m6, m7, m8, m9, m10⟩ := may_facts h hm
  rw [bytesF_long h h3, List.append_assoc, open_write h _ hm h3]
  simp only
  have e : h.bytes + h.size - h.bytes = (s.length : Int) := by omega
  have e2 := end_write ⟨h.ty, h.dst, h.src, 0, h.bytes, 0, false⟩ (be h.bytes.toNat h.num) s [] h.bytes.toNat (by simp only; omega) (be_length _ _) (by omega) (by omega) (by omega)
  rw [List.append_nil] at e2
  rw [e, e2]

/-! ### What goes on when more follows -/

def Rd.app (r : Rd) (x : List UInt8) : Rd := ⟨r.s ++ x, r.bad⟩
theorem app_take (r : Rd) (n : Int) (x : List UInt8) (h : (r.take n).2.bad = false) : (r.app x).take n = ((r.take n).1, (r.take n).2.app x) := by
  unfold Rd.take at h ⊢
  split at h
  · simp at h
  · rename_i hn
    rw [if_neg hn]
    simp only [not_or] at hn
    have h2 : ¬ ((r.app x).bad = true ∨ ((r.app x).s.length : Int) < n) := by
      unfold Rd.app
      simp only [not_or, List.length_append]
      exact ⟨hn.1, by omega⟩
    rw [if_neg h2]
    have hle : n.toNat ≤ r.s.length := by omega
    unfold Rd.app
    simp only
    rw [List.take_append_of_le_length hle, List.drop_append_of_le_length hle]
theorem app_must (r : Rd) (c : Bool) (x : List UInt8) : (r.app x).must c = (r.must c).app x := rfl
theorem app_one (r : Rd) (x : List UInt8) (h : r.one.2.bad = false) : (r.app x).one = (r.one.1, r.one.2.app x) := by
  unfold Rd.one at h ⊢
  rw [app_take r 1 x h]
theorem app_cid (r : Rd) (x : List UInt8) (h : r.cid.2.bad = false) : (r.app x).cid = (r.cid.1, r.cid.2.app x) := by
  have h1 : r.one.2.bad = false := ((goes_must r.one.2 _).trans (goes_take _ _)).1 h
  unfold Rd.cid at h ⊢
  rw [app_one r x h1]
  simp only
  rw [app_must, app_take _ _ x h]
theorem takeL_app (l x : List UInt8) (h : (takeL l).2.2 = 0) : takeL (l ++ x) = ((takeL l).1, (takeL l).2.1 ++ x, 0) := by
  cases l with
  | nil => simp [takeL] at h
  | cons b r =>
    by_cases hh : (b :: r).length < 2 ^ (b.toNat / 64)
    · simp only [takeL, if_pos hh] at h
      simp at h
    · have hle : 2 ^ (b.toNat / 64) ≤ (b :: r).length := by omega
      have h2 : ¬ (b :: (r ++ x)).length < 2 ^ (b.toNat / 64) := by
        simp only [List.length_cons, List.length_append] at hh ⊢
        omega
      rw [List.cons_append]
      simp only [takeL, if_neg hh, if_neg h2]
      rw [← List.cons_append, List.take_append_of_le_length hle, List.drop_append_of_le_length hle]
theorem app_size (r : Rd) (x : List UInt8) (h : r.size.2.bad = false) : (r.app x).size = (r.size.1, r.size.2.app x) := by
  unfold Rd.size at h ⊢
  split at h
  · simp at h
  · rename_i hn
    rw [if_neg hn]
    have hn2 := hn
    simp only [Bool.or_eq_true, Bool.not_eq_true', Bool.and_eq_false_iff, not_or, decide_eq_false_iff_not, Decidable.not_not, Bool.not_eq_true] at hn2
    have ht := takeL_app r.s x hn2.2.1
    have hs : (r.app x).s = r.s ++ x := rfl
    have hb : (r.app x).bad = r.bad := rfl
    rw [hs, hb, ht]
    rw [hn2.2.1] at hn
    rw [if_neg hn]
    have hr := takeL_rest r.s
    have e : (r.s ++ x).length - ((takeL r.s).2.1 ++ x).length = r.s.length - (takeL r.s).2.1.length := by
      rw [List.length_append, List.length_append]; omega
    unfold Rd.app
    simp only [e]
theorem app_o1 (r : Rd) (x : List UInt8) (h : (o1 r).bad = false) : o1 (r.app x) = (o1 r).app x := by
  have h1 : r.one.2.bad = false := (goes_o1 r).1 h
  unfold o1
  rw [app_one r x h1]
  rfl
theorem app_o2 (r : Rd) (x : List UInt8) (h : (o2 r).bad = false) : o2 (r.app x) = (o2 r).app x := by
  have h1 : ((o1 r).take 4).2.bad = false := (goes_must _ _).1 h
  have h0 : (o1 r).bad = false := (goes_take _ _).1 h1
  unfold o2
  rw [app_o1 r x h0, app_take _ _ x h1]
  rfl
theorem app_open (r : Rd) (x : List UInt8) (h : (openF r).2.2.bad = false) : openF (r.app x) = ((openF r).1, (openF r).2.1, (openF r).2.2.app x) := by
  have h9 : (o5 r).size.2.bad = false := (goes_must _ _).1 h
  have h5 : (o5 r).bad = false := (goes_size _).1 h9
  have hone : r.one.2.bad = false := (goes_o5 r).1 h5
  have h6 : (o2 r).cid.2.cid.2.bad = false := by
    unfold o5 at h5
    split at h5
    · exact ((goes_one _).trans (goes_must _ _)).1 h5
    · exact h5
  have h4 : (o2 r).cid.2.bad = false := (goes_cid _).1 h6
  have h2 : (o2 r).bad = false := (goes_cid _).1 h4
  have e1 := app_one r x hone
  have e2 := app_o2 r x h2
  have e3 := app_cid (o2 r) x h4
  have e4 := app_cid (o2 r).cid.2 x h6
  have e5 : o5 (r.app x) = (o5 r).app x := by
    unfold o5 at h5 ⊢
    rw [e1, e2, e3]
    simp only
    rw [e4]
    simp only
    split
    · rename_i ht
      rw [if_pos ht] at h5
      have h7 : (o2 r).cid.2.cid.2.one.2.bad = false := (goes_must _ _).1 h5
      rw [app_one _ x h7]
      rfl
    · rfl
  have e6 := app_size (o5 r) x h9
  unfold openF
  rw [e5, e6, e1, e2, e3]
  simp only
  rw [e4]
  rfl

/-- Of what is cut off nothing is read. -/
theorem read_cut (h : Hd) (s p x : List UInt8) (cid : Int) (hm : mayF h = true) (h3 : h.ty ≠ 3) (hs : h.size = (s.length : Int)) (hc : 0 ≤ cid ∧ cid ≤ 20) (hp : bytesF h ++ s = p ++ x) (hx : x ≠ []) : (readF p cid (-1)).2.2 = 2 := by
  have hall := read_all h s hm h3 hs
  rw [hp] at hall
  unfold readF
  rw [if_neg (by omega)]
  cases p with
  | nil =>
    rw [if_neg (by simp [LongF])]
    have hb : (shortF [] cid).2.bad = true := by
      unfold shortF
      apply take_bad
      unfold sFirst Rd.must
      simp only [Bool.or_eq_true]
      left
      rfl
    unfold endF
    rw [if_pos (.inl (by apply take_bad; apply take_bad; exact hb))]
  | cons b p =>
    have hl : LongF (b :: p) = true := by
      have := long_write h (be h.bytes.toNat h.num ++ s) hm h3
      rw [← List.append_assoc, ← bytesF_long h h3, hp] at this
      exact this
    rw [if_pos hl]
    have happ : (⟨b :: p ++ x, false⟩ : Rd) = (⟨b :: p, false⟩ : Rd).app x := rfl
    rw [happ] at hall
    by_cases hb : (((openF ⟨b :: p, false⟩).2.2.take (openF ⟨b :: p, false⟩).1.bytes).2.take ((openF ⟨b :: p, false⟩).2.1 - (openF ⟨b :: p, false⟩).1.bytes)).2.bad = true
    · unfold endF
      rw [if_pos (.inl hb)]
    · exfalso
      have hb2 : (((openF ⟨b :: p, false⟩).2.2.take (openF ⟨b :: p, false⟩).1.bytes).2.take ((openF ⟨b :: p, false⟩).2.1 - (openF ⟨b :: p, false⟩).1.bytes)).2.bad = false := by simpa using hb
      have hb1 : ((openF ⟨b :: p, false⟩).2.2.take (openF ⟨b :: p, false⟩).1.bytes).2.bad = false := (goes_take _ _).1 hb2
      have hb0 : (openF ⟨b :: p, false⟩).2.2.bad = false := (goes_take _ _).1 hb1
      rw [app_open _ x hb0] at hall
      unfold endF at hall
      simp only at hall
      rw [app_take _ _ x hb1] at hall
      simp only at hall
      rw [app_take _ _ x hb2] at hall
      have := congrArg Rd.s hall
      unfold Rd.app at this
      simp only at this
      exact hx (List.append_eq_nil_iff.1 this).2

theorem bytes_len (h : Hd) (hm : mayF h = true) : (bytesF h).length ≤ 100 := by
  obtain ⟨m1, m2, m3, m4, m5, m6, m7, m8, m9, m10⟩ := may_facts h hm
  have hp := putF_len (h.bytes + h.size).toNat
  unfold bytesF textF
  split
  · simp only [List.length_cons, List.length_append, be_length]
    omega
  · split <;> simp only [List.length_cons, List.length_append, be_length, List.length_nil] <;> omega
theorem long_bytes (h : Hd) (hm : mayF h = true) (h3 : h.ty ≠ 3) : LongF (bytesF h) = true := by
  rw [bytesF_long h h3]
  exact long_write h _ hm h3
theorem short_first (h : Hd) (hm : mayF h = true) (h3 : h.ty = 3) : ∃ b t, bytesF h = b :: t ∧ b.toNat = 64 + (if h.spin then 32 else 0) + (h.bytes - 1).toNat := by
  obtain ⟨m1, m2, m3, m4, m5, m6, m7, m8, m9, m10⟩ := may_facts h hm
  unfold bytesF
  rw [if_pos h3]
  refine ⟨_, _, rfl, ?_⟩
  simp only [UInt8.toNat_ofNat']
  cases h.spin <;> simp <;> omega
theorem short_bytes (h : Hd) (hm : mayF h = true) (h3 : h.ty = 3) : LongF (bytesF h) = false := by
  obtain ⟨m1, m2, m3, m4, m5, m6, m7, m8, m9, m10⟩ := may_facts h hm
  obtain ⟨b, t, e, hb⟩ := short_first h hm h3
  rw [e]
  show decide (128 ≤ b.toNat) = false
  rw [hb, decide_eq_false_iff_not]
  split <;> omega

/-! ### What is bad stays so -/

theorem bad_open (r : Rd) (h : (o1 r).bad = true) : (openF r).2.2.bad = true := by
  cases hb : (openF r).2.2.bad
  · exfalso
    have h9 : (o5 r).size.2.bad = false := (goes_must _ _).1 hb
    have h5 : (o5 r).bad = false := (goes_size _).1 h9
    have h6 : (o2 r).cid.2.cid.2.bad = false := by
      unfold o5 at h5
      split at h5
      · exact ((goes_one _).trans (goes_must _ _)).1 h5
      · exact h5
    have h2 : (o2 r).bad = false := (goes_cid _).1 ((goes_cid _).1 h6)
    have h0 : (o1 r).bad = false := (goes_take _ _).1 ((goes_must _ _).1 h2)
    rw [h] at h0
    cases h0
  · rfl

theorem end_bad (r : Rd) (h : Hd) (n c : Int) (hb : r.bad = true) : (endF r h n c).1 = (Hd.zero, [], 2) := by
  unfold endF
  rw [if_pos (.inl (by apply take_bad; apply take_bad; exact hb))]

theorem read_mark_long (b : UInt8) (t : List UInt8) (cid c : Int) (hc : 0 ≤ cid ∧ cid ≤ 20) (hl : 128 ≤ b.toNat) (hf : okFirst b.toNat = false) : readF (b :: t) cid c = (Hd.zero, [], 2) := by
  unfold readF
  rw [if_neg (by omega), if_pos (show LongF (b :: t) = true by simp [LongF, hl])]
  apply end_bad
  apply bad_open
  unfold o1
  rw [rd_one]
  simp only
  unfold Rd.must
  rw [hf]
  rfl

theorem read_mark_short (b : UInt8) (t : List UInt8) (cid c : Int) (hc : 0 ≤ cid ∧ cid ≤ 20) (hl : b.toNat < 128) (hf : (decide (b.toNat / 64 % 2 = 1) && decide (b.toNat / 8 % 4 = 0)) = false) : readF (b :: t) cid c = (Hd.zero, [], 2) := by
  unfold readF
  rw [if_neg (by omega), if_neg (show ¬ LongF (b :: t) = true by simp [LongF]; omega)]
  apply end_bad
  unfold shortF
  simp only
  apply take_bad
  unfold sFirst
  rw [rd_one]
  simp only
  unfold Rd.must
  rw [hf]
  rfl

end Go.Proofs.Ytngnfijpfghodaa
