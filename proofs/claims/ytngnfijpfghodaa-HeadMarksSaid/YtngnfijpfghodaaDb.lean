/- Contracts of head's long, May, low, text. -/
import Derived.Test.YtngnfijpfghodaaDa
import Derived.Test.YtngnfijpfghodaaMa
import Derived.Deep.RegionHeld3
namespace Go.Proofs.Ytngnfijpfghodaa
open Go.ChangeShapes Go.WideShapes Go.RowKit
set_option linter.unusedVariables false

theorem long_any (ty : Int) (w : World) : Calls Try.prog 21 #[.int .i64 ty] w fun e w' => e = .returned (.bool (longF ty)) ∧ w = w' := by
  by_cases h0 : ty = 0
  · have e : longF ty = true := by simp [longF, h0]
    rw [e]
    subst h0
    go_enter Try.func21, Try.ntmps21
    go_wp2
    go_ret
    exact ⟨rfl, rfl⟩
  · by_cases h2 : ty = 2
    · have e : longF ty = true := by simp [longF, h2]
      rw [e]
      subst h2
      go_enter Try.func21, Try.ntmps21
      go_wp2
      go_ret
      exact ⟨rfl, rfl⟩
    · have e : longF ty = false := by simp [longF, h0, h2]
      rw [e]
      have e0 : (ty == 0) = false := by simpa using h0
      have e2 : (ty == 2) = false := by simpa using h2
      clear h0 h2 e
      go_enter Try.func21, Try.ntmps21
      go_wp2
      go_ret
      exact ⟨rfl, rfl⟩

theorem nil_toList : (⟨#[]⟩ : ByteArray).toList = [] := by
  unfold ByteArray.toList
  unfold ByteArray.toList.loop
  rfl

theorem txt_empty (l : List UInt8) : (txt l).toList.isEmpty = decide (l.length = 0) := by
  cases l with
  | nil => simp [txt]
  | cons a l =>
    have h : (txt (a :: l)).toList ≠ [] := not_empty _ (by rw [txt_size]; simp)
    have e : ((a :: l).length = 0) = False := by simp
    simp only [e, decide_false]
    simpa using h

theorem ret_bool {a b : Bool} (h : a = b) : Ending.returned (.bool a) = .returned (.bool b) := by rw [h]

set_option maxRecDepth 100000 in
set_option maxHeartbeats 1000000 in
theorem May_any (h : Hd) (w : World) : Calls Try.prog 11 #[h.v] w fun e w' => e = .returned (.bool (mayF h)) ∧ Below w.heap.size w w' := by
  obtain ⟨ty, dst, src, num, bytes, size, spin⟩ := h
  have e1 := txt_empty src
  have d1 := txt_size dst
  have d2 := txt_size src
  unfold Hd.v
  simp only
  have hm : Hid (mayF ⟨ty, dst, src, num, bytes, size, spin⟩ = ((longF ty || decide (ty = 3)) && decide (dst.length ≤ 20) && decide (src.length ≤ 20) && decide (num ≤ 4611686018427387903) && decide (1 ≤ bytes) && decide (bytes ≤ 4) && decide (0 ≤ size) && decide (size ≤ 16384) &&
    (if longF ty then !spin else decide (src.length = 0)))) := Lib.hid rfl
  obtain ⟨m, hme⟩ : ∃ m, mayF ⟨ty, dst, src, num, bytes, size, spin⟩ = m := ⟨_, rfl⟩
  rw [hme] at hm ⊢
  clear hme
  generalize txt dst = dS at *
  generalize txt src = sS at *
  generalize dst.length = dl at *
  generalize src.length = sl at *
  have hl := fun w => long_any ty w
  have hl3 : Hid (longF ty = true → (ty == 3) = false) := Lib.hid (by intro h; simp [longF] at h; simp; omega)
  generalize longF ty = lg at *
  cases lg
  · go_enter Try.func11, Try.ntmps11
    go_wp2_with (go_at_call 21; refine (hl _).mono ?_; rintro e w' ⟨rfl, rfl⟩)
    all_goals
      go_ret
      refine ⟨ret_bool ?_, (Below.refl _ _).alloc (Nat.le_refl _) _⟩
      rw [hm.out]
      clear hm
      simp at *
      try omega
  · have h3 : (ty == 3) = false := hl3.out rfl
    go_enter Try.func11, Try.ntmps11
    go_wp2_with (go_at_call 21; refine (hl _).mono ?_; rintro e w' ⟨rfl, rfl⟩)
    all_goals
      go_ret
      refine ⟨ret_bool ?_, (Below.refl _ _).alloc (Nat.le_refl _) _⟩
      rw [hm.out]
      clear hm
      simp at *
      try omega

theorem low_any (n b : Nat) (w : World) (h1 : b ≤ 4) (hn : n < 18446744073709551616) :
    Calls Try.prog 17 #[.int .u64 (n : Int), .int .i64 (b : Int)] w fun e w' => e = .returned (.string (txt (be b n))) ∧ Below w.heap.size w w' := by
  have hmk := fun w => make_u8 b w (by omega)
  have hbk := fun w => conv_back (be b n) b b w (be_length b n)
  go_enter Try.func17, Try.ntmps17
  go_wp2
  go_loopw [11] (fun i wr => ∃ k : Nat, k ≤ b ∧ i = .int .i64 k ∧ wr = w.alloc (.cells (u8s (List.replicate (b - k) 0 ++ be k n)) 5)) (fun i _ => b - (intOf i).toNat)
  case atStart => exact ⟨0, by omega, rfl, by simp [be]⟩
  case round =>
    obtain ⟨k, hk, rfl, rfl⟩ := hrel
    by_cases hlt : k < b
    · have hg := u8s_get b k (be k n) hlt
      obtain ⟨q, hq⟩ : ∃ q, n / 256 ^ k = q := ⟨_, rfl⟩
      have hqn : q ≤ n := by rw [← hq]; exact Nat.div_le_self _ _
      have hdq : (n : Int) / 2 ^ (8 * k) = (q : Int) := by
        rw [← hq, Int.natCast_ediv]
        congr 1
        rw [Int.pow_mul]
        simp
      have Hq := Lib.hid hq
      clear hq
      go_wp2
      go_roundw
      case rel => 
        refine ⟨k + 1, by omega, by go_num, ?_⟩
        have h := u8s_set b k (be k n) (UInt8.ofNat (q % 256)) hlt
        rw [show ((UInt8.ofNat (q % 256)).toNat : Int) = (q : Int) % 256 by simp] at h
        rw [h, be_cons, Hq.out]
      case measure => simp [intOf]; omega
    · obtain rfl : k = b := by omega
      go_wp2
      go_ret
      exact ⟨by simp, (Below.refl _ _).alloc (Nat.le_refl _) _⟩

theorem txt_append (a b : List UInt8) : txt a ++ txt b = txt (a ++ b) := by
  apply ByteArray.ext
  simp [txt]

/-- 'string([]byte{x})'. -/
theorem conv_one (x : Nat) (c : Int) (w : World) (hc : c = ((x % 256 : Nat) : Int)) :
    (convert 44 9 (.slice (some ⟨w.heap.size, 0, none⟩) 1 1)).run Try.prog (w.alloc (.cells #[.int .u8 c] 5)) = .ok (.string (txt [UInt8.ofNat (x % 256)])) (w.alloc (.cells #[.int .u8 c] 5)) := by
  subst hc
  have h := conv_back [UInt8.ofNat (x % 256)] 1 1 w rfl
  have e : u8s [UInt8.ofNat (x % 256)] = #[.int .u8 ((x % 256 : Nat) : Int)] := by simp [u8s]
  rw [e] at h
  exact h

theorem text_any (l : List UInt8) (w : World) (hlen : l.length ≤ 10000) : Calls Try.prog 19 #[.string (txt l)] w fun e w' => e = .returned (.string (txt (textF l))) ∧ Below w.heap.size w w' := by
  obtain ⟨n, hn⟩ : ∃ n, l.length = n := ⟨_, rfl⟩
  have hs := txt_size l
  rw [hn] at hs hlen
  have hbk := fun w => conv_one n ((n : Int) % 256) w (by simp)
  have ha : txt [UInt8.ofNat (n % 256)] ++ txt l = txt (textF l) := by rw [txt_append, textF, hn]; rfl
  have hq : (txt [UInt8.ofNat (n % 256)]).size = 1 := rfl
  generalize txt [UInt8.ofNat (n % 256)] = q at *
  generalize txt (textF l) = r at *
  generalize txt l = s at *
  go_enter Try.func19, Try.ntmps19
  go_wp2
  go_ret
  exact ⟨rfl, (Below.refl _ _).alloc (Nat.le_refl _) _⟩

theorem first_bits (b t : Nat) (hb : b ≤ 3) (ht : t = 0 ∨ t = 2) : bits BinOp.or IntKind.u8 (bits BinOp.or IntKind.u8 (b : Int) 192) ((t * 16 : Nat) : Int) = ((192 + 16 * t + b : Nat) : Int) := by
  have hc : b = 0 ∨ b = 1 ∨ b = 2 ∨ b = 3 := by omega
  rcases hc with rfl | rfl | rfl | rfl <;> rcases ht with rfl | rfl <;> decide +kernel

end Go.Proofs.Ytngnfijpfghodaa
