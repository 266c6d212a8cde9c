/- Contract of the reference's May. -/
import Derived.Test.YtngnfijpfghodaaDw
import Derived.Test.YtngnfijpfghodaaDq
namespace Go.Proofs.Ytngnfijpfghodaa
open Go.ChangeShapes Go.WideShapes Go.RowKit
set_option linter.unusedVariables false
set_option linter.unusedSimpArgs false

/-- The tests in the code's order. -/
def rmayF (ty : Int) (dl sl num : Nat) (bytes size : Int) (spin : Bool) : Bool :=
  (decide (ty = 0) || decide (ty = 2) || decide (ty = 3)) && !decide ((20 : Int) < (dl : Int)) && !decide ((20 : Int) < (sl : Int)) && !decide ((4611686018427387904 : Int) ≤ (num : Int)) && !decide (bytes < 1) && !decide (4 < bytes) && !decide (size < 0) && !decide (16384 < size) &&
    (if ty = 3 then ((sl : Int) == 0) else !spin)

theorem rmay_eq (h : Hd) : mayF h = rmayF h.ty h.dst.length h.src.length h.num h.bytes h.size h.spin := by
  obtain ⟨ty, dst, src, num, bytes, size, spin⟩ := h
  unfold mayF rmayF
  simp only
  generalize dst.length = a
  generalize src.length = b
  rw [Bool.eq_iff_iff]
  by_cases h3 : ty = 3
  · subst h3
    simp [longF]
    omega
  · by_cases h0 : longF ty = true
    · have h4 : ty = 0 ∨ ty = 2 := by simpa [longF] using h0
      rw [h0, if_pos rfl, if_neg h3]
      cases spin
      · simp
        omega
      · simp
    · have h4 : ¬ (ty = 0 ∨ ty = 2) := by simpa [longF] using h0
      have h5 : longF ty = false := by simpa using h0
      simp [h5, h3]
      omega

set_option maxRecDepth 100000 in
set_option maxHeartbeats 4000000 in
theorem rMay_go (ty : Int) (dS sS : ByteArray) (dl sl num : Nat) (bytes size : Int) (spin : Bool) (d1 : dS.size = dl) (d2 : sS.size = sl) (w : World) :
    Calls Try.prog 12 #[.agg #[.int .i64 ty, .string dS, .string sS, .int .u64 (num : Int), .int .i64 bytes, .int .i64 size, .bool spin]] w fun e w' => e = .returned (.bool (rmayF ty dl sl num bytes size spin)) ∧ Below w.heap.size w w' := by
  have hB : Hid (∀ o : Obj, Below w.heap.size w (w.alloc o)) := Lib.hid (fun o => (Below.refl _ _).alloc (Nat.le_refl _) _)
  by_cases hok : ty = 0 ∨ ty = 2 ∨ ty = 3
  · have hty : Hid ((decide (ty = 0) || decide (ty = 2) || decide (ty = 3)) = true) := Lib.hid (by simp; omega)
    have hfacts : ∃ c0 c2 c3 : Bool, (ty != 0) = c0 ∧ (ty != 2) = c2 ∧ (ty != 3) = c3 ∧ (ty == 3) = !c3 ∧ (c0 && c2 && c3) = false ∧ (c3 = false ↔ ty = 3) := by
      refine ⟨_, _, _, rfl, rfl, rfl, ?_, ?_, ?_⟩
      · simp [bne]
      · rcases hok with rfl | rfl | rfl <;> rfl
      · simp
    obtain ⟨c0, c2, c3, e0, e2, e3, e4, e5, e6⟩ := hfacts
    have E6 := Lib.hid e6
    clear e6 hok
    unfold rmayF
    cases t1 : decide ((20 : Int) < (dl : Int))
    case true =>
      have hr : Hid (∀ q : Bool, (((decide (ty = 0) || decide (ty = 2) || decide (ty = 3)) && !true && !decide ((20 : Int) < (sl : Int)) && !decide ((4611686018427387904 : Int) ≤ (num : Int)) && !decide (bytes < 1) && !decide (4 < bytes) && !decide (size < 0) && !decide (16384 < size) && q) = false)) := Lib.hid (by intro q; simp)
      rw [hr.out]
      clear hr
      cases c0 <;> cases c2 <;> cases c3 <;> simp only [Bool.and_true, Bool.and_false, Bool.true_and, Bool.false_and, Bool.not_true, Bool.not_false] at e4 e5 <;> (try cases e5)
      all_goals
        clear E6 hty
        go_enter Try.func12, Try.ntmps12
        go_wp2_with fail
        go_ret
        exact ⟨rfl, hB.out _⟩
    cases t2 : decide ((20 : Int) < (sl : Int))
    case true =>
      have hr : Hid (∀ q : Bool, (((decide (ty = 0) || decide (ty = 2) || decide (ty = 3)) && !false && !true && !decide ((4611686018427387904 : Int) ≤ (num : Int)) && !decide (bytes < 1) && !decide (4 < bytes) && !decide (size < 0) && !decide (16384 < size) && q) = false)) := Lib.hid (by intro q; simp)
      rw [hr.out]
      clear hr
      cases c0 <;> cases c2 <;> cases c3 <;> simp only [Bool.and_true, Bool.and_false, Bool.true_and, Bool.false_and, Bool.not_true, Bool.not_false] at e4 e5 <;> (try cases e5)
      all_goals
        clear E6 hty
        go_enter Try.func12, Try.ntmps12
        go_wp2_with fail
        go_ret
        exact ⟨rfl, hB.out _⟩
    cases t3 : decide ((4611686018427387904 : Int) ≤ (num : Int))
    case true =>
      have hr : Hid (∀ q : Bool, (((decide (ty = 0) || decide (ty = 2) || decide (ty = 3)) && !false && !false && !true && !decide (bytes < 1) && !decide (4 < bytes) && !decide (size < 0) && !decide (16384 < size) && q) = false)) := Lib.hid (by intro q; simp)
      rw [hr.out]
      clear hr
      cases c0 <;> cases c2 <;> cases c3 <;> simp only [Bool.and_true, Bool.and_false, Bool.true_and, Bool.false_and, Bool.not_true, Bool.not_false] at e4 e5 <;> (try cases e5)
      all_goals
        clear E6 hty
        go_enter Try.func12, Try.ntmps12
        go_wp2_with fail
        go_ret
        exact ⟨rfl, hB.out _⟩
    cases t4 : decide (bytes < 1)
    case true =>
      have hr : Hid (∀ q : Bool, (((decide (ty = 0) || decide (ty = 2) || decide (ty = 3)) && !false && !false && !false && !true && !decide (4 < bytes) && !decide (size < 0) && !decide (16384 < size) && q) = false)) := Lib.hid (by intro q; simp)
      rw [hr.out]
      clear hr
      cases c0 <;> cases c2 <;> cases c3 <;> simp only [Bool.and_true, Bool.and_false, Bool.true_and, Bool.false_and, Bool.not_true, Bool.not_false] at e4 e5 <;> (try cases e5)
      all_goals
        clear E6 hty
        go_enter Try.func12, Try.ntmps12
        go_wp2_with fail
        go_ret
        exact ⟨rfl, hB.out _⟩
    cases t5 : decide (4 < bytes)
    case true =>
      have hr : Hid (∀ q : Bool, (((decide (ty = 0) || decide (ty = 2) || decide (ty = 3)) && !false && !false && !false && !false && !true && !decide (size < 0) && !decide (16384 < size) && q) = false)) := Lib.hid (by intro q; simp)
      rw [hr.out]
      clear hr
      cases c0 <;> cases c2 <;> cases c3 <;> simp only [Bool.and_true, Bool.and_false, Bool.true_and, Bool.false_and, Bool.not_true, Bool.not_false] at e4 e5 <;> (try cases e5)
      all_goals
        clear E6 hty
        go_enter Try.func12, Try.ntmps12
        go_wp2_with fail
        go_ret
        exact ⟨rfl, hB.out _⟩
    cases t6 : decide (size < 0)
    case true =>
      have hr : Hid (∀ q : Bool, (((decide (ty = 0) || decide (ty = 2) || decide (ty = 3)) && !false && !false && !false && !false && !false && !true && !decide (16384 < size) && q) = false)) := Lib.hid (by intro q; simp)
      rw [hr.out]
      clear hr
      cases c0 <;> cases c2 <;> cases c3 <;> simp only [Bool.and_true, Bool.and_false, Bool.true_and, Bool.false_and, Bool.not_true, Bool.not_false] at e4 e5 <;> (try cases e5)
      all_goals
        clear E6 hty
        go_enter Try.func12, Try.ntmps12
        go_wp2_with fail
        go_ret
        exact ⟨rfl, hB.out _⟩
    cases t7 : decide (16384 < size)
    case true =>
      have hr : Hid (∀ q : Bool, (((decide (ty = 0) || decide (ty = 2) || decide (ty = 3)) && !false && !false && !false && !false && !false && !false && !true && q) = false)) := Lib.hid (by intro q; simp)
      rw [hr.out]
      clear hr
      cases c0 <;> cases c2 <;> cases c3 <;> simp only [Bool.and_true, Bool.and_false, Bool.true_and, Bool.false_and, Bool.not_true, Bool.not_false] at e4 e5 <;> (try cases e5)
      all_goals
        clear E6 hty
        go_enter Try.func12, Try.ntmps12
        go_wp2_with fail
        go_ret
        exact ⟨rfl, hB.out _⟩
    by_cases h3 : ty = 3
    · subst h3
      rw [hty.out, if_pos rfl]
      simp only [Bool.not_false, Bool.true_and]
      clear e0 e2 e3 e4 e5 E6 c0 c2 c3 hty
      go_enter Try.func12, Try.ntmps12
      go_wp2_with fail
      go_ret
      exact ⟨rfl, hB.out _⟩
    · rw [hty.out, if_neg h3]
      simp only [Bool.not_false, Bool.true_and]
      have hc3 : c3 = true := by
        cases c3
        · exact absurd (E6.out.1 rfl) h3
        · rfl
      subst hc3
      clear h3 E6 hty
      cases c0 <;> cases c2 <;> simp only [Bool.and_true, Bool.and_false, Bool.true_and, Bool.false_and, Bool.not_true] at e4 e5 <;> (try cases e5)
      all_goals
        go_enter Try.func12, Try.ntmps12
        go_wp2_with fail
        go_ret
        exact ⟨rfl, hB.out _⟩
  · have e0 : (ty != 0) = true := by simp; omega
    have e2 : (ty != 2) = true := by simp; omega
    have e3 : (ty != 3) = true := by simp; omega
    have hr : rmayF ty dl sl num bytes size spin = false := by unfold rmayF; simp; omega
    rw [hr]
    clear hr hok
    go_enter Try.func12, Try.ntmps12
    go_wp2_with fail
    go_ret
    exact ⟨rfl, hB.out _⟩

theorem rMay_any (h : Hd) (w : World) : Calls Try.prog 12 #[h.v] w fun e w' => e = .returned (.bool (mayF h)) ∧ Below w.heap.size w w' := by
  rw [rmay_eq]
  exact rMay_go h.ty (txt h.dst) (txt h.src) _ _ h.num h.bytes h.size h.spin (txt_size _) (txt_size _) w

end Go.Proofs.Ytngnfijpfghodaa
