/- space: frames: what asks (the program's frame.Asks), in plain words and as contracts. -/
import Derived.Test.YtmnmpmiocgfalaaSd
import Derived.IntWalk
namespace Go.Proofs.Ytmnmpmiocgfalaa
open Go.ChangeShapes Go.WideShapes Go.RowKit
set_option linter.unusedVariables false
set_option linter.unusedSimpArgs false

theorem ret_bool {a b : Bool} (h : a = b) : Ending.returned (.bool a) = .returned (.bool b) := by rw [h]

/-- A frame. -/
structure Frm where
  kind : Nat
  a : Nat
  b : Nat
  c : Nat
  fin : Bool
  data : ByteArray
  more : ByteArray
  lp : Option Addr
  rs : List (Nat × Nat)
  lc : Nat

def Frm.vals (f : Frm) : List Value := [.int .u64 (f.kind : Int), .int .u64 (f.a : Int), .int .u64 (f.b : Int), .int .u64 (f.c : Int), .bool f.fin, .string f.data, .string f.more, .slice f.lp f.rs.length f.lc]
def frmV (f : Frm) : Value := .agg #[.int .u64 (f.kind : Int), .int .u64 (f.a : Int), .int .u64 (f.b : Int), .int .u64 (f.c : Int), .bool f.fin, .string f.data, .string f.more, .slice f.lp f.rs.length f.lc]
/-- What is known of a frame that came in: its numbers, and that it isn't large. -/
structure Frm.fit (f : Frm) : Prop where
  n0 : f.kind < 2 ^ 64
  n1 : f.a < 2 ^ 64
  n2 : f.b < 2 ^ 64
  n3 : f.c < 2 ^ 64
  d : f.data.size ≤ 1000
  m : f.more.size ≤ 1000
  l : f.rs.length ≤ 1000

def shapesF (k : Nat) : Option (Nat × Bool × Nat) :=
  if k = 1 ∨ k = 30 then some (0, false, 0) else if k = 4 then some (3, false, 0) else if k = 5 ∨ k = 17 ∨ k = 21 then some (2, false, 0)
  else if k = 16 ∨ k = 18 ∨ k = 19 ∨ k = 20 ∨ k = 22 ∨ k = 23 ∨ k = 25 then some (1, false, 0) else if k = 6 ∨ k = 29 then some (1, true, 0)
  else if k = 28 then some (2, true, 0) else if k = 7 then some (0, true, 0) else if k = 26 ∨ k = 27 then some (0, false, 8) else none
def shapeV (k : Nat) : Value := match shapesF k with
  | some (n, t, x) => .tuple #[.agg #[.int .i64 (n : Int), .bool t, .int .i64 (x : Int)], .bool true]
  | none => .tuple #[.agg #[.int .i64 0, .bool false, .int .i64 0], .bool false]

set_option maxRecDepth 100000 in
theorem shapes_1 (w : World) : Calls Try.prog 85 #[.int .u64 1] w fun e w' => e = .returned (.tuple #[.agg #[.int .i64 0, .bool false, .int .i64 0], .bool true]) ∧ Below w.heap.size w w' := by
  go_enter Try.func85, Try.ntmps85
  go_wp2_with fail
  exact bodyPost_ret (v := .tuple #[.agg #[.int .i64 0, .bool false, .int .i64 0], .bool true]) (by simp [results, Try.results85, go_sem]) rfl ⟨rfl, (Below.refl _ _).alloc (Nat.le_refl _) _⟩
set_option maxRecDepth 100000 in
theorem shapes_30 (w : World) : Calls Try.prog 85 #[.int .u64 30] w fun e w' => e = .returned (.tuple #[.agg #[.int .i64 0, .bool false, .int .i64 0], .bool true]) ∧ Below w.heap.size w w' := by
  go_enter Try.func85, Try.ntmps85
  go_wp2_with fail
  exact bodyPost_ret (v := .tuple #[.agg #[.int .i64 0, .bool false, .int .i64 0], .bool true]) (by simp [results, Try.results85, go_sem]) rfl ⟨rfl, (Below.refl _ _).alloc (Nat.le_refl _) _⟩
set_option maxRecDepth 100000 in
theorem shapes_4 (w : World) : Calls Try.prog 85 #[.int .u64 4] w fun e w' => e = .returned (.tuple #[.agg #[.int .i64 3, .bool false, .int .i64 0], .bool true]) ∧ Below w.heap.size w w' := by
  go_enter Try.func85, Try.ntmps85
  go_wp2_with fail
  exact bodyPost_ret (v := .tuple #[.agg #[.int .i64 3, .bool false, .int .i64 0], .bool true]) (by simp [results, Try.results85, go_sem]) rfl ⟨rfl, (Below.refl _ _).alloc (Nat.le_refl _) _⟩
set_option maxRecDepth 100000 in
theorem shapes_5 (w : World) : Calls Try.prog 85 #[.int .u64 5] w fun e w' => e = .returned (.tuple #[.agg #[.int .i64 2, .bool false, .int .i64 0], .bool true]) ∧ Below w.heap.size w w' := by
  go_enter Try.func85, Try.ntmps85
  go_wp2_with fail
  exact bodyPost_ret (v := .tuple #[.agg #[.int .i64 2, .bool false, .int .i64 0], .bool true]) (by simp [results, Try.results85, go_sem]) rfl ⟨rfl, (Below.refl _ _).alloc (Nat.le_refl _) _⟩
set_option maxRecDepth 100000 in
theorem shapes_17 (w : World) : Calls Try.prog 85 #[.int .u64 17] w fun e w' => e = .returned (.tuple #[.agg #[.int .i64 2, .bool false, .int .i64 0], .bool true]) ∧ Below w.heap.size w w' := by
  go_enter Try.func85, Try.ntmps85
  go_wp2_with fail
  exact bodyPost_ret (v := .tuple #[.agg #[.int .i64 2, .bool false, .int .i64 0], .bool true]) (by simp [results, Try.results85, go_sem]) rfl ⟨rfl, (Below.refl _ _).alloc (Nat.le_refl _) _⟩
set_option maxRecDepth 100000 in
theorem shapes_21 (w : World) : Calls Try.prog 85 #[.int .u64 21] w fun e w' => e = .returned (.tuple #[.agg #[.int .i64 2, .bool false, .int .i64 0], .bool true]) ∧ Below w.heap.size w w' := by
  go_enter Try.func85, Try.ntmps85
  go_wp2_with fail
  exact bodyPost_ret (v := .tuple #[.agg #[.int .i64 2, .bool false, .int .i64 0], .bool true]) (by simp [results, Try.results85, go_sem]) rfl ⟨rfl, (Below.refl _ _).alloc (Nat.le_refl _) _⟩
set_option maxRecDepth 100000 in
theorem shapes_16 (w : World) : Calls Try.prog 85 #[.int .u64 16] w fun e w' => e = .returned (.tuple #[.agg #[.int .i64 1, .bool false, .int .i64 0], .bool true]) ∧ Below w.heap.size w w' := by
  go_enter Try.func85, Try.ntmps85
  go_wp2_with fail
  exact bodyPost_ret (v := .tuple #[.agg #[.int .i64 1, .bool false, .int .i64 0], .bool true]) (by simp [results, Try.results85, go_sem]) rfl ⟨rfl, (Below.refl _ _).alloc (Nat.le_refl _) _⟩
set_option maxRecDepth 100000 in
theorem shapes_18 (w : World) : Calls Try.prog 85 #[.int .u64 18] w fun e w' => e = .returned (.tuple #[.agg #[.int .i64 1, .bool false, .int .i64 0], .bool true]) ∧ Below w.heap.size w w' := by
  go_enter Try.func85, Try.ntmps85
  go_wp2_with fail
  exact bodyPost_ret (v := .tuple #[.agg #[.int .i64 1, .bool false, .int .i64 0], .bool true]) (by simp [results, Try.results85, go_sem]) rfl ⟨rfl, (Below.refl _ _).alloc (Nat.le_refl _) _⟩
set_option maxRecDepth 100000 in
theorem shapes_19 (w : World) : Calls Try.prog 85 #[.int .u64 19] w fun e w' => e = .returned (.tuple #[.agg #[.int .i64 1, .bool false, .int .i64 0], .bool true]) ∧ Below w.heap.size w w' := by
  go_enter Try.func85, Try.ntmps85
  go_wp2_with fail
  exact bodyPost_ret (v := .tuple #[.agg #[.int .i64 1, .bool false, .int .i64 0], .bool true]) (by simp [results, Try.results85, go_sem]) rfl ⟨rfl, (Below.refl _ _).alloc (Nat.le_refl _) _⟩
set_option maxRecDepth 100000 in
theorem shapes_20 (w : World) : Calls Try.prog 85 #[.int .u64 20] w fun e w' => e = .returned (.tuple #[.agg #[.int .i64 1, .bool false, .int .i64 0], .bool true]) ∧ Below w.heap.size w w' := by
  go_enter Try.func85, Try.ntmps85
  go_wp2_with fail
  exact bodyPost_ret (v := .tuple #[.agg #[.int .i64 1, .bool false, .int .i64 0], .bool true]) (by simp [results, Try.results85, go_sem]) rfl ⟨rfl, (Below.refl _ _).alloc (Nat.le_refl _) _⟩
set_option maxRecDepth 100000 in
theorem shapes_22 (w : World) : Calls Try.prog 85 #[.int .u64 22] w fun e w' => e = .returned (.tuple #[.agg #[.int .i64 1, .bool false, .int .i64 0], .bool true]) ∧ Below w.heap.size w w' := by
  go_enter Try.func85, Try.ntmps85
  go_wp2_with fail
  exact bodyPost_ret (v := .tuple #[.agg #[.int .i64 1, .bool false, .int .i64 0], .bool true]) (by simp [results, Try.results85, go_sem]) rfl ⟨rfl, (Below.refl _ _).alloc (Nat.le_refl _) _⟩
set_option maxRecDepth 100000 in
theorem shapes_23 (w : World) : Calls Try.prog 85 #[.int .u64 23] w fun e w' => e = .returned (.tuple #[.agg #[.int .i64 1, .bool false, .int .i64 0], .bool true]) ∧ Below w.heap.size w w' := by
  go_enter Try.func85, Try.ntmps85
  go_wp2_with fail
  exact bodyPost_ret (v := .tuple #[.agg #[.int .i64 1, .bool false, .int .i64 0], .bool true]) (by simp [results, Try.results85, go_sem]) rfl ⟨rfl, (Below.refl _ _).alloc (Nat.le_refl _) _⟩
set_option maxRecDepth 100000 in
theorem shapes_25 (w : World) : Calls Try.prog 85 #[.int .u64 25] w fun e w' => e = .returned (.tuple #[.agg #[.int .i64 1, .bool false, .int .i64 0], .bool true]) ∧ Below w.heap.size w w' := by
  go_enter Try.func85, Try.ntmps85
  go_wp2_with fail
  exact bodyPost_ret (v := .tuple #[.agg #[.int .i64 1, .bool false, .int .i64 0], .bool true]) (by simp [results, Try.results85, go_sem]) rfl ⟨rfl, (Below.refl _ _).alloc (Nat.le_refl _) _⟩
set_option maxRecDepth 100000 in
theorem shapes_6 (w : World) : Calls Try.prog 85 #[.int .u64 6] w fun e w' => e = .returned (.tuple #[.agg #[.int .i64 1, .bool true, .int .i64 0], .bool true]) ∧ Below w.heap.size w w' := by
  go_enter Try.func85, Try.ntmps85
  go_wp2_with fail
  exact bodyPost_ret (v := .tuple #[.agg #[.int .i64 1, .bool true, .int .i64 0], .bool true]) (by simp [results, Try.results85, go_sem]) rfl ⟨rfl, (Below.refl _ _).alloc (Nat.le_refl _) _⟩
set_option maxRecDepth 100000 in
theorem shapes_29 (w : World) : Calls Try.prog 85 #[.int .u64 29] w fun e w' => e = .returned (.tuple #[.agg #[.int .i64 1, .bool true, .int .i64 0], .bool true]) ∧ Below w.heap.size w w' := by
  go_enter Try.func85, Try.ntmps85
  go_wp2_with fail
  exact bodyPost_ret (v := .tuple #[.agg #[.int .i64 1, .bool true, .int .i64 0], .bool true]) (by simp [results, Try.results85, go_sem]) rfl ⟨rfl, (Below.refl _ _).alloc (Nat.le_refl _) _⟩
set_option maxRecDepth 100000 in
theorem shapes_28 (w : World) : Calls Try.prog 85 #[.int .u64 28] w fun e w' => e = .returned (.tuple #[.agg #[.int .i64 2, .bool true, .int .i64 0], .bool true]) ∧ Below w.heap.size w w' := by
  go_enter Try.func85, Try.ntmps85
  go_wp2_with fail
  exact bodyPost_ret (v := .tuple #[.agg #[.int .i64 2, .bool true, .int .i64 0], .bool true]) (by simp [results, Try.results85, go_sem]) rfl ⟨rfl, (Below.refl _ _).alloc (Nat.le_refl _) _⟩
set_option maxRecDepth 100000 in
theorem shapes_7 (w : World) : Calls Try.prog 85 #[.int .u64 7] w fun e w' => e = .returned (.tuple #[.agg #[.int .i64 0, .bool true, .int .i64 0], .bool true]) ∧ Below w.heap.size w w' := by
  go_enter Try.func85, Try.ntmps85
  go_wp2_with fail
  exact bodyPost_ret (v := .tuple #[.agg #[.int .i64 0, .bool true, .int .i64 0], .bool true]) (by simp [results, Try.results85, go_sem]) rfl ⟨rfl, (Below.refl _ _).alloc (Nat.le_refl _) _⟩
set_option maxRecDepth 100000 in
theorem shapes_26 (w : World) : Calls Try.prog 85 #[.int .u64 26] w fun e w' => e = .returned (.tuple #[.agg #[.int .i64 0, .bool false, .int .i64 8], .bool true]) ∧ Below w.heap.size w w' := by
  go_enter Try.func85, Try.ntmps85
  go_wp2_with fail
  exact bodyPost_ret (v := .tuple #[.agg #[.int .i64 0, .bool false, .int .i64 8], .bool true]) (by simp [results, Try.results85, go_sem]) rfl ⟨rfl, (Below.refl _ _).alloc (Nat.le_refl _) _⟩
set_option maxRecDepth 100000 in
theorem shapes_27 (w : World) : Calls Try.prog 85 #[.int .u64 27] w fun e w' => e = .returned (.tuple #[.agg #[.int .i64 0, .bool false, .int .i64 8], .bool true]) ∧ Below w.heap.size w w' := by
  go_enter Try.func85, Try.ntmps85
  go_wp2_with fail
  exact bodyPost_ret (v := .tuple #[.agg #[.int .i64 0, .bool false, .int .i64 8], .bool true]) (by simp [results, Try.results85, go_sem]) rfl ⟨rfl, (Below.refl _ _).alloc (Nat.le_refl _) _⟩
set_option maxRecDepth 100000 in
set_option maxHeartbeats 1000000 in
theorem shapes_none (k : Nat) (w : World) (hk : shapesF k = none) : Calls Try.prog 85 #[.int .u64 (k : Int)] w fun e w' => e = .returned (.tuple #[.agg #[.int .i64 0, .bool false, .int .i64 0], .bool false]) ∧ Below w.heap.size w w' := by
  have hne : ¬ k = 1 ∧ ¬ k = 30 ∧ ¬ k = 4 ∧ ¬ k = 5 ∧ ¬ k = 17 ∧ ¬ k = 21 ∧ ¬ k = 16 ∧ ¬ k = 18 ∧ ¬ k = 19 ∧ ¬ k = 20 ∧ ¬ k = 22 ∧ ¬ k = 23 ∧ ¬ k = 25 ∧ ¬ k = 6 ∧ ¬ k = 29 ∧ ¬ k = 28 ∧ ¬ k = 7 ∧ ¬ k = 26 ∧ ¬ k = 27 := by
    unfold shapesF at hk
    refine ⟨?_, ?_, ?_, ?_, ?_, ?_, ?_, ?_, ?_, ?_, ?_, ?_, ?_, ?_, ?_, ?_, ?_, ?_, ?_⟩
    all_goals
      rintro rfl
      exact absurd hk (by decide)
  obtain ⟨q1, q30, q4, q5, q17, q21, q16, q18, q19, q20, q22, q23, q25, q6, q29, q28, q7, q26, q27⟩ := hne
  clear hk
  have r1 : ((k : Int) == 1) = false := by rw [beq_eq_false_iff_ne]; omega
  have r30 : ((k : Int) == 30) = false := by rw [beq_eq_false_iff_ne]; omega
  have r4 : ((k : Int) == 4) = false := by rw [beq_eq_false_iff_ne]; omega
  have r5 : ((k : Int) == 5) = false := by rw [beq_eq_false_iff_ne]; omega
  have r17 : ((k : Int) == 17) = false := by rw [beq_eq_false_iff_ne]; omega
  have r21 : ((k : Int) == 21) = false := by rw [beq_eq_false_iff_ne]; omega
  have r16 : ((k : Int) == 16) = false := by rw [beq_eq_false_iff_ne]; omega
  have r18 : ((k : Int) == 18) = false := by rw [beq_eq_false_iff_ne]; omega
  have r19 : ((k : Int) == 19) = false := by rw [beq_eq_false_iff_ne]; omega
  have r20 : ((k : Int) == 20) = false := by rw [beq_eq_false_iff_ne]; omega
  have r22 : ((k : Int) == 22) = false := by rw [beq_eq_false_iff_ne]; omega
  have r23 : ((k : Int) == 23) = false := by rw [beq_eq_false_iff_ne]; omega
  have r25 : ((k : Int) == 25) = false := by rw [beq_eq_false_iff_ne]; omega
  have r6 : ((k : Int) == 6) = false := by rw [beq_eq_false_iff_ne]; omega
  have r29 : ((k : Int) == 29) = false := by rw [beq_eq_false_iff_ne]; omega
  have r28 : ((k : Int) == 28) = false := by rw [beq_eq_false_iff_ne]; omega
  have r7 : ((k : Int) == 7) = false := by rw [beq_eq_false_iff_ne]; omega
  have r26 : ((k : Int) == 26) = false := by rw [beq_eq_false_iff_ne]; omega
  have r27 : ((k : Int) == 27) = false := by rw [beq_eq_false_iff_ne]; omega
  clear q1 q30 q4 q5 q17 q21 q16 q18 q19 q20 q22 q23 q25 q6 q29 q28 q7 q26 q27
  go_enter Try.func85, Try.ntmps85
  go_wp2_with fail
  exact bodyPost_ret (v := .tuple #[.agg #[.int .i64 0, .bool false, .int .i64 0], .bool false]) (by simp [results, Try.results85, go_sem]) rfl ⟨rfl, (Below.refl _ _).alloc (Nat.le_refl _) _⟩
theorem shapes_any (k : Nat) (w : World) :
    Calls Try.prog 85 #[.int .u64 (k : Int)] w fun e w' => e = .returned (shapeV k) ∧ Below w.heap.size w w' := by
  by_cases h : shapesF k = none
  · unfold shapeV
    rw [h]
    exact shapes_none k w h
  · have hk : k = 1 ∨ k = 30 ∨ k = 4 ∨ k = 5 ∨ k = 17 ∨ k = 21 ∨ k = 16 ∨ k = 18 ∨ k = 19 ∨ k = 20 ∨ k = 22 ∨ k = 23 ∨ k = 25 ∨ k = 6 ∨ k = 29 ∨ k = 28 ∨ k = 7 ∨ k = 26 ∨ k = 27 := by
      refine Classical.byContradiction fun hn => h ?_
      unfold shapesF
      rw [if_neg (by omega), if_neg (by omega), if_neg (by omega), if_neg (by omega), if_neg (by omega), if_neg (by omega), if_neg (by omega), if_neg (by omega)]
    rcases hk with rfl | rfl | rfl | rfl | rfl | rfl | rfl | rfl | rfl | rfl | rfl | rfl | rfl | rfl | rfl | rfl | rfl | rfl | rfl
    · exact shapes_1 w
    · exact shapes_30 w
    · exact shapes_4 w
    · exact shapes_5 w
    · exact shapes_17 w
    · exact shapes_21 w
    · exact shapes_16 w
    · exact shapes_18 w
    · exact shapes_19 w
    · exact shapes_20 w
    · exact shapes_22 w
    · exact shapes_23 w
    · exact shapes_25 w
    · exact shapes_6 w
    · exact shapes_29 w
    · exact shapes_28 w
    · exact shapes_7 w
    · exact shapes_26 w
    · exact shapes_27 w


def maxV : Nat := 4611686018427387903
def limitsF (f : Frm) : Bool :=
  if f.kind = 18 ∨ f.kind = 19 ∨ f.kind = 22 ∨ f.kind = 23 then decide (f.a ≤ 1152921504606846976) else if f.kind = 7 then !decide (f.data.size = 0) else if f.kind = 6 then decide (f.a + f.data.size ≤ 4611686018427387903) else true
def ownF (f : Frm) : Bool :=
  if f.kind = 8 then decide (f.rs.length = 0) && decide (f.c = 0) && decide (f.more.size = 0) && decide (f.b + f.data.size ≤ 4611686018427387903)
  else if f.kind = 24 then decide (f.rs.length = 0) && decide (f.c = 0) && !f.fin && decide (f.b ≤ f.a) && decide (1 ≤ f.data.size) && decide (f.data.size ≤ 20) && decide (f.more.size = 16) else false

theorem nil_iff (s : ByteArray) : (s.toList = []) = (s.size = 0) := by
  rw [ByteArray.toList_eq]; cases h : s.data.toList with
  | nil => simp [ByteArray.size, Array.size, h]
  | cons x l => simp [ByteArray.size, Array.size, h]
theorem empty_iff (s : ByteArray) : s.toList.isEmpty = decide (s.size = 0) := by
  rw [ByteArray.toList_eq]; cases h : s.data.toList with
  | nil => simp [ByteArray.size, Array.size, h]
  | cons x l => simp [ByteArray.size, Array.size, h]

set_option maxRecDepth 100000 in
set_option maxHeartbeats 1000000 in
theorem limits_any (f : Frm) (w : World) (hf : f.fit) (ha : f.a ≤ 4611686018427387903) : Calls Try.prog 89 #[frmV f] w fun e w' => e = .returned (.bool (limitsF f)) ∧ Below w.heap.size w w' := by
  obtain ⟨k, a, b, c, fin, data, more, lp, rs, lc⟩ := f
  obtain ⟨n0, n1, n2, n3, hd, hm, hl⟩ := hf
  simp only at n0 n1 n2 n3 hd hm hl ha
  unfold frmV
  simp only
  obtain ⟨A, hA⟩ : ∃ A, limitsF ⟨k, a, b, c, fin, data, more, lp, rs, lc⟩ = A := ⟨_, rfl⟩
  rw [hA]
  have HA := Lib.hid hA
  clear hA
  have hsum : IntKind.u64.wrap ((a : Int) + (data.size : Int)) = ((a + data.size : Nat) : Int) := by rw [IntKind.wrap_u64]; omega
  go_enter Try.func89, Try.ntmps89
  go_wp2_with fail
  all_goals
    go_ret
    refine ⟨ret_bool ?_, (Below.refl _ _).alloc (Nat.le_refl _) _⟩
    rw [← HA.out]
    clear HA hsum
    unfold limitsF
    simp only [beq_iff_eq, beq_eq_false_iff_ne, ne_eq, empty_iff] at *
    repeat' split
    all_goals first | (exfalso; omega) | rfl | (rw [decide_eq_decide]; omega)

set_option maxRecDepth 100000 in
set_option maxHeartbeats 2000000 in
theorem own_any (f : Frm) (w : World) (hf : f.fit) (hk0 : f.kind ≠ 0) (hk2 : f.kind ≠ 2) (hk3 : f.kind ≠ 3) (hb : f.b ≤ 4611686018427387903) : Calls Try.prog 86 #[frmV f] w fun e w' => e = .returned (.bool (ownF f)) ∧ Below w.heap.size w w' := by
  obtain ⟨k, a, b, c, fin, data, more, lp, rs, lc⟩ := f
  obtain ⟨n0, n1, n2, n3, hd, hm, hl⟩ := hf
  simp only at n0 n1 n2 n3 hd hm hl hk0 hk2 hk3 hb
  unfold frmV
  simp only
  obtain ⟨A, hA⟩ : ∃ A, ownF ⟨k, a, b, c, fin, data, more, lp, rs, lc⟩ = A := ⟨_, rfl⟩
  rw [hA]
  have HA := Lib.hid hA
  clear hA
  have r0 : ((k : Int) == 0) = false := by rw [beq_eq_false_iff_ne]; omega
  have r2 : ((k : Int) == 2) = false := by rw [beq_eq_false_iff_ne]; omega
  have r3 : ((k : Int) == 3) = false := by rw [beq_eq_false_iff_ne]; omega
  clear hk0 hk2 hk3
  obtain ⟨N, hN⟩ : ∃ N, rs.length = N := ⟨_, rfl⟩
  rw [hN] at hl ⊢
  have HN := Lib.hid hN
  clear hN
  by_cases h8 : (k : Int) = 8
  · have r8 : ((k : Int) == 8) = true := by rw [beq_iff_eq]; exact h8
    have H8 := Lib.hid h8
    clear h8
    go_enter Try.func86, Try.ntmps86
    go_wp2_with fail
    all_goals
      go_ret
      refine ⟨ret_bool ?_, (Below.refl _ _).alloc (Nat.le_refl _) _⟩
      rw [← HA.out]
      have h8 := H8.out
      have hN := HN.out
      clear HA HN
      unfold ownF
      simp only [beq_iff_eq, beq_eq_false_iff_ne, ne_eq, empty_iff, nil_iff] at *
      rw [if_pos (by omega), Bool.eq_iff_iff]
      simp only [Bool.and_eq_true, decide_eq_true_eq, Bool.false_eq_true, false_iff]
      omega
  · have r8 : ((k : Int) == 8) = false := by rw [beq_eq_false_iff_ne]; exact h8
    by_cases h24 : (k : Int) = 24
    · have r24 : ((k : Int) == 24) = true := by rw [beq_iff_eq]; exact h24
      have H8 := Lib.hid (And.intro h8 h24)
      clear h8 h24
      cases fin
      all_goals
        go_enter Try.func86, Try.ntmps86
        go_wp2_with fail
        all_goals
          go_ret
          refine ⟨ret_bool ?_, (Below.refl _ _).alloc (Nat.le_refl _) _⟩
          rw [← HA.out]
          obtain ⟨h8, h24⟩ := H8.out
          have hN := HN.out
          clear HA HN
          unfold ownF
          simp only [beq_iff_eq, beq_eq_false_iff_ne, ne_eq, empty_iff, nil_iff] at *
          rw [if_neg (by omega), if_pos (by omega), Bool.eq_iff_iff]
          simp only [beq_iff_eq, Bool.and_eq_true, decide_eq_true_eq, Bool.false_eq_true, false_iff, Bool.not_true, Bool.not_false, and_true, and_false, true_and, false_and, not_false_eq_true]
          try omega
    · have r24 : ((k : Int) == 24) = false := by rw [beq_eq_false_iff_ne]; exact h24
      have H8 := Lib.hid (And.intro h8 h24)
      clear h8 h24
      go_enter Try.func86, Try.ntmps86
      go_wp2_with fail
      go_ret
      refine ⟨ret_bool ?_, (Below.refl _ _).alloc (Nat.le_refl _) _⟩
      rw [← HA.out]
      obtain ⟨h8, h24⟩ := H8.out
      unfold ownF
      rw [if_neg (by simp only; omega), if_neg (by simp only; omega)]

/-- Equal, of a list and none. -/
theorem equal_nil (p : Option Addr) (n c : Nat) (w : World) (hn : n ≤ 1000) : Calls Try.prog 94 #[.slice p n c, .slice none 0 0] w fun e w' => e = .returned (.bool (decide (n = 0))) ∧ w = w' := by
  rcases Nat.eq_zero_or_pos n with rfl | h
  · go_enter Try.func94, Try.ntmps94
    go_wp2_with fail
    go_loop [13] (fun i => i = .int .i64 0) (fun _ => 0)
    case atStart => exact rfl
    case round =>
      obtain rfl := hrel
      go_wp2_with fail
      go_ret
      exact ⟨rfl, rfl⟩
  · have hd : decide (n = 0) = false := by rw [decide_eq_false_iff_not]; omega
    have hne : ((n : Int) == 0) = false := by rw [beq_eq_false_iff_ne]; omega
    have hne2 : ((n : Int) != 0) = true := by rw [bne_iff_ne]; omega
    rw [hd]
    clear hd
    go_enter Try.func94, Try.ntmps94
    go_wp2_with fail
    go_ret
    exact ⟨rfl, rfl⟩

set_option maxRecDepth 100000 in
set_option maxHeartbeats 2000000 in
/-- Same, of a frame without a kind and the zero frame. -/
theorem sameZ_any (a b c : Nat) (fin : Bool) (data more : ByteArray) (p : Option Addr) (n cap : Nat) (w : World) (hn : n ≤ 1000) :
    Calls Try.prog 87 #[.agg #[.int .u64 0, .int .u64 (a : Int), .int .u64 (b : Int), .int .u64 (c : Int), .bool fin, .string data, .string more, .slice p n cap], .agg #[.int .u64 0, .int .u64 0, .int .u64 0, .int .u64 0, .bool false, .string ⟨#[]⟩, .string ⟨#[]⟩, .slice none 0 0]] w fun e w' =>
      e = .returned (.bool (decide (a = 0) && decide (b = 0) && decide (c = 0) && !fin && decide (data.size = 0) && decide (more.size = 0) && decide (n = 0))) ∧ Below w.heap.size w w' := by
  obtain ⟨A, hA⟩ : ∃ A, (decide (a = 0) && decide (b = 0) && decide (c = 0) && !fin && decide (data.size = 0) && decide (more.size = 0) && decide (n = 0)) = A := ⟨_, rfl⟩
  rw [hA]
  have HA := Lib.hid hA
  clear hA
  have HE := fun w => Lib.hid (equal_nil p n cap w hn)
  cases fin
  all_goals
    go_enter Try.func87, Try.ntmps87
    go_wp2_with (go_at_call 94; refine (HE _).out.mono ?_; rintro e w' ⟨rfl, rfl⟩)
    all_goals
      go_ret
      refine ⟨ret_bool ?_, (Below.refl _ _).alloc (Nat.le_refl _) _ |>.alloc (by simp) _⟩
      rw [← HA.out]
      clear HA
      (try simp only [beq_iff_eq, beq_eq_false_iff_ne, ne_eq, empty_iff, nil_iff] at *)
      rw [Bool.eq_iff_iff]
      simp only [beq_iff_eq, Bool.and_eq_true, decide_eq_true_eq, Bool.false_eq_true, false_iff, Bool.not_true, Bool.not_false, and_true, and_false, true_and, false_and, not_false_eq_true]
      try omega

end Go.Proofs.Ytmnmpmiocgfalaa
