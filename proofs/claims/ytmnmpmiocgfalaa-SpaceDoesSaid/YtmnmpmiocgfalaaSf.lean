/- space: contracts of the program's clear, May, Asks; of ContainsFunc over frames. -/
import Derived.Test.YtmnmpmiocgfalaaSe
namespace Go.Proofs.Ytmnmpmiocgfalaa
open Go.ChangeShapes Go.WideShapes Go.RowKit
set_option linter.unusedVariables false
set_option linter.unusedSimpArgs false

/-- A frame's cells while the first k numbers are cleared, as far as n. -/
def zc (kind a b c : Nat) (fin : Bool) (data more : ByteArray) (p : Option Addr) (N cap n k : Nat) : List Value :=
  [.int .u64 (kind : Int), .int .u64 ((if 0 < k ∧ 0 < n then 0 else a : Nat) : Int), .int .u64 ((if 1 < k ∧ 1 < n then 0 else b : Nat) : Int), .int .u64 ((if 2 < k ∧ 2 < n then 0 else c : Nat) : Int), .bool fin, .string data, .string more, .slice p N cap]

set_option maxRecDepth 100000 in
set_option maxHeartbeats 4000000 in
theorem clear_any (n : Nat) (t : Bool) (x : Nat) (kind a b c : Nat) (fin : Bool) (data more : ByteArray) (p : Option Addr) (N cap : Nat) (w : World) (hn : n ≤ 3) (hx : x ≤ 8) :
    Calls Try.prog 88 #[.agg #[.int .i64 (n : Int), .bool t, .int .i64 (x : Int)], .agg #[.int .u64 (kind : Int), .int .u64 (a : Int), .int .u64 (b : Int), .int .u64 (c : Int), .bool fin, .string data, .string more, .slice p N cap]] w fun e w' =>
      e = .returned (.agg #[.int .u64 0, .int .u64 ((if 0 < n then 0 else a : Nat) : Int), .int .u64 ((if 1 < n then 0 else b : Nat) : Int), .int .u64 ((if 2 < n then 0 else c : Nat) : Int), .bool fin, .string (if (t || decide (0 < x)) = true then ⟨#[]⟩ else data), .string more, .slice p N cap]) ∧ Below w.heap.size w w' := by
  obtain ⟨A1, hA1⟩ : ∃ A1, (if 0 < n then 0 else a) = A1 := ⟨_, rfl⟩
  obtain ⟨B1, hB1⟩ : ∃ B1, (if 1 < n then 0 else b) = B1 := ⟨_, rfl⟩
  obtain ⟨C1, hC1⟩ : ∃ C1, (if 2 < n then 0 else c) = C1 := ⟨_, rfl⟩
  obtain ⟨D1, hD1⟩ : ∃ D1, (if (t || decide (0 < x)) = true then ⟨#[]⟩ else data) = D1 := ⟨_, rfl⟩
  rw [hA1, hB1, hC1, hD1]
  have HABC := Lib.hid (And.intro hA1 (And.intro hB1 (And.intro hC1 hD1)))
  clear hA1 hB1 hC1 hD1
  obtain ⟨H, hH⟩ : ∃ H, w.heap.size = H := ⟨_, rfl⟩
  have hb0 := Below.refl H w
  have B0 := Lib.hid (blk.new w 123 [.int .i64 (n : Int), .bool t, .int .i64 (x : Int)])
  obtain ⟨w1, hw1⟩ : ∃ w1, w.alloc (.cells #[.int .i64 (n : Int), .bool t, .int .i64 (x : Int)] 123) = w1 := ⟨_, rfl⟩
  have hb1 : Below H w w1 := by rw [← hw1, ← hH]; exact (Below.refl _ _).alloc (Nat.le_refl _) _
  have hs1 : w1.heap.size = H + 1 := by rw [← hw1, ← hH]; simp
  have c1 : blk w1 H 123 [.int .i64 (n : Int), .bool t, .int .i64 (x : Int)] := by rw [← hw1, ← hH]; exact blk.new _ _ _
  obtain ⟨w2, hw2⟩ : ∃ w2, w1.alloc (.cells #[.int .u64 (kind : Int), .int .u64 (a : Int), .int .u64 (b : Int), .int .u64 (c : Int), .bool fin, .string data, .string more, .slice p N cap] 43) = w2 := ⟨_, rfl⟩
  have hb2 : Below H w w2 := by rw [← hw2]; exact hb1.alloc (by omega) _
  have hs2 : w2.heap.size = H + 2 := by rw [← hw2]; simp; omega
  have c2 : blk w2 H 123 [.int .i64 (n : Int), .bool t, .int .i64 (x : Int)] := by rw [← hw2]; exact c1.alloc _
  have d2 : blk w2 (H + 1) 43 (zc kind a b c fin data more p N cap n 0) := by rw [← hw2, ← hs1]; exact blk.new _ _ _
  obtain ⟨w3, hw3⟩ : ∃ w3, w2.alloc (.cells #[.int .u64 0, .int .u64 0, .int .u64 0, .int .u64 0, .bool false, .string ⟨#[]⟩, .string ⟨#[]⟩, .slice none 0 0] 43) = w3 := ⟨_, rfl⟩
  have hb3 : Below H w w3 := by rw [← hw3]; exact hb2.alloc (by omega) _
  have hs3 : w3.heap.size = H + 3 := by rw [← hw3]; simp; omega
  have c3 := c2.alloc (.cells #[.int .u64 0, .int .u64 0, .int .u64 0, .int .u64 0, .bool false, .string ⟨#[]⟩, .string ⟨#[]⟩, .slice none 0 0] 43)
  have d3 := d2.alloc (.cells #[.int .u64 0, .int .u64 0, .int .u64 0, .int .u64 0, .bool false, .string ⟨#[]⟩, .string ⟨#[]⟩, .slice none 0 0] 43)
  have e3 : blk w3 (H + 2) 43 [.int .u64 0, .int .u64 0, .int .u64 0, .int .u64 0, .bool false, .string ⟨#[]⟩, .string ⟨#[]⟩, .slice none 0 0] := by rw [← hw3, ← hs2]; exact blk.new _ _ _
  rw [hw3] at c3 d3
  have hb4 : Below H w (w3.alloc (.cells #[.pointer (some ⟨H + 1, 1, none⟩), .pointer (some ⟨H + 1, 2, none⟩), .pointer (some ⟨H + 1, 3, none⟩)] 129)) := hb3.alloc (by omega) _
  have c4 := c3.alloc (.cells #[.pointer (some ⟨H + 1, 1, none⟩), .pointer (some ⟨H + 1, 2, none⟩), .pointer (some ⟨H + 1, 3, none⟩)] 129)
  have d4 := d3.alloc (.cells #[.pointer (some ⟨H + 1, 1, none⟩), .pointer (some ⟨H + 1, 2, none⟩), .pointer (some ⟨H + 1, 3, none⟩)] 129)
  have e4 := e3.alloc (.cells #[.pointer (some ⟨H + 1, 1, none⟩), .pointer (some ⟨H + 1, 2, none⟩), .pointer (some ⟨H + 1, 3, none⟩)] 129)
  have g4 := blk.new w3 129 [.pointer (some ⟨H + 1, 1, none⟩), .pointer (some ⟨H + 1, 2, none⟩), .pointer (some ⟨H + 1, 3, none⟩)]
  rw [hs3] at g4
  have HH := Lib.hid (And.intro hb4 (And.intro c4 (And.intro d4 (And.intro e4 g4))))
  clear hb0 B0 hb1 c1 hb2 c2 d2 hb3 c3 d3 e3 hb4 c4 d4 e4 g4
  go_enter Try.func88, Try.ntmps88
  go_wp2_with fail
  clear hw1 hw2 hw3 hs1 hs2 hs3
  have HW := Lib.hid hH
  clear hH
  go_loopw [5, 6, 12] (fun _ _ i wr => ∃ k : Nat, k ≤ 3 ∧ i = .int .i64 k ∧ Below H w wr ∧ blk wr H 123 [.int .i64 (n : Int), .bool t, .int .i64 (x : Int)] ∧ blk wr (H + 1) 43 (zc kind a b c fin data more p N cap n k) ∧
      blk wr (H + 2) 43 [.int .u64 0, .int .u64 0, .int .u64 0, .int .u64 0, .bool false, .string ⟨#[]⟩, .string ⟨#[]⟩, .slice none 0 0] ∧ blk wr (H + 3) 129 [.pointer (some ⟨H + 1, 1, none⟩), .pointer (some ⟨H + 1, 2, none⟩), .pointer (some ⟨H + 1, 3, none⟩)]) (fun _ _ i _ => 3 - (intOf i).toNat)
  case atStart => exact ⟨0, by omega, rfl, HH.out.1, HH.out.2.1, HH.out.2.2.1, HH.out.2.2.2.1, HH.out.2.2.2.2⟩
  case round =>
    obtain ⟨k, hk, rfl, q0, q1, q2, q3, q4⟩ := hrel
    have hsz := q4.lt
    have r0 := q1.cell (k := 0) rfl
    by_cases hlt : k < 3
    · have hkv : k = 0 ∨ k = 1 ∨ k = 2 := by omega
      have rk : wr.cell? ⟨H + 3, k, none⟩ = some (.pointer (some ⟨H + 1, k + 1, none⟩)) := by
        rcases hkv with rfl | rfl | rfl
        · exact q4.cell rfl
        · exact q4.cell rfl
        · exact q4.cell rfl
      have rf := q2.free (k + 1)
      by_cases hkn : k < n
      · obtain ⟨old, ro⟩ : ∃ old, wr.cell? ⟨H + 1, k + 1, none⟩ = some (.int .u64 old) := by
          rcases hkv with rfl | rfl | rfl
          · exact ⟨_, q2.cell rfl⟩
          · exact ⟨_, q2.cell rfl⟩
          · exact ⟨_, q2.cell rfl⟩
        have hset : blk (wr.setCell ⟨H + 1, k + 1, none⟩ (.int .u64 0)) (H + 1) 43 (zc kind a b c fin data more p N cap n (k + 1)) := by
          have := q2.set (k + 1) (.int .u64 0)
          have e : (zc kind a b c fin data more p N cap n k).set (k + 1) (.int .u64 0) = zc kind a b c fin data more p N cap n (k + 1) := by
            unfold zc
            rcases hkv with rfl | rfl | rfl
            · have h0 : 0 < n := hkn
              simp [h0]
            · have h0 : 0 < n := by omega
              have h1 : 1 < n := hkn
              simp [h0, h1]
            · have h0 : 0 < n := by omega
              have h1 : 1 < n := by omega
              have h2 : 2 < n := hkn
              simp [h0, h1, h2]
          rw [e] at this
          exact this
        have HR := Lib.hid (And.intro (q0.setCell (p := ⟨H + 1, k + 1, none⟩) (by simp) (.int .u64 0)) (And.intro (q1.set_other (p := ⟨H + 1, k + 1, none⟩) (by simp) (.int .u64 0)) (And.intro hset (And.intro (q3.set_other (p := ⟨H + 1, k + 1, none⟩) (by simp) (.int .u64 0)) (q4.set_other (p := ⟨H + 1, k + 1, none⟩) (by simp) (.int .u64 0))))))
        clear q0 q1 q2 q3 q4 hset hkv
        go_wp2_with fail
        go_roundw
        case rel => exact ⟨k + 1, by omega, by go_num, HR.out⟩
        case measure => simp [intOf]; omega
      · have e : zc kind a b c fin data more p N cap n k = zc kind a b c fin data more p N cap n (k + 1) := by
          unfold zc
          have h0 : (0 < k ∧ 0 < n) = (0 < k + 1 ∧ 0 < n) := by rw [eq_iff_iff]; omega
          have h1 : (1 < k ∧ 1 < n) = (1 < k + 1 ∧ 1 < n) := by rw [eq_iff_iff]; omega
          have h2 : (2 < k ∧ 2 < n) = (2 < k + 1 ∧ 2 < n) := by rw [eq_iff_iff]; omega
          simp only [h0, h1, h2]
        rw [e] at q2
        have HR := Lib.hid (And.intro q0 (And.intro q1 (And.intro q2 (And.intro q3 q4))))
        clear q0 q1 q2 q3 q4 hkv e
        go_wp2_with fail
        go_roundw
        case rel => exact ⟨k + 1, by omega, by go_num, HR.out⟩
        case measure => simp [intOf]; omega
    · obtain rfl : k = 3 := by omega
      have r1 := q1.cell (k := 1) rfl
      have r2 := q1.cell (k := 2) rfl
      have sf := q2.free 5
      have sg := q2.free 0
      have th0 := q3.free 0
      have t0 := q3.cell (k := 0) rfl
      have th1 := q3.free 1
      have t1 := q3.cell (k := 1) rfl
      have th2 := q3.free 2
      have t2 := q3.cell (k := 2) rfl
      have th3 := q3.free 3
      have t3 := q3.cell (k := 3) rfl
      have th4 := q3.free 4
      have t4 := q3.cell (k := 4) rfl
      have th5 := q3.free 5
      have t5 := q3.cell (k := 5) rfl
      have th6 := q3.free 6
      have t6 := q3.cell (k := 6) rfl
      have th7 := q3.free 7
      have t7 := q3.cell (k := 7) rfl
      have z0 : zc kind a b c fin data more p N cap n 3 = [.int .u64 (kind : Int), .int .u64 (A1 : Int), .int .u64 (B1 : Int), .int .u64 (C1 : Int), .bool fin, .string data, .string more, .slice p N cap] := by
        rw [← HABC.out.1, ← HABC.out.2.1, ← HABC.out.2.2.1]
        unfold zc; simp
      have hD := HABC.out.2.2.2
      rw [z0] at q2
      have s0 := q2.cell (k := 0) rfl
      have s1 := q2.cell (k := 1) rfl
      have s2 := q2.cell (k := 2) rfl
      have s3 := q2.cell (k := 3) rfl
      have s4 := q2.cell (k := 4) rfl
      have s5 := q2.cell (k := 5) rfl
      have s6 := q2.cell (k := 6) rfl
      have s7 := q2.cell (k := 7) rfl
      have HQ0 := Lib.hid q0
      have HQ2 := Lib.hid q2
      have HQ3 := Lib.hid q3
      have hsz2 := q2.lt
      have hsz3 := q3.lt
      clear q0 q1 q2 q3 q4 z0 hk hlt HH HABC
      have fin2 : ∀ d, Below w.heap.size w ((((wr.setCell ⟨H + 1, 5, none⟩ d).setCell ⟨H + 1, 0, none⟩ (.int .u64 0)))) := fun d => by rw [HW.out]; exact (HQ0.out.setCell (p := ⟨H + 1, 5, none⟩) (by simp) d).setCell (p := ⟨H + 1, 0, none⟩) (by simp) (.int .u64 0)
      have HF := Lib.hid fin2
      clear fin2
      cases t
      · by_cases hx0 : 0 < x
        · have e1 : (false || decide (0 < x)) = true := by simpa using hx0
          rw [if_pos e1] at hD
          subst hD
          clear e1
          go_wp2_with fail
          refine bodyPost_ret (v := .agg #[.int .u64 0, .int .u64 (A1 : Int), .int .u64 (B1 : Int), .int .u64 (C1 : Int), .bool fin, .string ⟨#[]⟩, .string more, .slice p N cap]) (by simp [results, Try.results88, go_sem, t0, t1, t2, t3, t4, t5, t6, t7]) rfl ⟨rfl, ?_⟩
          rw [HW.out]
          repeat (with_reducible refine Below.setCell ?_ (by simp) _)
          exact HQ0.out
        · have e1 : ¬ (false || decide (0 < x)) = true := by simpa using hx0
          rw [if_neg e1] at hD
          subst hD
          obtain rfl : x = 0 := by omega
          clear e1
          go_wp2_with fail
          refine bodyPost_ret (v := .agg #[.int .u64 0, .int .u64 (A1 : Int), .int .u64 (B1 : Int), .int .u64 (C1 : Int), .bool fin, .string data, .string more, .slice p N cap]) (by simp [results, Try.results88, go_sem, t0, t1, t2, t3, t4, t5, t6, t7]) rfl ⟨rfl, ?_⟩
          rw [HW.out]
          repeat (with_reducible refine Below.setCell ?_ (by simp) _)
          exact HQ0.out
      · rw [if_pos (by rfl)] at hD
        subst hD
        go_wp2_with fail
        refine bodyPost_ret (v := .agg #[.int .u64 0, .int .u64 (A1 : Int), .int .u64 (B1 : Int), .int .u64 (C1 : Int), .bool fin, .string ⟨#[]⟩, .string more, .slice p N cap]) (by simp [results, Try.results88, go_sem, t0, t1, t2, t3, t4, t5, t6, t7]) rfl ⟨rfl, ?_⟩
        rw [HW.out]
        repeat (with_reducible refine Below.setCell ?_ (by simp) _)
        exact HQ0.out

end Go.Proofs.Ytmnmpmiocgfalaa
