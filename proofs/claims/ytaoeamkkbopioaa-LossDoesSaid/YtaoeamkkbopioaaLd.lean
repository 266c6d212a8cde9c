/- Contracts of Sent and Skip. -/
import Derived.Test.YtaoeamkkbopioaaLc
namespace Go.Proofs.Ytaoeamkkbopioaa
open Go.ChangeShapes Go.WideShapes Go.RowKit
set_option linter.unusedVariables false

def badNum (S : Lg) (num : Nat) : Bool := decide (4611686018427387903 < num) || (S.li && decide (num ≤ S.ln))
def sentBad (S : Lg) (p : Pk) : Bool := badNum S p.num || decide (1099511627776 < p.time) || decide (1099511627776 < p.size)
/-- What Sent does, and answers. -/
def sentF (S : Lg) (p : Pk) : Lg × Int :=
  if sentBad S p then (S, 3) else if 500 ≤ S.op.length then (S, 4) else ({ S with op := S.op ++ [p], ln := p.num, li := true }, 0)

theorem clone_nil (w : World) : Calls Try.prog 31 #[.slice none 0 0] w fun e w' => e = .returned (.slice none 0 0) ∧ w = w' := by
  have hn := fun w => Lib.run_eql_slice_nil (P := Try.prog) w 36 _ none 0 0 0 0 Try.underlying36
  go_enter Try.func31, Try.ntmps31
  go_wp2_with fail
  go_ret
  exact ⟨rfl, rfl⟩

/-- The end of a Sent that goes well. -/
theorem sent_end {B b : Nat} {T : TypeId} {rest : List Value} {v v4 : Value} {S : Lg} {w w3 w4 : World} {N num : Nat} {q : Pk} (hN : S.op.length = N) (hv : v.ownBlock ≠ some b) (hbB : B ≤ b) (hbl : b < w.heap.size)
    (hT : T ≠ 38) (hw3 : Below w.heap.size w w3) (hon : Only (fun k => v.ownBlock = some k) w3.drew w4) (hL4 : LedIs w4 b T rest v S) (ho : w4.ownsRow B 38 5 v4 (N + 1) (pks S.op ++ q.vals))
    (hat : v4.ownBlock = v.ownBlock ∨ v4.ownBlock = some (w3.drew.heap.size + 1)) (hq : q.num = num) :
    ∃ v', LedIs (((w4.setCell ⟨b, 0, none⟩ v4).setCell ⟨b, 1, none⟩ (.int .u64 (num : Int))).setCell ⟨b, 2, none⟩ (.bool true)) b T rest v' { S with op := S.op ++ [q], ln := num, li := true } ∧
      (((w4.setCell ⟨b, 0, none⟩ v4).setCell ⟨b, 1, none⟩ (.int .u64 (num : Int))).setCell ⟨b, 2, none⟩ (.bool true)).ownsRow B 38 5 v' (S.op.length + 1) (pks (S.op ++ [q])) ∧
      Only (fun k => k = b ∨ v.ownBlock = some k) w (((w4.setCell ⟨b, 0, none⟩ v4).setCell ⟨b, 1, none⟩ (.int .u64 (num : Int))).setCell ⟨b, 2, none⟩ (.bool true)) ∧
      (v'.ownBlock = v.ownBlock ∨ ∀ k, v'.ownBlock = some k → w.heap.size ≤ k) := by
  have hne : v4.ownBlock ≠ some b := own_ne ho hL4 hT
  refine ⟨v4, ?_, ?_, ?_, ?_⟩
  · exact ((blk.set hL4 0 v4).set 1 _).set 2 _
  · rw [hN, pks_append, pks_one]
    exact ownsRow_setCell_other (ownsRow_setCell_other (ownsRow_setCell_other ho (a := ⟨b, 0, none⟩) hne _) (a := ⟨b, 1, none⟩) hne _) (a := ⟨b, 2, none⟩) hne _
  · have h0 : Only (fun k => k = b ∨ v.ownBlock = some k) w w4 := (Only.drew (Only.ofBelow hw3)).then hon (fun i hi => .inl (.inr hi))
    exact Only.setCell (p := ⟨b, 2, none⟩) (Only.setCell (p := ⟨b, 1, none⟩) (Only.setCell (p := ⟨b, 0, none⟩) h0 (.inl (.inl rfl)) _) (.inl (.inl rfl)) _) (.inl (.inl rfl)) _
  · rcases hat with h | h
    · exact .inl h
    · refine .inr (fun k hk => ?_)
      rw [h] at hk
      injection hk with hk
      have := hw3.size
      have : w3.drew.heap.size = w3.heap.size := rfl
      omega

set_option maxRecDepth 100000 in
set_option maxHeartbeats 1000000 in
theorem sent_ok (B b : Nat) (T : TypeId) (rest : List Value) (v : Value) (S : Lg) (w : World) (num time size : Nat) (asks : Bool) (fin : Value) (fa : Option Addr) (fl fc : Nat)
    (hcl : ∀ w, Calls Try.prog 31 #[fin] w fun e w' => e = .returned (.slice fa fl fc) ∧ Below w.heap.size w w')
    (hL : LedIs w b T rest v S) (hO : w.ownsRow B 38 5 v S.op.length (pks S.op)) (hBw : B ≤ w.heap.size) (hBb : B ≤ b) (hT : T ≠ 38)
    (h1 : num ≤ 4611686018427387903) (hln : S.ln < 2 ^ 63) (h2 : S.li = true → S.ln < num) (h3 : time ≤ 1099511627776) (h4 : size ≤ 1099511627776) (h5 : S.op.length < 500) :
    Calls Try.prog 10 #[.pointer (some ⟨b, 0, none⟩), .agg #[.int .u64 (num : Int), .int .u64 (time : Int), .int .u64 (size : Int), .bool asks, fin]] w fun e w' => e = .returned (.int .i64 0) ∧
      ∃ v', LedIs w' b T rest v' { S with op := S.op ++ [⟨num, time, size, asks, fa, fl, fc⟩], ln := num, li := true } ∧ w'.ownsRow B 38 5 v' (S.op.length + 1) (pks (S.op ++ [⟨num, time, size, asks, fa, fl, fc⟩])) ∧ Only (fun k => k = b ∨ v.ownBlock = some k) w w' ∧ (v'.ownBlock = v.ownBlock ∨ ∀ k, v'.ownBlock = some k → w.heap.size ≤ k) := by
  obtain ⟨p, cap, rfl, hpn⟩ := own_shape hO
  obtain ⟨N, hN⟩ : ∃ N, S.op.length = N := ⟨_, rfl⟩
  have hbl := hL.lt
  have c0 : w.cell? ⟨b, 0, none⟩ = some (.slice p S.op.length cap) := hL.cell rfl
  have c1 : w.cell? ⟨b, 1, none⟩ = some (.int .u64 (S.ln : Int)) := hL.cell rfl
  have c2 : w.cell? ⟨b, 2, none⟩ = some (.bool S.li) := hL.cell rfl
  obtain ⟨ln, hlne⟩ : ∃ x, S.ln = x := ⟨_, rfl⟩
  obtain ⟨li, hli⟩ : ∃ x, S.li = x := ⟨_, rfl⟩
  rw [hN] at c0 h5
  rw [hlne] at c1 h2 hln
  rw [hli] at c2 h2
  have HN := Lib.hid hN
  have HL := Lib.hid hL
  have HO := Lib.hid hO
  have HC := Lib.hid hcl
  clear hN hL hO hcl hlne hli
  have hW : ∀ nq, Below w.heap.size w ((w.alloc (.cells #[.int .u64 (num : Int), .int .u64 (time : Int), .int .u64 (size : Int), .bool asks, fin] 38)).drewN nq) := fun nq => below_drewN ((Below.refl _ _).alloc (Nat.le_refl _) _) _
  have HW := Lib.hid hW
  clear hW
  cases li
  · clear h2
    go_enter Try.func10, Try.ntmps10
    go_wp2_with fail
    go_quiet (fail)
    go_wp2_with fail
    refine (HC.out _).mono ?_
    rintro e w2 ⟨rfl, hb2⟩
    have hbx := (((blk.new w 38 [.int .u64 (num : Int), .int .u64 (time : Int), .int .u64 (size : Int), .bool asks, fin]).drewN nq).below hb2 (by simp))
    have hw2 : Below w.heap.size w w2 := (HW.out nq).trans (hb2.mono (by simp))
    have hbx2 := hbx.set 4 (.slice fa fl fc)
    have hf := hbx.free 4
    have hx4 := hbx.cell (k := 4) rfl
    have hw3 : Below w.heap.size w (w2.setCell ⟨w.heap.size, 4, none⟩ (.slice fa fl fc)) := hw2.setCell (Nat.le_refl _) _
    obtain ⟨w3, hw3e⟩ : ∃ w3, w2.setCell ⟨w.heap.size, 4, none⟩ (.slice fa fl fc) = w3 := ⟨_, rfl⟩
    rw [hw3e] at hbx2 hw3
    clear hb2 hbx hw2
    go_wp2_with fail
    have hL3 : LedIs w3 b T rest (.slice p S.op.length cap) S := HL.out.below hw3 hbl
    have hO3 := own_below HO.out hw3
    rw [HN.out] at hO3
    have e0 := hbx2.cell (k := 0) rfl
    have e1 := hbx2.cell (k := 1) rfl
    have e2 := hbx2.cell (k := 2) rfl
    have e3 := hbx2.cell (k := 3) rfl
    have e4 := hbx2.cell (k := 4) rfl
    have f0 := hL3.cell (k := 0) rfl
    have f1 := hL3.free 0
    rw [HN.out] at f0
    have hB3 : B ≤ w3.heap.size := Nat.le_trans hBw hw3.size
    obtain ⟨i0, hi0, hz0, hz1, hz2⟩ := info_parts Try.infoP
    have hwl : w.heap.size < w3.heap.size := hbx2.lt
    have hbl3 : b < w3.heap.size := by omega
    have hnb : ¬ (Value.slice p N cap).ownBlock = some b := own_ne hO3 hL3 hT
    have HL3 := Lib.hid hL3
    have HO3 := Lib.hid hO3
    have Hw3 := Lib.hid hw3
    have Hnb := Lib.hid hnb
    clear hL3 hO3 hw3 hw3e hx4 hf hbx2 c0 c1 c2 hnb
    go_region_law ((refine step_append_new w3.drew _ rfl (.tmp 45) (.tmp 47) 24 rfl B 38 i0 _ 5 56 Try.underlying24 hi0 hz0 hz1 hz2 rfl (by decide) (.slice p N cap) N (pks S.op) HO3.out [.int .u64 (num : Int), .int .u64 (time : Int), .int .u64 (size : Int), .bool asks, .slice fa fl fc] _ rfl rfl (by intro u hu; simp at hu; rcases hu with rfl | rfl | rfl | rfl | rfl <;> rfl) (by omega) (by decide) hB3 rfl (by simp [Act.eval]) (by simp [Act.eval]) ?_); (intro v4 w4 ho4 hon4 hat4; obtain ⟨p4, cap4, hv4, _⟩ := own_shape ho4; subst hv4; have f4 := (hon4.cell (p := ⟨b, 0, none⟩) hbl3 Hnb.out).trans f0; have f5 := (hon4.frozen (p := ⟨b, 0, none⟩) hbl3 Hnb.out).trans f1; have Hon4 := Lib.hid hon4; have Ho4 := Lib.hid ho4; have Hat4 := Lib.hid hat4; clear hon4 ho4 hat4))
    all_goals
      have hL4 : LedIs w4 b T rest (.slice p S.op.length cap) S := blk.only (blk.drew HL3.out) Hon4.out Hnb.out
      have hx : ¬ (Value.slice p N cap).ownBlock = some w.heap.size := by
        intro e
        have := HO.out.lt w.heap.size (by rw [HN.out]; exact e)
        omega
      have Hnb0 : Hid ((Value.slice p S.op.length cap).ownBlock ≠ some b) := by rw [HN.out]; exact Hnb.out
      have k0 := (Hon4.out.cell (p := ⟨w.heap.size, 0, none⟩) hwl hx).trans e0
      have k1 := hL4.cell (k := 1) rfl
      have k2 := hL4.cell (k := 2) rfl
      have k3 := hL4.free 1
      have k4 := hL4.free 2
      clear hx
      have HL4 := Lib.hid hL4
      clear hL4
      go_wp2_with fail
      go_ret
      exact ⟨rfl, sent_end (q := ⟨num, time, size, asks, fa, fl, fc⟩) HN.out Hnb0.out hBb hbl hT Hw3.out (by rw [HN.out]; exact Hon4.out) HL4.out Ho4.out (by rw [HN.out]; exact Hat4.out) rfl⟩
  · have h2l : ln < num := h2 rfl
    clear h2
    go_enter Try.func10, Try.ntmps10
    go_wp2_with fail
    go_quiet (fail)
    go_wp2_with fail
    refine (HC.out _).mono ?_
    rintro e w2 ⟨rfl, hb2⟩
    have hbx := (((blk.new w 38 [.int .u64 (num : Int), .int .u64 (time : Int), .int .u64 (size : Int), .bool asks, fin]).drewN nq).below hb2 (by simp))
    have hw2 : Below w.heap.size w w2 := (HW.out nq).trans (hb2.mono (by simp))
    have hbx2 := hbx.set 4 (.slice fa fl fc)
    have hf := hbx.free 4
    have hx4 := hbx.cell (k := 4) rfl
    have hw3 : Below w.heap.size w (w2.setCell ⟨w.heap.size, 4, none⟩ (.slice fa fl fc)) := hw2.setCell (Nat.le_refl _) _
    obtain ⟨w3, hw3e⟩ : ∃ w3, w2.setCell ⟨w.heap.size, 4, none⟩ (.slice fa fl fc) = w3 := ⟨_, rfl⟩
    rw [hw3e] at hbx2 hw3
    clear hb2 hbx hw2
    go_wp2_with fail
    have hL3 : LedIs w3 b T rest (.slice p S.op.length cap) S := HL.out.below hw3 hbl
    have hO3 := own_below HO.out hw3
    rw [HN.out] at hO3
    have e0 := hbx2.cell (k := 0) rfl
    have e1 := hbx2.cell (k := 1) rfl
    have e2 := hbx2.cell (k := 2) rfl
    have e3 := hbx2.cell (k := 3) rfl
    have e4 := hbx2.cell (k := 4) rfl
    have f0 := hL3.cell (k := 0) rfl
    have f1 := hL3.free 0
    rw [HN.out] at f0
    have hB3 : B ≤ w3.heap.size := Nat.le_trans hBw hw3.size
    obtain ⟨i0, hi0, hz0, hz1, hz2⟩ := info_parts Try.infoP
    have hwl : w.heap.size < w3.heap.size := hbx2.lt
    have hbl3 : b < w3.heap.size := by omega
    have hnb : ¬ (Value.slice p N cap).ownBlock = some b := own_ne hO3 hL3 hT
    have HL3 := Lib.hid hL3
    have HO3 := Lib.hid hO3
    have Hw3 := Lib.hid hw3
    have Hnb := Lib.hid hnb
    clear hL3 hO3 hw3 hw3e hx4 hf hbx2 c0 c1 c2 hnb
    go_region_law ((refine step_append_new w3.drew _ rfl (.tmp 45) (.tmp 47) 24 rfl B 38 i0 _ 5 56 Try.underlying24 hi0 hz0 hz1 hz2 rfl (by decide) (.slice p N cap) N (pks S.op) HO3.out [.int .u64 (num : Int), .int .u64 (time : Int), .int .u64 (size : Int), .bool asks, .slice fa fl fc] _ rfl rfl (by intro u hu; simp at hu; rcases hu with rfl | rfl | rfl | rfl | rfl <;> rfl) (by omega) (by decide) hB3 rfl (by simp [Act.eval]) (by simp [Act.eval]) ?_); (intro v4 w4 ho4 hon4 hat4; obtain ⟨p4, cap4, hv4, _⟩ := own_shape ho4; subst hv4; have f4 := (hon4.cell (p := ⟨b, 0, none⟩) hbl3 Hnb.out).trans f0; have f5 := (hon4.frozen (p := ⟨b, 0, none⟩) hbl3 Hnb.out).trans f1; have Hon4 := Lib.hid hon4; have Ho4 := Lib.hid ho4; have Hat4 := Lib.hid hat4; clear hon4 ho4 hat4))
    all_goals
      have hL4 : LedIs w4 b T rest (.slice p S.op.length cap) S := blk.only (blk.drew HL3.out) Hon4.out Hnb.out
      have hx : ¬ (Value.slice p N cap).ownBlock = some w.heap.size := by
        intro e
        have := HO.out.lt w.heap.size (by rw [HN.out]; exact e)
        omega
      have Hnb0 : Hid ((Value.slice p S.op.length cap).ownBlock ≠ some b) := by rw [HN.out]; exact Hnb.out
      have k0 := (Hon4.out.cell (p := ⟨w.heap.size, 0, none⟩) hwl hx).trans e0
      have k1 := hL4.cell (k := 1) rfl
      have k2 := hL4.cell (k := 2) rfl
      have k3 := hL4.free 1
      have k4 := hL4.free 2
      clear hx
      have HL4 := Lib.hid hL4
      clear hL4
      go_wp2_with fail
      go_ret
      exact ⟨rfl, sent_end (q := ⟨num, time, size, asks, fa, fl, fc⟩) HN.out Hnb0.out hBb hbl hT Hw3.out (by rw [HN.out]; exact Hon4.out) HL4.out Ho4.out (by rw [HN.out]; exact Hat4.out) rfl⟩

/-- Packets and numbers that are refused. -/
theorem sent_bad (b : Nat) (T : TypeId) (rest : List Value) (v : Value) (S : Lg) (w : World) (num time size : Nat) (asks : Bool) (fin : Value)
    (hL : LedIs w b T rest v S) (hnum : num < 2 ^ 64) (hln : S.ln < 2 ^ 63) (hbad : sentBad S ⟨num, time, size, asks, none, 0, 0⟩ = true) :
    Calls Try.prog 10 #[.pointer (some ⟨b, 0, none⟩), .agg #[.int .u64 (num : Int), .int .u64 (time : Int), .int .u64 (size : Int), .bool asks, fin]] w fun e w' => e = .returned (.int .i64 3) ∧ Below w.heap.size w w' := by
  have hbl := hL.lt
  have c1 : w.cell? ⟨b, 1, none⟩ = some (.int .u64 (S.ln : Int)) := hL.cell rfl
  have c2 : w.cell? ⟨b, 2, none⟩ = some (.bool S.li) := hL.cell rfl
  unfold sentBad badNum at hbad
  simp only at hbad
  obtain ⟨ln, hlne⟩ : ∃ x, S.ln = x := ⟨_, rfl⟩
  obtain ⟨li, hli⟩ : ∃ x, S.li = x := ⟨_, rfl⟩
  rw [hlne] at c1 hbad hln
  rw [hli] at c2 hbad
  clear hL hlne hli
  by_cases h1 : 4611686018427387903 < num
  · clear hbad
    go_enter Try.func10, Try.ntmps10
    go_wp2_with fail
    go_ret
    exact ⟨rfl, (Below.refl _ _).alloc (Nat.le_refl _) _⟩
  · have h1d : decide (4611686018427387903 < num) = false := by simpa using h1
    rw [h1d, Bool.false_or] at hbad
    clear h1d
    cases li
    · rw [Bool.false_and, Bool.false_or] at hbad
      by_cases h3 : 1099511627776 < time
      · clear hbad
        go_enter Try.func10, Try.ntmps10
        go_wp2_with fail
        go_quiet (fail)
        go_wp2_with fail
        go_ret
        exact ⟨rfl, below_drewN ((Below.refl _ _).alloc (Nat.le_refl _) _) _⟩
      · have h4 : 1099511627776 < size := by
          simp only [Bool.or_eq_true, decide_eq_true_eq] at hbad
          omega
        clear hbad
        go_enter Try.func10, Try.ntmps10
        go_wp2_with fail
        go_quiet (fail)
        go_wp2_with fail
        go_ret
        exact ⟨rfl, below_drewN ((Below.refl _ _).alloc (Nat.le_refl _) _) _⟩
    · rw [Bool.true_and] at hbad
      by_cases h2 : num ≤ ln
      · clear hbad
        go_enter Try.func10, Try.ntmps10
        go_wp2_with fail
        go_quiet (fail)
        go_wp2_with fail
        go_ret
        exact ⟨rfl, below_drewN ((Below.refl _ _).alloc (Nat.le_refl _) _) _⟩
      · have h2l : ln < num := by omega
        have h2d : decide (num ≤ ln) = false := by simpa using h2
        rw [h2d, Bool.false_or] at hbad
        by_cases h3 : 1099511627776 < time
        · clear hbad
          go_enter Try.func10, Try.ntmps10
          go_wp2_with fail
          go_quiet (fail)
          go_wp2_with fail
          go_ret
          exact ⟨rfl, below_drewN ((Below.refl _ _).alloc (Nat.le_refl _) _) _⟩
        · have h4 : 1099511627776 < size := by
            simp only [Bool.or_eq_true, decide_eq_true_eq] at hbad
            omega
          clear hbad
          go_enter Try.func10, Try.ntmps10
          go_wp2_with fail
          go_quiet (fail)
          go_wp2_with fail
          go_ret
          exact ⟨rfl, below_drewN ((Below.refl _ _).alloc (Nat.le_refl _) _) _⟩

end Go.Proofs.Ytaoeamkkbopioaa
