/- Contracts of Sent (whole), Skip, Last, Best, Flying, Open, Lost, Clear. -/
import Derived.Test.YtaoeamkkbopioaaLd
namespace Go.Proofs.Ytaoeamkkbopioaa
open Go.ChangeShapes Go.WideShapes Go.RowKit
set_option linter.unusedVariables false

/-- What a ledger has come to behind a call: of old memory only the ledger itself has turned. -/
def CameV (B b : Nat) (T : TypeId) (rest : List Value) (v : Value) (w : World) (S' : Lg) (v' : Value) (w' : World) : Prop :=
  LedIs w' b T rest v' S' ∧ w'.ownsRow B 38 5 v' S'.op.length (pks S'.op) ∧ Only (fun k => k = b ∨ v.ownBlock = some k) w w' ∧ (v'.ownBlock = v.ownBlock ∨ ∀ k, v'.ownBlock = some k → w.heap.size ≤ k)
def Came (B b : Nat) (T : TypeId) (rest : List Value) (v : Value) (w : World) (S' : Lg) (w' : World) : Prop := ∃ v', CameV B b T rest v w S' v' w'

/-- Whose ledger it is. -/
structure Owns (B b : Nat) (T : TypeId) (rest : List Value) (v : Value) (S : Lg) (w : World) : Prop where
  led : LedIs w b T rest v S
  own : w.ownsRow B 38 5 v S.op.length (pks S.op)
  bw : B ≤ w.heap.size
  bb : B ≤ b
  ty : T ≠ 38

theorem Came.same {B b : Nat} {T : TypeId} {rest : List Value} {v : Value} {S : Lg} {w w' : World} (h : Owns B b T rest v S w) (hb : Below w.heap.size w w') : Came B b T rest v w S w' :=
  ⟨v, h.led.below hb h.led.lt, own_below h.own hb, Only.ofBelow hb, .inl rfl⟩

theorem CameV.owns {B b : Nat} {T : TypeId} {rest : List Value} {v v' : Value} {S S' : Lg} {w w' : World} (hc : CameV B b T rest v w S' v' w') (h : Owns B b T rest v S w) : Owns B b T rest v' S' w' :=
  ⟨hc.1, hc.2.1, Nat.le_trans h.bw hc.2.2.1.size, h.bb, h.ty⟩

theorem CameV.below {B b : Nat} {T : TypeId} {rest : List Value} {v v' : Value} {S S' : Lg} {w w' : World} (hc : CameV B b T rest v w S' v' w') (h : Owns B b T rest v S w) : Below B w w' := by
  refine hc.2.2.1.below h.bw ?_
  rintro k (rfl | hk)
  · exact h.bb
  · exact (h.own.lt k hk).1

/-- Packets that were told lie apart from the ledger. -/
def Apart (b : Nat) (v vg : Value) (n : Nat) (xs : List Value) (w : World) : Prop :=
  (∃ base, w.ownsRow base 38 5 vg n xs) ∧ ∀ k, vg.ownBlock = some k → v.ownBlock ≠ some k

theorem Apart.next {B b : Nat} {T : TypeId} {rest : List Value} {v v' vg : Value} {S S' : Lg} {w w' : World} {n : Nat} {xs : List Value} (hp : Apart b v vg n xs w) (hc : CameV B b T rest v w S' v' w') (h : Owns B b T rest v S w) : Apart b v' vg n xs w' := by
  obtain ⟨⟨base, ho⟩, hne⟩ := hp
  refine ⟨⟨base, own_only ho hc.2.2.1 ?_⟩, ?_⟩
  · rintro k hk (rfl | h2)
    · exact own_ne ho h.led h.ty hk
    · exact hne k hk h2
  · intro k hk
    rcases hc.2.2.2 with h1 | h1
    · rw [h1]; exact hne k hk
    · intro e
      have := h1 k e
      have := (ho.lt k hk).2
      omega
theorem Apart.below {b : Nat} {v vg : Value} {w w' : World} {n : Nat} {xs : List Value} (hp : Apart b v vg n xs w) (hb : Below w.heap.size w w') : Apart b v vg n xs w' := by
  obtain ⟨⟨base, ho⟩, hne⟩ := hp
  exact ⟨⟨base, own_below ho hb⟩, hne⟩
theorem Owns.next {B b : Nat} {T : TypeId} {rest : List Value} {v : Value} {S : Lg} {w w' : World} (h : Owns B b T rest v S w) (hb : Below w.heap.size w w') : Owns B b T rest v S w' :=
  ⟨h.led.below hb h.led.lt, own_below h.own hb, Nat.le_trans h.bw hb.size, h.bb, h.ty⟩

set_option maxRecDepth 100000 in
set_option maxHeartbeats 1000000 in
theorem sent_many (B b : Nat) (T : TypeId) (rest : List Value) (v : Value) (S : Lg) (w : World) (num time size : Nat) (asks : Bool) (fin : Value) (h : Owns B b T rest v S w)
    (h1 : num ≤ 4611686018427387903) (hln : S.ln < 2 ^ 63) (h2 : S.li = true → S.ln < num) (h3 : time ≤ 1099511627776) (h4 : size ≤ 1099511627776) (h5 : 500 ≤ S.op.length) (h6 : S.op.length ≤ 1000) :
    Calls Try.prog 10 #[.pointer (some ⟨b, 0, none⟩), .agg #[.int .u64 (num : Int), .int .u64 (time : Int), .int .u64 (size : Int), .bool asks, fin]] w fun e w' => e = .returned (.int .i64 4) ∧ Below w.heap.size w w' := by
  have hL := h.led
  have hO := h.own
  clear h
  obtain ⟨p, cap, rfl, hpn⟩ := own_shape hO
  have hbl := hL.lt
  have c0 : w.cell? ⟨b, 0, none⟩ = some (.slice p S.op.length cap) := hL.cell rfl
  have c1 : w.cell? ⟨b, 1, none⟩ = some (.int .u64 (S.ln : Int)) := hL.cell rfl
  have c2 : w.cell? ⟨b, 2, none⟩ = some (.bool S.li) := hL.cell rfl
  obtain ⟨N, hN⟩ : ∃ N, S.op.length = N := ⟨_, rfl⟩
  obtain ⟨ln, hlne⟩ : ∃ x, S.ln = x := ⟨_, rfl⟩
  obtain ⟨li, hli⟩ : ∃ x, S.li = x := ⟨_, rfl⟩
  rw [hN] at c0 h5 h6
  rw [hlne] at c1 h2 hln
  rw [hli] at c2 h2
  clear hL hO hlne hli hN hpn
  cases li
  · clear h2
    go_enter Try.func10, Try.ntmps10
    go_wp2_with fail
    go_quiet (fail)
    go_wp2_with fail
    go_ret
    exact ⟨rfl, below_drewN ((Below.refl _ _).alloc (Nat.le_refl _) _) _⟩
  · have h2l : ln < num := h2 rfl
    clear h2
    go_enter Try.func10, Try.ntmps10
    go_wp2_with fail
    go_quiet (fail)
    go_wp2_with fail
    go_ret
    exact ⟨rfl, below_drewN ((Below.refl _ _).alloc (Nat.le_refl _) _) _⟩

/-- Sent, whole. -/
theorem Sent_any (B b : Nat) (T : TypeId) (rest : List Value) (v : Value) (S : Lg) (w : World) (num time size : Nat) (asks : Bool) (h : Owns B b T rest v S w)
    (hnum : num < 2 ^ 64) (hln : S.ln < 2 ^ 63) (h6 : S.op.length ≤ 1000) :
    Calls Try.prog 10 #[.pointer (some ⟨b, 0, none⟩), .agg #[.int .u64 (num : Int), .int .u64 (time : Int), .int .u64 (size : Int), .bool asks, .slice none 0 0]] w fun e w' => e = .returned (.int .i64 (sentF S ⟨num, time, size, asks, none, 0, 0⟩).2) ∧ Came B b T rest v w (sentF S ⟨num, time, size, asks, none, 0, 0⟩).1 w' := by
  unfold sentF
  by_cases hbad : sentBad S ⟨num, time, size, asks, none, 0, 0⟩ = true
  · rw [if_pos hbad]
    exact (sent_bad b T rest v S w num time size asks _ h.led hnum hln hbad).mono fun e w' ⟨h1, h2⟩ => ⟨h1, Came.same h h2⟩
  · rw [if_neg hbad]
    unfold sentBad badNum at hbad
    simp only [Bool.or_eq_true, Bool.and_eq_true, decide_eq_true_eq, not_or, not_and] at hbad
    obtain ⟨⟨⟨g1, g2⟩, g3⟩, g4⟩ := hbad
    by_cases h5 : 500 ≤ S.op.length
    · rw [if_pos h5]
      exact (sent_many B b T rest v S w num time size asks _ h (by omega) hln (fun e => by have := g2 e; omega) (by omega) (by omega) h5 h6).mono fun e w' ⟨h1, h2⟩ => ⟨h1, Came.same h h2⟩
    · rw [if_neg h5]
      refine (sent_ok B b T rest v S w num time size asks _ none 0 0 (fun w => (clone_nil w).mono fun e w' ⟨h1, h2⟩ => ⟨h1, h2 ▸ Below.refl _ _⟩) h.led h.own h.bw h.bb h.ty (by omega) hln (fun e => by have := g2 e; omega) (by omega) (by omega) (by omega)).mono ?_
      rintro e w' ⟨h1, v', h2, h3, h4⟩
      exact ⟨h1, v', h2, by rw [List.length_append, List.length_singleton]; exact h3, h4⟩

def skipF (S : Lg) (num : Nat) : Lg × Int := if badNum S num then (S, 3) else ({ S with ln := num, li := true }, 0)

set_option maxRecDepth 100000 in
set_option maxHeartbeats 1000000 in
theorem Skip_any (B b : Nat) (T : TypeId) (rest : List Value) (v : Value) (S : Lg) (w : World) (num : Nat) (h : Owns B b T rest v S w)
    (hnum : num < 2 ^ 64) (hln : S.ln < 2 ^ 63) :
    Calls Try.prog 25 #[.pointer (some ⟨b, 0, none⟩), .int .u64 (num : Int)] w fun e w' => e = .returned (.int .i64 (skipF S num).2) ∧ Came B b T rest v w (skipF S num).1 w' := by
  have hbl := h.led.lt
  have c1 : w.cell? ⟨b, 1, none⟩ = some (.int .u64 (S.ln : Int)) := h.led.cell rfl
  have c2 : w.cell? ⟨b, 2, none⟩ = some (.bool S.li) := h.led.cell rfl
  have f1 : w.frozen? ⟨b, 1, none⟩ = false := h.led.free 1
  have f2 : w.frozen? ⟨b, 2, none⟩ = false := h.led.free 2
  have hgood : Came B b T rest v w { S with ln := num, li := true } ((w.setCell ⟨b, 1, none⟩ (.int .u64 (num : Int))).setCell ⟨b, 2, none⟩ (.bool true)) := by
    have hne : v.ownBlock ≠ some b := own_ne h.own h.led h.ty
    refine ⟨v, (blk.set h.led 1 _).set 2 _, ownsRow_setCell_other (ownsRow_setCell_other h.own (a := ⟨b, 1, none⟩) hne _) (a := ⟨b, 2, none⟩) hne _, ?_, .inl rfl⟩
    exact Only.setCell (p := ⟨b, 2, none⟩) (Only.setCell (p := ⟨b, 1, none⟩) (Only.refl _ _) (.inl (.inl rfl)) _) (.inl (.inl rfl)) _
  have hsame := fun w' => Came.same (w' := w') h
  unfold skipF badNum
  obtain ⟨ln, hlne⟩ : ∃ x, S.ln = x := ⟨_, rfl⟩
  obtain ⟨li, hli⟩ : ∃ x, S.li = x := ⟨_, rfl⟩
  rw [hlne] at c1 hln ⊢
  rw [hli] at c2 ⊢
  have Hg := Lib.hid hgood
  have Hs := Lib.hid hsame
  clear hgood hsame h hlne hli
  by_cases h1 : 4611686018427387903 < num
  · have hd : decide (4611686018427387903 < num) = true := by simpa using h1
    rw [hd, Bool.true_or, if_pos rfl]
    clear hd
    go_enter Try.func25, Try.ntmps25
    go_wp2_with fail
    go_ret
    exact ⟨rfl, Hs.out _ (Below.refl _ _)⟩
  · have hd : decide (4611686018427387903 < num) = false := by simpa using h1
    rw [hd, Bool.false_or]
    cases li
    · rw [Bool.false_and, if_neg (by decide)]
      clear hd
      have hd : decide ((4611686018427387903 : Int) < (num : Int)) = false := by rw [decide_eq_false_iff_not]; omega
      go_enter Try.func25, Try.ntmps25
      go_wp2_with fail
      go_ret
      exact ⟨rfl, Hg.out⟩
    · rw [Bool.true_and]
      clear hd
      have hd : decide ((4611686018427387903 : Int) < (num : Int)) = false := by rw [decide_eq_false_iff_not]; omega
      by_cases h2 : num ≤ ln
      · have hd2 : decide (num ≤ ln) = true := by simpa using h2
        rw [hd2, if_pos rfl]
        go_enter Try.func25, Try.ntmps25
        go_wp2_with fail
        go_ret
        exact ⟨rfl, Hs.out _ (Below.refl _ _)⟩
      · have hd2 : decide (num ≤ ln) = false := by simpa using h2
        rw [hd2, if_neg (by decide)]
        go_enter Try.func25, Try.ntmps25
        go_wp2_with fail
        go_ret
        exact ⟨rfl, Hg.out⟩

set_option maxRecDepth 100000 in
theorem Last_any (b : Nat) (ln : Nat) (li : Bool) (w : World) (hbl : b < w.heap.size) (c1 : w.cell? ⟨b, 1, none⟩ = some (.int .u64 (ln : Int))) (c2 : w.cell? ⟨b, 2, none⟩ = some (.bool li)) :
    Calls Try.prog 28 #[.pointer (some ⟨b, 0, none⟩)] w fun e w' => e = .returned (.tuple #[.int .u64 (ln : Int), .bool li]) ∧ Below w.heap.size w w' := by
  go_enter Try.func28, Try.ntmps28
  go_wp2_with fail
  go_quiet (fail)
  go_wp2_with fail
  go_ret2
  exact ⟨rfl, below_drewN (Below.refl _ _) _⟩

set_option maxRecDepth 100000 in
theorem Best_any (b : Nat) (bn : Nat) (bi : Bool) (w : World) (hbl : b < w.heap.size) (c1 : w.cell? ⟨b, 3, none⟩ = some (.int .u64 (bn : Int))) (c2 : w.cell? ⟨b, 4, none⟩ = some (.bool bi)) :
    Calls Try.prog 15 #[.pointer (some ⟨b, 0, none⟩)] w fun e w' => e = .returned (.tuple #[.int .u64 (bn : Int), .bool bi]) ∧ Below w.heap.size w w' := by
  go_enter Try.func15, Try.ntmps15
  go_wp2_with fail
  go_quiet (fail)
  go_wp2_with fail
  go_ret2
  exact ⟨rfl, below_drewN (Below.refl _ _) _⟩

end Go.Proofs.Ytaoeamkkbopioaa
