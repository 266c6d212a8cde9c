/- space: what both tell behind an act. -/
import Derived.Test.YtmnmpmiocgfalaaVn
namespace Go.Proofs.Ytmnmpmiocgfalaa
open Go.ChangeShapes Go.WideShapes Go.RowKit
set_option linter.unusedVariables false
set_option linter.unusedSimpArgs false

theorem dueV_shape (wait : Nat) (m : Option Nat) : ∃ d z, dueV wait m = .tuple #[.int .u64 d, .bool z] := by
  cases m with
  | none => exact ⟨_, _, rfl⟩
  | some m => exact ⟨_, _, rfl⟩

/-- Both spaces, no act's box. -/
def LW (w0 : World) (B b bl : Nat) (w : World) : Prop :=
  ∃ s rows v u vr ur, SpIs B B v u s w ∧ RsIs B b bl vr ur (twin s rows) w ∧ (∀ x ∈ rows, x.ok B w0 w) ∧ (∀ k, u.ownBlock = some k → ur.ownBlock ≠ some k) ∧ Below B w0 w ∧ w0.heap.size ≤ B ∧ s.L.op = rows.map Row.p ∧ s.fine
section
variable {w0 : World} {B b bl ax : Nat} {L : List Value} {w : World}
theorem DW.lw (h : DW w0 B b bl ax L w) : LW w0 B b bl w := by
  obtain ⟨s, rows, v, u, vr, ur, h1, hop, hfine⟩ := h
  exact ⟨s, rows, v, u, vr, ur, h1.p, h1.r, h1.fr, h1.dis, h1.below, h1.b0, hop, hfine⟩
theorem LW.dw (h : LW w0 B b bl w) {w' : World} (hb : Below w.heap.size w w') (hx : blk w' ax 38 L) : DW w0 B b bl ax L w' := by
  obtain ⟨s, rows, v, u, vr, ur, h1, h2, h3, h4, h5, h6, hop, hfine⟩ := h
  exact ⟨s, rows, v, u, vr, ur, ⟨h1.next hb, h2.next hb, fun x hx => (h3 x hx).next hb, h4, hx, h5.trans (hb.mono h1.led.bw), h6⟩, hop, hfine⟩
theorem LW.old (h : LW w0 B b bl w) : Below w0.heap.size w0 w := by
  obtain ⟨s, rows, v, u, vr, ur, h1, h2, h3, h4, h5, h6, hop, hfine⟩ := h
  exact h5.mono h6

/-- What both tell, at any world where J holds; J stays. -/
structure Tl (J : World → Prop) (w0 : World) (B b bl ax : Nat) (num size : Nat) (la : Nat) (lb : Bool) (d : Int) (z : Bool) (nx : Nat) (lg ac : Int) (mu cm : Bool) (fl : Nat) : Prop where
  lw : ∀ W, J W → LW w0 B b bl W
  drewJ : ∀ W, J W → J W.drew
  cells : ∀ W, J W → W.cell? ⟨b, 0, none⟩ = some (.int .u64 (nx : Int)) ∧ W.cell? ⟨b, 1, none⟩ = some (.pointer (some ⟨bl, 0, none⟩)) ∧ W.cell? ⟨b, 4, none⟩ = some (.bool mu) ∧ W.cell? ⟨bl, 2, none⟩ = some (.int .i64 ac) ∧ W.cell? ⟨ax, 1, none⟩ = some (.int .u64 (num : Int)) ∧ W.cell? ⟨ax, 3, none⟩ = some (.int .u64 (size : Int))
  lts : ∀ W, J W → b < W.heap.size ∧ bl < W.heap.size ∧ ax < W.heap.size ∧ B < W.heap.size
  last : ∀ W, J W → Calls Try.prog 31 #[.pointer (some ⟨B, 0, none⟩)] W fun e w' => e = .returned (.tuple #[.int .u64 (la : Int), .bool lb]) ∧ J w'
  rlast : ∀ W, J W → Calls Try.prog 32 #[.pointer (some ⟨b, 0, none⟩)] W fun e w' => e = .returned (.tuple #[.int .u64 (la : Int), .bool lb]) ∧ J w'
  due : ∀ W, J W → Calls Try.prog 33 #[.pointer (some ⟨B, 0, none⟩), .int .u64 (size : Int)] W fun e w' => e = .returned (.tuple #[.int .u64 d, .bool z]) ∧ J w'
  rdue : ∀ W, J W → Calls Try.prog 34 #[.pointer (some ⟨bl, 0, none⟩), .int .u64 (size : Int)] W fun e w' => e = .returned (.tuple #[.int .u64 d, .bool z]) ∧ J w'
  numb : ∀ W, J W → Calls Try.prog 19 #[.pointer (some ⟨B, 0, none⟩)] W fun e w' => e = .returned (.int .u64 (nx : Int)) ∧ J w'
  largest : ∀ W, J W → Calls Try.prog 13 #[.pointer (some ⟨B, 0, none⟩)] W fun e w' => e = .returned (.int .i64 lg) ∧ J w'
  rlargest : ∀ W, J W → Calls Try.prog 35 #[.pointer (some ⟨b, 0, none⟩)] W fun e w' => e = .returned (.int .i64 lg) ∧ J w'
  acked : ∀ W, J W → Calls Try.prog 36 #[.pointer (some ⟨B, 0, none⟩)] W fun e w' => e = .returned (.int .i64 ac) ∧ J w'
  must : ∀ W, J W → Calls Try.prog 15 #[.pointer (some ⟨B, 0, none⟩)] W fun e w' => e = .returned (.bool mu) ∧ J w'
  came : ∀ W, J W → Calls Try.prog 21 #[.pointer (some ⟨B, 0, none⟩), .int .u64 (num : Int)] W fun e w' => e = .returned (.bool cm) ∧ J w'
  covers : ∀ W, J W → Calls Try.prog 37 #[.pointer (some ⟨b, 2, none⟩), .int .u64 (num : Int), .int .u64 (num : Int)] W fun e w' => e = .returned (.bool cm) ∧ J w'
  flying : ∀ W, J W → Calls Try.prog 18 #[.pointer (some ⟨B, 0, none⟩)] W fun e w' => e = .returned (.int .u64 (fl : Int)) ∧ J w'
  rflying : ∀ W, J W → Calls Try.prog 38 #[.pointer (some ⟨bl, 0, none⟩)] W fun e w' => e = .returned (.int .u64 (fl : Int)) ∧ J w'

set_option maxRecDepth 100000 in
theorem DW.tail {a : Act1} (h : DW w0 B b bl ax a.vals w) : ∃ J la lb d z nx lg ac mu cm fl, J w ∧ Tl J w0 B b bl ax a.num a.size la lb d z nx lg ac mu cm fl := by
  obtain ⟨s, rows, v, u, vr, ur, h1, hop, hfine⟩ := h
  obtain ⟨d, z, hdz⟩ := dueV_shape a.size (dueM s.L.bi s.L.bn s.L.op)
  have e1 : (twin s rows).L.bi = s.L.bi := rfl
  have e2 : (twin s rows).L.bn = s.L.bn := rfl
  have htop : (twin s rows).L.op = rows.map Row.r := rfl
  refine ⟨fun W => JM w0 B b bl ax a.vals s (twin s rows) rows v u vr ur W, lastF s.L.op, !s.L.op.isEmpty, d, z, s.next, sg (mostR s.R).2 (mostR s.R).1, sg s.L.bi s.L.bn, s.must, coversR s.R a.num a.num, flyF s.L.op, h1, ?_⟩
  refine ⟨fun W j => DW.lw ⟨s, rows, v, u, vr, ur, j, hop, hfine⟩, fun W j => j.drew, fun W j => ⟨j.r.at_.cell (k := 0) rfl, j.r.at_.cell (k := 1) rfl, j.r.at_.cell (k := 4) rfl, j.r.led.led.cell (k := 2) rfl, j.x.cell (k := 1) rfl, j.x.cell (k := 3) rfl⟩, fun W j => ⟨j.r.lt, j.r.led.led.lt, j.x.lt, j.p.lt⟩,
    fun W j => (LastAsk_any j.p).mono (fun e w' h => ⟨h.1, j.next h.2⟩), fun W j => (rLastAsk_any B b bl vr ur (twin s rows) W j.r).mono (fun e w' h => ⟨by rw [h.1, htop, hop, twin_last, twin_empty], j.next h.2⟩),
    fun W j => (Due_any B B _ _ v s.L W a.size j.p.led j.p.inv.len1 j.p.inv.bnb).mono (fun e w' h => ⟨by rw [← hdz]; exact h.one.1, j.next h.one.2⟩), fun W j => (rDue_any B bl vr (twin s rows).L W a.size j.r.led j.r.inv).mono (fun e w' h => ⟨by rw [h.1, e1, e2, htop, twin_due, ← hop, hdz], j.next h.2⟩),
    fun W j => (Num_any j.p).mono (fun e w' h => ⟨h.1, by rw [← h.2]; exact j⟩), fun W j => (Largest_any j.p).mono (fun e w' h => ⟨h.1, j.next h.2⟩), fun W j => (rLargest_any j.r).mono (fun e w' h => ⟨h.1, j.next h.2⟩), fun W j => (Acked_any2 j.p).mono (fun e w' h => ⟨h.1, j.next h.2⟩),
    fun W j => (Must_any j.p).mono (fun e w' h => ⟨h.1, by rw [← h.2]; exact j⟩), fun W j => (Came_any a.num j.p).mono (fun e w' h => ⟨h.1, j.next h.2⟩), fun W j => (rcovers_ok b B ur (twin s rows).R W a.num a.num j.r.ris (by have := j.r.len; omega) j.r.ok).mono (fun e w' h => ⟨h.1, j.next h.2⟩),
    fun W j => (Flying_any B B _ _ v s.L W j.p.led j.p.inv.len1 (fun p hp => (j.p.inv.le p hp).2.2)).mono (fun e w' h => ⟨h.1, j.next h.2⟩), fun W j => (rFlying_any B bl vr (twin s rows).L W j.r.led j.r.inv).mono (fun e w' h => ⟨by rw [h.1, htop, twin_fly, hop], j.next h.2⟩)⟩
end

end Go.Proofs.Ytmnmpmiocgfalaa
