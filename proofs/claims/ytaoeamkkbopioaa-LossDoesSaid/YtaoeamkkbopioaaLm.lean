/- Acts, as they come in. -/
import Derived.Test.YtaoeamkkbopioaaLk
import Derived.Test.YtaoeamkkbopioaaMv
namespace Go.Proofs.Ytaoeamkkbopioaa
open Go.ChangeShapes Go.WideShapes Go.RowKit
set_option linter.unusedVariables false

structure Act1 where
  kind : Int
  num : Nat
  time : Nat
  size : Nat
  asks : Bool
  lp : Option Addr
  rs : List (Nat × Nat)
  lcap : Nat

/-- An act's six cells at a place. -/
structure ActAt (w : World) (g o : Nat) (a : Act1) : Prop where
  c0 : w.cell? ⟨g, o, none⟩ = some (.int .i64 a.kind)
  c1 : w.cell? ⟨g, o + 1, none⟩ = some (.int .u64 (a.num : Int))
  c2 : w.cell? ⟨g, o + 2, none⟩ = some (.int .u64 (a.time : Int))
  c3 : w.cell? ⟨g, o + 3, none⟩ = some (.int .u64 (a.size : Int))
  c4 : w.cell? ⟨g, o + 4, none⟩ = some (.bool a.asks)
  c5 : w.cell? ⟨g, o + 5, none⟩ = some (.slice a.lp a.rs.length a.lcap)
  rg : RgAt w a.lp a.rs
  n1 : a.num < 2 ^ 64
  n2 : a.time < 2 ^ 64
  n3 : a.size < 2 ^ 64
  len : a.rs.length ≤ maxLen

def ActsAt (w : World) (p : Option Addr) (xs : List Act1) : Prop :=
  0 < xs.length → ∃ g o, p = some ⟨g, o, none⟩ ∧ g < w.heap.size ∧ ∀ i a, xs[i]? = some a → ActAt w g (o + i * 6) a

section
variable {H : Type} {enc : TypeId × Value → H} {w : World} {base : Nat} {spare : Nat → Bool} {held : Bool}

theorem ranges_view {a : Option Addr} {len cap : Nat} {fuel : Nat} {x : DataW H × List MemPlace} (h : DataW.trod enc Try.prog w base spare held fuel 31 [.slice a len cap] = some x) :
    ∃ rs : List (Nat × Nat), rs.length = len ∧ RgAt w a rs ∧ len ≤ maxLen := by
  obtain ⟨hm, hv⟩ := rows_view (C := 2) Try.underlying31 (by kernel_rfl) (by omega) h
  rcases Nat.eq_zero_or_pos len with h0 | h0
  · subst h0
    exact ⟨[], rfl, fun h => by simp at h, hm⟩
  · obtain ⟨g, o, n, rfl, hg, hi⟩ := hv h0
    obtain ⟨rs, hl, hp⟩ := list_of (α := Nat × Nat) (p := fun i r => w.cell? ⟨g, o + i * 2, none⟩ = some (.int .u64 (r.1 : Int)) ∧ w.cell? ⟨g, o + i * 2 + 1, none⟩ = some (.int .u64 (r.2 : Int))) (n := len) (by
      intro i hil
      obtain ⟨cs, y, h1, h2, h3⟩ := hi i hil
      match cs, h1 with
      | [c0, c1], _ =>
        obtain ⟨_, _, z0⟩ := field_one Try.underlying66 h3 0 _ c0 rfl rfl (by kernel_rfl) rfl
        obtain ⟨_, _, z1⟩ := field_one Try.underlying66 h3 1 _ c1 rfl rfl (by kernel_rfl) rfl
        obtain ⟨n0, e0, _, f0⟩ := DataW.trod_int Try.underlying25 z0
        obtain ⟨n1, e1, _, f1⟩ := DataW.trod_int Try.underlying25 z1
        obtain ⟨k0, rfl, _⟩ := nat_of_u64 f0
        obtain ⟨k1, rfl, _⟩ := nat_of_u64 f1
        simp at e0 e1
        subst e0
        subst e1
        exact ⟨(k0, k1), h2 0 _ rfl, h2 1 _ rfl⟩)
    exact ⟨rs, hl, fun _ => ⟨g, o, rfl, hg, hp⟩, hm⟩

theorem acts_view {a : Option Addr} {len cap : Nat} {fuel : Nat} {x : DataW H × List MemPlace} (h : DataW.trod enc Try.prog w base spare held fuel 22 [.slice a len cap] = some x) :
    ∃ xs : List Act1, xs.length = len ∧ ActsAt w a xs ∧ len ≤ maxLen := by
  obtain ⟨hm, hv⟩ := rows_view (C := 6) Try.underlying22 (by kernel_rfl) (by omega) h
  rcases Nat.eq_zero_or_pos len with h0 | h0
  · subst h0
    exact ⟨[], rfl, fun h => by simp at h, hm⟩
  · obtain ⟨g, o, n, rfl, hg, hi⟩ := hv h0
    obtain ⟨xs, hl, hp⟩ := list_of (p := fun i x => ActAt w g (o + i * 6) x) (n := len) (by
      intro i hil
      obtain ⟨cs, y, h1, h2, h3⟩ := hi i hil
      match cs, h1 with
      | [c0, c1, c2, c3, c4, c5], _ =>
        obtain ⟨_, _, z0⟩ := field_one Try.underlying33 h3 0 _ c0 rfl rfl (by kernel_rfl) rfl
        obtain ⟨_, _, z1⟩ := field_one Try.underlying33 h3 1 _ c1 rfl rfl (by kernel_rfl) rfl
        obtain ⟨_, _, z2⟩ := field_one Try.underlying33 h3 2 _ c2 rfl rfl (by kernel_rfl) rfl
        obtain ⟨_, _, z3⟩ := field_one Try.underlying33 h3 3 _ c3 rfl rfl (by kernel_rfl) rfl
        obtain ⟨_, _, z4⟩ := field_one Try.underlying33 h3 4 _ c4 rfl rfl (by kernel_rfl) rfl
        obtain ⟨_, _, z5⟩ := field_one Try.underlying33 h3 5 _ c5 rfl rfl (by kernel_rfl) rfl
        obtain ⟨n0, e0, _, f0⟩ := DataW.trod_int Try.underlying3 z0
        obtain ⟨n1, e1, _, f1⟩ := DataW.trod_int Try.underlying25 z1
        obtain ⟨n2, e2, _, f2⟩ := DataW.trod_int Try.underlying25 z2
        obtain ⟨n3, e3, _, f3⟩ := DataW.trod_int Try.underlying25 z3
        obtain ⟨n4, e4, _⟩ := DataW.trod_bool Try.underlying4 z4
        obtain ⟨k1, rfl, b1⟩ := nat_of_u64 f1
        obtain ⟨k2, rfl, b2⟩ := nat_of_u64 f2
        obtain ⟨k3, rfl, b3⟩ := nat_of_u64 f3
        simp at e0 e1 e2 e3 e4
        subst e0
        subst e1
        subst e2
        subst e3
        subst e4
        have hs : ∃ a5 l5 p5, c5 = .slice a5 l5 p5 := by
          rcases DataW.trod_slice Try.underlying31 z5 with ⟨hcs, _⟩ | ⟨A, l, c, _, _, _, _, hcs, _⟩
          · simp at hcs
            exact ⟨_, _, _, hcs⟩
          · simp at hcs
            exact ⟨_, _, _, hcs⟩
        obtain ⟨a5, l5, p5, rfl⟩ := hs
        obtain ⟨rs, r1, r2, r3⟩ := ranges_view z5
        exact ⟨⟨n0, k1, k2, k3, n4, a5, rs, p5⟩, h2 0 _ rfl, h2 1 _ rfl, h2 2 _ rfl, h2 3 _ rfl, h2 4 _ rfl, by rw [h2 5 _ rfl, r1], r2, b1, b2, b3, by rw [r1]; exact r3⟩)
    exact ⟨xs, hl, fun _ => ⟨g, o, rfl, hg, hp⟩, hm⟩
end

theorem ActAt.below {w w' : World} {B g o : Nat} {a : Act1} (h : ActAt w g o a) (hg : g < B) (hb : Below B w w') (hB : B = w.heap.size) : ActAt w' g o a := by
  subst hB
  exact ⟨(hb.cell (p := ⟨g, o, none⟩) hg).trans h.c0, (hb.cell (p := ⟨g, o + 1, none⟩) hg).trans h.c1, (hb.cell (p := ⟨g, o + 2, none⟩) hg).trans h.c2, (hb.cell (p := ⟨g, o + 3, none⟩) hg).trans h.c3,
    (hb.cell (p := ⟨g, o + 4, none⟩) hg).trans h.c4, (hb.cell (p := ⟨g, o + 5, none⟩) hg).trans h.c5, h.rg.below hb, h.n1, h.n2, h.n3, h.len⟩

end Go.Proofs.Ytaoeamkkbopioaa
