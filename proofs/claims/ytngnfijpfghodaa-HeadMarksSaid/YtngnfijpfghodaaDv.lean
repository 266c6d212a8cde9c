/- A head that comes in, as a view. -/
import Derived.Test.YtngnfijpfghodaaDa
import Derived.Test.YtngnfijpfghodaaMv
namespace Go.Proofs.Ytngnfijpfghodaa
open Go.ChangeShapes Go.WideShapes Go.RowKit
set_option linter.unusedVariables false

section
variable {H : Type} {enc : TypeId × Value → H} {w : World} {base : Nat} {spare : Nat → Bool} {held : Bool}

theorem head_view {cs : Array Value} {fuel : Nat} {x : DataW H × List MemPlace} (hn : cs.size = 7) (h : DataW.trod enc Try.prog w base spare held fuel 24 cs.toList = some x) : ∃ hd : Hd, Value.agg cs = hd.v := by
  have hU := Try.underlying24
  obtain ⟨l⟩ := cs
  match l, hn with
  | [c0, c1, c2, c3, c4, c5, c6], _ =>
    obtain ⟨n0, y0, z0⟩ := field_one hU h 0 _ c0 rfl rfl (by kernel_rfl) rfl
    obtain ⟨n1, y1, z1⟩ := field_one hU h 1 _ c1 rfl rfl (by kernel_rfl) rfl
    obtain ⟨n2, y2, z2⟩ := field_one hU h 2 _ c2 rfl rfl (by kernel_rfl) rfl
    obtain ⟨n3, y3, z3⟩ := field_one hU h 3 _ c3 rfl rfl (by kernel_rfl) rfl
    obtain ⟨n4, y4, z4⟩ := field_one hU h 4 _ c4 rfl rfl (by kernel_rfl) rfl
    obtain ⟨n5, y5, z5⟩ := field_one hU h 5 _ c5 rfl rfl (by kernel_rfl) rfl
    obtain ⟨n6, y6, z6⟩ := field_one hU h 6 _ c6 rfl rfl (by kernel_rfl) rfl
    obtain ⟨i0, e0, _, _⟩ := DataW.trod_int Try.underlying3 z0
    obtain ⟨i1, e1, _, _⟩ := DataW.trod_string Try.underlying9 z1
    obtain ⟨i2, e2, _, _⟩ := DataW.trod_string Try.underlying9 z2
    obtain ⟨i3, e3, _, f3⟩ := DataW.trod_int Try.underlying22 z3
    obtain ⟨i4, e4, _, _⟩ := DataW.trod_int Try.underlying3 z4
    obtain ⟨i5, e5, _, _⟩ := DataW.trod_int Try.underlying3 z5
    obtain ⟨i6, e6, _⟩ := DataW.trod_bool Try.underlying4 z6
    obtain ⟨m, rfl, _⟩ := nat_of_u64 f3
    simp only [List.cons.injEq, and_true] at e0 e1 e2 e3 e4 e5 e6
    subst e0 e1 e2 e3 e4 e5 e6
    refine ⟨⟨i0, byt i1, byt i2, m, i4, i5, i6⟩, ?_⟩
    unfold Hd.v
    simp only [txt_byt]
end

end Go.Proofs.Ytngnfijpfghodaa
