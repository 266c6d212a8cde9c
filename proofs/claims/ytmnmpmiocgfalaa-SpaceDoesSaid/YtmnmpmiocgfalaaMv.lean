/- Bricks: arguments that are slices of structs, as they come in. No function of the program in sight. -/
import Derived.Test.YtmnmpmiocgfalaaMa
import Derived.Deep.Slices
import Derived.OpenShut
namespace Go.Proofs.Ytmnmpmiocgfalaa
open Go.ChangeShapes Go.WideShapes Go.RowKit
set_option linter.unusedVariables false

section
variable {H : Type} {enc : TypeId × Value → H} {P : Program} {w : World} {base : Nat} {spare : Nat → Bool} {held : Bool}

theorem spot_none {w : World} {A : Addr} {v : Value} (h : w.cell? A = some v) : A.spot = none := by
  unfold World.cell? at h
  cases hs : A.spot with
  | none => rfl
  | some s => simp only [hs] at h; split at h <;> simp at h

/-- A slice that came in, element by element: each element's cells, and what they read as. -/
theorem rows_view {t e : TypeId} {fuel : Nat} {a : Option Addr} {len cap C : Nat} {x : DataW H × List MemPlace} (ht : P.underlying t = some (.slice e)) (hC : P.cellsOf e = C) (hpos : 0 < C)
    (h : DataW.trod enc P w base spare held fuel t [.slice a len cap] = some x) :
    len ≤ maxLen ∧ (0 < len → ∃ g o n, a = some ⟨g, o, none⟩ ∧ g < w.heap.size ∧ ∀ i, i < len → ∃ cs y, cs.length = C ∧ (∀ k v, cs[k]? = some v → w.cell? ⟨g, o + i * C + k, none⟩ = some v) ∧ DataW.trod enc P w base spare held n e cs = some y) := by
  rcases DataW.trod_slice ht h with ⟨hcs, _⟩ | ⟨A, l, c, elems, rest, n, _, hcs, _, hb, hl, hm, hlen, hel, _⟩
  · simp at hcs
    obtain ⟨rfl, rfl, rfl⟩ := hcs
    exact ⟨Nat.zero_le _, fun h => by omega⟩
  · simp at hcs
    obtain ⟨rfl, rfl, rfl⟩ := hcs
    refine ⟨by omega, fun hpos2 => ?_⟩
    have key : ∀ i, i < len → ∃ cs y, cs.length = C ∧ (∀ k, k < C → w.cell? ((A.add (i * C)).add k) = cs[k]?) ∧ DataW.trod enc P w base spare held n e cs = some y := by
      intro i hi
      have h1 := hel i hi
      rw [List.getElem?_eq_getElem (by omega), hC] at h1
      obtain ⟨cs, h2, h3⟩ := Option.bind_eq_some_iff.1 h1
      obtain ⟨_, h4, h5⟩ := World.cells?_some h2
      exact ⟨cs, _, h4, h5, h3⟩
    obtain ⟨cs0, y0, hl0, hc0, _⟩ := key 0 hpos2
    have h00 := hc0 0 hpos
    rw [Go.Deep.add_add, Nat.zero_mul, List.getElem?_eq_getElem (by omega)] at h00
    have e0 : A.add (0 + 0) = A := by simp [Addr.add]
    rw [e0] at h00
    have hs := spot_none h00
    have hg := World.block_lt_of_cell? w A h00
    obtain ⟨g, o, s⟩ := A
    simp only at hs hg
    subst hs
    refine ⟨g, o, n, rfl, hg, fun i hi => ?_⟩
    obtain ⟨cs, y, h1, h2, h3⟩ := key i hi
    refine ⟨cs, y, h1, fun k v hk => ?_, h3⟩
    have hkl : k < C := by rw [← h1]; exact (List.getElem?_eq_some_iff.1 hk).1
    have := h2 k hkl
    rw [Go.Deep.add_add, hk] at this
    have e : (⟨g, o, none⟩ : Addr).add (i * C + k) = ⟨g, o + i * C + k, none⟩ := by
      rw [Addr.add_lit, Nat.add_assoc]
    rw [e] at this
    exact this

/-- A field of one cell. -/
theorem field_one {e : TypeId} {fs : Array Field} {n : Nat} {cs : List Value} {y : DataW H × List MemPlace} (he : P.underlying e = some (.struct fs)) (h : DataW.trod enc P w base spare held n e cs = some y) (j : Nat) (f : Field) (v : Value)
    (hf : fs[j]? = some f) (ho : f.offset = j) (hk : P.cellsOf f.type = 1) (hv : cs[j]? = some v) : ∃ n' z, DataW.trod enc P w base spare held n' f.type [v] = some z := by
  obtain ⟨ys, n', _, _, hlen, hyl, hg⟩ := DataW.trod_struct he h
  have h1 := hg j f hf
  obtain ⟨hj, hvj⟩ := List.getElem?_eq_some_iff.1 hv
  rw [ho, hk] at h1
  have e1 : (cs.drop j).take 1 = [v] := by
    rw [List.drop_eq_getElem_cons hj, hvj]
    rfl
  rw [e1] at h1
  have hjs : j < ys.length := by rw [hyl]; exact (Array.getElem?_eq_some_iff.1 hf).1
  rw [List.getElem?_eq_getElem hjs] at h1
  exact ⟨n', _, h1⟩

theorem nat_of_u64 {x : Int} (h : (Lit.int .u64 x).wf = true) : ∃ n : Nat, x = (n : Int) ∧ n < 2 ^ 64 := by
  have := bounds_u64 h
  obtain ⟨n, rfl⟩ := Int.eq_ofNat_of_zero_le this.1
  exact ⟨n, rfl, by omega⟩

/-- From each place something: a list. -/
theorem list_of {α : Type} {n : Nat} {p : Nat → α → Prop} (h : ∀ i, i < n → ∃ x, p i x) : ∃ l : List α, l.length = n ∧ ∀ i x, l[i]? = some x → p i x := by
  induction n with
  | zero => exact ⟨[], rfl, fun i x h => by simp at h⟩
  | succ n ih =>
    obtain ⟨l, hl, hp⟩ := ih (fun i hi => h i (by omega))
    obtain ⟨x, hx⟩ := h n (by omega)
    refine ⟨l ++ [x], by simp [hl], fun i y hy => ?_⟩
    rcases Nat.lt_or_ge i n with h1 | h1
    · rw [List.getElem?_append_left (by omega)] at hy
      exact hp i y hy
    · rw [List.getElem?_append_right (by omega)] at hy
      have : i = n := by
        have := (List.getElem?_eq_some_iff.1 hy).1
        simp at this
        omega
      subst this
      rw [hl, Nat.sub_self] at hy
      simp at hy
      subst hy
      exact hx
end

end Go.Proofs.Ytmnmpmiocgfalaa
