/- A map from numbers to states, as the law LossOnce keeps it. -/
import Derived.Test.YtaoeamkkbopioaaLn
import Derived.Maps.OwnOps
import Derived.Maps.OwnSet
import Derived.Maps.RangeWalk
namespace Go.Proofs.Ytaoeamkkbopioaa
open Go.ChangeShapes Go.WideShapes Go.RowKit Go.Maps
set_option linter.unusedVariables false

theorem law25 : Keyed Try.prog 25 := int_keyed Try.underlying25
theorem zero3 (w : World) : (zeroValue 3).run Try.prog w = .ok (.int .i64 0) w := by kernel_rfl

/-- Block b is a map of at most n entries; of number x it holds M x (0: none). -/
def MapIs (w : World) (b n : Nat) (M : Nat → Int) : Prop :=
  ∃ D : DataW Unit, w.ownsMap Try.prog 25 (plainElem Try.prog 3) b n D ∧ ∀ x : Nat, x < 2 ^ 64 → D.atKey (.int .u64 (x : Int)) (.lit (.int .i64 0)) = .lit (.int .i64 (M x))

theorem u64_wf {x : Nat} (h : x < 2 ^ 64) : (Lit.int .u64 (x : Int)).wf = true := WalkArith.wf_u64 (by omega)

theorem MapIs.made (w : World) : MapIs (w.alloc (.map #[] 0)) w.heap.size 0 (fun _ => 0) := ⟨_, World.ownsMap_made _ _ _ _, fun x _ => rfl⟩
theorem MapIs.lt {w : World} {b n : Nat} {M : Nat → Int} (h : MapIs w b n M) : b < w.heap.size := by obtain ⟨D, h1, _⟩ := h; exact h1.lt
theorem MapIs.same {w w' : World} {b n : Nat} {M : Nat → Int} (h : MapIs w b n M) (hb : w'.heap[b]? = w.heap[b]?) : MapIs w' b n M := by
  obtain ⟨D, ⟨es, clock, h1, h2⟩, h3⟩ := h
  exact ⟨D, ⟨es, clock, by rw [hb]; exact h1, h2⟩, h3⟩
theorem MapIs.below {w w' : World} {b n : Nat} {M : Nat → Int} (h : MapIs w b n M) (hb : Below w.heap.size w w') : MapIs w' b n M := h.same (hb.block b h.lt)
theorem MapIs.only {S : Nat → Prop} {w w' : World} {b n : Nat} {M : Nat → Int} (h : MapIs w b n M) (ho : Only S w w') (hs : ¬ S b) : MapIs w' b n M := h.same (ho.block b h.lt hs)
theorem MapIs.mono {w : World} {b n n' : Nat} {M : Nat → Int} (h : MapIs w b n M) (hn : n ≤ n') : MapIs w b n' M := by
  obtain ⟨D, h1, h2⟩ := h
  exact ⟨D, h1.mono hn, h2⟩
theorem MapIs.ne_own {w : World} {b n : Nat} {M : Nat → Int} (h : MapIs w b n M) {base : Nat} {e : TypeId} {size : Nat} {v : Value} {m : Nat} {xs : List Value} (ho : w.ownsRow base e size v m xs) : v.ownBlock ≠ some b := by
  obtain ⟨D, ⟨es, clock, h1, _⟩, _⟩ := h
  rcases ho.2 with ⟨rfl, _⟩ | ⟨g, cap, cur, rfl, _, hh, _⟩
  · simp [Value.ownBlock]
  · simp only [Value.ownBlock]
    intro he
    injection he with he
    subst he
    rw [h1] at hh
    simp at hh
theorem MapIs.ne_blk {w : World} {b n : Nat} {M : Nat → Int} (h : MapIs w b n M) {g : Nat} {T : TypeId} {L : List Value} (hb : blk w g T L) : g ≠ b := by
  obtain ⟨D, ⟨es, clock, h1, _⟩, _⟩ := h
  rintro rfl
  unfold blk at hb
  rw [h1] at hb
  simp at hb
theorem MapIs.look {w : World} {b n : Nat} {M : Nat → Int} (h : MapIs w b n M) {x : Nat} (hx : x < 2 ^ 64) :
    (Instr.lookup 30 (.map (some b)) (.int .u64 (x : Int)) false).run Try.prog w = .ok (.int .i64 (M x)) w := by
  obtain ⟨D, h1, h2⟩ := h
  obtain ⟨c, hrun, hat, _⟩ := h1.lookup_int law25 Try.underlying30 Try.underlying3 (zero3 w) (keyOf_int_mk Try.underlying25 (u64_wf hx))
  rw [h2 x hx] at hat
  simp only [DataW.lit.injEq, Lit.int.injEq, true_and] at hat
  rw [hrun, hat]
theorem MapIs.put {w : World} {b n : Nat} {M : Nat → Int} (h : MapIs w b n M) {x : Nat} (hx : x < 2 ^ 64) {c : Int} (hc : (Lit.int .i64 c).wf = true) (hn : n < maxLen) :
    ∃ w', (Instr.mapUpdate 30 (.map (some b)) (.int .u64 (x : Int)) (.int .i64 c)).run Try.prog w = .ok () w' ∧ MapIs w' b (n + 1) (fun y => if y = x then c else M y) ∧ Only (fun k => k = b) w w' := by
  obtain ⟨D, h1, h2⟩ := h
  obtain ⟨w', hrun, h3, h4⟩ := h1.update law25 Try.underlying30 hn (keyOf_int_mk Try.underlying25 (u64_wf hx)) (plainElem_int Try.underlying3 hc)
  refine ⟨w', hrun, ⟨_, h3, fun y hy => ?_⟩, (Only.refl _ _).grown h4 (fun k hk => .inl (by injection hk with hk; exact hk.symm))⟩
  show _ = DataW.lit (Lit.int .i64 (if y = x then c else M y))
  by_cases hxy : y = x
  · subst hxy
    rw [if_pos rfl]
    exact atKey_put_same (k := .int .u64 (y : Int)) h1.isMap trivial _ _
  · rw [if_neg hxy, atKey_put_other (by
      intro e
      injection e with _ e
      omega)]
    exact h2 y hy

end Go.Proofs.Ytaoeamkkbopioaa
