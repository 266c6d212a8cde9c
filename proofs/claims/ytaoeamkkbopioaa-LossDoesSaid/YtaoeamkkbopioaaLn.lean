/- The ledger's plain laws: what each act does, and what holds throughout. No walk here. -/
import Derived.Test.YtaoeamkkbopioaaLm
namespace Go.Proofs.Ytaoeamkkbopioaa
open Go.ChangeShapes Go.WideShapes Go.RowKit
set_option linter.unusedVariables false

/-- What holds of a ledger throughout. -/
structure Inv (S : Lg) : Prop where
  ln : S.ln ≤ 4611686018427387903
  bl : S.bn ≤ S.ln
  li : S.li = false → S.op = [] ∧ S.ln = 0 ∧ S.bi = false
  bi : S.bi = false → S.bn = 0
  len : S.op.length ≤ 500
  le : ∀ p ∈ S.op, p.num ≤ S.ln ∧ p.time ≤ 1099511627776 ∧ p.size ≤ 1099511627776
  up : S.op.Pairwise (fun p q => p.num < q.num)

theorem Inv.start : Inv S0 := ⟨by decide, by decide, fun _ => ⟨rfl, rfl, rfl⟩, fun _ => rfl, by decide, by simp [S0], List.Pairwise.nil⟩

theorem Inv.lnb {S : Lg} (h : Inv S) : S.ln < 2 ^ 63 := Nat.lt_of_le_of_lt h.ln (by decide)
theorem Inv.bnb {S : Lg} (h : Inv S) : S.bn < 2 ^ 63 := Nat.lt_of_le_of_lt h.bl h.lnb
theorem Inv.len1 {S : Lg} (h : Inv S) : S.op.length ≤ 1000 := Nat.le_trans h.len (by decide)

theorem Inv.sent {S : Lg} (h : Inv S) (p : Pk) : Inv (sentF S p).1 := by
  unfold sentF
  by_cases hb : sentBad S p = true
  · rw [if_pos hb]; exact h
  · rw [if_neg hb]
    by_cases h5 : 500 ≤ S.op.length
    · rw [if_pos h5]; exact h
    · rw [if_neg h5]
      unfold sentBad badNum at hb
      simp only [Bool.or_eq_true, Bool.and_eq_true, decide_eq_true_eq, not_or, not_and, Nat.not_lt, Nat.not_le] at hb
      obtain ⟨⟨⟨g1, g2⟩, g3⟩, g4⟩ := hb
      have hup : ∀ q ∈ S.op, q.num < p.num := by
        intro q hq
        cases hli : S.li with
        | false => rw [(h.li hli).1] at hq; simp at hq
        | true => exact Nat.lt_of_le_of_lt (h.le q hq).1 (g2 hli)
      have hln : S.ln ≤ p.num := by
        cases hli : S.li with
        | false => rw [(h.li hli).2.1]; exact Nat.zero_le _
        | true => exact Nat.le_of_lt (g2 hli)
      refine ⟨g1, Nat.le_trans h.bl hln, fun e => by simp at e, h.bi, by simp; omega, ?_, ?_⟩
      · intro q hq
        simp only [List.mem_append, List.mem_singleton] at hq
        rcases hq with hq | rfl
        · exact ⟨Nat.le_of_lt (hup q hq), (h.le q hq).2⟩
        · exact ⟨Nat.le_refl _, g3, g4⟩
      · rw [List.pairwise_append]
        refine ⟨h.up, List.pairwise_singleton _ _, fun a ha c hc => ?_⟩
        simp only [List.mem_singleton] at hc
        subst hc
        exact hup a ha

theorem Inv.skip {S : Lg} (h : Inv S) (num : Nat) : Inv (skipF S num).1 := by
  unfold skipF
  by_cases hb : badNum S num = true
  · rw [if_pos hb]; exact h
  · rw [if_neg hb]
    unfold badNum at hb
    simp only [Bool.or_eq_true, Bool.and_eq_true, decide_eq_true_eq, not_or, not_and, Nat.not_lt, Nat.not_le] at hb
    obtain ⟨g1, g2⟩ := hb
    have hln : S.ln ≤ num := by
      cases hli : S.li with
      | false => rw [(h.li hli).2.1]; exact Nat.zero_le _
      | true => exact Nat.le_of_lt (g2 hli)
    exact ⟨g1, Nat.le_trans h.bl hln, fun e => by simp at e, h.bi, h.len, fun q hq => ⟨Nat.le_trans (h.le q hq).1 hln, (h.le q hq).2⟩, h.up⟩

theorem Inv.filter {S : Lg} (h : Inv S) (f : Pk → Bool) : Inv { S with op := S.op.filter f } :=
  ⟨h.ln, h.bl, fun e => by obtain ⟨h1, h2⟩ := h.li e; exact ⟨by show S.op.filter f = []; rw [h1]; rfl, h2⟩, h.bi, Nat.le_trans (List.length_filter_le _ _) h.len, fun p hp => h.le p (List.mem_filter.1 hp).1, h.up.filter _⟩

theorem bestN_le (bn : Nat) (rs : List (Nat × Nat)) : bn ≤ bestN bn rs := by
  induction rs generalizing bn with
  | nil => exact Nat.le_refl _
  | cons r rs ih => exact Nat.le_trans (Nat.le_max_left bn r.2) (ih _)
theorem bestN_top (bn t : Nat) (rs : List (Nat × Nat)) (h : bn ≤ t) (hr : ∀ r ∈ rs, r.2 ≤ t) : bestN bn rs ≤ t := by
  induction rs generalizing bn with
  | nil => exact h
  | cons r rs ih => exact ih _ (Nat.max_le.2 ⟨h, hr r (by simp)⟩) (fun q hq => hr q (by simp [hq]))

theorem Inv.best {S : Lg} (h : Inv S) (rs : List (Nat × Nat)) (hr : rs.any (rangeB S.li S.ln) = false) : Inv (bestF S rs) := by
  rw [List.any_eq_false] at hr
  have hr2 : ∀ r ∈ rs, S.li = true ∧ r.2 ≤ S.ln := by
    intro r hm
    have := hr r hm
    unfold rangeB at this
    simp only [Bool.or_eq_true, Bool.not_eq_true', decide_eq_true_eq, not_or, Nat.not_lt] at this
    exact ⟨by simpa using this.1, this.2⟩
  refine ⟨h.ln, bestN_top _ _ _ h.bl (fun r hm => (hr2 r hm).2), fun e => ?_, fun e => ?_, h.len, h.le, h.up⟩
  · obtain ⟨h1, h2, h3⟩ := h.li e
    refine ⟨h1, h2, ?_⟩
    cases rs with
    | nil => simp [bestF, h3]
    | cons r rs =>
      have e2 : S.li = false := e
      rw [show S.li = true from (hr2 r (by simp)).1] at e2
      exact absurd e2 (by decide)
  · simp only [bestF, Bool.or_eq_false_iff, Bool.not_eq_false'] at e
    have : rs = [] := List.isEmpty_iff.1 e.2
    subst this
    exact h.bi e.1

/-- What Acked does to a ledger. -/
def ackS (S : Lg) (rs : List (Nat × Nat)) : Lg :=
  if rs.any formB = true ∨ rs.any (rangeB S.li S.ln) = true then S else { bestF S rs with op := S.op.filter (fun q => !ackP rs q) }
def ackT (S : Lg) (rs : List (Nat × Nat)) : List Pk :=
  if rs.any formB = true ∨ rs.any (rangeB S.li S.ln) = true then [] else S.op.filter (ackP rs)

theorem Inv.ack {S : Lg} (h : Inv S) (rs : List (Nat × Nat)) : Inv (ackS S rs) := by
  unfold ackS
  by_cases hb : rs.any formB = true ∨ rs.any (rangeB S.li S.ln) = true
  · rw [if_pos hb]; exact h
  · rw [if_neg hb]
    exact (h.best rs (by cases hx : rs.any (rangeB S.li S.ln) with | false => rfl | true => exact absurd (.inr hx) hb)).filter _

theorem AckEnd.owns {B b : Nat} {T : TypeId} {rest : List Value} {v : Value} {S : Lg} {w : World} {rs : List (Nat × Nat)} {e : Ending} {w' : World} (h : AckEnd B b T rest v S w rs e w') (ho : Owns B b T rest v S w) :
    ∃ vg c v', e = .returned (.tuple #[vg, .int .i64 c]) ∧ Owns B b T rest v' (ackS S rs) w' ∧ w'.ownsRow w.heap.size 38 5 vg (ackT S rs).length (pks (ackT S rs)) ∧ (∀ k, vg.ownBlock = some k → v'.ownBlock ≠ some k) ∧ Below B w w' := by
  rcases h with ⟨h1, h2, h3⟩ | ⟨h0, h1, h2, h3⟩ | ⟨h0, h1, vg, v', h2, h3, h4, h5⟩
  · have e1 : ackS S rs = S := by unfold ackS; rw [if_pos (.inl h1)]
    have e2 : ackT S rs = [] := by unfold ackT; rw [if_pos (.inl h1)]
    rw [e1, e2]
    exact ⟨_, _, v, h2, ho.next h3, World.ownsRow_nil _ _ _ _, fun k hk => by simp [Value.ownBlock] at hk, h3.mono ho.bw⟩
  · have e1 : ackS S rs = S := by unfold ackS; rw [if_pos (.inr h1)]
    have e2 : ackT S rs = [] := by unfold ackT; rw [if_pos (.inr h1)]
    rw [e1, e2]
    exact ⟨_, _, v, h2, ho.next h3, World.ownsRow_nil _ _ _ _, fun k hk => by simp [Value.ownBlock] at hk, h3.mono ho.bw⟩
  · have hn : ¬ (rs.any formB = true ∨ rs.any (rangeB S.li S.ln) = true) := by rw [h0, h1]; simp
    have e1 : ackS S rs = { bestF S rs with op := S.op.filter (fun q => !ackP rs q) } := by unfold ackS; rw [if_neg hn]
    have e2 : ackT S rs = S.op.filter (ackP rs) := by unfold ackT; rw [if_neg hn]
    rw [e1, e2]
    exact ⟨vg, _, v', h2, h4.owns ho, h3, h5, h4.below ho⟩

theorem Told.owns {B b : Nat} {T : TypeId} {rest : List Value} {v : Value} {S : Lg} {w : World} {f : Pk → Bool} {e : Ending} {w' : World} (h : Told B b T rest v S w f e w') (ho : Owns B b T rest v S w) :
    ∃ vg v', e = .returned vg ∧ Owns B b T rest v' { S with op := S.op.filter (fun p => !f p) } w' ∧ w'.ownsRow w.heap.size 38 5 vg (S.op.filter f).length (pks (S.op.filter f)) ∧ (∀ k, vg.ownBlock = some k → v'.ownBlock ≠ some k) ∧ Below B w w' := by
  obtain ⟨vg, v', h1, h2, h3, h4⟩ := h
  exact ⟨vg, v', h1, h3.owns ho, h2, h4, h3.below ho⟩

theorem Came.owns2 {B b : Nat} {T : TypeId} {rest : List Value} {v : Value} {S S' : Lg} {w w' : World} (h : Came B b T rest v w S' w') (ho : Owns B b T rest v S w) : ∃ v', Owns B b T rest v' S' w' ∧ Below B w w' := by
  obtain ⟨v', h1⟩ := h
  exact ⟨v', h1.owns ho, h1.below ho⟩

/-- A number, or -1 of none. -/
def sg (is : Bool) (n : Nat) : Int := if is then (n : Int) else -1

def pkOf (a : Act1) (asks : Bool) : Pk := ⟨a.num, a.time, a.size, asks, none, 0, 0⟩

end Go.Proofs.Ytaoeamkkbopioaa
