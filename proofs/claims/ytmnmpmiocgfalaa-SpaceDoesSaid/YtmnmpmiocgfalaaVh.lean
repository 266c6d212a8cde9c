/- space: plain: the program's space and the reference's, side by side: packets that tell the same, frames apart. -/
import Derived.Test.YtmnmpmiocgfalaaVb
namespace Go.Proofs.Ytmnmpmiocgfalaa
open Go.ChangeShapes Go.WideShapes Go.RowKit
set_option linter.unusedVariables false
set_option linter.unusedSimpArgs false

/-- A packet of both sides: as the program holds it; where the reference's frames lie; the frames. -/
structure Row where
  p : Pk
  ra : Option Addr
  rc : Nat
  fs : List Frm
def Row.r (x : Row) : Pk := { x.p with fa := x.ra, fc := x.rc }
/-- The reference's space beside a space of the program's. -/
def twin (s : Sp) (rows : List Row) : Sp := { s with L := { s.L with op := rows.map Row.r } }

theorem filter_r (rows : List Row) (f : Pk → Bool) (hf : ∀ x : Row, f x.r = f x.p) : (rows.map Row.r).filter f = (rows.filter (fun x => f x.p)).map Row.r := by
  rw [List.filter_map]
  congr 1
  apply List.filter_congr
  intro x _
  exact hf x
theorem filter_p (rows : List Row) (f : Pk → Bool) : (rows.map Row.p).filter f = (rows.filter (fun x => f x.p)).map Row.p := by
  rw [List.filter_map]
  rfl

theorem twin_sent {s : Sp} {rows : List Row} (h : s.L.op = rows.map Row.p) (now size : Nat) (asks : Bool) (fa ra : Option Addr) (fl fc rc : Nat) (fs : List Frm) :
    ∃ rows', (rows' = rows ∨ asks = true ∧ (sentSp s now size asks fa fl fc).2.2 = 0 ∧ rows' = rows ++ [⟨⟨s.next, now, size, true, fa, fl, fc⟩, ra, rc, fs⟩]) ∧
      (sentSp s now size asks fa fl fc).1.L.op = rows'.map Row.p ∧ sentSp (twin s rows) now size asks ra fl rc = (twin (sentSp s now size asks fa fl fc).1 rows', (sentSp s now size asks fa fl fc).2) := by
  unfold sentSp
  cases asks with
  | false =>
    refine ⟨rows, .inl rfl, ?_, ?_⟩
    · simp only [Bool.false_eq_true, if_false]
      unfold skipF
      by_cases hb : badNum s.L s.next = true
      · rw [if_pos hb]; exact h
      · rw [if_neg hb]; exact h
    · have e : badNum (twin s rows).L (twin s rows).next = badNum s.L s.next := rfl
      simp only [Bool.false_eq_true, if_false]
      unfold skipF
      rw [e]
      by_cases hb : badNum s.L s.next = true
      · rw [if_pos hb, if_pos hb]; rfl
      · rw [if_neg hb, if_neg hb]; rfl
  | true =>
    have e : sentBad (twin s rows).L ⟨(twin s rows).next, now, size, true, ra, fl, rc⟩ = sentBad s.L ⟨s.next, now, size, true, fa, fl, fc⟩ := rfl
    have el : (twin s rows).L.op.length = s.L.op.length := by rw [h]; show (rows.map Row.r).length = _; rw [List.length_map, List.length_map]
    simp only [if_true]
    unfold sentF
    rw [e, el]
    by_cases hb : sentBad s.L ⟨s.next, now, size, true, fa, fl, fc⟩ = true
    · rw [if_pos hb, if_pos hb]
      exact ⟨rows, .inl rfl, h, rfl⟩
    · rw [if_neg hb, if_neg hb]
      by_cases hm : 500 ≤ s.L.op.length
      · rw [if_pos hm, if_pos hm]
        exact ⟨rows, .inl rfl, h, rfl⟩
      · rw [if_neg hm, if_neg hm]
        refine ⟨rows ++ [⟨⟨s.next, now, size, true, fa, fl, fc⟩, ra, rc, fs⟩], .inr (by simp), ?_, ?_⟩
        · simp only [if_true, List.map_append, List.map_cons, List.map_nil]
          rw [h]
        · simp only [if_true]
          unfold twin
          simp only [List.map_append, List.map_cons, List.map_nil]
          rfl
theorem sent_fine {s : Sp} (h : s.fine) (now size : Nat) (asks : Bool) (fa : Option Addr) (fl fc : Nat) : (sentSp s now size asks fa fl fc).1.fine := by
  unfold sentSp
  cases asks with
  | false =>
    simp only [Bool.false_eq_true, if_false]
    unfold skipF
    by_cases hb : badNum s.L s.next = true
    · rw [if_pos hb]; exact h
    · rw [if_neg hb]; rfl
  | true =>
    simp only [if_true]
    unfold sentF
    by_cases hb : sentBad s.L ⟨s.next, now, size, true, fa, fl, fc⟩ = true
    · rw [if_pos hb]; exact h
    · rw [if_neg hb]
      by_cases hm : 500 ≤ s.L.op.length
      · rw [if_pos hm]; exact h
      · rw [if_neg hm]; rfl

theorem twin_got (s : Sp) (rows : List Row) (num now : Nat) (asks : Bool) :
    gotSp (twin s rows) num now asks = (twin (gotSp s num now asks).1 rows, (gotSp s num now asks).2) ∧ (gotSp s num now asks).1.L = s.L ∧ (gotSp s num now asks).1.next = s.next := by
  unfold gotSp
  have e1 : (twin s rows).R = s.R := rfl
  rw [e1]
  split
  · exact ⟨rfl, rfl, rfl⟩
  · split
    · exact ⟨rfl, rfl, rfl⟩
    · exact ⟨rfl, rfl, rfl⟩

theorem ack_good {S : Lg} {rs : List (Nat × Nat)} (hE : ackE S rs = 0) : ¬ (rs.any formB = true ∨ rs.any (rangeB S.li S.ln) = true) := by
  unfold ackE at hE
  rintro (e | e)
  · rw [if_pos e] at hE; cases hE
  · split at hE
    · cases hE
    · first | (rw [if_pos e] at hE; cases hE) | cases hE
theorem twin_ack {s : Sp} {rows : List Row} (h : s.L.op = rows.map Row.p) {rs : List (Nat × Nat)} (hE : ackE s.L rs = 0) :
    ackS (twin s rows).L rs = (twin { s with L := ackS s.L rs } (rows.filter (fun x => !ackP rs x.p))).L ∧ (ackS s.L rs).op = (rows.filter (fun x => !ackP rs x.p)).map Row.p ∧
      ackT s.L rs = (rows.filter (fun x => ackP rs x.p)).map Row.p ∧ ackT (twin s rows).L rs = (rows.filter (fun x => ackP rs x.p)).map Row.r ∧ (ackS s.L rs).ln = s.L.ln ∧ (ackS s.L rs).li = s.L.li := by
  have hg := ack_good hE
  have hg2 : ¬ (rs.any formB = true ∨ rs.any (rangeB (twin s rows).L.li (twin s rows).L.ln) = true) := hg
  unfold ackS ackT
  rw [if_neg hg, if_neg hg2, if_neg hg, if_neg hg2]
  have hop : (twin s rows).L.op = rows.map Row.r := rfl
  rw [hop, h, filter_p rows (ackP rs), filter_p rows (fun q => !ackP rs q), filter_r rows (ackP rs) (fun _ => rfl), filter_r rows (fun q => !ackP rs q) (fun _ => rfl)]
  exact ⟨rfl, rfl, rfl, rfl, rfl, rfl⟩
theorem tF_r (rows : List Row) (top now : Nat) : tF (rows.map Row.r) top now = tF (rows.map Row.p) top now := by
  unfold tF
  rw [List.find?_map, List.find?_map]
  have e : ((fun p : Pk => decide (p.num = top)) ∘ Row.r) = ((fun p : Pk => decide (p.num = top)) ∘ Row.p) := rfl
  rw [e]
  cases rows.find? _ with
  | none => rfl
  | some x => rfl
theorem twin_lost {s : Sp} {rows : List Row} (h : s.L.op = rows.map Row.p) (now wait : Nat) :
    (twin s rows).L.op.filter (lostP s.L.bi s.L.bn now wait) = (rows.filter (fun x => lostP s.L.bi s.L.bn now wait x.p)).map Row.r ∧
      s.L.op.filter (lostP s.L.bi s.L.bn now wait) = (rows.filter (fun x => lostP s.L.bi s.L.bn now wait x.p)).map Row.p ∧
      (twin s rows).L.op.filter (fun p => !lostP s.L.bi s.L.bn now wait p) = (rows.filter (fun x => !lostP s.L.bi s.L.bn now wait x.p)).map Row.r ∧
      s.L.op.filter (fun p => !lostP s.L.bi s.L.bn now wait p) = (rows.filter (fun x => !lostP s.L.bi s.L.bn now wait x.p)).map Row.p := by
  have hop : (twin s rows).L.op = rows.map Row.r := rfl
  rw [hop, h]
  exact ⟨filter_r rows _ (fun _ => rfl), filter_p rows _, filter_r rows (fun p => !lostP s.L.bi s.L.bn now wait p) (fun _ => rfl), filter_p rows (fun p => !lostP s.L.bi s.L.bn now wait p)⟩
theorem twin_due (bi : Bool) (bn : Nat) (rows : List Row) : dueM bi bn (rows.map Row.r) = dueM bi bn (rows.map Row.p) := by
  unfold dueM
  rw [List.foldl_map, List.foldl_map]
  rfl
theorem twin_fly : ∀ rows : List Row, flyF (rows.map Row.r) = flyF (rows.map Row.p)
  | [] => rfl
  | x :: rows => by
    have := twin_fly rows
    simp only [List.map_cons, flyF]
    rw [this]
    rfl
theorem twin_last (rows : List Row) : lastF (rows.map Row.r) = lastF (rows.map Row.p) := by
  unfold lastF
  rw [List.foldl_map, List.foldl_map]
  rfl
theorem twin_empty (rows : List Row) : (rows.map Row.r).isEmpty = (rows.map Row.p).isEmpty := by cases rows <;> rfl
/-- What is asked of a ledger's words holds of the other one's too. -/
theorem twin_inv {s : Sp} {rows : List Row} (h : s.L.op = rows.map Row.p) (hi : Inv s.L) : Inv (twin s rows).L := by
  have hop : (twin s rows).L.op = rows.map Row.r := rfl
  refine ⟨hi.ln, hi.bl, fun e => ?_, hi.bi, ?_, ?_, ?_⟩
  · obtain ⟨h1, h2, h3⟩ := hi.li e
    rw [h] at h1
    refine ⟨?_, h2, h3⟩
    rw [hop]
    have : rows = [] := by simpa using h1
    rw [this]; rfl
  · have := hi.len
    rw [h, List.length_map] at this
    rw [hop, List.length_map]
    exact this
  · intro q hq
    rw [hop, List.mem_map] at hq
    obtain ⟨x, hx, rfl⟩ := hq
    exact hi.le x.p (by rw [h]; exact List.mem_map_of_mem hx)
  · have := hi.up
    rw [h, List.pairwise_map] at this
    rw [hop, List.pairwise_map]
    exact this

end Go.Proofs.Ytmnmpmiocgfalaa
