/- space: SpaceTakes: plain laws; two spaces in memory. -/
import Derived.Test.YtmnmpmiocgfalaaSp
namespace Go.Proofs.Ytmnmpmiocgfalaa
open Go.ChangeShapes Go.WideShapes Go.RowKit
set_option linter.unusedVariables false
set_option linter.unusedSimpArgs false

theorem RgAt.of_row {w : World} {B n cap : Nat} {p : Option Addr} {L : List Rg} (h : w.ownsRow B 47 2 (.slice p n cap) n (rgs L)) : RgAt w p L := by
  intro h0
  have hl := h.1
  rw [rgs_length] at hl
  obtain ⟨g, cap1, hv, _, hg, hc, _⟩ := own_view h (by omega)
  injection hv with hv _ _
  refine ⟨g, 0, hv, hg, fun i r hr => ?_⟩
  have h1 := hc (i * 2 + 0) (.int .u64 (r.1 : Int)) (by rw [rgs_at L i r hr 0 (by omega)]; rfl)
  have h2 := hc (i * 2 + 1) (.int .u64 (r.2 : Int)) (by rw [rgs_at L i r hr 1 (by omega)]; rfl)
  rw [Nat.zero_add]
  exact ⟨h1, h2⟩

theorem sent_plain {s : Sp} {j : Nat} (hf : s.fine) (hn : s.next = j) (hj : j < 100) (hl : s.L.op.length < 500) (fa : Option Addr) (fl fc : Nat) :
    sentSp s j 10 true fa fl fc = ({ s with L := { s.L with op := s.L.op ++ [⟨j, j, 10, true, fa, fl, fc⟩], ln := j, li := true }, next := j + 1 }, j, 0) := by
  have hf2 : s.next = if s.L.li = true then s.L.ln + 1 else 0 := hf
  have hbad : badNum s.L s.next = false := by
    unfold badNum
    rw [Bool.or_eq_false_iff, decide_eq_false_iff_not, Bool.and_eq_false_iff]
    refine ⟨by omega, ?_⟩
    by_cases hl : s.L.li = true
    · rw [if_pos hl] at hf2
      right
      rw [decide_eq_false_iff_not]
      omega
    · left
      simpa using hl
  have hs : sentBad s.L ⟨s.next, j, 10, true, fa, fl, fc⟩ = false := by
    unfold sentBad
    simp only [hbad, Bool.false_or, Bool.or_eq_false_iff, decide_eq_false_iff_not]
    omega
  unfold sentSp sentF
  have h5 : ¬ 500 ≤ s.L.op.length := by omega
  rw [hn] at hs ⊢
  simp only [if_true, hs, Bool.false_eq_true, if_false, h5]

/-- All packets below j were laid down. -/
structure AllL (j : Nat) (s : Sp) : Prop where
  next : s.next = j
  fine : s.fine
  nums : s.L.op.map (·.num) = List.range j
theorem AllL.start : AllL 0 Sp0 := ⟨rfl, rfl, rfl⟩
theorem AllL.len {j : Nat} {s : Sp} (h : AllL j s) : s.L.op.length = j := by
  have := congrArg List.length h.nums
  simpa using this
theorem AllL.step {j : Nat} {s : Sp} (h : AllL j s) (hj : j < 100) (fa : Option Addr) (fl fc : Nat) : ∃ s', sentSp s j 10 true fa fl fc = (s', j, 0) ∧ AllL (j + 1) s' :=
  ⟨_, sent_plain h.fine h.next hj (by rw [h.len]; omega) fa fl fc, rfl, rfl, by
    show (s.L.op ++ [_]).map _ = _
    rw [List.map_append, h.nums, List.range_succ]
    rfl⟩

/-- Of what was sent below j that of X came. -/
structure ArrL (X : List Bool) (j : Nat) (s : Sp) : Prop where
  has : ∀ n, hasR s.R n ↔ n < j ∧ X[n]? = some true
  len : s.R.length ≤ cntB X j
theorem ArrL.start (X : List Bool) : ArrL X 0 Sp0 := ⟨fun n => ⟨fun ⟨r, hr, _⟩ => (by cases hr), fun ⟨h, _⟩ => by omega⟩, Nat.zero_le _⟩
theorem ArrL.skip {X : List Bool} {j : Nat} {s : Sp} (h : ArrL X j s) (hx : X[j]? = some false) : ArrL X (j + 1) s := by
  refine ⟨fun n => ?_, by rw [cntB_succ hx]; simpa using h.len⟩
  rw [h.has]
  constructor
  · rintro ⟨h1, h2⟩; exact ⟨by omega, h2⟩
  · rintro ⟨h1, h2⟩
    refine ⟨?_, h2⟩
    by_cases e : n = j
    · subst e; rw [hx] at h2; simp at h2
    · omega
theorem covers_iff {L : List Rg} (h : OkR L) (low high : Nat) : coversR L low high = true ↔ low ≤ high ∧ ∃ r ∈ L, r.1 ≤ low ∧ high ≤ r.2 := by
  have hp := fun i r hr => place_iff L _ low h i r hr
  have hple := place_le L low
  unfold coversR
  rw [Bool.and_eq_true, decide_eq_true_iff]
  constructor
  · rintro ⟨h1, h2⟩
    refine ⟨h1, ?_⟩
    cases hq : L[placeR L low]? with
    | none => rw [hq] at h2; cases h2
    | some r =>
      rw [hq] at h2
      have h3 := of_decide_eq_true h2
      have := hp _ r hq
      exact ⟨r, List.mem_of_getElem? hq, by omega, h3⟩
  · rintro ⟨h1, r, hr, h2, h3⟩
    refine ⟨h1, ?_⟩
    obtain ⟨i, hi, e⟩ := List.getElem_of_mem hr
    have hi2 : L[i]? = some r := by rw [List.getElem?_eq_getElem hi, e]
    have h4 := hp i r hi2
    have hpi : placeR L low ≤ i := by omega
    obtain ⟨q, hq⟩ : ∃ q, L[placeR L low]? = some q := ⟨_, List.getElem?_eq_getElem (by omega)⟩
    rw [hq]
    show decide (high ≤ q.2) = true
    rw [decide_eq_true_iff]
    rcases Nat.eq_or_lt_of_le hpi with e2 | e2
    · rw [e2, hi2] at hq
      injection hq with hq
      subst hq
      exact h3
    · -- the place lies ahead of i: then its range is not above, and ranges fall
      have h5 := hp _ q hq
      have : q.1 ≤ low := by omega
      have hfall : ∀ (L : List Rg) (t : Nat), OkB t L → ∀ (a b : Nat) (x y : Rg), L[a]? = some x → L[b]? = some y → a < b → y.2 + 2 ≤ x.1 := by
        intro L
        induction L with
        | nil => intro t _ a b x y ha; simp at ha
        | cons z L ih =>
          intro t ho a b x y ha hb hab
          cases a with
          | zero =>
            simp at ha
            subst ha
            obtain ⟨b, rfl⟩ : ∃ b', b = b' + 1 := ⟨b - 1, by omega⟩
            simp at hb
            exact (OkB.below ho.2.2 y (List.mem_of_getElem? hb)).2
          | succ a =>
            obtain ⟨b, rfl⟩ : ∃ b', b = b' + 1 := ⟨b - 1, by omega⟩
            simp at ha hb
            exact ih _ ho.2.2 a b x y ha hb (by omega)
      have h6 := hfall L _ h _ _ q r hq hi2 e2
      omega
theorem has_iff {L : List Rg} (h : OkR L) (n : Nat) : coversR L n n = true ↔ hasR L n := by
  rw [covers_iff h]
  unfold hasR
  exact ⟨fun h => h.2, fun h => ⟨Nat.le_refl _, h⟩⟩
theorem ArrL.step {X : List Bool} {j : Nat} {s : Sp} (h : ArrL X j s) (hok : OkR s.R) (hx : X[j]? = some true) (hj : j < 100) (now : Nat) : ∃ s', gotSp s j now true = (s', 0) ∧ ArrL X (j + 1) s' ∧ s'.must = true := by
  have hcov : coversR s.R j j = false := by
    rw [Bool.eq_false_iff]
    intro e
    have := ((h.has j).1 ((has_iff hok j).1 e)).1
    omega
  have hcl := cntB_le X j
  have hln := h.len
  have hE : addE s.R j j = 0 := by
    unfold addE
    rw [if_neg (by omega), if_neg (by omega)]
  have hR : addR s.R j j = putR s.R j j := by unfold addR; rw [if_pos hE]
  refine ⟨_, by unfold gotSp; rw [hcov, if_neg (by simp), if_pos hE], ⟨fun n => ?_, ?_⟩, by show (s.must || true) = true; simp⟩
  · show hasR (addR s.R j j) n ↔ _
    rw [hR, (put_spec s.R _ j j hok (Nat.le_refl _) (by omega)).2 n, h.has]
    constructor
    · rintro (⟨h1, h2⟩ | ⟨h1, h2⟩)
      · have : n = j := by omega
        subst this
        exact ⟨by omega, hx⟩
      · exact ⟨by omega, h2⟩
    · rintro ⟨h1, h2⟩
      by_cases e : n = j
      · left; omega
      · right; exact ⟨by omega, h2⟩
  · show (addR s.R j j).length ≤ _
    rw [hR, cntB_succ hx]
    have := (put_len s.R j j).1
    simp only [if_true]
    omega
theorem cnt_range {X : List Bool} : ∀ j, j ≤ X.length → ((List.range j).filter (fun n => decide (X[n]? = some true))).length = cntB X j := by
  intro j
  induction j with
  | zero => intro _; simp [cntB]
  | succ j ih =>
    intro h
    obtain ⟨x, hx⟩ : ∃ x, X[j]? = some x := ⟨_, List.getElem?_eq_getElem (by omega)⟩
    rw [List.range_succ, List.filter_append, List.length_append, ih (by omega), cntB_succ hx]
    cases x <;> simp [hx]
theorem filter_map_len (op : List Pk) (f : Pk → Bool) (g : Nat → Bool) (h : ∀ p ∈ op, f p = g p.num) : (op.filter f).length = ((op.map (·.num)).filter g).length := by
  induction op with
  | nil => rfl
  | cons p op ih =>
    have h1 := h p (by simp)
    have h2 := ih (fun q hq => h q (by simp [hq]))
    simp only [List.map_cons, List.filter_cons, h1]
    split <;> simp [h2]
theorem ackP_has (rs : List (Nat × Nat)) (q : Pk) : ackP rs q = true ↔ hasR rs q.num := by
  unfold ackP hasR inR
  rw [List.any_eq_true]
  constructor
  · rintro ⟨r, h1, h2⟩
    rw [Bool.and_eq_true, decide_eq_true_eq, decide_eq_true_eq] at h2
    exact ⟨r, h1, h2⟩
  · rintro ⟨r, h1, h2⟩
    exact ⟨r, h1, by rw [Bool.and_eq_true, decide_eq_true_eq, decide_eq_true_eq]; exact h2⟩
/-- What the acknowledgement of the highest ranges takes off. -/
theorem takes {X : List Bool} {j : Nat} {sa sb : Sp} (ha : AllL j sa) (hb : ArrL X j sb) (hok : OkR sb.R) (hjX : j ≤ X.length) (n : Nat) (hne : sb.R ≠ []) :
    ackE sa.L (sb.R.take n) = 0 ∧ (∀ p ∈ ackT sa.L (sb.R.take n), p.num < j ∧ X[p.num]? = some true) ∧ (sb.R.length ≤ n → (ackT sa.L (sb.R.take n)).length = cntB X j) ∧
      ackE (ackS sa.L (sb.R.take n)) (sb.R.take n) = 0 ∧ ackT (ackS sa.L (sb.R.take n)) (sb.R.take n) = [] := by
  have hsub : ∀ r ∈ sb.R.take n, r ∈ sb.R := fun r hr => List.mem_of_mem_take hr
  have hle : ∀ r ∈ sb.R, r.1 ≤ r.2 := fun r hr => (OkB.below hok r hr).1
  have hlt : ∀ r ∈ sb.R, r.2 < j := fun r hr => ((hb.has r.2).1 ⟨r, hr, hle r hr, Nat.le_refl _⟩).1
  have hj0 : 0 < j := by
    cases hR : sb.R with
    | nil => exact absurd hR hne
    | cons r l => have := hlt r (by rw [hR]; simp); omega
  have hf : sa.next = if sa.L.li = true then sa.L.ln + 1 else 0 := ha.fine
  have hnx := ha.next
  have hli : sa.L.li = true := by
    by_cases hl : sa.L.li = true
    · exact hl
    · rw [if_neg hl] at hf; omega
  rw [if_pos hli] at hf
  have h1 : (sb.R.take n).any formB = false := by
    rw [List.any_eq_false]
    intro r hr
    have := hle r (hsub r hr)
    simp [formB]; omega
  have h2 : (sb.R.take n).any (rangeB sa.L.li sa.L.ln) = false := by
    rw [List.any_eq_false]
    intro r hr
    have := hlt r (hsub r hr)
    simp [rangeB, hli]; omega
  have hn0 : ¬ ((sb.R.take n).any formB = true ∨ (sb.R.take n).any (rangeB sa.L.li sa.L.ln) = true) := by rw [h1, h2]; simp
  have e1 : ackS sa.L (sb.R.take n) = { bestF sa.L (sb.R.take n) with op := sa.L.op.filter (fun q => !ackP (sb.R.take n) q) } := by unfold ackS; rw [if_neg hn0]
  have e2 : ackT sa.L (sb.R.take n) = sa.L.op.filter (ackP (sb.R.take n)) := by unfold ackT; rw [if_neg hn0]
  have hnum : ∀ p ∈ sa.L.op, p.num < j := by
    intro p hp
    have : p.num ∈ sa.L.op.map (·.num) := List.mem_map_of_mem hp
    rw [ha.nums, List.mem_range] at this
    exact this
  refine ⟨by unfold ackE; rw [if_neg (by rw [h1]; simp), if_neg (by rw [h2]; simp)], ?_, ?_, ?_, ?_⟩
  · intro p hp
    rw [e2, List.mem_filter] at hp
    obtain ⟨r, hr, h3⟩ := (ackP_has _ p).1 hp.2
    exact (hb.has p.num).1 ⟨r, hsub r hr, h3⟩
  · intro hl
    rw [e2, List.take_of_length_le hl, filter_map_len _ _ (fun n => decide (X[n]? = some true)) ?_, ha.nums, cnt_range j hjX]
    intro p hp
    rw [Bool.eq_iff_iff, ackP_has, hb.has, decide_eq_true_eq]
    exact ⟨fun h => h.2, fun h => ⟨hnum p hp, h⟩⟩
  · rw [e1]
    unfold ackE
    rw [if_neg (by rw [h1]; simp), if_neg]
    show ¬ (sb.R.take n).any (rangeB sa.L.li sa.L.ln) = true
    rw [h2]; simp
  · unfold ackT
    rw [e1]
    split
    · rfl
    · show (sa.L.op.filter (fun q => !ackP (sb.R.take n) q)).filter (ackP (sb.R.take n)) = []
      rw [List.filter_eq_nil_iff]
      intro p hp
      have := (List.mem_filter.1 hp).2
      simpa using this
theorem arr_none {X : List Bool} {j : Nat} {s : Sp} (h : ArrL X j s) (hjX : j ≤ X.length) (he : s.R = []) : cntB X j = 0 := by
  rw [← cnt_range j hjX, List.length_eq_zero_iff, List.filter_eq_nil_iff]
  intro n hn
  rw [List.mem_range] at hn
  intro e
  obtain ⟨r, hr, _⟩ := (h.has n).2 ⟨hn, by simpa using e⟩
  rw [he] at hr
  cases hr

end Go.Proofs.Ytmnmpmiocgfalaa
