/- space: bools as they come in; SpaceMinds: plain, and the walk. -/
import Derived.Test.YtmnmpmiocgfalaaSo
import Derived.Test.YtmnmpmiocgfalaaMv
namespace Go.Proofs.Ytmnmpmiocgfalaa
open Go.ChangeShapes Go.WideShapes Go.RowKit
set_option linter.unusedVariables false
set_option linter.unusedSimpArgs false

/-- Bools, as they come in. -/
def BoolsAt (w : World) (p : Option Addr) (X : List Bool) : Prop :=
  0 < X.length → ∃ g o, p = some ⟨g, o, none⟩ ∧ g < w.heap.size ∧ ∀ (i : Nat) x, X[i]? = some x → w.cell? ⟨g, o + i, none⟩ = some (.bool x)
section
variable {H : Type} {enc : TypeId × Value → H} {w : World} {base : Nat} {spare : Nat → Bool} {held : Bool}
theorem bools_view {a : Option Addr} {len cap : Nat} {fuel : Nat} {x : DataW H × List MemPlace} (h : DataW.trod enc Try.prog w base spare held fuel 51 [.slice a len cap] = some x) :
    ∃ X : List Bool, X.length = len ∧ BoolsAt w a X ∧ len ≤ maxLen := by
  obtain ⟨hm, hv⟩ := rows_view (C := 1) Try.underlying51 (by kernel_rfl) (by omega) h
  rcases Nat.eq_zero_or_pos len with h0 | h0
  · subst h0
    exact ⟨[], rfl, fun h => by simp at h, hm⟩
  · obtain ⟨g, o, n, rfl, hg, hi⟩ := hv h0
    obtain ⟨X, hl, hp⟩ := list_of (α := Bool) (p := fun i m => w.cell? ⟨g, o + i, none⟩ = some (.bool m)) (n := len) (by
      intro i hil
      obtain ⟨cs, y, h1, h2, h3⟩ := hi i hil
      obtain ⟨n0, e0, _⟩ := DataW.trod_bool Try.underlying4 h3
      subst e0
      have := h2 0 _ rfl
      rw [Nat.mul_one, Nat.add_zero] at this
      exact ⟨n0, this⟩)
    exact ⟨X, hl, fun _ => ⟨g, o, rfl, hg, hp⟩, hm⟩
end

/-- How many of the first j are so. -/
def cntB (X : List Bool) (j : Nat) : Nat := ((X.take j).filter id).length
theorem cntB_succ {X : List Bool} {j : Nat} {x : Bool} (h : X[j]? = some x) : cntB X (j + 1) = cntB X j + (if x = true then 1 else 0) := by
  unfold cntB
  rw [List.take_add_one, h, List.filter_append, List.length_append]
  cases x <;> simp
theorem cntB_le (X : List Bool) (j : Nat) : cntB X j ≤ j := by
  unfold cntB
  exact Nat.le_trans (List.length_filter_le _ _) (by rw [List.length_take]; omega)

/-- A space to which the packets below j were laid, those of X as asking ones. -/
structure MindL (X : List Bool) (j : Nat) (s : Sp) : Prop where
  next : s.next = j
  fine : s.fine
  bn : s.L.bn = 0
  bi : s.L.bi = false
  all : ∀ p ∈ s.L.op, p.size = 10 ∧ p.asks = true ∧ p.num < j ∧ X[p.num]? = some true
  many : s.L.op.length = cntB X j
theorem MindL.start (X : List Bool) : MindL X 0 Sp0 := ⟨rfl, rfl, rfl, rfl, fun p hp => (by cases hp), by simp [Sp0, S0, cntB]⟩
theorem MindL.step {X : List Bool} {j : Nat} {s : Sp} {x : Bool} (h : MindL X j s) (hx : X[j]? = some x) (hj : j < 100) (fa : Option Addr) (fl fc : Nat) : ∃ s', sentSp s j 10 x fa fl fc = (s', j, 0) ∧ MindL X (j + 1) s' := by
  have hf : s.next = if s.L.li = true then s.L.ln + 1 else 0 := h.fine
  have hn := h.next
  have hbad : badNum s.L s.next = false := by
    unfold badNum
    rw [Bool.or_eq_false_iff, decide_eq_false_iff_not, Bool.and_eq_false_iff]
    refine ⟨by omega, ?_⟩
    by_cases hl : s.L.li = true
    · rw [if_pos hl] at hf
      right
      rw [decide_eq_false_iff_not]
      omega
    · left
      simpa using hl
  have hcl := cntB_le X j
  have hml := h.many
  cases x
  · refine ⟨{ s with L := { s.L with ln := j, li := true }, next := s.next + 1 }, ?_, ?_⟩
    · unfold sentSp skipF
      simp only [Bool.false_eq_true, if_false, hbad]
      rw [hn]
      rfl
    · refine ⟨by show s.next + 1 = j + 1; rw [hn], by show s.next + 1 = _; rw [hn]; rfl, h.bn, h.bi, fun p hp => ?_, by show s.L.op.length = _; rw [cntB_succ hx, h.many]; rfl⟩
      have := h.all p hp
      exact ⟨this.1, this.2.1, by omega, this.2.2.2⟩
  · have hs : sentBad s.L ⟨s.next, j, 10, true, fa, fl, fc⟩ = false := by
      unfold sentBad
      simp only [hbad, Bool.false_or, Bool.or_eq_false_iff, decide_eq_false_iff_not]
      omega
    refine ⟨{ s with L := { s.L with op := s.L.op ++ [⟨s.next, j, 10, true, fa, fl, fc⟩], ln := j, li := true }, next := s.next + 1 }, ?_, ?_⟩
    · unfold sentSp sentF
      have h5 : ¬ 500 ≤ s.L.op.length := by omega
      rw [hn] at hs ⊢
      simp only [if_true, hs, Bool.false_eq_true, if_false, h5]
    · refine ⟨by show s.next + 1 = j + 1; rw [hn], by show s.next + 1 = _; rw [hn]; rfl, h.bn, h.bi, fun p hp => ?_, by show (s.L.op ++ [_]).length = _; rw [cntB_succ hx, List.length_append, h.many]; rfl⟩
      rw [List.mem_append, List.mem_singleton] at hp
      rcases hp with hp | rfl
      · have := h.all p hp
        exact ⟨this.1, this.2.1, by omega, this.2.2.2⟩
      · exact ⟨rfl, rfl, by show s.next < _; omega, by show X[s.next]? = _; rw [hn]; exact hx⟩
theorem fly10 : ∀ (l : List Pk), (∀ p ∈ l, p.size = 10 ∧ p.asks = true) → flyF l = 10 * l.length
  | [], _ => rfl
  | p :: l, h => by
    have h1 := h p (by simp)
    unfold flyF
    rw [h1.1, h1.2, fly10 l (fun q hq => h q (by simp [hq])), List.length_cons]
    simp
    omega
/-- The end: all that ask are told, none is left. -/
theorem MindL.ack {X : List Bool} {j : Nat} {s : Sp} (h : MindL X j s) (hj : 0 < j) : ackE s.L [(0, j - 1)] = 0 ∧ ackT s.L [(0, j - 1)] = s.L.op ∧ (ackS s.L [(0, j - 1)]).op = [] := by
  have hf : s.next = if s.L.li = true then s.L.ln + 1 else 0 := h.fine
  have hn := h.next
  have hli : s.L.li = true := by
    by_cases hl : s.L.li = true
    · exact hl
    · rw [if_neg hl] at hf; omega
  rw [if_pos hli] at hf
  have h1 : [(0, j - 1)].any formB = false := by simp [formB]
  have h2 : [(0, j - 1)].any (rangeB s.L.li s.L.ln) = false := by simp [rangeB, hli]; omega
  have hall : ∀ p ∈ s.L.op, ackP [(0, j - 1)] p = true := by
    intro p hp
    have := h.all p hp
    simp [ackP, inR]
    omega
  have hn0 : ¬ ([(0, j - 1)].any formB = true ∨ [(0, j - 1)].any (rangeB s.L.li s.L.ln) = true) := by rw [h1, h2]; simp
  refine ⟨?_, ?_, ?_⟩
  · unfold ackE; rw [if_neg (by rw [h1]; simp), if_neg (by rw [h2]; simp)]
  · unfold ackT; rw [if_neg hn0]
    exact List.filter_eq_self.2 hall
  · unfold ackS; rw [if_neg hn0]
    simp only
    rw [List.filter_eq_nil_iff]
    intro p hp
    simp [hall p hp]

def kindF (x : Bool) : Frm := ⟨if x = true then 1 else 28, 0, 0, 0, false, ⟨#[]⟩, ⟨#[]⟩, none, [], 0⟩
theorem kind_asks (x : Bool) : [kindF x].any asksF = x := by cases x <;> rfl
theorem kind_fit (x : Bool) : ∀ f ∈ [kindF x], f.fit := by
  intro f hf
  rw [List.mem_singleton] at hf
  subst hf
  cases x <;> exact ⟨by decide, by decide, by decide, by decide, by decide, by decide, by decide⟩
theorem one_frs {y : World} {P : Nat} {f : Frm} (h : blk y P 43 f.vals) : FrsAt y (some ⟨P, 0, none⟩) [f] := by
  intro _
  refine ⟨P, 0, rfl, h.lt, fun i f hf j x hx => ?_⟩
  have hi : i = 0 := by
    have := (List.getElem?_eq_some_iff.1 hf).1
    simp at this
    omega
  subst hi
  simp at hf
  subst hf
  rw [show 0 + 0 * 8 + j = j by omega]
  exact h.cell hx
theorem minds_sent {X : List Bool} {j B b P : Nat} {v u : Value} {s : Sp} {x : Bool} {y : World} (h : SpIs B b v u s y) (hm : MindL X j s) (hx : X[j]? = some x) (hj : j < 100) (hp : blk y P 43 (kindF x).vals) :
    Calls Try.prog 16 #[.pointer (some ⟨b, 0, none⟩), .int .u64 (j : Int), .int .u64 10, .slice (some ⟨P, 0, none⟩) 1 1] y fun e z => e = .returned (.tuple #[.int .u64 (j : Int), .int .i64 0]) ∧ ∃ v' s', MindL X (j + 1) s' ∧ SpTo B b v u y s' v' u z := by
  refine (Sent_sp B b v u s y j 10 (some ⟨P, 0, none⟩) 1 [kindF x] h hm.fine (one_frs hp) (kind_fit x) (show 1 ≤ 1000 by decide)).mono ?_
  rintro e z ⟨fa, fc, v', h1, h2, -⟩
  obtain ⟨s', e1, e2⟩ := hm.step hx hj fa [kindF x].length fc
  rw [kind_asks, e1] at h1 h2
  exact ⟨h1, v', s', e2, h2⟩
theorem minds_fly {X : List Bool} {j B b : Nat} {v u : Value} {s : Sp} {y : World} (h : SpIs B b v u s y) (hm : MindL X j s) :
    Calls Try.prog 18 #[.pointer (some ⟨b, 0, none⟩)] y fun e z => e = .returned (.int .u64 (10 * (cntB X j : Int))) ∧ Below y.heap.size y z := by
  refine (Flying_any B b _ _ v s.L y h.led h.inv.len1 (fun q hq => (h.inv.le q hq).2.2)).mono ?_
  rintro e z ⟨h1, h2⟩
  rw [fly10 _ (fun p hp => ⟨(hm.all p hp).1, (hm.all p hp).2.1⟩), hm.many] at h1
  exact ⟨by rw [h1]; simp, h2⟩

end Go.Proofs.Ytmnmpmiocgfalaa
