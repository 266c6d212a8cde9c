/- fields: fields in plain words, as slices; contracts of Fixed, may, slices.Index, slices.Contains. -/
import Derived.Test.YtgnoiheekgmleaaFc
namespace Go.Proofs.Ytgnoiheekgmleaa
open Go.ChangeShapes Go.WideShapes Go.RowKit
set_option linter.unusedVariables false

/-- A field: a name and a value. -/
abbrev Fl := ByteArray × ByteArray
def Fl.v (f : Fl) : Value := .agg #[.string f.1, .string f.2]
def flc (L : List Fl) : List Value := L.flatMap fun f => [.string f.1, .string f.2]

theorem flc_length (L : List Fl) : (flc L).length = L.length * 2 := by
  induction L with
  | nil => rfl
  | cons f L ih =>
    have e : flc (f :: L) = [.string f.1, .string f.2] ++ flc L := rfl
    rw [e, List.length_append, ih, List.length_cons]
    simp
    omega
theorem flc_at (L : List Fl) : ∀ (i : Nat) (f : Fl), L[i]? = some f → (flc L)[i * 2]? = some (.string f.1) ∧ (flc L)[i * 2 + 1]? = some (.string f.2) := by
  induction L with
  | nil => intro i f h; simp at h
  | cons g L ih =>
    intro i f h
    have e : flc (g :: L) = .string g.1 :: .string g.2 :: flc L := rfl
    cases i with
    | zero =>
      simp at h
      subst h
      exact ⟨rfl, rfl⟩
    | succ i =>
      simp only [List.getElem?_cons_succ] at h
      have := ih i f h
      rw [e, show (i + 1) * 2 = i * 2 + 2 by omega]
      exact this

/-- These fields lie where the slice begins. -/
def FV (w : World) (p : Option Addr) (L : List Fl) : Prop :=
  0 < L.length → ∃ g o, p = some ⟨g, o, none⟩ ∧ g < w.heap.size ∧ ∀ i f, L[i]? = some f → w.cell? ⟨g, o + i * 2, none⟩ = some (.string f.1) ∧ w.cell? ⟨g, o + i * 2 + 1, none⟩ = some (.string f.2)

theorem FV.below {w w' : World} {p : Option Addr} {L : List Fl} (h : FV w p L) (hb : Below w.heap.size w w') : FV w' p L := by
  intro hl
  obtain ⟨g, o, e, hg, hc⟩ := h hl
  refine ⟨g, o, e, Nat.lt_of_lt_of_le hg hb.size, fun i f hf => ?_⟩
  obtain ⟨h1, h2⟩ := hc i f hf
  exact ⟨(hb.cell (p := ⟨g, o + i * 2, none⟩) hg).trans h1, (hb.cell (p := ⟨g, o + i * 2 + 1, none⟩) hg).trans h2⟩

theorem FV.of_blk {w : World} {g : Nat} {T : TypeId} {L : List Fl} (h : blk w g T (flc L)) : FV w (some ⟨g, 0, none⟩) L := by
  intro _
  refine ⟨g, 0, rfl, h.lt, fun i f hf => ?_⟩
  obtain ⟨h1, h2⟩ := flc_at L i f hf
  rw [Nat.zero_add]
  exact ⟨h.cell h1, h.cell h2⟩

def bs (l : List UInt8) : ByteArray := ⟨l.toArray⟩
/-- The fixed table. -/
def fixedL : List Fl := [(bs [58, 109, 101, 116, 104, 111, 100], bs [71, 69, 84]), (bs [58, 109, 101, 116, 104, 111, 100], bs [80, 79, 83, 84]), (bs [58, 112, 97, 116, 104], bs [47]), (bs [58, 115, 99, 104, 101, 109, 101], bs [104, 116, 116, 112, 115]),
  (bs [58, 115, 116, 97, 116, 117, 115], bs [50, 48, 48]), (bs [58, 115, 116, 97, 116, 117, 115], bs [52, 48, 52]), (bs [58, 97, 117, 116, 104, 111, 114, 105, 116, 121], bs []), (bs [99, 111, 110, 116, 101, 110, 116, 45, 116, 121, 112, 101], bs [116, 101, 120, 116, 47, 104, 116, 109, 108]),
  (bs [99, 111, 110, 116, 101, 110, 116, 45, 108, 101, 110, 103, 116, 104], bs [48]), (bs [97, 99, 99, 101, 112, 116], bs [42, 47, 42]), (bs [99, 111, 111, 107, 105, 101], bs []), (bs [115, 101, 114, 118, 101, 114], bs [])]

theorem Fixed_any (w : World) : Calls Try.prog 44 #[] w fun e w' => e = .returned (.slice (some ⟨w.heap.size, 0, none⟩) 12 12) ∧ blk w' w.heap.size 66 (flc fixedL) ∧ Below w.heap.size w w' := by
  have hb : blk (w.alloc (.cells (flc fixedL).toArray 66)) w.heap.size 66 (flc fixedL) := blk.new w _ _
  have hbl : Below w.heap.size w (w.alloc (.cells (flc fixedL).toArray 66)) := (Below.refl _ _).alloc (Nat.le_refl _) _
  have HB := Lib.hid (And.intro hb hbl)
  clear hb hbl
  go_enter Try.func44, Try.ntmps44
  go_wp2_with fail
  go_ret
  exact ⟨rfl, HB.out.1, HB.out.2⟩

/-- May a field be? -/
def mayFl (f : Fl) : Bool := decide (0 < f.1.size) && decide (f.1.size ≤ 100) && decide (f.2.size ≤ 200)

theorem ne_list (l : List UInt8) : l.isEmpty = !decide (0 < l.length) := by
  cases l with
  | nil => rfl
  | cons a l => simp only [List.isEmpty_cons, List.length_cons, Nat.zero_lt_succ, decide_true, Bool.not_true]
theorem ne_size (s : ByteArray) : s.toList.isEmpty = !decide (0 < s.size) := by
  rw [ByteArray.toList_eq, ne_list]
  have e : s.data.toList.length = s.size := Array.length_toList
  rw [e]

set_option maxHeartbeats 1000000 in
theorem may_any (f : Fl) (w : World) : Calls Try.prog 41 #[f.v] w fun e w' => e = .returned (.bool (mayFl f)) ∧ Below w.heap.size w w' := by
  obtain ⟨n, v⟩ := f
  unfold Fl.v mayFl
  simp only
  have he := ne_size n
  obtain ⟨c1, h1⟩ : ∃ c, decide (0 < n.size) = c := ⟨_, rfl⟩
  obtain ⟨c2, h2⟩ : ∃ c, decide (n.size ≤ 100) = c := ⟨_, rfl⟩
  obtain ⟨c3, h3⟩ : ∃ c, decide (v.size ≤ 200) = c := ⟨_, rfl⟩
  have g2 : decide ((n.size : Int) ≤ 100) = c2 := by rw [← h2, decide_eq_decide]; omega
  have g3 : decide ((v.size : Int) ≤ 200) = c3 := by rw [← h3, decide_eq_decide]; omega
  rw [h1, h2, h3]
  rw [h1] at he
  have HB : Hid (∀ o : Obj, Below w.heap.size w (w.alloc o)) := Lib.hid (fun o => (Below.refl _ _).alloc (Nat.le_refl _) _)
  clear h1 h2 h3
  cases c1 <;> cases c2 <;> simp only [Bool.not_true, Bool.not_false] at he
  all_goals
    go_enter Try.func41, Try.ntmps41
    go_wp2_with fail
    go_ret
    exact ⟨rfl, HB.out _⟩

/-- The first place of a field; below 0: there is none. -/
def idxF (L : List Fl) (f : Fl) : Int := match L.findIdx? (fun g => decide (g = f)) with | some i => (i : Int) | none => -1

theorem ba_eq {a b : ByteArray} (h : (a.toList == b.toList) = true) : b = a := by
  rw [beq_iff_eq, ByteArray.toList_eq, ByteArray.toList_eq] at h
  apply ByteArray.ext
  exact (Array.toList_inj.1 h).symm

theorem fnd_at (L : List Fl) (f : Fl) (j : Nat) (g : Fl) (hg : L[j]? = some g) (hb : ∀ i, i < j → ∀ q, L[i]? = some q → q ≠ f) (he : g = f) : idxF L f = (j : Int) := by
  unfold idxF
  have : L.findIdx? (fun g => decide (g = f)) = some j := by
    rw [List.findIdx?_eq_some_iff_getElem]
    have hj : j < L.length := (List.getElem?_eq_some_iff.1 hg).1
    refine ⟨hj, ?_, ?_⟩
    · have := (List.getElem?_eq_some_iff.1 hg).2
      simp [this, he]
    · intro i hi
      have := hb i hi (L[i]'(by omega)) (List.getElem?_eq_getElem (by omega))
      simpa using this
  rw [this]

theorem fnd_none (L : List Fl) (f : Fl) (hb : ∀ i, i < L.length → ∀ q, L[i]? = some q → q ≠ f) : idxF L f = -1 := by
  unfold idxF
  have : L.findIdx? (fun g => decide (g = f)) = none := by
    rw [List.findIdx?_eq_none_iff]
    intro x hx
    obtain ⟨i, hi, rfl⟩ := List.getElem_of_mem hx
    have := hb i hi _ (List.getElem?_eq_getElem hi)
    simpa using this
  rw [this]

set_option maxRecDepth 100000 in
set_option maxHeartbeats 4000000 in
theorem Index_any (L : List Fl) (p : Option Addr) (cap : Nat) (f : Fl) (w : World) (hL : FV w p L) (hlen : L.length ≤ 10000) :
    Calls Try.prog 45 #[.slice p L.length cap, f.v] w fun e w' => e = .returned (.int .i64 (idxF L f)) ∧ Below w.heap.size w w' := by
  obtain ⟨N, hN⟩ : ∃ N, L.length = N := ⟨_, rfl⟩
  rw [hN] at hlen ⊢
  have hbx := blk.new w 66 [.string f.1, .string f.2]
  have hbb : Below w.heap.size w (w.alloc (.cells [.string f.1, .string f.2].toArray 66)) := (Below.refl _ _).alloc (Nat.le_refl _) _
  have q0 := hbx.cell (k := 0) rfl
  have q1 := hbx.cell (k := 1) rfl
  have hL2 := hL.below hbb
  obtain ⟨W, hW⟩ : ∃ W, w.alloc (.cells [.string f.1, .string f.2].toArray 66) = W := ⟨_, rfl⟩
  rw [hW] at q0 q1 hL2 hbb
  have HN := Lib.hid hN
  have HL := Lib.hid hL2
  have HBB := Lib.hid hbb
  have hWt : w.alloc (.cells #[.string f.1, .string f.2] 66) = W := hW
  obtain ⟨n0, v0⟩ := f
  unfold Fl.v
  simp only at q0 q1 hWt ⊢
  clear hN hL hL2 hbb hbx hW
  go_enter Try.func45, Try.ntmps45
  go_wp2_with fail
  go_loopw [5, 8] (fun _ i wr => ∃ j : Nat, j ≤ N ∧ i = .int .i64 j ∧ (∀ i, i < j → ∀ q, L[i]? = some q → q ≠ (n0, v0)) ∧ Below W.heap.size W wr) (fun _ i _ => N - (intOf i).toNat)
  case atStart => exact ⟨0, by omega, rfl, fun i hi => by omega, Below.refl _ _⟩
  case round =>
    obtain ⟨j, hj, rfl, hno, hbw⟩ := hrel
    have HNO := Lib.hid hno
    have HBW := Lib.hid hbw
    clear hno
    by_cases hlt : j < N
    · have hjl : j < L.length := by rw [HN.out]; exact hlt
      obtain ⟨q, hq⟩ : ∃ q, L[j]? = some q := ⟨_, List.getElem?_eq_getElem hjl⟩
      obtain ⟨g, o, rfl, hg, hc⟩ := HL.out (by omega)
      obtain ⟨k1, k2⟩ := hc j q hq
      obtain ⟨gn, gv⟩ := q
      simp only at k1 k2
      have HQ := Lib.hid hq
      have r1 := (hbw.cell (p := ⟨g, o + j * 2, none⟩) hg).trans k1
      have r2 := (hbw.cell (p := ⟨g, o + j * 2 + 1, none⟩) hg).trans k2
      have r3 := (hbw.cell (p := ⟨w.heap.size, 0, none⟩) (World.block_lt_of_cell? _ _ q0)).trans q0
      have r4 := (hbw.cell (p := ⟨w.heap.size, 1, none⟩) (World.block_lt_of_cell? _ _ q1)).trans q1
      obtain ⟨b1, hb1⟩ : ∃ b, (n0.toList == gn.toList) = b := ⟨_, rfl⟩
      obtain ⟨b2, hb2⟩ : ∃ b, (v0.toList == gv.toList) = b := ⟨_, rfl⟩
      have Hb1 := Lib.hid hb1
      have Hb2 := Lib.hid hb2
      clear hc k1 k2 hq hjl hbw
      cases b1 <;> cases b2
      case true.true =>
        go_wp2_with fail
        go_quiet (fail)
        go_wp2_with fail
        go_ret
        refine ⟨?_, HBB.out.trans ((below_drewN HBW.out _).mono HBB.out.size)⟩
        have e := fnd_at L (n0, v0) j (gn, gv) HQ.out HNO.out (by rw [ba_eq Hb1.out, ba_eq Hb2.out])
        rw [e]
        rfl
      all_goals
        have hnq : (gn, gv) ≠ (n0, v0) := by
          intro e
          injection e with e1 e2
          subst e1 e2
          rw [beq_self_eq_true] at hb1 hb2
          revert hb1 hb2
          decide
        have HNQ := Lib.hid hnq
        clear hnq
        go_wp2_with fail
        go_quiet (fail)
        go_wp2_with fail
        go_roundw
        case rel => exact ⟨j + 1, by omega, by go_num, fun i hi q hq => by
          rcases Nat.lt_succ_iff_lt_or_eq.1 hi with h | h
          · exact HNO.out i h q hq
          · subst h
            rw [HQ.out] at hq
            injection hq with hq
            rw [← hq]
            exact HNQ.out, below_drewN HBW.out _⟩
        case measure => simp [intOf]; omega
    · obtain rfl : j = N := by omega
      have e := fnd_none L (n0, v0) (fun i hi q hq => HNO.out i (by rw [← HN.out]; exact hi) q hq)
      have HE := Lib.hid e
      clear e
      go_wp2_with fail
      go_ret
      exact ⟨by rw [HE.out]; rfl, HBB.out.trans (HBW.out.mono HBB.out.size)⟩

end Go.Proofs.Ytgnoiheekgmleaa
