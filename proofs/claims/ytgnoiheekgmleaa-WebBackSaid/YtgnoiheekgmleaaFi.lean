/- fields: what a writer writes, in plain words. -/
import Derived.Test.YtgnoiheekgmleaaFh
namespace Go.Proofs.Ytgnoiheekgmleaa
open Go.ChangeShapes Go.WideShapes Go.RowKit
set_option linter.unusedVariables false
set_option linter.unusedSimpArgs false

/-- A field is written: the table, what it is told, how many are needed. -/
def stepW (st : Tbl × ByteArray × Int) (f : Fl) : Tbl × ByteArray × Int :=
  ((comeF st.1 f).1, st.2.1 ++ (comeF st.1 f).2, if hasF fixedL f = true then st.2.2 else max st.2.2 (idxF (comeF st.1 f).1.l f + 1))
def foldW (S : Tbl) (L : List Fl) : Tbl × ByteArray × Int := L.foldl stepW (S, ⟨#[]⟩, 0)
/-- A section. -/
def secF (l : List Fl) (needs : Int) (L : List Fl) : ByteArray := L.foldl (fun a f => a ++ oneF l needs f) (nF needs 8 0 ++ ⟨#[0]⟩)
/-- What is written. -/
def writeF (S : Tbl) (L : List Fl) : Tbl × ByteArray × ByteArray × Int :=
  if 100 < L.length then (S, ⟨#[]⟩, ⟨#[]⟩, 4) else if 0 ≤ whereF L (fun f => !mayFl f) then (S, ⟨#[]⟩, ⟨#[]⟩, 2)
  else ((foldW S L).1, (foldW S L).2.1, secF (foldW S L).1.l (foldW S L).2.2 L, 0)

theorem foldW_succ (S : Tbl) (L : List Fl) (j : Nat) (f : Fl) (h : L[j]? = some f) : foldW S (L.take (j + 1)) = stepW (foldW S (L.take j)) f := by
  unfold foldW
  rw [List.take_add_one, h, Option.toList_some, List.foldl_append]
  rfl
theorem secF_succ (l : List Fl) (m : Int) (L : List Fl) (j : Nat) (f : Fl) (h : L[j]? = some f) : secF l m (L.take (j + 1)) = secF l m (L.take j) ++ oneF l m f := by
  unfold secF
  rw [List.take_add_one, h, Option.toList_some, List.foldl_append]
  rfl

/-- A field comes, or all stays. -/
theorem comeF_cases (S : Tbl) (f : Fl) : (comeF S f).1 = S ∧ (hasF fixedL f = true ∨ hasF S.l f = true ∨ S.most < S.size + weigh f) ∨
    (hasF S.l f = false ∧ hasF fixedL f = false ∧ S.size + weigh f ≤ S.most ∧ (comeF S f).1 = ⟨S.l ++ [f], S.most, S.size + weigh f⟩) := by
  unfold comeF
  by_cases h : hasF fixedL f = true ∨ hasF S.l f = true ∨ (addF S f).2 = false
  · rw [if_pos h]
    refine .inl ⟨rfl, ?_⟩
    rcases h with h | h | h
    · exact .inl h
    · exact .inr (.inl h)
    · refine .inr (.inr ?_)
      unfold addF at h
      by_cases hr : S.most < S.size + weigh f
      · exact hr
      · rw [if_neg hr] at h; cases h
  · rw [if_neg h]
    have h1 : hasF fixedL f = false := by cases hh : hasF fixedL f <;> simp_all
    have h2 : hasF S.l f = false := by cases hh : hasF S.l f <;> simp_all
    refine .inr ⟨h2, h1, ?_⟩
    unfold addF at h ⊢
    by_cases hr : S.most < S.size + weigh f
    · rw [if_pos hr] at h
      exact absurd (.inr (.inr rfl)) h
    · rw [if_neg hr]
      exact ⟨by omega, rfl⟩

theorem comeF_ok {S : Tbl} (h : S.Ok) (f : Fl) : (comeF S f).1.Ok := by
  rcases comeF_cases S f with ⟨e, _⟩ | ⟨_, _, h2, e⟩
  · rw [e]; exact h
  · rw [e]
    have := h.add f
    unfold addF at this
    rw [if_neg (by omega)] at this
    exact this

theorem idx_spec (L : List Fl) (f : Fl) : (idxF L f = -1 ∧ f ∉ L) ∨ ∃ i : Nat, idxF L f = i ∧ L[i]? = some f ∧ ∀ k, k < i → L[k]? ≠ some f := by
  unfold idxF
  cases h : L.findIdx? (fun g => decide (g = f)) with
  | none =>
    refine .inl ⟨rfl, fun hm => ?_⟩
    have := List.findIdx?_eq_none_iff.1 h f hm
    simp at this
  | some i =>
    refine .inr ⟨i, rfl, ?_⟩
    rw [List.findIdx?_eq_some_iff_getElem] at h
    obtain ⟨hi, h1, h2⟩ := h
    refine ⟨?_, fun k hk hkf => ?_⟩
    · rw [List.getElem?_eq_getElem hi]
      simp at h1
      rw [h1]
    · have := h2 k hk
      rw [List.getElem?_eq_getElem (by omega)] at hkf
      injection hkf with hkf
      simp [hkf] at this
theorem idx_neg {L : List Fl} {f : Fl} (h : f ∉ L) : idxF L f = -1 := by
  rcases idx_spec L f with ⟨e, _⟩ | ⟨i, _, h2, _⟩
  · exact e
  · exact absurd (List.mem_of_getElem? h2) h
theorem idx_pos {L : List Fl} {f : Fl} {i : Nat} (h : L[i]? = some f) (hb : ∀ k, k < i → L[k]? ≠ some f) : idxF L f = i := by
  rcases idx_spec L f with ⟨_, e⟩ | ⟨j, e, h2, h3⟩
  · exact absurd (List.mem_of_getElem? h) e
  · rw [e]
    have : ¬ j < i := fun hj => hb j hj h2
    have : ¬ i < j := fun hj => h3 i hj h
    have : i = j := by omega
    rw [this]
theorem has_iff (L : List Fl) (f : Fl) : hasF L f = true ↔ f ∈ L := by
  unfold hasF
  rw [decide_eq_true_iff]
  rcases idx_spec L f with ⟨e, h⟩ | ⟨i, e, h, _⟩
  · rw [e]
    exact ⟨fun h => by omega, fun h2 => absurd h2 h⟩
  · rw [e]
    exact ⟨fun _ => List.mem_of_getElem? h, fun _ => by omega⟩
theorem has_false (L : List Fl) (f : Fl) : hasF L f = false ↔ f ∉ L := by
  rw [← has_iff]
  cases hasF L f <;> simp
/-- What is appended doesn't move what is there. -/
theorem idx_app {L : List Fl} {f : Fl} (h : f ∈ L) (M : List Fl) : idxF (L ++ M) f = idxF L f := by
  rcases idx_spec L f with ⟨_, e⟩ | ⟨j, e, h2, h3⟩
  · exact absurd h e
  · rw [e]
    have hj : j < L.length := (List.getElem?_eq_some_iff.1 h2).1
    refine idx_pos (by rw [List.getElem?_append_left hj]; exact h2) (fun k hk => ?_)
    rw [List.getElem?_append_left (by omega)]
    exact h3 k hk

/-- What holds of a table while fields are written. -/
def InvW (S0 : Tbl) (done : List Fl) (st : Tbl × ByteArray × Int) : Prop :=
  st.1.Ok ∧ 0 ≤ st.2.2 ∧ st.2.2 ≤ st.1.l.length ∧ st.1.most = S0.most ∧ (∃ M, st.1.l = S0.l ++ M ∧ M.length ≤ done.length) ∧ ∀ f ∈ done, f ∉ fixedL → idxF st.1.l f < st.2.2 ∧ (f ∉ st.1.l → st.1.most < st.1.size + weigh f)

theorem InvW.step {S0 : Tbl} {done : List Fl} {st : Tbl × ByteArray × Int} (h : InvW S0 done st) (g : Fl) : InvW S0 (done ++ [g]) (stepW st g) := by
  obtain ⟨h1, h2, h3, h4, ⟨M, h5, h7⟩, h6⟩ := h
  obtain ⟨S, told, m⟩ := st
  simp only at h1 h2 h3 h4 h5 h6
  unfold stepW
  simp only
  have hr := idx_rng (comeF S g).1.l g
  have hok := comeF_ok h1 g
  have hfx : hasF fixedL g = true ↔ g ∈ fixedL := has_iff _ _
  have hk : (if hasF fixedL g = true then m else max m (idxF (comeF S g).1.l g + 1)) ≥ m := by split <;> omega
  rcases comeF_cases S g with ⟨e, hc⟩ | ⟨hc1, hc2, hc3, e⟩
  · rw [e] at hr hok hk ⊢
    refine ⟨hok, by simp only; omega, by simp only; split <;> omega, h4, ⟨M, h5, by simp; omega⟩, fun f hf hfix => ?_⟩
    simp only
    rcases List.mem_append.1 hf with hf | hf
    · obtain ⟨a, b⟩ := h6 f hf hfix
      exact ⟨by omega, b⟩
    · obtain rfl := List.mem_singleton.1 hf
      have : ¬ hasF fixedL f = true := fun h => hfix (hfx.1 h)
      rw [if_neg this]
      refine ⟨by omega, fun hn => ?_⟩
      rcases hc with hc | hc | hc
      · exact absurd hc this
      · exact absurd ((has_iff _ _).1 hc) hn
      · exact hc
  · rw [e] at hr hok hk ⊢
    simp only at hr hk ⊢
    rw [List.length_append, List.length_singleton] at hr
    have hgn : g ∉ S.l := (has_false _ _).1 hc1
    have hgf : ¬ hasF fixedL g = true := by rw [hc2]; simp
    refine ⟨hok, by simp only; omega, by simp only [List.length_append, List.length_singleton]; rw [if_neg hgf]; omega, h4, ⟨M ++ [g], by simp only; rw [h5, List.append_assoc], by simp; omega⟩, fun f hf hfix => ?_⟩
    simp only
    by_cases hfg : f = g
    · subst hfg
      rw [if_neg hgf]
      exact ⟨by omega, fun hn => absurd (List.mem_append_right _ (List.mem_singleton.2 rfl)) hn⟩
    · have hfd : f ∈ done := by
        rcases List.mem_append.1 hf with hf | hf
        · exact hf
        · exact absurd (List.mem_singleton.1 hf) hfg
      obtain ⟨a, b⟩ := h6 f hfd hfix
      by_cases hfs : f ∈ S.l
      · rw [idx_app hfs]
        exact ⟨by omega, fun hn => absurd (List.mem_append_left _ hfs) hn⟩
      · have hfn : f ∉ S.l ++ [g] := by
          rw [List.mem_append, List.mem_singleton]
          rintro (h | h)
          · exact hfs h
          · exact hfg h
        rw [idx_neg hfn]
        refine ⟨by omega, fun _ => ?_⟩
        have := b hfs
        omega

theorem InvW.start {S : Tbl} (h : S.Ok) : InvW S [] (S, ⟨#[]⟩, 0) := ⟨h, by simp, by simp, rfl, ⟨[], by simp, by simp⟩, fun f hf => by cases hf⟩
theorem InvW.fold {S : Tbl} (h : S.Ok) (L : List Fl) : ∀ j, j ≤ L.length → InvW S (L.take j) (foldW S (L.take j))
  | 0, _ => by simpa [foldW] using InvW.start h
  | j + 1, hj => by
    have hg : L[j]? = some (L[j]'(by omega)) := List.getElem?_eq_getElem (by omega)
    rw [foldW_succ S L j _ hg, List.take_add_one, hg, Option.toList_some]
    exact (InvW.fold h L j (by omega)).step _

theorem ba_app_size (a b : ByteArray) : (a ++ b).size = a.size + b.size := ByteArray.size_append
theorem tellF_size (f : Fl) (h1 : f.1.size ≤ 100) (h2 : f.2.size ≤ 200) : (tellF f).size ≤ 306 := by
  unfold tellF
  obtain ⟨m1, m2⟩ := named_rng f.1
  have := tF_size f.2 8 0 (by omega) (by omega)
  have := tF_size f.1 6 64 (by omega) (by omega)
  split
  · have := nF_size (namedF f.1) 6 192 (by omega) (by omega)
    rw [ba_app_size]; omega
  · rw [ba_app_size]; omega
theorem comeF_size (S : Tbl) (f : Fl) (h1 : f.1.size ≤ 100) (h2 : f.2.size ≤ 200) : (comeF S f).2.size ≤ 306 := by
  unfold comeF
  have := tellF_size f h1 h2
  split
  · show (0 : Nat) ≤ _; omega
  · exact this
theorem oneF_size (l : List Fl) (m : Int) (f : Fl) (h1 : f.1.size ≤ 100) (h2 : f.2.size ≤ 200) (hm : 0 ≤ m ∧ m ≤ 5000) (hi : idxF fixedL f < 0 → idxF l f < m) : (oneF l m f).size ≤ 306 := by
  unfold oneF
  obtain ⟨m1, m2⟩ := named_rng f.1
  have hr := idx_rng fixedL f
  have hfl : (fixedL.length : Int) = 12 := rfl
  have := tF_size f.2 8 0 (by omega) (by omega)
  have := tF_size f.1 4 32 (by omega) (by omega)
  split
  · have := nF_size (idxF fixedL f) 6 192 (by omega) (by omega); omega
  · have := hi (by omega)
    split
    · have := nF_size (m - 1 - idxF l f) 6 128 (by omega) (by omega); omega
    · split
      · have := nF_size (namedF f.1) 4 80 (by omega) (by omega)
        rw [ba_app_size]; omega
      · rw [ba_app_size]; omega

theorem mayFl_iff (f : Fl) : mayFl f = true ↔ 0 < f.1.size ∧ f.1.size ≤ 100 ∧ f.2.size ≤ 200 := by
  unfold mayFl
  simp [Bool.and_eq_true, and_assoc]
theorem where_neg {L : List Fl} {P : Fl → Bool} (h : ¬ 0 ≤ whereF L P) : ∀ (i : Nat) f, L[i]? = some f → P f = false := by
  unfold whereF at h
  cases hh : L.findIdx? P with
  | none =>
    intro i f hf
    exact List.findIdx?_eq_none_iff.1 hh f (List.mem_of_getElem? hf)
  | some i => rw [hh] at h; simp at h
theorem where_may {L : List Fl} (h : ¬ 0 ≤ whereF L (fun f => !mayFl f)) (i : Nat) (f : Fl) (hf : L[i]? = some f) : 0 < f.1.size ∧ f.1.size ≤ 100 ∧ f.2.size ≤ 200 := by
  have := where_neg h i f hf
  simp only [Bool.not_eq_false'] at this
  exact (mayFl_iff f).1 this

theorem foldW_size {S : Tbl} {L : List Fl} (h : ¬ 0 ≤ whereF L (fun f => !mayFl f)) : ∀ j, j ≤ L.length → (foldW S (L.take j)).2.1.size ≤ 306 * j
  | 0, _ => Nat.le_refl 0
  | j + 1, hj => by
    have hg : L[j]? = some (L[j]'(by omega)) := List.getElem?_eq_getElem (by omega)
    obtain ⟨q1, q2, q3⟩ := where_may h j _ hg
    rw [foldW_succ S L j _ hg]
    unfold stepW
    simp only
    have := foldW_size (S := S) h j (by omega)
    have := comeF_size (foldW S (L.take j)).1 (L[j]'(by omega)) q2 q3
    rw [ba_app_size]
    omega

/-- Fields in a slice stay, where none of its blocks is written. -/
theorem FV.only {P : Nat → Prop} {w w' : World} {p : Option Addr} {L : List Fl} (h : FV w p L) (ho : Only P w w') (hs : 0 < L.length → ∀ g o, p = some ⟨g, o, none⟩ → ¬ P g) : FV w' p L := by
  intro hl
  have hs := hs hl
  obtain ⟨g, o, e, hg, hc⟩ := h hl
  refine ⟨g, o, e, Nat.lt_of_lt_of_le hg ho.size, fun i f hf => ?_⟩
  obtain ⟨h1, h2⟩ := hc i f hf
  exact ⟨(ho.cell (p := ⟨g, o + i * 2, none⟩) hg (hs g o e)).trans h1, (ho.cell (p := ⟨g, o + i * 2 + 1, none⟩) hg (hs g o e)).trans h2⟩

theorem TabTo.step {w w1 w2 : World} {B b : Nat} {T : TypeId} {v v1 : Value} {S : Tbl} (h1 : Only (fun k => k = b ∨ v.ownBlock = some k) w w1) (hv : v1.ownBlock = v.ownBlock ∨ ∀ k, v1.ownBlock = some k → w.heap.size ≤ k) (h2 : TabTo w1 w2 B b T v1 S) : TabTo w w2 B b T v S := by
  obtain ⟨v', a1, a2, a3⟩ := h2
  refine ⟨v', a1, h1.then a2 ?_, ?_⟩
  · rintro i (hi | hi)
    · exact .inl (.inl hi)
    · rcases hv with hv | hv
      · exact .inl (.inr (by rw [← hv]; exact hi))
      · exact .inr (hv i hi)
  · rcases a3 with a3 | a3
    · rw [a3]; exact hv
    · exact .inr (fun k hk => Nat.le_trans h1.size (a3 k hk))

theorem Write1_any (f : Fl) (w : World) : Calls Try.prog 40 #[f.v] w fun e w' => e = .returned (.bool (!mayFl f)) ∧ Below w.heap.size w w' := by
  have hm := fun w => may_any f w
  obtain ⟨n, v⟩ := f
  unfold Fl.v at hm ⊢
  simp only at hm ⊢
  generalize mayFl (n, v) = c at *
  have HM := Lib.hid hm
  have HB : Hid (∀ o : Obj, Below w.heap.size w (w.alloc o)) := Lib.hid (fun o => (Below.refl _ _).alloc (Nat.le_refl _) _)
  clear hm
  go_enter Try.func40, Try.ntmps40
  go_wp2_with fail
  refine (HM.out _).mono ?_
  rintro e w1 ⟨rfl, b1⟩
  have B1 := Lib.hid ((HB.out _).trans (b1.mono (HB.out _).size))
  clear b1
  go_wp2_with fail
  go_ret
  exact ⟨rfl, B1.out⟩

end Go.Proofs.Ytgnoiheekgmleaa
