/- fields: what a table was told is told by its place; sizes: plain. -/
import Derived.Test.YtkggjcfiomddeaaGg
namespace Go.Proofs.Ytkggjcfiomddeaa
open Go.ChangeShapes Go.WideShapes Go.RowKit
set_option linter.unusedVariables false
set_option linter.unusedSimpArgs false

/-- A list that is written. -/
def WOk (L : List Fl) : Prop := L.length ≤ 100 ∧ ∀ f ∈ L, mayFl f = true

theorem where_none_all {L : List Fl} (h : ¬ 0 ≤ whereF L (fun f => !mayFl f)) : ∀ f ∈ L, mayFl f = true := by
  intro f hf
  obtain ⟨i, hi, rfl⟩ := List.getElem_of_mem hf
  have := where_neg h i _ (List.getElem?_eq_getElem hi)
  simpa using this
theorem where_all2 {L : List Fl} (h : ∀ f ∈ L, mayFl f = true) : ¬ 0 ≤ whereF L (fun f => !mayFl f) := by
  intro h0
  obtain ⟨i, _, hi, hp⟩ := where_is h0
  have hm : L.getD i emptyF ∈ L := by
    rw [List.getD_eq_getElem?_getD, List.getElem?_eq_getElem hi]
    exact List.getElem_mem hi
  rw [h _ hm] at hp
  cases hp

theorem write_ok {S : Tbl} {L : List Fl} (h : WOk L) : writeF S L = ((foldW S L).1, (foldW S L).2.1, secF (foldW S L).1.l (foldW S L).2.2 L, 0) := by
  unfold writeF
  rw [if_neg (by have := h.1; omega), if_neg (where_all2 h.2)]
theorem write_bad {S : Tbl} {L : List Fl} (h : ¬ WOk L) : ∃ E : Int, writeF S L = (S, ⟨#[]⟩, ⟨#[]⟩, E) ∧ (E = 4 ∨ E = 2) := by
  unfold writeF
  by_cases h1 : 100 < L.length
  · exact ⟨4, by rw [if_pos h1], .inl rfl⟩
  · by_cases h2 : 0 ≤ whereF L (fun f => !mayFl f)
    · exact ⟨2, by rw [if_neg h1, if_pos h2], .inr rfl⟩
    · exact absurd ⟨by omega, where_none_all h2⟩ h

theorem fold_inv {S : Tbl} (h : S.Ok) (L : List Fl) : InvW S L (foldW S L) := by
  have := InvW.fold h L L.length (Nat.le_refl _)
  rw [List.take_length] at this
  exact this

theorem again_come {S0 : Tbl} {L : List Fl} {st : Tbl × ByteArray × Int} (h : InvW S0 L st) : ∀ f ∈ L, comeF st.1 f = (st.1, ⟨#[]⟩) := by
  intro f hf
  unfold comeF
  by_cases h1 : f ∈ fixedL
  · rw [if_pos (.inl ((has_iff _ _).2 h1))]
  · by_cases h2 : f ∈ st.1.l
    · rw [if_pos (.inr (.inl ((has_iff _ _).2 h2)))]
    · have h3 := (h.2.2.2.2.2 f hf h1).2 h2
      have h4 : (addF st.1 f).2 = false := by unfold addF; rw [if_pos h3]
      rw [if_pos (.inr (.inr h4))]

def ndF (l : List Fl) (L : List Fl) (m : Int) : Int := L.foldl (fun m f => if hasF fixedL f = true then m else max m (idxF l f + 1)) m
theorem fold_same (S : Tbl) : ∀ (L : List Fl) (t : ByteArray) (m : Int), (∀ f ∈ L, comeF S f = (S, ⟨#[]⟩)) → L.foldl stepW (S, t, m) = (S, t, ndF S.l L m)
  | [], t, m, _ => rfl
  | f :: L, t, m, h => by
    have hf := h f (List.mem_cons_self ..)
    have e : stepW (S, t, m) f = (S, t, if hasF fixedL f = true then m else max m (idxF S.l f + 1)) := by
      unfold stepW
      simp only [hf]
      rw [ba_app_empty]
    rw [List.foldl_cons, e, fold_same S L t _ (fun g hg => h g (List.mem_cons_of_mem _ hg))]
    rfl
theorem nd_le (l : List Fl) (M : Int) : ∀ (L : List Fl) (m : Int), m ≤ M → (∀ f ∈ L, f ∉ fixedL → idxF l f < M) → ndF l L m ≤ M
  | [], m, h, _ => h
  | f :: L, m, h, hf => by
    have e : ndF l (f :: L) m = ndF l L (if hasF fixedL f = true then m else max m (idxF l f + 1)) := rfl
    rw [e]
    refine nd_le l M L _ ?_ (fun g hg => hf g (List.mem_cons_of_mem _ hg))
    by_cases h1 : hasF fixedL f = true
    · rw [if_pos h1]; exact h
    · rw [if_neg h1]
      have := hf f (List.mem_cons_self ..) (fun hm => h1 ((has_iff _ _).2 hm))
      omega
theorem nd_ge (l : List Fl) : ∀ (L : List Fl) (m : Int), m ≤ ndF l L m ∧ ∀ f ∈ L, f ∉ fixedL → idxF l f + 1 ≤ ndF l L m
  | [], m => ⟨Int.le_refl _, fun f hf => by cases hf⟩
  | f :: L, m => by
    have e : ndF l (f :: L) m = ndF l L (if hasF fixedL f = true then m else max m (idxF l f + 1)) := rfl
    rw [e]
    obtain ⟨h1, h2⟩ := nd_ge l L (if hasF fixedL f = true then m else max m (idxF l f + 1))
    refine ⟨?_, fun g hg hgf => ?_⟩
    · by_cases hc : hasF fixedL f = true
      · rw [if_pos hc] at h1 ⊢; exact h1
      · rw [if_neg hc] at h1 ⊢; omega
    · rcases List.mem_cons.1 hg with rfl | hg
      · have hn : ¬ hasF fixedL g = true := fun hm => hgf ((has_iff _ _).1 hm)
        rw [if_neg hn] at h1 ⊢
        omega
      · exact h2 g hg hgf

/-- What is needed stands in the list. -/
def InvM (done : List Fl) (st : Tbl × ByteArray × Int) : Prop := 0 ≤ st.2.2 ∧ (st.2.2 = 0 ∨ ∃ f ∈ done, f ∉ fixedL ∧ f ∈ st.1.l ∧ idxF st.1.l f + 1 = st.2.2)
theorem InvM.step {done : List Fl} {st : Tbl × ByteArray × Int} (h : InvM done st) (g : Fl) : InvM (done ++ [g]) (stepW st g) := by
  obtain ⟨S, told, m⟩ := st
  obtain ⟨h0, h1⟩ := h
  simp only at h0 h1
  unfold stepW
  have hkeep : ∀ f, f ∈ S.l → f ∈ (comeF S g).1.l ∧ idxF (comeF S g).1.l f = idxF S.l f := by
    intro f hf
    rcases comeF_cases S g with ⟨e, _⟩ | ⟨_, _, _, e⟩
    · rw [e]; exact ⟨hf, rfl⟩
    · rw [e]; exact ⟨List.mem_append_left _ hf, idx_app hf _⟩
  have hold : m = 0 ∨ ∃ f ∈ done ++ [g], f ∉ fixedL ∧ f ∈ (comeF S g).1.l ∧ idxF (comeF S g).1.l f + 1 = m := by
    rcases h1 with h1 | ⟨f, hf, hx, hl, he⟩
    · exact .inl h1
    · obtain ⟨k1, k2⟩ := hkeep f hl
      exact .inr ⟨f, List.mem_append_left _ hf, hx, k1, by rw [k2]; exact he⟩
  unfold InvM
  simp only
  by_cases hx : hasF fixedL g = true
  · rw [if_pos hx]
    exact ⟨h0, hold⟩
  · rw [if_neg hx]
    refine ⟨by omega, ?_⟩
    by_cases hm : idxF (comeF S g).1.l g + 1 ≤ m
    · rw [Int.max_eq_left hm]
      exact hold
    · rw [Int.max_eq_right (by omega)]
      refine .inr ⟨g, List.mem_append_right _ (List.mem_singleton.2 rfl), fun hm => hx ((has_iff _ _).2 hm), ?_, rfl⟩
      rw [← has_iff]
      unfold hasF
      exact decide_eq_true (by omega)
theorem InvM.fold (S : Tbl) (L : List Fl) : ∀ j, j ≤ L.length → InvM (L.take j) (foldW S (L.take j))
  | 0, _ => ⟨Int.le_refl _, .inl rfl⟩
  | j + 1, hj => by
    have hg : L[j]? = some (L[j]'(by omega)) := List.getElem?_eq_getElem (by omega)
    rw [foldW_succ S L j _ hg, List.take_add_one, hg, Option.toList_some]
    exact (InvM.fold S L j (by omega)).step _

/-- WHAT A TABLE WAS TOLD IS TOLD BY ITS PLACE: a list that is written again tells nothing, and is the same section. -/
theorem fold_again {S : Tbl} (hS : S.Ok) (L : List Fl) : foldW (foldW S L).1 L = ((foldW S L).1, ⟨#[]⟩, (foldW S L).2.2) := by
  have hi := fold_inv hS L
  have hm := InvM.fold S L L.length (Nat.le_refl _)
  rw [List.take_length] at hm
  have hc := again_come hi
  have e : foldW (foldW S L).1 L = ((foldW S L).1, ⟨#[]⟩, ndF (foldW S L).1.l L 0) := fold_same _ L _ _ hc
  rw [e]
  have h1 := nd_le (foldW S L).1.l (foldW S L).2.2 L 0 hi.2.1 (fun f hf hx => (hi.2.2.2.2.2 f hf hx).1)
  obtain ⟨h2, h3⟩ := nd_ge (foldW S L).1.l L 0
  have h4 : (foldW S L).2.2 ≤ ndF (foldW S L).1.l L 0 := by
    rcases hm.2 with h | ⟨f, hf, hx, _, he⟩
    · rw [h]; exact h2
    · rw [← he]; exact h3 f hf hx
  rw [Int.le_antisymm h1 h4]

theorem again_write {S : Tbl} (hS : S.Ok) {L : List Fl} (h : WOk L) : writeF (foldW S L).1 L = ((foldW S L).1, ⟨#[]⟩, secF (foldW S L).1.l (foldW S L).2.2 L, 0) := by
  rw [write_ok h, fold_again hS L]

theorem numberF_pos (n k h : Nat) : 1 ≤ (numberF n k h).length := by unfold numberF; split <;> simp
theorem nF_pos (n k h : Int) : 1 ≤ (nF n k h).size := by unfold nF; rw [txt_size]; exact numberF_pos _ _ _
theorem tF_pos (s : ByteArray) (k h : Int) : 1 ≤ (tF s k h).size := by
  unfold tF
  rw [txt_size]
  unfold textB
  split
  · rw [List.length_append]; have := numberF_pos (packF (byt s)).length (k.toNat - 1) (h.toNat ||| 2 ^ (k.toNat - 1)); omega
  · rw [List.length_append]; have := numberF_pos (byt s).length (k.toNat - 1) h.toNat; omega
theorem nF_two (n : Int) (hn : 0 ≤ n ∧ n ≤ 127) : (nF n 6 128).size ≤ 2 := by
  unfold nF
  rw [txt_size]
  show (numberF n.toNat 6 128).length ≤ 2
  unfold numberF
  split
  · simp
  · rw [List.length_cons, tailF_small _ (by simp only [Nat.reducePow]; omega)]
    simp

theorem one_le (l : List Fl) (m : Int) (f : Fl) (hm : 0 ≤ m ∧ m ≤ 100) (hi : idxF fixedL f < 0 → idxF l f < m) : (oneF l m f).size ≤ (oneF [] 0 f).size := by
  unfold oneF
  by_cases h1 : 0 ≤ idxF fixedL f
  · rw [if_pos h1, if_pos h1]
    exact Nat.le_refl _
  · have hlt := hi (by omega)
    have h0 : idxF [] f = -1 := idx_neg (by simp)
    rw [if_neg h1, if_neg h1, h0, if_neg (show ¬ (0 : Int) ≤ -1 by omega)]
    by_cases h2 : 0 ≤ idxF l f
    · rw [if_pos h2]
      have := nF_two (m - 1 - idxF l f) (by omega)
      have := nF_pos (namedF f.1) 4 80
      have := tF_pos f.1 4 32
      have := tF_pos f.2 8 0
      split <;> rw [ba_app_size] <;> omega
    · rw [if_neg h2]
      exact Nat.le_refl _
theorem ones_le (l : List Fl) (m : Int) (hm : 0 ≤ m ∧ m ≤ 100) : ∀ (L : List Fl), (∀ f ∈ L, idxF fixedL f < 0 → idxF l f < m) → (onesF l m L).size ≤ (onesF [] 0 L).size
  | [], _ => Nat.le_refl _
  | f :: L, h => by
    have e1 : onesF l m (f :: L) = oneF l m f ++ onesF l m L := rfl
    have e2 : onesF [] 0 (f :: L) = oneF [] 0 f ++ onesF [] 0 L := rfl
    rw [e1, e2, ba_app_size, ba_app_size]
    have := one_le l m f hm (h f (List.mem_cons_self ..))
    have := ones_le l m hm L (fun g hg => h g (List.mem_cons_of_mem _ hg))
    omega

theorem nF8_one (m : Int) (hm : 0 ≤ m ∧ m ≤ 100) : (nF m 8 0).size = 1 := by
  unfold nF
  rw [txt_size]
  show (numberF m.toNat 8 0).length = 1
  unfold numberF
  rw [if_pos (by simp only [Nat.reducePow]; omega)]
  rfl
theorem sec_size (l : List Fl) (m : Int) (L : List Fl) (hm : 0 ≤ m ∧ m ≤ 100) : (secF l m L).size = 2 + (onesF l m L).size := by
  unfold secF
  rw [fold_ones, ba_app_size, ba_app_size, nF8_one m hm]
  have e : (⟨#[0]⟩ : ByteArray).size = 1 := rfl
  omega

theorem not_fixed {f : Fl} (h : idxF fixedL f < 0) : f ∉ fixedL := by
  intro hm
  have := (has_iff fixedL f).2 hm
  unfold hasF at this
  have := of_decide_eq_true this
  omega

/-- Facts of a list that was written to a table of its own. -/
theorem wrote {S : Tbl} (hS : S.Ok) {L : List Fl} (h : WOk L) : 0 ≤ (foldW S L).2.2 ∧ (foldW S L).2.2 ≤ ((foldW S L).1.l.length : Int) ∧ ∀ f ∈ L, idxF fixedL f < 0 → idxF (foldW S L).1.l f < (foldW S L).2.2 := by
  have hi := fold_inv hS L
  exact ⟨hi.2.1, hi.2.2.1, fun f hf hx => (hi.2.2.2.2.2 f hf (not_fixed hx)).1⟩

theorem again_size (most : Nat) {L : List Fl} (h : WOk L) (hS : (⟨[], most, 0⟩ : Tbl).Ok) : (secF (foldW ⟨[], most, 0⟩ L).1.l (foldW ⟨[], most, 0⟩ L).2.2 L).size ≤ (secF (foldW ⟨[], 0, 0⟩ L).1.l (foldW ⟨[], 0, 0⟩ L).2.2 L).size := by
  have hi := fold_inv hS L
  obtain ⟨q1, q2, q3⟩ := wrote hS h
  obtain ⟨M, hM, hML⟩ := hi.2.2.2.2.1
  have hl : (foldW ⟨[], most, 0⟩ L).1.l.length ≤ 100 := by
    rw [hM, List.length_append]
    have := h.1
    show [].length + M.length ≤ 100
    simp
    omega
  have hc : ∀ f, comeF ⟨[], 0, 0⟩ f = (⟨[], 0, 0⟩, ⟨#[]⟩) := by
    intro f
    unfold comeF
    have h4 : (addF ⟨[], 0, 0⟩ f).2 = false := by unfold addF weigh; rw [if_pos (by show 0 < 0 + _; omega)]
    rw [if_pos (.inr (.inr h4))]
  have e : foldW ⟨[], 0, 0⟩ L = (⟨[], 0, 0⟩, ⟨#[]⟩, ndF [] L 0) := fold_same _ L _ _ (fun f _ => hc f)
  have h0 : ndF [] L 0 = 0 := by
    refine Int.le_antisymm (nd_le [] 0 L 0 (Int.le_refl _) (fun f _ _ => ?_)) (nd_ge [] L 0).1
    rw [idx_neg (by simp)]
    omega
  rw [e, h0]
  show _ ≤ (secF [] 0 L).size
  rw [sec_size _ _ _ (by omega), sec_size _ _ _ (by omega)]
  have := ones_le (foldW ⟨[], most, 0⟩ L).1.l (foldW ⟨[], most, 0⟩ L).2.2 (by omega) L q3
  omega

theorem come_size (S : Tbl) (f : Fl) (h1 : f.1.size ≤ 5000) (h2 : f.2.size ≤ 5000) : (comeF S f).2.size ≤ f.1.size + f.2.size + 6 := by
  unfold comeF
  split
  · show (0 : Nat) ≤ _; omega
  · show (tellF f).size ≤ _
    unfold tellF
    obtain ⟨m1, m2⟩ := named_rng f.1
    have := tF_size f.2 8 0 (by omega) h2
    have := tF_size f.1 6 64 (by omega) h1
    split
    · have := nF_size (namedF f.1) 6 192 (by omega) (by omega)
      rw [ba_app_size]; omega
    · rw [ba_app_size]; omega
theorem one_size (l : List Fl) (m : Int) (f : Fl) (h1 : f.1.size ≤ 5000) (h2 : f.2.size ≤ 5000) (hm : 0 ≤ m ∧ m ≤ 5000) (hi : idxF fixedL f < 0 → idxF l f < m) : (oneF l m f).size ≤ f.1.size + f.2.size + 6 := by
  unfold oneF
  obtain ⟨m1, m2⟩ := named_rng f.1
  have hr := idx_rng fixedL f
  have hfl : (fixedL.length : Int) = 12 := rfl
  have := tF_size f.2 8 0 (by omega) h2
  have := tF_size f.1 4 32 (by omega) h1
  split
  · have := nF_size (idxF fixedL f) 6 192 (by omega) (by omega); omega
  · have := hi (by omega)
    split
    · have := nF_size (m - 1 - idxF l f) 6 128 (by omega) (by omega); omega
    · split
      · have := nF_size (namedF f.1) 4 80 (by omega) (by omega)
        rw [ba_app_size]; omega
      · rw [ba_app_size]; omega
theorem flSum_cons (f : Fl) (L : List Fl) : flSum (f :: L) = f.1.size + f.2.size + flSum L := by unfold flSum; simp
theorem tells_size : ∀ (L : List Fl) (S : Tbl), (∀ f ∈ L, mayFl f = true) → (tellsF S L).size ≤ flSum L + 6 * L.length
  | [], S, _ => Nat.zero_le _
  | f :: L, S, h => by
    have e : tellsF S (f :: L) = (comeF S f).2 ++ tellsF (comeF S f).1 L := rfl
    obtain ⟨_, q1, q2⟩ := (mayFl_iff f).1 (h f (List.mem_cons_self ..))
    have := come_size S f (by omega) (by omega)
    have := tells_size L (comeF S f).1 (fun g hg => h g (List.mem_cons_of_mem _ hg))
    rw [e, ba_app_size, flSum_cons, List.length_cons]
    omega
theorem ones_size (l : List Fl) (m : Int) (hm : 0 ≤ m ∧ m ≤ 5000) : ∀ (L : List Fl), (∀ f ∈ L, mayFl f = true ∧ (idxF fixedL f < 0 → idxF l f < m)) → (onesF l m L).size ≤ flSum L + 6 * L.length
  | [], _ => Nat.zero_le _
  | f :: L, h => by
    have e : onesF l m (f :: L) = oneF l m f ++ onesF l m L := rfl
    obtain ⟨h1, h2⟩ := h f (List.mem_cons_self ..)
    obtain ⟨_, q1, q2⟩ := (mayFl_iff f).1 h1
    have := one_size l m f (by omega) (by omega) hm h2
    have := ones_size l m hm L (fun g hg => h g (List.mem_cons_of_mem _ hg))
    rw [e, ba_app_size, flSum_cons, List.length_cons]
    omega
/-- What is told, and a section, are no longer than may be read. -/
theorem sizes {S : Tbl} (hS : S.Ok) {L : List Fl} (h : WOk L) (hs : Small L) : (foldW S L).2.1.size ≤ 3600 ∧ (secF (foldW S L).1.l (foldW S L).2.2 L).size ≤ 3604 := by
  have hi := fold_inv hS L
  obtain ⟨q1, q2, q3⟩ := wrote hS h
  have hok := hi.1
  have hml : (foldW S L).2.2 ≤ 5000 := by have := hok.2.1; have := hok.2.2; omega
  have h1 := tells_size L S h.2
  have h2 := ones_size (foldW S L).1.l (foldW S L).2.2 ⟨q1, hml⟩ L (fun f hf => ⟨h.2 f hf, q3 f hf⟩)
  have h3 := h.1
  have h4 := hs.2.2
  rw [foldW_told]
  refine ⟨by omega, ?_⟩
  unfold secF
  rw [fold_ones, ba_app_size, ba_app_size]
  have := nF_size (foldW S L).2.2 8 0 (by omega) (by omega)
  have e : (⟨#[0]⟩ : ByteArray).size = 1 := rfl
  omega

end Go.Proofs.Ytkggjcfiomddeaa
