/- fields: what is written is read, in plain words. -/
import Derived.Test.YtkggjcfiomddeaaFq
import Derived.Test.YtkggjcfiomddeaaGa
namespace Go.Proofs.Ytkggjcfiomddeaa
open Go.ChangeShapes Go.WideShapes Go.RowKit
set_option linter.unusedVariables false
set_option linter.unusedSimpArgs false

theorem ofNat_toNat8 (x : Nat) (h : x < 256) : (UInt8.ofNat x).toNat = x := by simp only [UInt8.toNat_ofNat']; omega

theorem more_tail : ∀ (k i n t : Nat) (r : List UInt8), 1 ≤ k → t < 128 ^ k → (i = 0 ∨ t ≠ 0) → moreG k i n (tailF t ++ r) = (n + t * 128 ^ i, r, true)
  | 0, i, n, t, r, h1, _, _ => by omega
  | k + 1, i, n, t, r, _, ht, hi => by
    by_cases h128 : t < 128
    · rw [tailF_small t h128]
      show moreG (k + 1) i n (UInt8.ofNat t :: r) = _
      rw [moreG, ofNat_toNat8 t (by omega), if_pos h128, Nat.mod_eq_of_lt h128]
      congr 2
      rcases hi with hi | hi <;> simp [hi]
    · rw [tailF_big t h128]
      show moreG (k + 1) i n (UInt8.ofNat (t % 128 + 128) :: (tailF (t / 128) ++ r)) = _
      have hm : t % 128 < 128 := Nat.mod_lt _ (by omega)
      rw [moreG, ofNat_toNat8 _ (by omega), if_neg (by omega)]
      have hk : 1 ≤ k := by
        rcases Nat.eq_zero_or_pos k with h | h
        · subst h; simp at ht; omega
        · exact h
      rw [more_tail k (i + 1) _ (t / 128) r hk (by rw [Nat.div_lt_iff_lt_mul (by omega), ← Nat.pow_succ]; exact ht) (.inr (by omega))]
      congr 1
      rw [show (t % 128 + 128) % 128 = t % 128 by omega, Nat.pow_succ, Nat.mul_comm (128 ^ i) 128, ← Nat.mul_assoc, Nat.add_assoc, ← Nat.add_mul]
      congr 2
      omega

/-- The first byte of a number. -/
theorem number_head (n k high : Nat) (hk : 1 ≤ k ∧ k ≤ 8) (hz : high % 2 ^ k = 0) (h8 : high < 256) (r : List UInt8) :
    ∃ b t, numberF n k high ++ r = b :: t ∧ b.toNat = high + min n (2 ^ k - 1) := by
  obtain ⟨f1, f2⟩ := full_facts k hk
  have hl := high_lt high k hk hz h8
  unfold numberF
  by_cases hlt : n < 2 ^ k - 1
  · rw [if_pos hlt, high_or high n k hz (by omega)]
    refine ⟨_, r, rfl, ?_⟩
    rw [ofNat_toNat8 _ (by omega)]
    omega
  · rw [if_neg hlt, high_or high _ k hz (by omega)]
    refine ⟨_, _, rfl, ?_⟩
    rw [ofNat_toNat8 _ (by omega)]
    omega

theorem take_number (n k high : Nat) (hk : 1 ≤ k ∧ k ≤ 8) (hz : high % 2 ^ k = 0) (h8 : high < 256) (hn : n ≤ 4294967296) (r : List UInt8) : takeF (numberF n k high ++ r) k = (n, r, true) := by
  obtain ⟨f1, f2⟩ := full_facts k hk
  have hl := high_lt high k hk hz h8
  have hmod : ∀ x, x < 2 ^ k → (high + x) % 2 ^ k = x := by
    intro x hx
    rw [Nat.add_mod, hz, Nat.zero_add, Nat.mod_mod, Nat.mod_eq_of_lt hx]
  unfold numberF
  by_cases hlt : n < 2 ^ k - 1
  · rw [if_pos hlt, high_or high n k hz (by omega)]
    show takeF (UInt8.ofNat (high + n) :: r) k = _
    unfold takeF
    simp only
    rw [ofNat_toNat8 _ (by omega), hmod n (by omega), if_pos hlt]
  · rw [if_neg hlt, high_or high _ k hz (by omega)]
    show takeF (UInt8.ofNat (high + (2 ^ k - 1)) :: (tailF (n - (2 ^ k - 1)) ++ r)) k = _
    unfold takeF
    simp only
    have hm : moreF (tailF (n - (2 ^ k - 1)) ++ r) = (n - (2 ^ k - 1), r, true) := by
      have := more_tail 9 0 0 (n - (2 ^ k - 1)) r (by omega) (by have : (128 : Nat) ^ 9 = 9223372036854775808 := by decide
                                                                 omega) (.inl rfl)
      unfold moreF
      rw [this]
      simp
    rw [ofNat_toNat8 _ (by omega), hmod _ (by omega), if_neg (by omega), hm]
    simp only
    rw [if_neg]
    · congr 1
      omega
    · rintro (h | h)
      · cases h
      · omega

theorem pow_pred (k : Nat) (hk : 1 ≤ k) : 2 ^ k = 2 * 2 ^ (k - 1) := by
  obtain ⟨j, rfl⟩ : ∃ j, k = j + 1 := ⟨k - 1, by omega⟩
  rw [Nat.add_sub_cancel, Nat.pow_succ, Nat.mul_comm]

/-- A text comes back; its first byte lies in its own bits. -/
theorem take_text (l : List UInt8) (k high : Nat) (hk : 2 ≤ k ∧ k ≤ 8) (hz : high % 2 ^ k = 0) (h8 : high < 256) (hl : l.length ≤ 1000000) (r : List UInt8) :
    takeTextF (textB l k high ++ r) k = (l, r, true) ∧ ∃ b t, textB l k high ++ r = b :: t ∧ ∃ m, m < 2 ^ k ∧ b.toNat = high + m := by
  have hp := pow_pred k (by omega)
  have hpk : 1 ≤ 2 ^ (k - 1) := Nat.one_le_two_pow
  have hlt := high_lt high k (by omega) hz h8
  obtain ⟨a, ha⟩ : ∃ a, high = 2 ^ k * a := ⟨high / 2 ^ k, by have := Nat.div_add_mod high (2 ^ k); omega⟩
  have hz1 : high % 2 ^ (k - 1) = 0 := by rw [ha, hp, Nat.mul_assoc, Nat.mul_left_comm]; exact Nat.mul_mod_right _ _
  have hor : high ||| 2 ^ (k - 1) = high + 2 ^ (k - 1) := high_or high _ k hz (by omega)
  have hz2 : (high + 2 ^ (k - 1)) % 2 ^ (k - 1) = 0 := by rw [Nat.add_mod, hz1, Nat.mod_self]; simp
  have hdiv : ∀ c m, m < 2 ^ (k - 1) → (high + c * 2 ^ (k - 1) + m) / 2 ^ (k - 1) % 2 = c % 2 := by
    intro c m hm
    have e : high + c * 2 ^ (k - 1) + m = (2 * a + c) * 2 ^ (k - 1) + m := by
      rw [ha, hp, Nat.add_mul, Nat.mul_assoc 2 _ a, Nat.mul_comm _ a, ← Nat.mul_assoc 2 a]
    rw [e, Nat.mul_comm, Nat.mul_add_div (by omega), Nat.div_eq_of_lt hm]
    omega
  unfold textB
  by_cases hs : (packF l).length < l.length
  · rw [if_pos hs, hor, List.append_assoc]
    have hh8 : high + 2 ^ (k - 1) < 256 := by omega
    have ht := take_number (packF l).length (k - 1) (high + 2 ^ (k - 1)) (by omega) hz2 hh8 (by omega) (packF l ++ r)
    obtain ⟨b, t, e1, e2⟩ := number_head (packF l).length (k - 1) (high + 2 ^ (k - 1)) (by omega) hz2 hh8 (packF l ++ r)
    refine ⟨?_, b, t, e1, 2 ^ (k - 1) + min (packF l).length (2 ^ (k - 1) - 1), by omega, by omega⟩
    have hh : ((numberF (packF l).length (k - 1) (high + 2 ^ (k - 1)) ++ (packF l ++ r)).headD 0).toNat / 2 ^ (k - 1) % 2 = 1 := by
      rw [e1]
      show b.toNat / 2 ^ (k - 1) % 2 = 1
      rw [e2]
      have := hdiv 1 (min (packF l).length (2 ^ (k - 1) - 1)) (by omega)
      rw [Nat.one_mul] at this
      exact this
    unfold takeTextF
    rw [ht]
    simp only
    rw [if_neg (by rw [List.length_append]; rintro (h | h); cases h; omega), hh, if_neg (by decide), List.take_left, List.drop_left, unpack_pack]
    simp only
    rw [decide_eq_true hs]
    rfl
  · rw [if_neg hs, List.append_assoc]
    have ht := take_number l.length (k - 1) high (by omega) hz1 h8 (by omega) (l ++ r)
    obtain ⟨b, t, e1, e2⟩ := number_head l.length (k - 1) high (by omega) hz1 h8 (l ++ r)
    refine ⟨?_, b, t, e1, min l.length (2 ^ (k - 1) - 1), by omega, by omega⟩
    have hh : ((numberF l.length (k - 1) high ++ (l ++ r)).headD 0).toNat / 2 ^ (k - 1) % 2 = 0 := by
      rw [e1]
      show b.toNat / 2 ^ (k - 1) % 2 = 0
      rw [e2]
      have := hdiv 0 (min l.length (2 ^ (k - 1) - 1)) (by omega)
      rw [Nat.zero_mul, Nat.add_zero] at this
      exact this
    unfold takeTextF
    rw [ht]
    simp only
    rw [if_neg (by rw [List.length_append]; rintro (h | h); cases h; omega), hh, if_pos rfl, List.take_left, List.drop_left, decide_eq_true (by omega)]

theorem byt_app (a b : ByteArray) : byt (a ++ b) = byt a ++ byt b := by
  unfold byt
  simp [ByteArray.data_append]
theorem byt_inj {a b : ByteArray} (h : byt a = byt b) : a = b := by rw [← txt_byt a, ← txt_byt b, h]
theorem byt_nF (n k h : Int) : byt (nF n k h) = numberF n.toNat k.toNat h.toNat := by unfold nF; rw [byt_txt]
theorem byt_tF (s : ByteArray) (k h : Int) : byt (tF s k h) = textB (byt s) k.toNat h.toNat := by unfold tF; rw [byt_txt]

/-- A field's value comes back. -/
theorem val_back (n0 v : ByteArray) (r : ByteArray) (hv : v.size ≤ 1000000) : valF n0 (tF v 8 0 ++ r) = ((n0, v), r, mayFl (n0, v)) := by
  unfold valF
  rw [byt_app, byt_tF]
  have := (take_text (byt v) 8 0 (by omega) (by omega) (by omega) (by rw [byt_length]; exact hv) (byt r)).1
  show ((n0, txt (takeTextF (textB (byt v) 8 0 ++ byt r) 8).1), _, _) = _
  have e : (8 : Int).toNat = 8 := rfl
  have e0 : (0 : Int).toNat = 0 := rfl
  rw [e, e0, this]
  simp only [txt_byt, Bool.true_and]

theorem known_back (i k high : Nat) (hk : 1 ≤ k ∧ k ≤ 8) (hz : high % 2 ^ k = 0) (h8 : high < 256) (hi : i < 12) (s r : ByteArray) (hs : byt s = numberF i k high ++ byt r) : knownF s k = (fixedL.getD i emptyF, r, true) := by
  unfold knownF
  rw [hs, take_number i k high hk hz h8 (by omega)]
  rw [if_neg (by simp; omega), txt_byt]

theorem where_is {L : List Fl} {P : Fl → Bool} (h : 0 ≤ whereF L P) : ∃ i : Nat, whereF L P = i ∧ i < L.length ∧ P (L.getD i emptyF) = true := by
  unfold whereF at h ⊢
  cases hh : L.findIdx? P with
  | none => rw [hh] at h; simp at h
  | some i =>
    rw [List.findIdx?_eq_some_iff_getElem] at hh
    obtain ⟨hi, h1, _⟩ := hh
    refine ⟨i, rfl, hi, ?_⟩
    rw [List.getD_eq_getElem?_getD, List.getElem?_eq_getElem hi]
    exact h1

theorem named_is {n : ByteArray} (h : 0 ≤ namedF n) : ∃ i : Nat, namedF n = i ∧ i < 12 ∧ (fixedL.getD i emptyF).1 = n := by
  obtain ⟨i, h1, h2, h3⟩ := where_is h
  refine ⟨i, h1, h2, ?_⟩
  unfold isName at h3
  exact (ba_eq h3).symm

theorem head_of {l : List UInt8} {b : UInt8} {t : List UInt8} (h : l = b :: t) : (l.headD 0).toNat = b.toNat := by rw [h]; rfl

/-- What is told of a field is that field's instruction. -/
theorem instr_back (f : Fl) (r : ByteArray) (hf : mayFl f = true) : instrF (tellF f ++ r) = (f, r, true) := by
  obtain ⟨n, v⟩ := f
  obtain ⟨q0, q1, q2⟩ := (mayFl_iff (n, v)).1 hf
  simp only at q0 q1 q2
  unfold tellF instrF
  simp only
  by_cases hn : 0 ≤ namedF n
  · rw [if_pos hn]
    obtain ⟨i, hi, hi12, hin⟩ := named_is hn
    rw [hi]
    have hb : byt (nF (i : Int) 6 192 ++ tF v 8 0 ++ r) = numberF i 6 192 ++ byt (tF v 8 0 ++ r) := by
      rw [byt_app, byt_app, byt_nF, byt_app, List.append_assoc]
      rfl
    obtain ⟨b, t, e1, e2⟩ := number_head i 6 192 (by omega) (by decide) (by omega) (byt (tF v 8 0 ++ r))
    have hk := known_back i 6 192 (by omega) (by decide) (by omega) hi12 _ _ hb
    rw [hk, hb, head_of e1, e2, if_pos (by simp only [Nat.reducePow]; omega), if_neg (by simp)]
    simp only
    rw [hin, val_back n v r (by omega), hf]
  · rw [if_neg hn]
    have hb : byt (tF n 6 64 ++ tF v 8 0 ++ r) = textB (byt n) 6 64 ++ byt (tF v 8 0 ++ r) := by
      rw [byt_app, byt_app, byt_tF, byt_app, List.append_assoc]
      rfl
    obtain ⟨ht, b, t, e1, m, hm, e2⟩ := take_text (byt n) 6 64 (by omega) (by decide) (by omega) (by rw [byt_length]; omega) (byt (tF v 8 0 ++ r))
    simp only [Nat.reducePow] at hm
    rw [hb, head_of e1, e2, if_neg (by omega), if_pos (by omega), ht]
    simp only
    rw [if_neg (by simp), txt_byt, txt_byt, val_back n v r (by omega), hf]

/-- What is told, from the front on. -/
def tellsF (S : Tbl) : List Fl → ByteArray
  | [] => ⟨#[]⟩
  | f :: L => (comeF S f).2 ++ tellsF (comeF S f).1 L
def tblF (S : Tbl) (L : List Fl) : Tbl := L.foldl (fun S f => (comeF S f).1) S

theorem ba_assoc (a b c : ByteArray) : a ++ b ++ c = a ++ (b ++ c) := byt_inj (by simp only [byt_app, List.append_assoc])
theorem ba_empty_app (a : ByteArray) : (⟨#[]⟩ : ByteArray) ++ a = a := byt_inj (by rw [byt_app]; rfl)
theorem ba_app_empty (a : ByteArray) : a ++ (⟨#[]⟩ : ByteArray) = a := byt_inj (by rw [byt_app]; show byt a ++ [] = byt a; rw [List.append_nil])

theorem fold_told : ∀ (L : List Fl) (S : Tbl) (t : ByteArray) (m : Int), (L.foldl stepW (S, t, m)).1 = tblF S L ∧ (L.foldl stepW (S, t, m)).2.1 = t ++ tellsF S L
  | [], S, t, m => ⟨rfl, (ba_app_empty t).symm⟩
  | f :: L, S, t, m => by
    have h := fold_told L (comeF S f).1 (t ++ (comeF S f).2) (if hasF fixedL f = true then m else max m (idxF (comeF S f).1.l f + 1))
    refine ⟨h.1, ?_⟩
    rw [List.foldl_cons]
    exact h.2.trans (ba_assoc _ _ _)
theorem foldW_tab (S : Tbl) (L : List Fl) : (foldW S L).1 = tblF S L := (fold_told L S _ _).1
theorem foldW_told (S : Tbl) (L : List Fl) : (foldW S L).2.1 = tellsF S L := by rw [show (foldW S L).2.1 = _ from (fold_told L S ⟨#[]⟩ 0).2, ba_empty_app]

theorem comeF_told (S : Tbl) (f : Fl) : ((comeF S f).1 = S ∧ (comeF S f).2 = ⟨#[]⟩) ∨ ((addF S f).2 = true ∧ (comeF S f).1 = (addF S f).1 ∧ (comeF S f).2 = tellF f) := by
  unfold comeF
  by_cases h : hasF fixedL f = true ∨ hasF S.l f = true ∨ (addF S f).2 = false
  · rw [if_pos h]; exact .inl ⟨rfl, rfl⟩
  · rw [if_neg h]
    refine .inr ⟨?_, rfl, rfl⟩
    cases hh : (addF S f).2
    · exact absurd (.inr (.inr hh)) h
    · rfl

theorem tell_pos (f : Fl) : 0 < (tellF f).size := by
  unfold tellF
  split
  · rw [ba_app_size]
    have : 0 < (nF (namedF f.1) 6 192).size := by
      unfold nF
      rw [txt_size]
      obtain ⟨b, t, e, _⟩ := number_head (namedF f.1).toNat 6 192 (by omega) (by decide) (by omega) []
      rw [List.append_nil] at e
      show 0 < (numberF (namedF f.1).toNat 6 192).length
      rw [e]; simp
    omega
  · rw [ba_app_size]
    have : 0 < (tF f.1 6 64).size := by
      unfold tF
      rw [txt_size]
      show 0 < (textB (byt f.1) 6 64).length
      unfold textB
      split
      · rw [List.length_append]
        obtain ⟨b, t, e, _⟩ := number_head (packF (byt f.1)).length 5 96 (by omega) (by decide) (by omega) []
        rw [List.append_nil] at e
        show 0 < (numberF (packF (byt f.1)).length 5 96).length + _
        rw [e, List.length_cons]; omega
      · rw [List.length_append]
        obtain ⟨b, t, e, _⟩ := number_head (byt f.1).length 5 64 (by omega) (by decide) (by omega) []
        rw [List.append_nil] at e
        show 0 < (numberF (byt f.1).length 5 64).length + _
        rw [e, List.length_cons]; omega
    omega

/-- WHAT IS TOLD IS TAKEN. -/
theorem told_back : ∀ (L : List Fl) (S : Tbl) (k : Nat), (∀ f ∈ L, mayFl f = true) → (tellsF S L).size < k → toldF k S (tellsF S L) = (tblF S L, 0)
  | [], S, k, _, hk => by
    obtain ⟨k, rfl⟩ : ∃ k', k = k' + 1 := ⟨k - 1, by omega⟩
    unfold toldF
    rw [if_pos (show (tellsF S []).size = 0 from rfl)]
    rfl
  | f :: L, S, k, hm, hk => by
    have e : tellsF S (f :: L) = (comeF S f).2 ++ tellsF (comeF S f).1 L := rfl
    have et : tblF S (f :: L) = tblF (comeF S f).1 L := rfl
    have hmL : ∀ g ∈ L, mayFl g = true := fun g hg => hm g (List.mem_cons_of_mem _ hg)
    rw [e] at hk
    rw [e, et]
    rcases comeF_told S f with ⟨e1, e2⟩ | ⟨e0, e1, e2⟩
    · rw [e2, ba_empty_app, e1] at hk ⊢
      exact told_back L S k hmL hk
    · rw [e2] at hk ⊢
      rw [ba_app_size] at hk
      have hp := tell_pos f
      obtain ⟨k, rfl⟩ : ∃ k', k = k' + 1 := ⟨k - 1, by omega⟩
      unfold toldF
      rw [if_neg (by rw [ba_app_size]; omega), instr_back f _ (hm f (List.mem_cons_self ..))]
      simp only
      rw [if_neg (by simp), if_neg (by rw [e0]; simp), ← e1]
      exact told_back L _ k hmL (by omega)

theorem fixed_idx {f : Fl} (h : 0 ≤ idxF fixedL f) : ∃ i : Nat, idxF fixedL f = i ∧ i < 12 ∧ fixedL.getD i emptyF = f := by
  obtain ⟨i, h1, h2, h3⟩ := where_is (P := fun g => decide (g = f)) h
  exact ⟨i, h1, h2, of_decide_eq_true h3⟩

/-- A field of a section comes back. -/
theorem one_back (l l' : List Fl) (m : Nat) (f : Fl) (r : ByteArray) (hf : mayFl f = true) (hm : m ≤ 5000) (hl : l.take m = l'.take m) (hi : idxF fixedL f < 0 → idxF l f < (m : Int)) :
    rOneF l' m (oneF l m f ++ r) = (f, r, true) := by
  obtain ⟨n, v⟩ := f
  obtain ⟨q0, q1, q2⟩ := (mayFl_iff (n, v)).1 hf
  simp only at q0 q1 q2
  unfold oneF
  by_cases h1 : 0 ≤ idxF fixedL (n, v)
  · rw [if_pos h1]
    obtain ⟨i, hi1, hi2, hi3⟩ := fixed_idx h1
    rw [hi1]
    have hb : byt (nF (i : Int) 6 192 ++ r) = numberF i 6 192 ++ byt r := by rw [byt_app, byt_nF]; rfl
    obtain ⟨b, t, e1, e2⟩ := number_head i 6 192 (by omega) (by decide) (by omega) (byt r)
    have hk := known_back i 6 192 (by omega) (by decide) (by omega) hi2 _ _ hb
    unfold rOneF
    rw [hb, head_of e1, e2, if_pos (by simp only [Nat.reducePow]; omega), hk, hi3]
  · rw [if_neg h1]
    have hlt := hi (by omega)
    by_cases h2 : 0 ≤ idxF l (n, v)
    · rw [if_pos h2]
      rcases idx_spec l (n, v) with ⟨e, _⟩ | ⟨i, e, hli, _⟩
      · omega
      · rw [e] at hlt ⊢
        have him : i < m := by omega
        have hb : byt (nF ((m : Int) - 1 - i) 6 128 ++ r) = numberF (m - 1 - i) 6 128 ++ byt r := by
          rw [byt_app, byt_nF]
          have : ((m : Int) - 1 - i).toNat = m - 1 - i := by omega
          rw [this]
          rfl
        obtain ⟨b, t, e1, e2⟩ := number_head (m - 1 - i) 6 128 (by omega) (by decide) (by omega) (byt r)
        have hk := take_number (m - 1 - i) 6 128 (by omega) (by decide) (by omega) (by omega) (byt r)
        have hli' : l'[i]? = some (n, v) := by
          have h3 : (l.take m)[i]? = (l'.take m)[i]? := by rw [hl]
          rw [List.getElem?_take_of_lt him, List.getElem?_take_of_lt him] at h3
          rw [← h3]
          exact hli
        unfold rOneF
        rw [hb, head_of e1, e2, if_neg (by simp only [Nat.reducePow]; omega), if_pos (by simp only [Nat.reducePow]; omega), hk]
        simp only
        rw [if_neg (by simp; omega), show m - 1 - (m - 1 - i) = i by omega, List.getD_eq_getElem?_getD, hli', txt_byt]
        rfl
    · rw [if_neg h2]
      by_cases h3 : 0 ≤ namedF n
      · rw [if_pos h3]
        obtain ⟨i, hi1, hi12, hin⟩ := named_is h3
        rw [hi1]
        have hb : byt (nF (i : Int) 4 80 ++ tF v 8 0 ++ r) = numberF i 4 80 ++ byt (tF v 8 0 ++ r) := by
          rw [byt_app, byt_app, byt_nF, byt_app, List.append_assoc]
          rfl
        obtain ⟨b, t, e1, e2⟩ := number_head i 4 80 (by omega) (by decide) (by omega) (byt (tF v 8 0 ++ r))
        have hk := known_back i 4 80 (by omega) (by decide) (by omega) hi12 _ _ hb
        unfold rOneF
        rw [hk, hb, head_of e1, e2, if_neg (by simp only [Nat.reducePow]; omega), if_neg (by simp only [Nat.reducePow]; omega), if_pos (by simp only [Nat.reducePow]; omega), if_neg (by simp)]
        simp only
        rw [hin, val_back n v r (by omega), hf]
      · rw [if_neg h3]
        have hb : byt (tF n 4 32 ++ tF v 8 0 ++ r) = textB (byt n) 4 32 ++ byt (tF v 8 0 ++ r) := by
          rw [byt_app, byt_app, byt_tF, byt_app, List.append_assoc]
          rfl
        obtain ⟨ht, b, t, e1, m', hm', e2⟩ := take_text (byt n) 4 32 (by omega) (by decide) (by omega) (by rw [byt_length]; omega) (byt (tF v 8 0 ++ r))
        simp only [Nat.reducePow] at hm'
        unfold rOneF
        rw [hb, head_of e1, e2, if_neg (by omega), if_neg (by omega), if_neg (by omega), if_pos (by omega), ht]
        simp only
        rw [if_neg (by simp), txt_byt, txt_byt, val_back n v r (by omega), hf]

/-- A section's fields, from the front on. -/
def onesF (l : List Fl) (m : Int) : List Fl → ByteArray
  | [] => ⟨#[]⟩
  | f :: L => oneF l m f ++ onesF l m L
theorem fold_ones (l : List Fl) (m : Int) : ∀ (L : List Fl) (a : ByteArray), L.foldl (fun a f => a ++ oneF l m f) a = a ++ onesF l m L
  | [], a => (ba_app_empty a).symm
  | f :: L, a => by
    rw [List.foldl_cons, fold_ones l m L]
    exact ba_assoc _ _ _

theorem one_pos (l : List Fl) (m : Int) (f : Fl) : 0 < (oneF l m f).size := by
  have hnum : ∀ n k h : Int, 1 ≤ k ∧ k ≤ 8 → h.toNat % 2 ^ k.toNat = 0 → h.toNat < 256 → 0 < (nF n k h).size := by
    intro n k h hk hz h8
    unfold nF
    rw [txt_size]
    obtain ⟨b, t, e, _⟩ := number_head n.toNat k.toNat h.toNat (by omega) hz h8 []
    rw [List.append_nil] at e
    rw [e, List.length_cons]; omega
  unfold oneF
  split
  · exact hnum _ _ _ (by omega) (by decide) (by decide)
  · split
    · exact hnum _ _ _ (by omega) (by decide) (by decide)
    · split
      · rw [ba_app_size]
        have := hnum (namedF f.1) 4 80 (by omega) (by decide) (by decide)
        omega
      · rw [ba_app_size]
        have : 0 < (tF f.1 4 32).size := by
          unfold tF
          rw [txt_size]
          show 0 < (textB (byt f.1) 4 32).length
          unfold textB
          split
          · rw [List.length_append]
            obtain ⟨b, t, e, _⟩ := number_head (packF (byt f.1)).length 3 40 (by omega) (by decide) (by omega) []
            rw [List.append_nil] at e
            show 0 < (numberF (packF (byt f.1)).length 3 40).length + _
            rw [e, List.length_cons]; omega
          · rw [List.length_append]
            obtain ⟨b, t, e, _⟩ := number_head (byt f.1).length 3 32 (by omega) (by decide) (by omega) []
            rw [List.append_nil] at e
            show 0 < (numberF (byt f.1).length 3 32).length + _
            rw [e, List.length_cons]; omega
        omega

theorem ones_back (l l' : List Fl) (m : Nat) (hm : m ≤ 5000) (hl : l.take m = l'.take m) : ∀ (L out : List Fl) (k : Nat), (∀ f ∈ L, mayFl f = true ∧ (idxF fixedL f < 0 → idxF l f < (m : Int))) → (onesF l m L).size < k → out.length + L.length ≤ 100 →
    readL k l' m (onesF l m L) out = (out ++ L, 0)
  | [], out, k, _, hk, _ => by
    obtain ⟨k, rfl⟩ : ∃ k', k = k' + 1 := ⟨k - 1, by omega⟩
    unfold readL
    rw [if_pos (show (onesF l m []).size = 0 from rfl), List.append_nil]
  | f :: L, out, k, hf, hk, ho => by
    have e : onesF l m (f :: L) = oneF l m f ++ onesF l m L := rfl
    rw [e, ba_app_size] at hk
    rw [List.length_cons] at ho
    have hp := one_pos l m f
    obtain ⟨k, rfl⟩ : ∃ k', k = k' + 1 := ⟨k - 1, by omega⟩
    obtain ⟨h1, h2⟩ := hf f (List.mem_cons_self ..)
    rw [e]
    unfold readL
    rw [if_neg (by rw [ba_app_size]; omega), one_back l l' m f _ h1 hm hl h2]
    simp only
    rw [if_neg (by simp; omega), ones_back l l' m hm hl L (out ++ [f]) k (fun g hg => hf g (List.mem_cons_of_mem _ hg)) (by omega) (by rw [List.length_append, List.length_singleton]; omega), List.append_assoc]
    rfl

/-- WHAT IS WRITTEN IS READ, by who was told as much; who wasn't waits. -/
theorem sec_back (l l' : List Fl) (m : Nat) (hm : m ≤ 5000) (L : List Fl) (hf : ∀ f ∈ L, mayFl f = true ∧ (idxF fixedL f < 0 → idxF l f < (m : Int))) (hL : L.length ≤ 100) :
    readF l' (secF l m L) = if l'.length < m then ([], 13) else if l.take m = l'.take m then (L, 0) else readF l' (secF l m L) := by
  have hb : byt (secF l m L) = numberF m 8 0 ++ (0 :: byt (onesF l m L)) := by
    unfold secF
    rw [fold_ones, byt_app, byt_app, byt_nF, List.append_assoc]
    rfl
  have ht := take_number m 8 0 (by omega) (by decide) (by omega) (by omega) (0 :: byt (onesF l m L))
  by_cases h1 : l'.length < m
  · rw [if_pos h1]
    unfold readF
    rw [hb, ht]
    simp only
    rw [if_neg (by simp), if_pos h1]
  · rw [if_neg h1]
    by_cases h2 : l.take m = l'.take m
    · rw [if_pos h2]
      unfold readF
      rw [hb, ht]
      simp only
      rw [if_neg (by simp), if_neg h1, if_pos (by decide), txt_byt]
      rw [ones_back l l' m hm h2 L [] _ hf (by rw [byt_length]; omega) (by simpa using hL)]
      rfl
    · rw [if_neg h2]

end Go.Proofs.Ytkggjcfiomddeaa
