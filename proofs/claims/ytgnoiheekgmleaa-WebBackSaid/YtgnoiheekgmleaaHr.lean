/- Plain laws of huff: packing, reading, there and back. No program in sight. -/
import Derived.Test.YtgnoiheekgmleaaHq
namespace Go.Proofs.Ytgnoiheekgmleaa
open Go.RowKit
set_option linter.unusedVariables false

def encB (l : List UInt8) : List Bool := l.flatMap fun b => cb b.toNat

theorem encB_append (a b : List UInt8) : encB (a ++ b) = encB a ++ encB b := by simp [encB]
theorem encB_one (b : UInt8) : encB [b] = cb b.toNat := by simp [encB]
theorem encB_cons (b : UInt8) (l : List UInt8) : encB (b :: l) = cb b.toNat ++ encB l := by simp [encB]

/-- The first m bytes of a bit string. -/
def fb (B : List Bool) (m : Nat) : List UInt8 := (List.range m).map fun j => UInt8.ofNat (bv ((B.drop (8 * j)).take 8))

theorem fb_length (B : List Bool) (m : Nat) : (fb B m).length = m := by simp [fb]
theorem fb_succ (B : List Bool) (m : Nat) : fb B (m + 1) = fb B m ++ [UInt8.ofNat (bv ((B.drop (8 * m)).take 8))] := by
  simp [fb, List.range_succ]

theorem fb_app (B X : List Bool) (m : Nat) (h : 8 * m ≤ B.length) : fb (B ++ X) m = fb B m := by
  unfold fb
  apply List.map_congr_left
  intro j hj
  have hj := List.mem_range.1 hj
  congr 2
  rw [List.drop_append_of_le_length (by omega), List.take_append_of_le_length (by rw [List.length_drop]; omega)]

def toBits (l : List UInt8) : List Bool := l.flatMap fun b => bitsN 8 b.toNat

theorem toBits_append (a b : List UInt8) : toBits (a ++ b) = toBits a ++ toBits b := by simp [toBits]
theorem toBits_length (l : List UInt8) : (toBits l).length = 8 * l.length := by
  refine snoc_rec (P := fun l => (toBits l).length = 8 * l.length) rfl ?_ l
  intro l b ih
  rw [toBits_append, List.length_append, ih, List.length_append, List.length_singleton]
  simp [toBits, bitsN_length]
  omega

theorem fb_toBits (l : List UInt8) : fb (toBits l) l.length = l := by
  refine snoc_rec (P := fun l => fb (toBits l) l.length = l) rfl ?_ l
  intro l b ih
  rw [List.length_append, List.length_singleton, fb_succ, toBits_append, fb_app _ _ _ (by rw [toBits_length]; exact Nat.le_refl _), ih]
  congr 2
  rw [List.drop_left' (by rw [toBits_length])]
  have e : toBits [b] = bitsN 8 b.toNat := by simp [toBits]
  rw [e, List.take_of_length_le (by rw [bitsN_length]; exact Nat.le_refl _), bv_bitsN]
  have := b.toNat_lt
  rw [Nat.mod_eq_of_lt (by omega)]
  simp

theorem toBits_inj (a b : List UInt8) (h : toBits a = toBits b) : a = b := by
  have hl := congrArg List.length h
  rw [toBits_length, toBits_length] at hl
  rw [← fb_toBits a, ← fb_toBits b, h, show a.length = b.length by omega]

theorem toBits_fb (B : List Bool) : ∀ m, 8 * m ≤ B.length → toBits (fb B m) = B.take (8 * m)
  | 0, _ => by simp [fb, toBits]
  | m + 1, h => by
    rw [fb_succ, toBits_append, toBits_fb B m (by omega)]
    have hl : ((B.drop (8 * m)).take 8).length = 8 := by rw [List.length_take, List.length_drop]; omega
    have hv := bv_lt ((B.drop (8 * m)).take 8)
    rw [hl] at hv
    have e : toBits [UInt8.ofNat (bv ((B.drop (8 * m)).take 8))] = (B.drop (8 * m)).take 8 := by
      have e1 : toBits [UInt8.ofNat (bv ((B.drop (8 * m)).take 8))] = bitsN 8 (bv ((B.drop (8 * m)).take 8)) := by
        simp only [toBits, List.flatMap_cons, List.flatMap_nil, List.append_nil, UInt8.toNat_ofNat']
        rw [Nat.mod_eq_of_lt (by omega)]
      rw [e1]
      have := bitsN_bv ((B.drop (8 * m)).take 8)
      rw [hl] at this
      exact this
    rw [e, show 8 * (m + 1) = 8 * m + 8 by omega, List.take_add]

/-- What fills up so many bits. -/
def pad (k : Nat) : List Bool := (cb 256).take ((8 - k % 8) % 8)

theorem hlen_end : hlen 256 = 12 := by decide
theorem pad_length (k : Nat) : (pad k).length = (8 - k % 8) % 8 := by
  rw [pad, List.length_take, cb_length, hlen_end]
  omega

/-- What Pack answers. -/
def packF (l : List UInt8) : List UInt8 := fb (encB l ++ pad (encB l).length) (((encB l).length + 7) / 8)

theorem packF_length (l : List UInt8) : (packF l).length = ((encB l).length + 7) / 8 := fb_length _ _

theorem toBits_packF (l : List UInt8) : toBits (packF l) = encB l ++ pad (encB l).length := by
  have hl : (encB l ++ pad (encB l).length).length = 8 * (((encB l).length + 7) / 8) := by
    rw [List.length_append, pad_length]
    omega
  rw [packF, toBits_fb _ _ (by omega), List.take_of_length_le (by omega)]

/-- One bit read: the bytes, and the bits that wait; or it is wrong. -/
def dstep (st : Option (List UInt8 × List Bool)) (b : Bool) : Option (List UInt8 × List Bool) :=
  match st with
  | none => none
  | some (out, cur) =>
    match look (cur ++ [b]) with
    | some x => if x = 256 then none else some (out ++ [UInt8.ofNat x], [])
    | none => if 12 ≤ (cur ++ [b]).length then none else some (out, cur ++ [b])

def dec (B : List Bool) : Option (List UInt8 × List Bool) := B.foldl dstep (some ([], []))

/-- One bit read, by the reference. -/
def rstep (st : List UInt8 × List Bool) (b : Bool) : List UInt8 × List Bool :=
  match look (st.2 ++ [b]) with
  | some x => if x = 256 then (st.1, st.2 ++ [b]) else (st.1 ++ [UInt8.ofNat x], [])
  | none => (st.1, st.2 ++ [b])

def rdec (B : List Bool) : List UInt8 × List Bool := B.foldl rstep ([], [])

theorem rdec_snoc (B : List Bool) (b : Bool) : rdec (B ++ [b]) = rstep (rdec B) b := by simp [rdec]
theorem dec_snoc (B : List Bool) (b : Bool) : dec (B ++ [b]) = dstep (dec B) b := by simp [dec]

theorem rdec_bits (B : List Bool) : B = encB (rdec B).1 ++ (rdec B).2 := by
  refine snoc_rec (P := fun B => B = encB (rdec B).1 ++ (rdec B).2) rfl ?_ B
  intro B b ih
  rw [rdec_snoc]
  unfold rstep
  cases hlk : look ((rdec B).2 ++ [b]) with
  | none =>
    show B ++ [b] = encB (rdec B).1 ++ ((rdec B).2 ++ [b])
    rw [← List.append_assoc, ← ih]
  | some x =>
    obtain ⟨h1, h2⟩ := look_some _ _ hlk
    by_cases hx : x = 256
    · simp only [if_pos hx]
      rw [← List.append_assoc, ← ih]
    · simp only [if_neg hx]
      rw [List.append_nil, encB_append, encB_one, UInt8.toNat_ofNat', Nat.mod_eq_of_lt (by omega), ← h2, ← List.append_assoc, ← ih]

theorem look_long (cur : List Bool) (h : 12 < cur.length) : look cur = none := by
  rw [look, if_neg (by omega)]

theorem dec_rdec (B : List Bool) : (∃ out cur, dec B = some (out, cur) ∧ rdec B = (out, cur) ∧ cur.length < 12) ∨ (dec B = none ∧ 12 ≤ (rdec B).2.length) := by
  refine snoc_rec (P := fun B => (∃ out cur, dec B = some (out, cur) ∧ rdec B = (out, cur) ∧ cur.length < 12) ∨ (dec B = none ∧ 12 ≤ (rdec B).2.length)) (.inl ⟨[], [], rfl, rfl, by simp⟩) ?_ B
  intro B b ih
  rw [dec_snoc, rdec_snoc]
  rcases ih with ⟨out, cur, h1, h2, h3⟩ | ⟨h1, h2⟩
  · rw [h1, h2]
    unfold dstep rstep
    simp only
    cases hlk : look (cur ++ [b]) with
    | none =>
      by_cases h12 : 12 ≤ (cur ++ [b]).length
      · simp only [if_pos h12]
        exact .inr ⟨trivial, h12⟩
      · simp only [if_neg h12]
        exact .inl ⟨out, cur ++ [b], rfl, rfl, by omega⟩
    | some x =>
      obtain ⟨g1, g2⟩ := look_some _ _ hlk
      by_cases hx : x = 256
      · simp only [if_pos hx]
        refine .inr ⟨trivial, ?_⟩
        rw [g2, hx, cb_length, hlen_end]
        exact Nat.le_refl _
      · simp only [if_neg hx]
        exact .inl ⟨_, [], rfl, rfl, by simp⟩
  · right
    rw [h1]
    refine ⟨rfl, ?_⟩
    unfold rstep
    rw [look_long _ (by rw [List.length_append, List.length_singleton]; omega)]
    show 12 ≤ ((rdec B).2 ++ [b]).length
    rw [List.length_append]
    omega

/-- What Unpack answers. -/
def unpackF (l : List UInt8) : List UInt8 × Int :=
  match dec (toBits l) with
  | none => ([], 2)
  | some (out, cur) => if 8 ≤ cur.length ∨ (0 < cur.length ∧ bv cur ≠ hcode 256 / 2 ^ (12 - cur.length)) then ([], 2) else (out, 0)

/-- What the reference's Unpack answers. -/
def runpackF (l : List UInt8) : List UInt8 × Int := if packF (rdec (toBits l)).1 = l then ((rdec (toBits l)).1, 0) else ([], 2)

theorem pack_iff (l out : List UInt8) (cur : List Bool) (h : toBits l = encB out ++ cur) : packF out = l ↔ cur = pad (encB out).length := by
  constructor
  · intro e
    have := toBits_packF out
    rw [e, h] at this
    exact List.append_cancel_left this
  · intro e
    apply toBits_inj
    rw [toBits_packF, h, e]

theorem pad_iff (k : Nat) (cur : List Bool) (hk : (k + cur.length) % 8 = 0) : cur = pad k ↔ ¬ (8 ≤ cur.length ∨ (0 < cur.length ∧ bv cur ≠ hcode 256 / 2 ^ (12 - cur.length))) := by
  have hpl := pad_length k
  have hc : (cb 256).length = 12 := by rw [cb_length, hlen_end]
  by_cases h8 : 8 ≤ cur.length
  · constructor
    · intro e
      rw [← e] at hpl
      omega
    · intro h
      exact absurd (.inl h8) h
  · have hlen : cur.length = (pad k).length := by rw [hpl]; omega
    have hbv : bv (pad k) = hcode 256 / 2 ^ (12 - cur.length) := by
      rw [pad, bv_take _ _ (by omega), cb_bv 256 (by omega), hc, hlen, hpl]
    constructor
    · intro e h
      rcases h with h | ⟨h1, h2⟩
      · omega
      · exact h2 (by rw [e, hbv, ← e])
    · intro h
      apply bits_eq _ _ hlen
      rw [hbv]
      apply Classical.byContradiction
      intro hne
      rcases Nat.eq_zero_or_pos cur.length with h0 | h0
      · have : cur = [] := List.eq_nil_of_length_eq_zero h0
        subst this
        exact hne (by decide)
      · exact h (.inr ⟨h0, hne⟩)

theorem unpack_eq (l : List UInt8) : unpackF l = runpackF l := by
  have hb := rdec_bits (toBits l)
  have hlen := toBits_length l
  unfold unpackF runpackF
  rcases dec_rdec (toBits l) with ⟨out, cur, h1, h2, h3⟩ | ⟨h1, h2⟩
  · rw [h1, h2]
    rw [h2] at hb
    simp only at hb ⊢
    have hk : ((encB out).length + cur.length) % 8 = 0 := by
      have := congrArg List.length hb
      rw [hlen, List.length_append] at this
      omega
    have e1 := pack_iff l out cur hb
    have e2 := pad_iff (encB out).length cur hk
    by_cases hc : 8 ≤ cur.length ∨ (0 < cur.length ∧ bv cur ≠ hcode 256 / 2 ^ (12 - cur.length))
    · rw [if_pos hc, if_neg (fun e => (e2.1 (e1.1 e)) hc)]
    · rw [if_neg hc, if_pos (e1.2 (e2.2 hc))]
  · rw [h1]
    simp only
    rw [if_neg]
    intro e
    have := (pack_iff l _ _ hb).1 e
    have hpl := pad_length (encB (rdec (toBits l)).1).length
    rw [← this] at hpl
    omega

theorem dec_quiet (out : List UInt8) : ∀ (u cur : List Bool), (∀ v, v ≠ [] → (∃ t, u = v ++ t) → look (cur ++ v) = none ∧ (cur ++ v).length < 12) → u.foldl dstep (some (out, cur)) = some (out, cur ++ u)
  | [], cur, _ => by simp
  | b :: u, cur, h => by
    obtain ⟨h1, h2⟩ := h [b] (by simp) ⟨u, rfl⟩
    rw [List.foldl_cons]
    have e : dstep (some (out, cur)) b = some (out, cur ++ [b]) := by
      unfold dstep
      simp only [h1, if_neg (Nat.not_le.2 h2)]
    rw [e, dec_quiet out u (cur ++ [b])]
    · simp
    · intro v hv ⟨t, ht⟩
      have := h (b :: v) (by simp) ⟨t, by rw [ht]; rfl⟩
      rwa [List.append_assoc, List.singleton_append]

/-- No proper beginning of a code is one. -/
theorem look_proper (x : Nat) (v t : List Bool) (hx : x < 257) (ht : t ≠ []) (h : cb x = v ++ t) : look v = none ∧ v.length < 12 := by
  have hl := congrArg List.length h
  rw [List.length_append, cb_length] at hl
  have htl : 0 < t.length := List.length_pos_iff.2 ht
  have h12 : hlen x ≤ 12 := by rcases hlen_cases x with h | h | h | h <;> omega
  refine ⟨?_, by omega⟩
  cases hlk : look v with
  | none => rfl
  | some y =>
    obtain ⟨g1, g2⟩ := look_some _ _ hlk
    rw [g2] at h
    have := cb_prefix y x t g1 hx h
    subst this
    have := congrArg List.length h
    rw [List.length_append] at this
    omega

theorem dec_code (out : List UInt8) (x : Nat) (hx : x < 256) : (cb x).foldl dstep (some (out, [])) = some (out ++ [UInt8.ofNat x], []) := by
  have hne : cb x ≠ [] := by
    intro e
    have := congrArg List.length e
    rw [cb_length] at this
    rcases hlen_cases x with h | h | h | h <;> simp [h] at this
  obtain ⟨p, b, hpb⟩ : ∃ p b, cb x = p ++ [b] := ⟨(cb x).dropLast, (cb x).getLast hne, (List.dropLast_concat_getLast hne).symm⟩
  have hlk := look_cb x (by omega)
  rw [hpb] at hlk ⊢
  rw [List.foldl_append, dec_quiet out p []]
  · simp only [List.foldl_cons, List.foldl_nil, List.nil_append]
    unfold dstep
    simp only [hlk, if_neg (show x ≠ 256 by omega)]
  · intro v hv ⟨t, ht⟩
    rw [List.nil_append]
    exact look_proper x v (t ++ [b]) (by omega) (by simp) (by rw [hpb, ht, List.append_assoc])

theorem dec_encB (l : List UInt8) : ∀ out, (encB l).foldl dstep (some (out, [])) = some (out ++ l, []) := by
  induction l with
  | nil => intro out; simp [encB]
  | cons b l ih =>
    intro out
    rw [encB_cons, List.foldl_append, dec_code out b.toNat b.toNat_lt, ih]
    simp

/-- A text comes back. -/
theorem unpack_pack (l : List UInt8) : unpackF (packF l) = (l, 0) := by
  unfold unpackF
  rw [toBits_packF]
  have hd : dec (encB l ++ pad (encB l).length) = some (l, pad (encB l).length) := by
    unfold dec
    rw [List.foldl_append, dec_encB l [], List.nil_append, dec_quiet l (pad (encB l).length) []]
    · rfl
    · intro v hv ⟨t, ht⟩
      rw [List.nil_append]
      have hc : (cb 256).length = 12 := by rw [cb_length, hlen_end]
      have hpl := pad_length (encB l).length
      have e : cb 256 = v ++ (t ++ (cb 256).drop ((8 - (encB l).length % 8) % 8)) := by
        rw [← List.append_assoc, ← ht, pad, List.take_append_drop]
      refine look_proper 256 v _ (by omega) ?_ e
      intro h0
      have := congrArg List.length h0
      rw [List.length_append, List.length_drop, hc] at this
      simp at this
      omega
  rw [hd]
  simp only
  have := (pad_iff (encB l).length (pad (encB l).length) (by rw [pad_length]; omega)).1 rfl
  rw [if_neg this]

/-- Bytes that are a text's bits are that text's. -/
theorem pack_unpack (l out : List UInt8) (h : unpackF l = (out, 0)) : packF out = l := by
  rw [unpack_eq] at h
  unfold runpackF at h
  split at h
  · rename_i e
    injection h with h1 h2
    rw [← h1]
    exact e
  · simp at h

theorem unpack_bad (l : List UInt8) : (unpackF l).2 = 0 ∨ unpackF l = ([], 2) := by
  unfold unpackF
  split
  · exact .inr rfl
  · split
    · exact .inr rfl
    · exact .inl rfl

end Go.Proofs.Ytgnoiheekgmleaa
