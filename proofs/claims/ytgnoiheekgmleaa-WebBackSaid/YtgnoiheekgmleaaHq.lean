/- Plain laws of huff's bit strings: codes are apart; a text comes back. No program in sight. -/
import Derived.Test.YtgnoiheekgmleaaHp
namespace Go.Proofs.Ytgnoiheekgmleaa
open Go.RowKit
set_option linter.unusedVariables false

theorem snoc_rec {A : Type} {P : List A → Prop} (h0 : P []) (h1 : ∀ l a, P l → P (l ++ [a])) (l : List A) : P l := by
  have h : ∀ r : List A, P r.reverse := by
    intro r
    induction r with
    | nil => exact h0
    | cons a r ih => rw [List.reverse_cons]; exact h1 _ _ ih
  have := h l.reverse
  rwa [List.reverse_reverse] at this

/-- n bits of a number, the highest first. -/
def bitsN : Nat → Nat → List Bool
  | 0, _ => []
  | n + 1, v => bitsN n (v / 2) ++ [v % 2 == 1]

theorem bitsN_length : ∀ n v, (bitsN n v).length = n
  | 0, _ => rfl
  | n + 1, v => by simp [bitsN, bitsN_length n]

/-- A bit string's number. -/
def bv (l : List Bool) : Nat := l.foldl (fun a b => a * 2 + b.toNat) 0

theorem bv_snoc (l : List Bool) (b : Bool) : bv (l ++ [b]) = bv l * 2 + b.toNat := by simp [bv]

theorem bv_bitsN : ∀ n v, bv (bitsN n v) = v % 2 ^ n
  | 0, v => by simp [bitsN, bv, Nat.mod_one]
  | n + 1, v => by
    have h : (v % 2 == 1).toNat = v % 2 := by
      have := Nat.mod_two_eq_zero_or_one v
      rcases this with h | h <;> rw [h] <;> rfl
    rw [bitsN, bv_snoc, bv_bitsN n, h, Nat.pow_succ, Nat.mul_comm (2 ^ n) 2, Nat.mod_mul]
    omega

theorem bv_lt (l : List Bool) : bv l < 2 ^ l.length := by
  refine snoc_rec (P := fun l => bv l < 2 ^ l.length) (by simp [bv]) ?_ l
  intro l b ih
  rw [bv_snoc, List.length_append, List.length_singleton, Nat.pow_succ]
  have := Bool.toNat_lt b
  omega

theorem bitsN_bv (l : List Bool) : bitsN l.length (bv l) = l := by
  refine snoc_rec (P := fun l => bitsN l.length (bv l) = l) rfl ?_ l
  intro l b ih
  rw [bv_snoc, List.length_append, List.length_singleton, bitsN]
  have hb := Bool.toNat_lt b
  have h1 : (bv l * 2 + b.toNat) / 2 = bv l := by omega
  have h2 : (bv l * 2 + b.toNat) % 2 = b.toNat := by omega
  rw [h1, h2, ih]
  cases b <;> rfl

theorem bv_append (a b : List Bool) : bv (a ++ b) = bv a * 2 ^ b.length + bv b := by
  refine snoc_rec (P := fun b => bv (a ++ b) = bv a * 2 ^ b.length + bv b) (by simp [bv]) ?_ b
  intro l x ih
  rw [← List.append_assoc, bv_snoc, ih, bv_snoc, List.length_append, List.length_singleton, Nat.pow_succ, Nat.add_mul, Nat.mul_assoc, Nat.add_assoc]

theorem bv_take (l : List Bool) (k : Nat) (h : k ≤ l.length) : bv (l.take k) = bv l / 2 ^ (l.length - k) := by
  have e : bv l = bv (l.take k) * 2 ^ (l.length - k) + bv (l.drop k) := by
    have := bv_append (l.take k) (l.drop k)
    rw [List.take_append_drop, List.length_drop] at this
    exact this
  have hl := bv_lt (l.drop k)
  rw [List.length_drop] at hl
  rw [e, Nat.mul_comm, Nat.mul_add_div (Nat.pow_pos (by omega)), Nat.div_eq_of_lt hl, Nat.add_zero]

theorem bits_eq (a b : List Bool) (hl : a.length = b.length) (h : bv a = bv b) : a = b := by
  rw [← bitsN_bv a, ← bitsN_bv b, hl, h]

/-- A symbol's code, as bits. -/
def cb (c : Nat) : List Bool := bitsN (hlen c) (hcode c)

theorem code_lt : ∀ c, c < 257 → hcode c < 2 ^ hlen c := by decide +kernel
theorem cb_length (c : Nat) : (cb c).length = hlen c := bitsN_length _ _
theorem cb_bv (c : Nat) (h : c < 257) : bv (cb c) = hcode c := by
  rw [cb, bv_bitsN, Nat.mod_eq_of_lt (code_lt c h)]

/-- Codes laid to the left, in twelve bits. -/
def key (c : Nat) : Nat := hcode c * 2 ^ (12 - hlen c)
def wid (c : Nat) : Nat := 2 ^ (12 - hlen c)
def ord (i : Nat) : Nat := orderT.getD i 0
def pos (c : Nat) : Nat := posT.getD c 0

theorem ord_key : ∀ i, i < 256 → key (ord i) + wid (ord i) ≤ key (ord (i + 1)) := by decide +kernel
theorem ord_pos : ∀ c, c < 257 → pos c < 257 ∧ ord (pos c) = c := by decide +kernel
theorem ord_lex : ∀ i, i < 256 → hlen (ord i) < hlen (ord (i + 1)) ∨ (hlen (ord i) = hlen (ord (i + 1)) ∧ ord i < ord (i + 1)) := by decide +kernel

theorem key_far (i : Nat) : ∀ d, i + d + 1 < 257 → key (ord i) + wid (ord i) ≤ key (ord (i + d + 1))
  | 0, h => ord_key i (by omega)
  | d + 1, h => by
    have h1 := key_far i d (by omega)
    have h2 := ord_key (i + d + 1) (by omega)
    have : i + (d + 1) + 1 = i + d + 1 + 1 := by omega
    rw [this]
    omega

theorem lex_far (i : Nat) : ∀ d, i + d + 1 < 257 → hlen (ord i) < hlen (ord (i + d + 1)) ∨ (hlen (ord i) = hlen (ord (i + d + 1)) ∧ ord i < ord (i + d + 1))
  | 0, h => ord_lex i (by omega)
  | d + 1, h => by
    have h1 := lex_far i d (by omega)
    have h2 := ord_lex (i + d + 1) (by omega)
    have : i + (d + 1) + 1 = i + d + 1 + 1 := by omega
    rw [this]
    omega

/-- Of two symbols the one that stands ahead: by length, then by number; its codes lie ahead. -/
theorem ahead_key (a b : Nat) (ha : a < 257) (hb : b < 257) (h : hlen a < hlen b ∨ (hlen a = hlen b ∧ a < b)) : key a + wid a ≤ key b := by
  obtain ⟨pa, ea⟩ := ord_pos a ha
  obtain ⟨pb, eb⟩ := ord_pos b hb
  rcases Nat.lt_trichotomy (pos a) (pos b) with hp | hp | hp
  · have := key_far (pos a) (pos b - pos a - 1) (by omega)
    rw [show pos a + (pos b - pos a - 1) + 1 = pos b by omega, ea, eb] at this
    exact this
  · rw [← ea, ← eb, hp] at h
    omega
  · have := lex_far (pos b) (pos a - pos b - 1) (by omega)
    rw [show pos b + (pos a - pos b - 1) + 1 = pos a by omega, ea, eb] at this
    omega

theorem apart (a b : Nat) (ha : a < 257) (hb : b < 257) (h : a ≠ b) : key a + wid a ≤ key b ∨ key b + wid b ≤ key a := by
  rcases Nat.lt_trichotomy (hlen a) (hlen b) with hl | hl | hl
  · exact .inl (ahead_key a b ha hb (.inl hl))
  · rcases Nat.lt_or_ge a b with h2 | h2
    · exact .inl (ahead_key a b ha hb (.inr ⟨hl, h2⟩))
    · exact .inr (ahead_key b a hb ha (.inr ⟨hl.symm, by omega⟩))
  · exact .inr (ahead_key b a hb ha (.inl hl))

/-- No code is a beginning of another one. -/
theorem cb_prefix (a b : Nat) (t : List Bool) (ha : a < 257) (hb : b < 257) (h : cb b = cb a ++ t) : a = b := by
  apply Classical.byContradiction
  intro hne
  have hl : hlen b = hlen a + t.length := by
    have := congrArg List.length h
    rwa [List.length_append, cb_length, cb_length] at this
  have hv : hcode b = hcode a * 2 ^ t.length + bv t := by
    have := congrArg bv h
    rwa [bv_append, cb_bv b hb, cb_bv a ha] at this
  have h12 : hlen b ≤ 12 := by rcases hlen_cases b with h | h | h | h <;> omega
  have hk : key b = key a + bv t * 2 ^ (12 - hlen b) := by
    unfold key
    rw [hv, Nat.add_mul, Nat.mul_assoc, ← Nat.pow_add]
    congr 3
    omega
  have hw : bv t * 2 ^ (12 - hlen b) < wid a := by
    unfold wid
    rw [show 12 - hlen a = t.length + (12 - hlen b) by omega, Nat.pow_add]
    exact Nat.mul_lt_mul_of_pos_right (bv_lt t) (Nat.pow_pos (by omega))
  have hwb : 0 < wid b := Nat.pow_pos (by omega)
  rcases apart a b ha hb hne with h1 | h1 <;> omega

/-- Which symbol has a code of so many bits. -/
def firstF (n : Nat) : Nat := firstT.getD n 0
def fromF (n : Nat) : Nat := fromT.getD n 0
def lookN (n code : Nat) : Option Nat := if firstF n ≤ code ∧ fromF n + (code - firstF n) < fromF (n + 1) then some (ord (fromF n + (code - firstF n))) else none

theorem look_tab : ∀ n, n < 13 → ∀ i, i < 257 → fromF n ≤ i → i < fromF (n + 1) → hlen (ord i) = n ∧ hcode (ord i) = firstF n + (i - fromF n) ∧ ord i < 257 := by decide +kernel
theorem look_all : ∀ x, x < 257 → lookN (hlen x) (hcode x) = some x := by decide +kernel
theorem from_le : ∀ n, n < 14 → fromF n ≤ 257 := by decide +kernel

theorem lookN_some (n code x : Nat) (hn : n < 13) (h : lookN n code = some x) : x < 257 ∧ hlen x = n ∧ hcode x = code := by
  unfold lookN at h
  split at h
  · rename_i hc
    have h1 := from_le (n + 1) (by omega)
    obtain ⟨a, b, c⟩ := look_tab n hn (fromF n + (code - firstF n)) (by omega) (by omega) hc.2
    injection h with h
    rw [h] at a b c
    exact ⟨c, a, by omega⟩
  · simp at h

def look (cur : List Bool) : Option Nat := if cur.length ≤ 12 then lookN cur.length (bv cur) else none

theorem look_cb (x : Nat) (h : x < 257) : look (cb x) = some x := by
  have h12 : hlen x ≤ 12 := by rcases hlen_cases x with h | h | h | h <;> omega
  rw [look, cb_length, if_pos h12, cb_bv x h, look_all x h]

theorem look_some (cur : List Bool) (x : Nat) (h : look cur = some x) : x < 257 ∧ cur = cb x := by
  unfold look at h
  split at h
  · rename_i hl
    obtain ⟨a, b, c⟩ := lookN_some _ _ _ (by omega) h
    refine ⟨a, ?_⟩
    apply bits_eq
    · rw [cb_length, b]
    · rw [cb_bv x a, c]
  · simp at h

end Go.Proofs.Ytgnoiheekgmleaa
