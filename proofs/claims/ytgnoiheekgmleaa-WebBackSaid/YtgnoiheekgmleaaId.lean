/- Bricks: a slice of bytes that the call makes and appends to; the contract of huff's Size. -/
import Derived.Test.YtgnoiheekgmleaaIc
import Derived.Laws.IdiomStrings
namespace Go.Proofs.Ytgnoiheekgmleaa
open Go.ChangeShapes Go.WideShapes Go.RowKit
set_option linter.unusedVariables false

def txt (l : List UInt8) : ByteArray := ⟨l.toArray⟩
def byt (s : ByteArray) : List UInt8 := s.data.toList
theorem byt_length (s : ByteArray) : (byt s).length = s.size := by simp [byt]
theorem txt_byt (s : ByteArray) : txt (byt s) = s := by simp [txt, byt]
theorem byt_txt (l : List UInt8) : byt (txt l) = l := by simp [txt, byt]
theorem txt_size (l : List UInt8) : (txt l).size = l.length := by simp [txt, ByteArray.size]
theorem byt_get (s : ByteArray) (j : Nat) (h : j < s.size) : s[j] = (byt s)[j]'(by rw [byt_length]; exact h) := by
  simp [byt]
  rfl

def u8v (b : UInt8) : Value := .int .u8 (b.toNat : Int)

/-- From block B on: a slice of the call's own with these bytes. -/
def Own8 (B : Nat) (w : World) (v : Value) (l : List UInt8) : Prop := w.ownsRow B 5 1 v l.length (l.map u8v)

theorem Own8.nil (B : Nat) (w : World) : Own8 B w (.slice none 0 0) [] := World.ownsRow_nil _ _ _ _

theorem Own8.below {B : Nat} {w w' : World} {v : Value} {l : List UInt8} (h : Own8 B w v l) (hb : Below w.heap.size w w') : Own8 B w' v l := by
  obtain ⟨h1, h2⟩ := h
  refine ⟨h1, ?_⟩
  rcases h2 with h2 | ⟨g, cap, cur, a, b, c, d⟩
  · exact .inl h2
  · refine .inr ⟨g, cap, cur, a, b, ?_, d⟩
    have : g < w.heap.size := by
      rcases Nat.lt_or_ge g w.heap.size with h1 | h1
      · exact h1
      · rw [Array.getElem?_eq_none h1] at c
        simp at c
    rw [hb.block g this]
    exact c

theorem Try.infoU8 : (Try.prog.info? 5).map (fun i => (i.zero, i.size, i.bytes)) = some (some (.int .u8 0), 1, 1) := by kernel_rfl

/-- 'out = append(out, b)'. -/
theorem app8 {ops : Array Oper} {rest : List Oper} {o : Oper} {a : Act} {Q : Exit → Act → World → Prop} (wr : World) (hgd : o.guard = none) (s x : Operand)
    (ho : o.op = .call { callee := .builtin .append, args := #[s, x], argTypes := #[76, 76] })
    (B : Nat) (v : Value) (l : List UInt8) (X : Int) (y : UInt8) (hX : X = (y.toNat : Int)) (hs : a.eval s = v) (hx : a.eval x = .slice (some ⟨wr.heap.size, 0, none⟩) 1 1)
    (hown : Own8 B wr v l) (hl : l.length ≤ 1000000) (hB : B ≤ wr.heap.size)
    (h : ∀ v' w', Own8 B w' v' (l ++ [y]) → Below B wr w' → wpList Try.prog ops Q rest (a.put o.dst v') w') : wpList Try.prog ops Q (o :: rest) a (wr.alloc (.cells #[.int .u8 X] 5)) := by
  obtain ⟨i, hi, hz, hsz, hy⟩ := info_parts Try.infoU8
  subst hX
  refine wpList_append_own _ hgd s x 76 ho B 5 i (.int .u8 0) 1 1 Try.underlying76 hi hz hsz hy rfl (by decide) v l.length (l.map u8v) hs (World.ownsRow.alloc hown _) ⟨wr.heap.size, 0, none⟩ 1 1 [u8v y] hx rfl ?_ ?_ ?_ ?_ ?_ ?_
  · intro j u hj
    match j, hj with
    | 0, hj =>
      simp at hj
      subst hj
      have e : (⟨wr.heap.size, 0, none⟩ : Addr).add 0 = ⟨wr.heap.size, 0, none⟩ := by simp [Addr.add]
      rw [e, World.cell?_alloc_at _ _ _ _ rfl]
      rfl
  · intro u hu
    simp at hu
    subst hu
    rfl
  · unfold maxLen; omega
  · omega
  · simp; omega
  · intro v' w' h1 h2 _
    refine h v' w' ?_ ?_
    · unfold Own8
      rw [List.length_append, List.length_singleton, List.map_append]
      exact h1
    · have h3 : Below B wr (wr.alloc (.cells #[.int .u8 (y.toNat : Int)] 5)) := (Below.refl _ _).alloc hB _
      refine h3.grown h2 (by simp; omega) ?_
      intro k hk
      exact (World.ownsRow.lt hown k hk).1

/-- 'string(out)'. -/
theorem conv_own (B : Nat) (w : World) (v : Value) (l : List UInt8) (h : Own8 B w v l) : (convert 76 9 v).run Try.prog w = .ok (.string (txt l)) w := by
  obtain ⟨h1, h2⟩ := h
  rcases h2 with ⟨rfl, h2⟩ | ⟨g, cap, cur, rfl, hb, hc, hn, hm, hs, ht⟩
  · have : l = [] := List.eq_nil_of_length_eq_zero h2
    subst this
    rw [run_convert_bytes_string w 76 9 5 none 0 0 Try.underlying76 Try.underlying5 Try.underlying9]
    simp [Conv.bytesToString]
    rfl
  · refine run_convert_bytes_back (P := Try.prog) _ 76 9 5 ⟨g, 0, none⟩ cap l Try.underlying76 Try.underlying5 Try.underlying9 ?_
    intro j hj
    have e : (⟨g, 0, none⟩ : Addr).add j = ⟨g, j, none⟩ := by simp only [Addr.add]; split <;> simp_all
    rw [e]
    unfold World.cell?
    rw [hc]
    simp only [Option.isSome_none, Bool.false_eq_true, if_false]
    have := congrArg (fun x => x[j]?) ht
    simp only [Nat.mul_one, List.getElem?_map, List.getElem?_eq_getElem hj, Option.map_some] at this
    rw [List.getElem?_take, if_pos hj, Array.getElem?_toList] at this
    exact this

/-- How many bits a text has. -/
theorem encB_take (l : List UInt8) (i : Nat) (h : i < l.length) : encB (l.take (i + 1)) = encB (l.take i) ++ cb (l[i]).toNat := by
  rw [List.take_succ_eq_append_getElem h, encB_append, encB_one]

theorem encB_len (l : List UInt8) : (encB l).length ≤ 12 * l.length := by
  induction l with
  | nil => simp [encB]
  | cons b l ih =>
    rw [encB_cons, List.length_append, cb_length, List.length_cons]
    rcases hlen_cases b.toNat with h | h | h | h <;> omega

theorem hlen_le (c : Nat) : 5 ≤ hlen c ∧ hlen c ≤ 12 := by rcases hlen_cases c with h | h | h | h <;> omega

end Go.Proofs.Ytgnoiheekgmleaa
