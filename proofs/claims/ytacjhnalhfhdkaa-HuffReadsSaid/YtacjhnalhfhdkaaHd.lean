/- Bricks: a slice of bytes that the call makes and appends to; the contract of huff's Size. -/
import Derived.Test.YtacjhnalhfhdkaaHc
import Derived.Laws.IdiomStrings
namespace Go.Proofs.Ytacjhnalhfhdkaa
open Go.ChangeShapes Go.WideShapes Go.RowKit
set_option linter.unusedVariables false

def txt (l : List UInt8) : ByteArray := ⟨l.toArray⟩
def byt (s : ByteArray) : List UInt8 := s.data.toList
theorem byt_length (s : ByteArray) : (byt s).length = s.size := by simp [byt]
theorem txt_byt (s : ByteArray) : txt (byt s) = s := by simp [txt, byt]
theorem byt_txt (l : List UInt8) : byt (txt l) = l := by simp [txt, byt]
theorem txt_size (l : List UInt8) : (txt l).size = l.length := by simp [txt, ByteArray.size]
theorem byt_get (s : ByteArray) (j : Nat) (h : j < s.size) : s[j] = (byt s)[j]'(by rw [byt_length]; exact h) := by
  simp [byt]
  rfl

def u8v (b : UInt8) : Value := .int .u8 (b.toNat : Int)

/-- From block B on: a slice of the call's own with these bytes. -/
def Own8 (B : Nat) (w : World) (v : Value) (l : List UInt8) : Prop := w.ownsRow B 5 1 v l.length (l.map u8v)

theorem Own8.nil (B : Nat) (w : World) : Own8 B w (.slice none 0 0) [] := World.ownsRow_nil _ _ _ _

theorem Own8.below {B : Nat} {w w' : World} {v : Value} {l : List UInt8} (h : Own8 B w v l) (hb : Below w.heap.size w w') : Own8 B w' v l := by
  obtain ⟨h1, h2⟩ := h
  refine ⟨h1, ?_⟩
  rcases h2 with h2 | ⟨g, cap, cur, a, b, c, d⟩
  · exact .inl h2
  · refine .inr ⟨g, cap, cur, a, b, ?_, d⟩
    have : g < w.heap.size := by
      rcases Nat.lt_or_ge g w.heap.size with h1 | h1
      · exact h1
      · rw [Array.getElem?_eq_none h1] at c
        simp at c
    rw [hb.block g this]
    exact c

theorem Try.infoU8 : (Try.prog.info? 5).map (fun i => (i.zero, i.size, i.bytes)) = some (some (.int .u8 0), 1, 1) := by kernel_rfl

/-- 'out = append(out, b)'. -/
theorem app8 {ops : Array Oper} {rest : List Oper} {o : Oper} {a : Act} {Q : Exit → Act → World → Prop} (wr : World) (hgd : o.guard = none) (s x : Operand)
    (ho : o.op = .call { callee := .builtin .append, args := #[s, x], argTypes := #[42, 42] })
    (B : Nat) (v : Value) (l : List UInt8) (X : Int) (y : UInt8) (hX : X = (y.toNat : Int)) (hs : a.eval s = v) (hx : a.eval x = .slice (some ⟨wr.heap.size, 0, none⟩) 1 1)
    (hown : Own8 B wr v l) (hl : l.length ≤ 1000000) (hB : B ≤ wr.heap.size)
    (h : ∀ v' w', Own8 B w' v' (l ++ [y]) → Below B wr w' → wpList Try.prog ops Q rest (a.put o.dst v') w') : wpList Try.prog ops Q (o :: rest) a (wr.alloc (.cells #[.int .u8 X] 5)) := by
  obtain ⟨i, hi, hz, hsz, hy⟩ := info_parts Try.infoU8
  subst hX
  refine wpList_append_own _ hgd s x 42 ho B 5 i (.int .u8 0) 1 1 Try.underlying42 hi hz hsz hy rfl (by decide) v l.length (l.map u8v) hs (World.ownsRow.alloc hown _) ⟨wr.heap.size, 0, none⟩ 1 1 [u8v y] hx rfl ?_ ?_ ?_ ?_ ?_ ?_
  · intro j u hj
    match j, hj with
    | 0, hj =>
      simp at hj
      subst hj
      have e : (⟨wr.heap.size, 0, none⟩ : Addr).add 0 = ⟨wr.heap.size, 0, none⟩ := by simp [Addr.add]
      rw [e, World.cell?_alloc_at _ _ _ _ rfl]
      rfl
  · intro u hu
    simp at hu
    subst hu
    rfl
  · unfold maxLen; omega
  · omega
  · simp; omega
  · intro v' w' h1 h2 _
    refine h v' w' ?_ ?_
    · unfold Own8
      rw [List.length_append, List.length_singleton, List.map_append]
      exact h1
    · have h3 : Below B wr (wr.alloc (.cells #[.int .u8 (y.toNat : Int)] 5)) := (Below.refl _ _).alloc hB _
      refine h3.grown h2 (by simp; omega) ?_
      intro k hk
      exact (World.ownsRow.lt hown k hk).1

/-- 'string(out)'. -/
theorem conv_own (B : Nat) (w : World) (v : Value) (l : List UInt8) (h : Own8 B w v l) : (convert 42 9 v).run Try.prog w = .ok (.string (txt l)) w := by
  obtain ⟨h1, h2⟩ := h
  rcases h2 with ⟨rfl, h2⟩ | ⟨g, cap, cur, rfl, hb, hc, hn, hm, hs, ht⟩
  · have : l = [] := List.eq_nil_of_length_eq_zero h2
    subst this
    rw [run_convert_bytes_string w 42 9 5 none 0 0 Try.underlying42 Try.underlying5 Try.underlying9]
    simp [Conv.bytesToString]
    rfl
  · refine run_convert_bytes_back (P := Try.prog) _ 42 9 5 ⟨g, 0, none⟩ cap l Try.underlying42 Try.underlying5 Try.underlying9 ?_
    intro j hj
    have e : (⟨g, 0, none⟩ : Addr).add j = ⟨g, j, none⟩ := by simp only [Addr.add]; split <;> simp_all
    rw [e]
    unfold World.cell?
    rw [hc]
    simp only [Option.isSome_none, Bool.false_eq_true, if_false]
    have := congrArg (fun x => x[j]?) ht
    simp only [Nat.mul_one, List.getElem?_map, List.getElem?_eq_getElem hj, Option.map_some] at this
    rw [List.getElem?_take, if_pos hj, Array.getElem?_toList] at this
    exact this

/-- How many bits a text has. -/
theorem encB_take (l : List UInt8) (i : Nat) (h : i < l.length) : encB (l.take (i + 1)) = encB (l.take i) ++ cb (l[i]).toNat := by
  rw [List.take_succ_eq_append_getElem h, encB_append, encB_one]

theorem encB_len (l : List UInt8) : (encB l).length ≤ 12 * l.length := by
  induction l with
  | nil => simp [encB]
  | cons b l ih =>
    rw [encB_cons, List.length_append, cb_length, List.length_cons]
    rcases hlen_cases b.toNat with h | h | h | h <;> omega

theorem hlen_le (c : Nat) : 5 ≤ hlen c ∧ hlen c ≤ 12 := by rcases hlen_cases c with h | h | h | h <;> omega

theorem Size_any (s : ByteArray) (w : World) (hs : s.size ≤ 10000) :
    Calls Try.prog 17 #[.string s] w fun e w' => e = .returned (.int .i64 (((encB (byt s)).length + 7) / 8 : Nat)) ∧ w = w' := by
  have hbl := byt_length s
  obtain ⟨l, hl⟩ : ∃ l, byt s = l := ⟨_, rfl⟩
  rw [hl] at hbl ⊢
  have hget : ∀ j (h : j < s.size) (h2 : j < l.length), s[j].toNat = l[j].toNat := by
    intro j h h2
    rw [byt_get]
    simp [hl]
  have Hget := Lib.hid hget
  have Hl := Lib.hid hl
  have Hbl := Lib.hid hbl
  clear hget hl hbl
  go_enter Try.func17, Try.ntmps17
  go_wp2_with fail
  go_loop [3, 7] (fun n i => ∃ j m : Nat, j ≤ s.size ∧ i = .int .i64 j ∧ m = (encB (l.take j)).length ∧ n = .int .i64 m) (fun _ i => s.size - (intOf i).toNat)
  case atStart => exact ⟨0, 0, by omega, rfl, by simp [encB], rfl⟩
  case round =>
    obtain ⟨j, m, hj, rfl, hm, rfl⟩ := hrel
    have hml : m ≤ 12 * j := by
      have := encB_len (l.take j)
      rw [List.length_take] at this
      omega
    by_cases hlt : j < s.size
    · obtain ⟨c, hc⟩ : ∃ c, s[j].toNat = c := ⟨_, rfl⟩
      have hjl : j < l.length := by rw [Hbl.out]; exact hlt
      have hc8 : c < 256 := by rw [← hc]; exact s[j].toNat_lt
      have hcl := hlen_le c
      have hnext : m + hlen c = (encB (l.take (j + 1))).length := by
        rw [encB_take l j hjl, List.length_append, ← hm, cb_length, ← hc, Hget.out j hlt hjl]
      obtain ⟨k, hk⟩ : ∃ k, hlen c = k := ⟨_, rfl⟩
      have hB := fun w => Bits_any c w hc8
      rw [hk] at hcl hnext hB
      have Hnext := Lib.hid hnext
      have HB := Lib.hid hB
      clear hnext hm hk hB
      go_wp2_with fail
      refine (HB.out _).mono ?_
      rintro e w' ⟨rfl, rfl⟩
      go_wp2_with fail
      go_round
      case rel => exact ⟨j + 1, m + k, by omega, by go_num, Hnext.out, by go_num⟩
      case measure => simp [intOf]; omega
    · obtain rfl : j = s.size := by omega
      have Hm : Hid (m = (encB l).length) := Lib.hid (by rw [hm, List.take_of_length_le (by rw [Hbl.out]; exact Nat.le_refl _)])
      clear hm
      go_wp2_with fail
      go_ret
      exact ⟨by rw [← Hm.out]; exact ret_int (by omega), rfl⟩

end Go.Proofs.Ytacjhnalhfhdkaa
