/- fields: contracts of known and instruction. -/
import Derived.Test.YtgnoiheekgmleaaFj
namespace Go.Proofs.Ytgnoiheekgmleaa
open Go.ChangeShapes Go.WideShapes Go.RowKit
set_option linter.unusedVariables false
set_option linter.unusedSimpArgs false

/-- A field's own cells, made by this call. -/
def FB (w0 w : World) (g : Nat) (a b : Value) : Prop := blk w g 66 [a, b] ∧ Below w0.heap.size w0 w ∧ w0.heap.size ≤ g
def put2 (w : World) (g : Nat) (a b : Value) : World := (w.setCell ⟨g, 0, none⟩ a).setCell ⟨g, 1, none⟩ b
theorem FB.new (w : World) (a b : Value) : FB w (w.alloc (.cells #[a, b] 66)) w.heap.size a b := ⟨blk.new w _ [a, b], (Below.refl _ _).alloc (Nat.le_refl _) _, Nat.le_refl _⟩
theorem FB.further {w0 w x : World} {g : Nat} {a b : Value} (h : FB w0 w g a b) (hb : Below w.heap.size w x) : FB w0 x g a b := ⟨h.1.below hb h.1.lt, h.2.1.trans (hb.mono h.2.1.size), h.2.2⟩
theorem FB.drew {w0 w : World} {g : Nat} {a b : Value} (h : FB w0 w g a b) : FB w0 w.drew g a b := ⟨h.1.drew, h.2.1.drew, h.2.2⟩
theorem FB.set0 {w0 w : World} {g : Nat} {a b : Value} (h : FB w0 w g a b) (u : Value) : FB w0 (w.setCell ⟨g, 0, none⟩ u) g u b := ⟨h.1.set 0 u, Only.below ((Only.ofBelow (S := fun k => w0.heap.size ≤ k) h.2.1).setCell (p := ⟨g, 0, none⟩) (.inl h.2.2) u) (Nat.le_refl _) (fun k hk => hk), h.2.2⟩
theorem FB.set1 {w0 w : World} {g : Nat} {a b : Value} (h : FB w0 w g a b) (u : Value) : FB w0 (w.setCell ⟨g, 1, none⟩ u) g a u := ⟨h.1.set 1 u, Only.below ((Only.ofBelow (S := fun k => w0.heap.size ≤ k) h.2.1).setCell (p := ⟨g, 1, none⟩) (.inl h.2.2) u) (Nat.le_refl _) (fun k hk => hk), h.2.2⟩
theorem FB.put2 {w0 w : World} {g : Nat} {a b : Value} (h : FB w0 w g a b) (u v : Value) : FB w0 (put2 w g u v) g u v := (h.set0 u).set1 v
theorem FB.cells {w0 w : World} {g : Nat} {a b : Value} (h : FB w0 w g a b) : w.cell? ⟨g, 0, none⟩ = some a ∧ w.cell? ⟨g, 1, none⟩ = some b ∧ w.frozen? ⟨g, 0, none⟩ = false ∧ w.frozen? ⟨g, 1, none⟩ = false :=
  ⟨h.1.cell (k := 0) rfl, h.1.cell (k := 1) rfl, h.1.free 0, h.1.free 1⟩

def emptyF : Fl := (⟨#[]⟩, ⟨#[]⟩)
/-- A fixed field off. -/
def knownF (s : ByteArray) (k : Nat) : Fl × ByteArray × Bool :=
  if (takeF (byt s) k).2.2 = false ∨ 12 ≤ (takeF (byt s) k).1 then (emptyF, ⟨#[]⟩, false) else (fixedL.getD (takeF (byt s) k).1 emptyF, txt (takeF (byt s) k).2.1, true)

theorem takeF_pos (l : List UInt8) (k : Nat) (h : (takeF l k).2.2 = true) : 0 ≤ (takeF l k).1 := Nat.zero_le _
theorem takeF_less (l : List UInt8) (k : Nat) (h : (takeF l k).2.2 = true) : (takeF l k).2.1.length < l.length := by
  cases l with
  | nil => simp [takeF] at h
  | cons b r =>
    unfold takeF at h ⊢
    simp only at h ⊢
    split
    · simp
    · split
      · rename_i h1 h2
        rw [if_neg h1, if_pos h2] at h
        cases h
      · have := moreG_len 9 0 0 r
        show (moreF r).2.1.length < _
        unfold moreF
        rw [List.length_cons]
        omega

theorem knownF_len (s : ByteArray) (k : Nat) (h : (knownF s k).2.2 = true) : (knownF s k).2.1.size < s.size := by
  unfold knownF at h ⊢
  by_cases hc : (takeF (byt s) k).2.2 = false ∨ 12 ≤ (takeF (byt s) k).1
  · rw [if_pos hc] at h; cases h
  · rw [if_neg hc]
    have h1 : (takeF (byt s) k).2.2 = true := by cases hh : (takeF (byt s) k).2.2 <;> simp_all
    have := takeF_less (byt s) k h1
    rw [byt_length] at this
    show (txt _).size < _
    rw [txt_size]
    exact this
theorem knownF_rest (s : ByteArray) (k : Nat) : (knownF s k).2.1.size ≤ s.size := by
  by_cases h : (knownF s k).2.2 = true
  · exact Nat.le_of_lt (knownF_len s k h)
  · unfold knownF at h ⊢
    by_cases hc : (takeF (byt s) k).2.2 = false ∨ 12 ≤ (takeF (byt s) k).1
    · rw [if_pos hc]; show 0 ≤ _; omega
    · rw [if_neg hc] at h; exact absurd rfl h

set_option maxRecDepth 100000 in
set_option maxHeartbeats 4000000 in
theorem known_any (s : ByteArray) (k : Nat) (w : World) (hs : s.size ≤ 100000) (hk : 1 ≤ k ∧ k ≤ 8) :
    Calls Try.prog 60 #[.string s, .int .i64 (k : Int)] w fun e w' => e = .returned (.tuple #[(knownF s k).1.v, .string (knownF s k).2.1, .bool (knownF s k).2.2]) ∧ Below w.heap.size w w' := by
  have ht := fun w => TakeNumber_any s k w hs hk
  have htl := takeF_len (byt s) k
  rw [byt_length] at htl
  unfold knownF
  generalize takeF (byt s) k = q at *
  obtain ⟨n, rest, is⟩ := q
  simp only at ht htl ⊢
  have HT := Lib.hid ht
  have HF := Lib.hid (FB.new w (.string ⟨#[]⟩) (.string ⟨#[]⟩))
  clear ht
  have hw12 : IntKind.u64.wrap 12 = 12 := by decide
  cases is
  case false =>
    rw [if_pos (.inl rfl)]
    unfold emptyF Fl.v
    simp only
    go_enter Try.func60, Try.ntmps60
    go_wp2_with fail
    refine (HT.out _).mono ?_
    rintro e w1 ⟨rfl, b1⟩
    have F1 := Lib.hid (HF.out.further b1)
    clear b1
    obtain ⟨c0, c1, f0, f1⟩ := F1.out.cells
    go_wp2_with fail
    have BZ := FB.put2 F1.out (.string ⟨#[]⟩) (.string ⟨#[]⟩)
    change bodyPost _ _ _ _ _ (put2 _ _ (.string ⟨#[]⟩) (.string ⟨#[]⟩))
    generalize put2 _ _ (.string ⟨#[]⟩) (.string ⟨#[]⟩) = F at BZ ⊢
    obtain ⟨z0, z1, _, _⟩ := BZ.cells
    refine bodyPost_ret (v := .tuple #[.agg #[.string ⟨#[]⟩, .string ⟨#[]⟩], .string ⟨#[]⟩, .bool false]) (by simp [results, Try.results60, go_sem, z0, z1]) rfl ⟨rfl, BZ.2.1⟩
  case true =>
    by_cases hn : 12 ≤ n
    case pos =>
      rw [if_pos (.inr hn)]
      have hd : decide ((12 : Int) ≤ (n : Int)) = true := by rw [decide_eq_true_iff]; omega
      have hdN : decide (12 ≤ n) = true := by rw [decide_eq_true_iff]; omega
      unfold emptyF Fl.v
      simp only
      clear hn
      go_enter Try.func60, Try.ntmps60
      go_wp2_with fail
      refine (HT.out _).mono ?_
      rintro e w1 ⟨rfl, b1⟩
      have F1 := Lib.hid (HF.out.further b1)
      clear b1
      go_wp2_with fail
      refine (Fixed_any _).mono ?_
      rintro e w2 ⟨rfl, hX, b2⟩
      have F2 := Lib.hid (F1.out.further b2)
      have HX := Lib.hid hX
      clear b2 hX
      obtain ⟨c0, c1, f0, f1⟩ := F2.out.cells
      go_wp2_with fail
      have BZ := FB.put2 F2.out (.string ⟨#[]⟩) (.string ⟨#[]⟩)
      change bodyPost _ _ _ _ _ (put2 _ _ (.string ⟨#[]⟩) (.string ⟨#[]⟩))
      generalize put2 _ _ (.string ⟨#[]⟩) (.string ⟨#[]⟩) = F at BZ ⊢
      obtain ⟨z0, z1, _, _⟩ := BZ.cells
      refine bodyPost_ret (v := .tuple #[.agg #[.string ⟨#[]⟩, .string ⟨#[]⟩], .string ⟨#[]⟩, .bool false]) (by simp [results, Try.results60, go_sem, z0, z1]) rfl ⟨rfl, BZ.2.1⟩
    case neg =>
      rw [if_neg (by simp; omega)]
      have hd : decide ((12 : Int) ≤ (n : Int)) = false := by rw [decide_eq_false_iff_not]; omega
      have hdN : decide (12 ≤ n) = false := by rw [decide_eq_false_iff_not]; omega
      have hg : fixedL[n]? = some (fixedL.getD n emptyF) := by
        have hl : n < fixedL.length := by show n < 12; omega
        rw [List.getElem?_eq_getElem hl, List.getD_eq_getElem?_getD, List.getElem?_eq_getElem hl]
        rfl
      obtain ⟨y1, y2⟩ := flc_at fixedL n _ hg
      generalize fixedL.getD n emptyF = f at *
      obtain ⟨n0, v0⟩ := f
      generalize txt rest = rs at *
      unfold Fl.v
      simp only at y1 y2 ⊢
      have hn2 : (n : Int) < 12 := by omega
      have hn3 : n < 12 := by omega
      have Y1 := Lib.hid y1
      have Y2 := Lib.hid y2
      clear hg hn y1 y2
      go_enter Try.func60, Try.ntmps60
      go_wp2_with fail
      refine (HT.out _).mono ?_
      rintro e w1 ⟨rfl, b1⟩
      have F1 := Lib.hid (HF.out.further b1)
      clear b1
      go_wp2_with fail
      refine (Fixed_any _).mono ?_
      rintro e w2 ⟨rfl, hX, b2⟩
      have F2 := Lib.hid (F1.out.further b2)
      have HX := Lib.hid hX
      clear b2 hX
      go_wp2_with fail
      refine (Fixed_any _).mono ?_
      rintro e w3 ⟨rfl, hX, b2⟩
      have F3 := Lib.hid (F2.out.further b2)
      have HX := Lib.hid hX
      clear b2 hX
      have k1 := HX.out.cell Y1.out
      have k2 := HX.out.cell Y2.out
      obtain ⟨c0, c1, f0, f1⟩ := F3.out.cells
      go_wp2_with fail
      have BZ := FB.put2 F3.out (.string n0) (.string v0)
      change bodyPost _ _ _ _ _ (put2 _ _ (.string n0) (.string v0))
      generalize put2 _ _ (.string n0) (.string v0) = F at BZ ⊢
      obtain ⟨z0, z1, _, _⟩ := BZ.cells
      refine bodyPost_ret (v := .tuple #[.agg #[.string n0, .string v0], .string rs, .bool true]) (by simp [results, Try.results60, go_sem, z0, z1]) rfl ⟨rfl, BZ.2.1⟩

end Go.Proofs.Ytgnoiheekgmleaa
