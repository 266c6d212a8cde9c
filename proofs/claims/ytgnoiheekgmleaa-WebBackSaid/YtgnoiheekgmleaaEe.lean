/- web: the inbox: its memory; New, takeHead, takeBody, pass, refuse, Body, Done. -/
import Derived.Test.YtgnoiheekgmleaaEd
namespace Go.Proofs.Ytgnoiheekgmleaa
open Go.ChangeShapes Go.WideShapes Go.RowKit
set_option linter.unusedVariables false

/-- A row of bytes. -/
def U8 (w : World) (k : Nat) : Prop := ∃ cur fz, w.heap[k]? = some (.cells cur 5 fz)
/-- What an inbox's calls leave as it is: all but the inbox, and rows of bytes of the call's own. -/
def Ifr (B b : Nat) (w w' : World) : Prop := Only (fun k => k = b ∨ (B ≤ k ∧ U8 w k)) w w'
theorem Ifr.refl (B b : Nat) (w : World) : Ifr B b w w := Only.refl _ _
theorem Ifr.trans {B b : Nat} {w w1 w2 : World} (h : Ifr B b w w1) (h2 : Ifr B b w1 w2) : Ifr B b w w2 := by
  refine ⟨h2.os.trans h.os, h2.tape.trans h.tape, h2.output.trans h.output, Nat.le_trans h.size h2.size, fun k hk hs => ?_⟩
  have e1 := h.block k hk hs
  refine (h2.block k (Nat.lt_of_lt_of_le hk h.size) ?_).trans e1
  rintro (e | ⟨e, cur, fz, hu⟩)
  · exact hs (.inl e)
  · exact hs (.inr ⟨e, cur, fz, by rw [← e1]; exact hu⟩)
theorem Ifr.of {B b : Nat} {w w' : World} (h : Below w.heap.size w w') : Ifr B b w w' := Only.ofBelow h
theorem Ifr.only {B b : Nat} {w w' : World} {l : List UInt8} {bf : Value} (hd : Bd w B l bf) (h : Only (fun k => k = b ∨ bf.ownBlock = some k) w w') : Ifr B b w w' := by
  refine h.mono (fun k hk => ?_)
  rcases hk with e | e
  · exact .inl e
  · refine .inr ⟨(hd.lt k e).1, ?_⟩
    rcases hd.row.2 with ⟨hv, _⟩ | ⟨g, cap, cur, fz, hv, _, hg, _⟩
    · rw [hv] at e; cases e
    · rw [hv] at e
      injection e with e
      have e : g = k := e
      subst e
      exact ⟨cur, fz, hg⟩
theorem Ifr.below {B b : Nat} {w w' : World} (h : Ifr B b w w') (hb : B ≤ b) (hB : B ≤ w.heap.size) : Below B w w' := Only.below h hB (fun k hk => by
  rcases hk with e | e
  · omega
  · exact e.1)
theorem Ifr.blk {B b c : Nat} {w w' : World} {T : TypeId} {V : List Value} (h : Ifr B b w w') (hc : blk w c T V) (hT : T ≠ 5) (hne : c ≠ b) : Go.Proofs.Ytgnoiheekgmleaa.blk w' c T V := by
  refine hc.only h ?_
  rintro (e | ⟨_, cur, fz, hu⟩)
  · exact hne e
  · unfold Go.Proofs.Ytgnoiheekgmleaa.blk at hc
    rw [hc] at hu
    injection hu with hu
    injection hu with _ h2 _
    exact hT h2

/-- An inbox under way. -/
structure Ibx (x : World) (B b br : Nat) (I : IB) (fin : Bool) (e : Int) (ad bf : Value) : Prop where
  at_ : blk x b 94 [.pointer (some ⟨br, 0, none⟩), .string (txt I.came), .string (txt I.sec), .bool I.head, ad, bf, .bool fin, .int .i64 e]
  ad_ : ad = .pointer none ∨ ad = .pointer (some ⟨b, 4, none⟩)
  bd : Bd x B I.body bf
  bb : B ≤ b
  bw : B ≤ x.heap.size
def IbTo (B b br : Nat) (I' : IB) (fin : Bool) (e : Int) (w w' : World) : Prop := ∃ ad bf, Ibx w' B b br I' fin e ad bf ∧ Ifr B b w w'

theorem Try.liesIn : liesAt Try.prog Try.prog.depth 94 (8 / Try.prog.cellsOf 94) 4 78 1 = true := by kernel_rfl

section
variable {x y : World} {B b br : Nat} {I : IB} {fin : Bool} {e : Int} {ad bf : Value}
theorem Ibx.lt (h : Ibx x B b br I fin e ad bf) : b < x.heap.size := h.at_.lt
theorem Ibx.next (h : Ibx x B b br I fin e ad bf) (hb : Below x.heap.size x y) : Ibx y B b br I fin e ad bf :=
  ⟨h.at_.below hb h.lt, h.ad_, h.bd.next hb, h.bb, Nat.le_trans h.bw hb.size⟩
theorem Ibx.ne (h : Ibx x B b br I fin e ad bf) : bf.ownBlock ≠ some b := h.bd.ne h.at_ (by decide)
/-- One cell of the inbox is written. -/
theorem Ibx.set (h : Ibx x B b br I fin e ad bf) (k : Nat) (u : Value) {I' : IB} {fin' : Bool} {e' : Int}
    (hs : ([.pointer (some ⟨br, 0, none⟩), .string (txt I.came), .string (txt I.sec), .bool I.head, ad, bf, .bool fin, .int .i64 e] : List Value).set k u = [.pointer (some ⟨br, 0, none⟩), .string (txt I'.came), .string (txt I'.sec), .bool I'.head, ad, bf, .bool fin', .int .i64 e']) (hbody : I'.body = I.body) :
    Ibx (x.setCell ⟨b, k, none⟩ u) B b br I' fin' e' ad bf ∧ Ifr B b x (x.setCell ⟨b, k, none⟩ u) := by
  have hO : Only (fun k => k = b) x (x.setCell ⟨b, k, none⟩ u) := Only.setCell (S := fun k => k = b) (p := ⟨b, k, none⟩) (Only.refl _ x) (.inl rfl) u
  refine ⟨⟨?_, h.ad_, by rw [hbody]; exact h.bd.only hO (fun k hk e => h.ne (by rw [hk, e])), h.bb, Nat.le_trans h.bw hO.size⟩, hO.mono (fun k hk => .inl hk)⟩
  rw [← hs]
  exact h.at_.set k u
end

section
variable {B b br : Nat} {I : IB} {fin : Bool} {e : Int} {ad bf : Value} {w : World}

set_option maxRecDepth 100000 in
theorem pass_any (d : ByteArray) (h : Ibx w B b br I fin e ad bf) (kind : Nat) (hk : kind ≠ 0 ∧ kind ≠ 1 ∧ kind ≠ 4 ∧ kind ≠ 7) :
    Calls Try.prog 62 #[.pointer (some ⟨b, 0, none⟩), .string d] w fun e1 w' => e1 = .returned (.int .i64 (actF I kind (byt d)).2) ∧ IbTo B b br (actF I kind (byt d)).1 fin e w w' := by
  have ha : actF I kind (byt d) = (I, 0) := by unfold actF; rw [if_neg (by omega), if_neg (by omega), if_neg (by omega)]
  rw [ha]
  have H := Lib.hid h
  clear h ha hk
  go_enter Try.func62, Try.ntmps62
  go_wp2_with fail
  go_ret
  exact ⟨rfl, ad, bf, H.out, Ifr.refl _ _ _⟩
set_option maxRecDepth 100000 in
theorem refuse_any (d : ByteArray) (h : Ibx w B b br I fin e ad bf) (kind : Nat) (hk : kind = 4 ∨ kind = 7) :
    Calls Try.prog 65 #[.pointer (some ⟨b, 0, none⟩), .string d] w fun e1 w' => e1 = .returned (.int .i64 (actF I kind (byt d)).2) ∧ IbTo B b br (actF I kind (byt d)).1 fin e w w' := by
  have ha : actF I kind (byt d) = (I, 22) := by unfold actF; rw [if_neg (by omega), if_neg (by omega), if_pos hk]
  rw [ha]
  have H := Lib.hid h
  clear h ha hk
  go_enter Try.func65, Try.ntmps65
  go_wp2_with fail
  go_ret
  exact ⟨rfl, ad, bf, H.out, Ifr.refl _ _ _⟩
set_option maxRecDepth 100000 in
theorem takeHead_any (d : ByteArray) (h : Ibx w B b br I fin e ad bf) :
    Calls Try.prog 63 #[.pointer (some ⟨b, 0, none⟩), .string d] w fun e1 w' => e1 = .returned (.int .i64 (actF I 1 (byt d)).2) ∧ IbTo B b br (actF I 1 (byt d)).1 fin e w w' := by
  have c3 := h.at_.cell (k := 3) rfl
  have c2 := h.at_.cell (k := 2) rfl
  have f3 := h.at_.free 3
  have f2 := h.at_.free 2
  obtain ⟨came, sec, head, body⟩ := I
  cases head with
  | true =>
    have ha : actF ⟨came, sec, true, body⟩ 1 (byt d) = (⟨came, sec, true, body⟩, 22) := rfl
    rw [ha]
    have H := Lib.hid h
    clear h ha
    go_enter Try.func63, Try.ntmps63
    go_wp2_with fail
    go_ret
    exact ⟨rfl, ad, bf, H.out, Ifr.refl _ _ _⟩
  | false =>
    have ha : actF ⟨came, sec, false, body⟩ 1 (byt d) = (⟨came, byt d, true, body⟩, 0) := rfl
    rw [ha]
    obtain ⟨h1, g1⟩ := h.set 3 (.bool true) (I' := ⟨came, sec, true, body⟩) (fin' := fin) (e' := e) rfl rfl
    obtain ⟨h2, g2⟩ := h1.set 2 (.string d) (I' := ⟨came, byt d, true, body⟩) (fin' := fin) (e' := e) (by rw [txt_byt]; rfl) rfl
    have H := Lib.hid (And.intro h2 (g1.trans g2))
    clear h ha h1 g1 h2 g2
    simp only at c3 c2
    go_enter Try.func63, Try.ntmps63
    go_wp2_with fail
    go_ret
    exact ⟨rfl, ad, bf, H.out.1, H.out.2⟩
set_option maxRecDepth 100000 in
set_option maxHeartbeats 1000000 in
theorem takeBody_any (d : ByteArray) (h : Ibx w B b br I fin e ad bf) (hlen : I.body.length + d.size ≤ 1000000) :
    Calls Try.prog 64 #[.pointer (some ⟨b, 0, none⟩), .string d] w fun e1 w' => e1 = .returned (.int .i64 (actF I 0 (byt d)).2) ∧ IbTo B b br (actF I 0 (byt d)).1 fin e w w' := by
  have c3 := h.at_.cell (k := 3) rfl
  obtain ⟨came, sec, head, body⟩ := I
  cases head with
  | false =>
    have ha : actF ⟨came, sec, false, body⟩ 0 (byt d) = (⟨came, sec, false, body⟩, 22) := rfl
    rw [ha]
    have H := Lib.hid h
    clear h ha
    go_enter Try.func64, Try.ntmps64
    go_wp2_with fail
    go_ret
    exact ⟨rfl, ad, bf, H.out, Ifr.refl _ _ _⟩
  | true =>
    have ha : actF ⟨came, sec, true, body⟩ 0 (byt d) = (⟨came, sec, true, body ++ byt d⟩, 0) := rfl
    rw [ha]
    have hw := WriteString_any 94 b 4 B [.pointer (some ⟨br, 0, none⟩), .string (txt came), .string (txt sec), .bool true, ad, bf, .bool fin, .int .i64 e] ad bf body d w Try.liesIn (by decide) h.at_ rfl rfl h.ad_ h.bd h.bw hlen
    have H := Lib.hid h
    have HW := Lib.hid hw
    clear h ha hw
    simp only at c3
    go_enter Try.func64, Try.ntmps64
    go_wp2_with fail
    refine HW.out.mono ?_
    rintro e1 w1 ⟨rfl, bf', hb, hd, ho⟩
    have HF := Lib.hid (show IbTo B b br ⟨came, sec, true, body ++ byt d⟩ fin e w w1 from ⟨_, bf', ⟨hb, .inr rfl, hd, H.out.bb, Nat.le_trans H.out.bw ho.size⟩, Ifr.only H.out.bd ho⟩)
    clear hb hd ho HW
    go_wp2_with fail
    go_ret
    exact ⟨rfl, HF.out⟩

set_option maxRecDepth 100000 in
theorem Body_any (h : Ibx w B b br I fin e ad bf) (hlen : I.body.length ≤ 1000000) :
    Calls Try.prog 23 #[.pointer (some ⟨b, 0, none⟩)] w fun e1 w' => e1 = .returned (.string (txt I.body)) ∧ IbTo B b br I fin e w w' := by
  have hw := String_any 94 b 4 B _ bf I.body w (by decide) h.at_ rfl h.bd hlen
  have H := Lib.hid h
  have HW := Lib.hid hw
  clear h hw
  go_enter Try.func23, Try.ntmps23
  go_wp2_with fail
  refine HW.out.mono ?_
  rintro e1 w1 ⟨rfl, hb, hd, ho⟩
  have HF := Lib.hid (show IbTo B b br I fin e w w1 from ⟨ad, bf, ⟨hb, H.out.ad_, hd, H.out.bb, Nat.le_trans H.out.bw ho.size⟩, Ifr.only H.out.bd (ho.mono (fun k hk => .inr hk))⟩)
  clear hb hd ho HW
  go_wp2_with fail
  go_ret
  exact ⟨rfl, HF.out⟩

set_option maxRecDepth 100000 in
theorem Done_any (h : Ibx w B b br I fin e ad bf) :
    Calls Try.prog 22 #[.pointer (some ⟨b, 0, none⟩)] w fun e1 w' => e1 = .returned (.bool (fin && e == 0)) ∧ IbTo B b br I fin e w w' := by
  have c6 := h.at_.cell (k := 6) rfl
  have c7 := h.at_.cell (k := 7) rfl
  have H := Lib.hid h
  clear h
  cases fin with
  | true =>
    by_cases he : e = 0
    · subst he
      go_enter Try.func22, Try.ntmps22
      go_wp2_with fail
      go_ret
      exact ⟨rfl, ad, bf, H.out, Ifr.refl _ _ _⟩
    · have he2 : (e == 0) = false := by rw [beq_eq_false_iff_ne]; exact he
      rw [he2]
      go_enter Try.func22, Try.ntmps22
      go_wp2_with fail
      go_ret
      exact ⟨rfl, ad, bf, H.out, Ifr.refl _ _ _⟩
  | false =>
    go_enter Try.func22, Try.ntmps22
    go_wp2_with fail
    go_ret
    exact ⟨rfl, ad, bf, H.out, Ifr.refl _ _ _⟩
end

end Go.Proofs.Ytgnoiheekgmleaa
