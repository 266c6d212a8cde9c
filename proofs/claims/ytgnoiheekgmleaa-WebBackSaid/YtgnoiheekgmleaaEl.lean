/- web: the law's awake. -/
import Derived.Test.YtgnoiheekgmleaaEk
namespace Go.Proofs.Ytgnoiheekgmleaa
open Go.ChangeShapes Go.WideShapes Go.RowKit
set_option linter.unusedVariables false
set_option linter.unusedSimpArgs false

def awT : Tbl := ⟨[], 200, 0⟩
def fg : Fl := (bs [58, 109, 101, 116, 104, 111, 100], bs [71, 69, 84])
theorem awTok : awT.Ok := ⟨by decide, by decide, by decide⟩
theorem aw_most : mostF 200 = 200 := by decide
def awI1 : IB := ⟨[1, 3, 0, 0], [], false, []⟩
def awI2 : IB := ⟨[], [0, 0, 192], true, [104, 105]⟩
def awI3 : IB := ⟨[0, 1, 120], [], false, []⟩

theorem aw_write : webF awT [fg] [104, 105] = (awT, ⟨#[]⟩, [1, 3, 0, 0, 192, 0, 2, 104, 105], 0) := by kernel_rfl
theorem aw_add1 : addI emptyIB [1, 3, 0, 0] false = (awI1, 0) := by kernel_rfl
theorem aw_add2 : addI awI1 [192, 0, 2, 104, 105] true = (awI2, 0) := by kernel_rfl
theorem aw_add3 : addI emptyIB [0, 1, 120] false = (awI3, 22) := by kernel_rfl
theorem aw_read : readF [] (txt [0, 0, 192]) = ([fg], 0) := by kernel_rfl
theorem aw_take1 : wtake [33, 1, 97, 98] = (33, [97], [98], 0) := by kernel_rfl
theorem aw_take2 : wtake [2] = (0, [], [], 2) := by kernel_rfl
theorem aw_right : rightL [] [(6, 100)] = true := by decide
theorem aw_put : frameB 4 (setB [(6, 100)]) = [4, 3, 6, 64, 100] := by kernel_rfl
theorem aw_put0 : frameB 0 [] = [0, 0] := by kernel_rfl

set_option maxRecDepth 100000 in
theorem Write_nil (p : Option Addr) (n cap : Nat) (body : ByteArray) (w : World) :
    Calls Try.prog 11 #[.pointer none, .agg #[.slice p n cap, .string body]] w fun e w' => e = .returned (.tuple #[.string ⟨#[]⟩, .string ⟨#[]⟩, .int .i64 1]) ∧ Below w.heap.size w w' := by
  have HB := Lib.hid (show Below w.heap.size w (w.alloc (.cells #[.slice p n cap, .string body] 31)) from (Below.refl _ _).alloc (Nat.le_refl _) _)
  go_enter Try.func11, Try.ntmps11
  go_wp2_with fail
  go_ret3
  exact ⟨rfl, HB.out⟩

/-- What the call keeps from the message on. -/
structure AwK (w x : World) (gm gl br : Nat) : Prop where
  m : blk x gm 31 [.slice (some ⟨gl, 0, none⟩) 1 1, .string ⟨#[104, 105]⟩]
  l : blk x gl 66 [.string ⟨#[58, 109, 101, 116, 104, 111, 100]⟩, .string ⟨#[71, 69, 84]⟩]
  r : blk x br 89 (Tbl.cells awT (.slice none 0 0))
  b : Below w.heap.size w x
theorem AwK.next {w x y : World} {gm gl br : Nat} (h : AwK w x gm gl br) (hb : Below x.heap.size x y) : AwK w y gm gl br :=
  ⟨h.m.below hb h.m.lt, h.l.below hb h.l.lt, h.r.below hb h.r.lt, h.b.trans (hb.mono h.b.size)⟩
theorem AwK.ifr {w x y : World} {gm gl br b : Nat} (h : AwK w x gm gl br) (hi : Ifr w.heap.size b x y) (hb : w.heap.size ≤ b) (h1 : gm ≠ b) (h2 : gl ≠ b) (h3 : br ≠ b) : AwK w y gm gl br :=
  ⟨hi.blk h.m (by decide) h1, hi.blk h.l (by decide) h2, hi.blk h.r (by decide) h3, h.b.trans (hi.below hb h.b.size)⟩
theorem AwK.tab {w x : World} {gm gl br : Nat} (h : AwK w x gm gl br) : TblIs x w.heap.size br 89 (.slice none 0 0) awT := ⟨h.r, World.ownsRow_nil _ _ _ _⟩

theorem AwK.only {w x y : World} {gm gl br b : Nat} (h : AwK w x gm gl br) (hi : Only (fun k => k = b ∨ (Value.slice none 0 0).ownBlock = some k) x y) (hb : w.heap.size ≤ b) (h1 : gm ≠ b) (h2 : gl ≠ b) (h3 : br ≠ b) : AwK w y gm gl br :=
  ⟨h.m.only hi (fun e => by rcases e with e | e; exact h1 e; cases e), h.l.only hi (fun e => by rcases e with e | e; exact h2 e; cases e), h.r.only hi (fun e => by rcases e with e | e; exact h3 e; cases e), h.b.trans (hi.below h.b.size (fun k e => by rcases e with e | e; omega; cases e))⟩
/-- A row of the call's own, as a block. -/
theorem own_blk {x : World} {B sz n : Nat} {T : TypeId} {v : Value} {xs : List Value} (h : x.ownsRow B T sz v n xs) (hl : 0 < n) : ∃ g cap M, v = .slice (some ⟨g, 0, none⟩) n cap ∧ B ≤ g ∧ blk x g T (xs ++ M) := by
  rcases h.2 with ⟨_, e⟩ | ⟨g, cap, cur, rfl, hb, hh, _, _, hc, ht⟩
  · omega
  · refine ⟨g, cap, cur.toList.drop (n * sz), rfl, hb, ?_⟩
    unfold blk
    have e : xs ++ cur.toList.drop (n * sz) = cur.toList := by rw [← ht, List.take_append_drop]
    rw [e]
    exact hh
/-- Another inbox, whose body is empty, stays. -/
theorem Ibx.pass {x y : World} {B b br B' b' : Nat} {I : IB} {fin : Bool} {e : Int} {ad bf : Value} (h : Ibx x B b br I fin e ad bf) (hI : I.body = []) (hi : Ifr B' b' x y) (hne : b ≠ b') : Ibx y B b br I fin e ad bf := by
  have hbf := h.bd.nil hI
  refine ⟨hi.blk h.at_ (by decide) hne, h.ad_, ?_, h.bb, Nat.le_trans h.bw hi.size⟩
  rw [hI, hbf]
  exact Bd.start _ _

/-- What the call keeps behind the second inbox. -/
structure AwZ (w z : World) (gm gl br b c gv Bc : Nat) (M : List Value) (ad bf ad' bf' : Value) : Prop where
  k : AwK w z gm gl br
  b : Ibx z w.heap.size b br awI2 true 0 ad bf
  c : Ibx z Bc c br awI3 false 22 ad' bf'
  v : blk z gv 66 ([.string ⟨#[58, 109, 101, 116, 104, 111, 100]⟩, .string ⟨#[71, 69, 84]⟩] ++ M)
theorem AwZ.next {w z y : World} {gm gl br b c gv Bc : Nat} {M : List Value} {ad bf ad' bf' : Value} (h : AwZ w z gm gl br b c gv Bc M ad bf ad' bf') (hb : Below z.heap.size z y) : AwZ w y gm gl br b c gv Bc M ad bf ad' bf' :=
  ⟨h.k.next hb, h.b.next hb, h.c.next hb, h.v.below hb h.v.lt⟩

/-- Done looks, and turns nothing. -/
theorem Done_same {w : World} {B b br : Nat} {I : IB} {fin : Bool} {e : Int} {ad bf : Value} (h : Ibx w B b br I fin e ad bf) (he : e = 0 ∨ e = 22) :
    Calls Try.prog 22 #[.pointer (some ⟨b, 0, none⟩)] w fun e1 w' => e1 = .returned (.bool (fin && e == 0)) ∧ w = w' := by
  have c6 := h.at_.cell (k := 6) rfl
  have c7 := h.at_.cell (k := 7) rfl
  clear h
  cases fin with
  | true =>
    rcases he with rfl | rfl
    all_goals
      go_enter Try.func22, Try.ntmps22
      go_wp2_with fail
      go_ret
      exact ⟨rfl, rfl⟩
  | false =>
    clear he
    go_enter Try.func22, Try.ntmps22
    go_wp2_with fail
    go_ret
    exact ⟨rfl, rfl⟩

/-- What stands while the last line is reckoned. -/
structure AwS (w z : World) (gm gl br b c gv gp Bc : Nat) (M M2 : List Value) : Prop where
  k : AwK w z gm gl br
  ib : ∃ ad bf, Ibx z w.heap.size b br awI2 true 0 ad bf
  ic : ∃ ad bf, Ibx z Bc c br awI3 false 22 ad bf
  v : blk z gv 66 ([.string ⟨#[58, 109, 101, 116, 104, 111, 100]⟩, .string ⟨#[71, 69, 84]⟩] ++ M)
  p : blk z gp 46 ([.int .u64 6, .int .u64 100] ++ M2)
  n : w.heap.size ≤ b ∧ gm ≠ b ∧ gl ≠ b ∧ br ≠ b ∧ c ≠ b ∧ gv ≠ b ∧ gp ≠ b
section
variable {w z y : World} {gm gl br b c gv gp Bc : Nat} {M M2 : List Value}
theorem AwS.next (h : AwS w z gm gl br b c gv gp Bc M M2) (hb : Below z.heap.size z y) : AwS w y gm gl br b c gv gp Bc M M2 := by
  obtain ⟨ad, bf, hI⟩ := h.ib
  obtain ⟨ad', bf', hC⟩ := h.ic
  exact ⟨h.k.next hb, ⟨ad, bf, hI.next hb⟩, ⟨ad', bf', hC.next hb⟩, h.v.below hb h.v.lt, h.p.below hb h.p.lt, h.n⟩
theorem AwS.cells (h : AwS w z gm gl br b c gv gp Bc M M2) :
    (z.cell? ⟨gv, 0, none⟩ = some (.string ⟨#[58, 109, 101, 116, 104, 111, 100]⟩) ∧ z.cell? ⟨gv, 1, none⟩ = some (.string ⟨#[71, 69, 84]⟩) ∧ z.cell? ⟨gm, 0, none⟩ = some (.slice (some ⟨gl, 0, none⟩) 1 1) ∧ z.cell? ⟨gl, 0, none⟩ = some (.string ⟨#[58, 109, 101, 116, 104, 111, 100]⟩) ∧ z.cell? ⟨gl, 1, none⟩ = some (.string ⟨#[71, 69, 84]⟩) ∧ z.cell? ⟨gp, 1, none⟩ = some (.int .u64 100)) ∧ AwS w z gm gl br b c gv gp Bc M M2 :=
  ⟨⟨h.v.cell (k := 0) rfl, h.v.cell (k := 1) rfl, h.k.m.cell (k := 0) rfl, h.k.l.cell (k := 0) rfl, h.k.l.cell (k := 1) rfl, h.p.cell (k := 1) rfl⟩, h⟩
theorem AwS.body (h : AwS w z gm gl br b c gv gp Bc M M2) : Calls Try.prog 23 #[.pointer (some ⟨b, 0, none⟩)] z fun e y => e = .returned (.string ⟨#[104, 105]⟩) ∧ AwS w y gm gl br b c gv gp Bc M M2 := by
  obtain ⟨ad, bf, hI⟩ := h.ib
  obtain ⟨ad', bf', hC⟩ := h.ic
  obtain ⟨n0, n1, n2, n3, n4, n5, n6⟩ := h.n
  refine (Body_any hI (by decide)).mono ?_
  rintro e y ⟨rfl, ad3, bf3, hI3, hif3⟩
  exact ⟨rfl, h.k.ifr hif3 n0 n1 n2 n3, ⟨ad3, bf3, hI3⟩, ⟨ad', bf', hC.pass rfl hif3 n4⟩, hif3.blk h.v (by decide) n5, hif3.blk h.p (by decide) n6, h.n⟩
theorem AwS.done (h : AwS w z gm gl br b c gv gp Bc M M2) : Calls Try.prog 22 #[.pointer (some ⟨b, 0, none⟩)] z fun e y => e = .returned (.bool true) ∧ z = y := by
  obtain ⟨ad, bf, hI⟩ := h.ib
  exact Done_same hI (.inl rfl)
theorem AwS.doneC (h : AwS w z gm gl br b c gv gp Bc M M2) : Calls Try.prog 22 #[.pointer (some ⟨c, 0, none⟩)] z fun e y => e = .returned (.bool false) ∧ z = y := by
  obtain ⟨ad, bf, hC⟩ := h.ic
  exact Done_same hC (.inr rfl)
theorem aw_putE (z : World) : Calls Try.prog 17 #[.int .u64 0, .string ⟨#[]⟩] z fun e y => e = .returned (.string ⟨#[0, 0]⟩) ∧ Below z.heap.size z y := by
  have := wPut_any 0 ⟨#[]⟩ z (by decide) (by decide)
  rw [show byt ⟨#[]⟩ = [] from rfl, aw_put0] at this
  exact this
end

set_option maxRecDepth 100000 in
set_option maxHeartbeats 8000000 in
theorem awake_any (w : World) : Calls Try.prog 7 #[] w fun e w' => e = .returned (.bool true) ∧ Below w.heap.size w w' := by
  have HNW := Lib.hid (fun w => NewWriter_any 200 (by decide) w)
  have HNR := Lib.hid (fun w => NewReader_any 200 (by decide) w)
  have hx1 : (⟨#[1, 3, 0, 0, 192, 0, 2, 104, 105]⟩ : ByteArray).extract 0 4 = ⟨#[1, 3, 0, 0]⟩ := by rfl
  have hx2 : (⟨#[1, 3, 0, 0, 192, 0, 2, 104, 105]⟩ : ByteArray).extract 4 9 = ⟨#[192, 0, 2, 104, 105]⟩ := by rfl
  go_enter Try.func7, Try.ntmps7
  go_wp2_with fail
  refine (HNW.out _).mono ?_
  rintro e w1 ⟨bw, rfl, hbw, hk1, b1⟩
  rw [aw_most] at hk1
  have K1 := Lib.hid hk1
  have B1 := Lib.hid b1
  have lw := hk1.lt
  clear hk1 b1
  go_wp2_with fail
  refine (HNR.out _).mono ?_
  rintro e w2 ⟨br, rfl, hbr, hk2, b2⟩
  rw [aw_most] at hk2
  have s1 := B1.out.size
  have s2 := b2.size
  have lr := hk2.lt
  have K2 := Lib.hid hk2
  have B2 := Lib.hid (B1.out.trans (b2.mono B1.out.size))
  have W2 := Lib.hid (K1.out.below b2 K1.out.lt)
  clear hk2 b2 B1 K1
  go_wp2_with fail
  have hA : AwK w ((w2.alloc (.cells #[.string ⟨#[58, 109, 101, 116, 104, 111, 100]⟩, .string ⟨#[71, 69, 84]⟩] 66)).alloc (.cells #[.slice (some ⟨w2.heap.size, 0, none⟩) 1 1, .string ⟨#[104, 105]⟩] 31)) (w2.heap.size + 1) w2.heap.size br := by
    have ha : Below w2.heap.size w2 (w2.alloc (.cells #[.string ⟨#[58, 109, 101, 116, 104, 111, 100]⟩, .string ⟨#[71, 69, 84]⟩] 66)) := (Below.refl _ _).alloc (Nat.le_refl _) _
    refine ⟨?_, ?_, ?_, ?_⟩
    · have := blk.new (w2.alloc (.cells #[.string ⟨#[58, 109, 101, 116, 104, 111, 100]⟩, .string ⟨#[71, 69, 84]⟩] 66)) 31 [.slice (some ⟨w2.heap.size, 0, none⟩) 1 1, .string ⟨#[104, 105]⟩]
      rw [World.size_alloc] at this
      exact this
    · exact (blk.new w2 66 [.string ⟨#[58, 109, 101, 116, 104, 111, 100]⟩, .string ⟨#[71, 69, 84]⟩]).alloc _
    · exact (K2.out.below ha K2.out.lt).alloc _
    · exact (B2.out.alloc (o := .cells #[.string ⟨#[58, 109, 101, 116, 104, 111, 100]⟩, .string ⟨#[71, 69, 84]⟩] 66) B2.out.size).alloc (by rw [World.size_alloc]; have := B2.out.size; omega) _
  have hW : blk ((w2.alloc (.cells #[.string ⟨#[58, 109, 101, 116, 104, 111, 100]⟩, .string ⟨#[71, 69, 84]⟩] 66)).alloc (.cells #[.slice (some ⟨w2.heap.size, 0, none⟩) 1 1, .string ⟨#[104, 105]⟩] 31)) bw 71 (Tbl.cells awT (.slice none 0 0)) := (W2.out.alloc _).alloc _
  have lbw : bw < w2.heap.size := by omega
  generalize (w2.alloc (.cells #[.string ⟨#[58, 109, 101, 116, 104, 111, 100]⟩, .string ⟨#[71, 69, 84]⟩] 66)).alloc (.cells #[.slice (some ⟨w2.heap.size, 0, none⟩) 1 1, .string ⟨#[104, 105]⟩] 31) = x2 at *
  generalize w2.heap.size = g at *
  have hgw : w.heap.size ≤ g := by omega
  have HWr := Lib.hid (wWrite_any w.heap.size bw (.slice none 0 0) awT [fg] (some ⟨g, 0, none⟩) 1 ⟨#[104, 105]⟩ x2 ⟨hW, World.ownsRow_nil _ _ _ _⟩ awTok hA.b.size hbw (FV.of_blk (L := [fg]) (T := 66) hA.l) (by decide) (by
    intro _ g' o hgo
    injection hgo with hgo
    injection hgo with e1 e2
    subst e1
    exact ⟨hA.l.lt, by omega, by simp [Value.ownBlock]⟩) (by decide))
  have A2 := Lib.hid hA
  clear hA hW K2 B2 W2 HNW HNR
  refine HWr.out.mono ?_
  rintro e w3 ⟨rfl, hto⟩
  rw [show byt ⟨#[104, 105]⟩ = [104, 105] from rfl, aw_write] at hto ⊢
  obtain ⟨vw, _, ho, _⟩ := hto
  have A3 := Lib.hid (A2.out.only ho hbw (by omega) (by omega) (by omega))
  clear ho A2 HWr
  rw [show txt [1, 3, 0, 0, 192, 0, 2, 104, 105] = (⟨#[1, 3, 0, 0, 192, 0, 2, 104, 105]⟩ : ByteArray) from rfl]
  have m0 := A3.out.m.cell (k := 0) rfl
  have m1 := A3.out.m.cell (k := 1) rfl
  go_wp2_with fail
  refine (Write_nil (some ⟨g, 0, none⟩) 1 1 ⟨#[104, 105]⟩ _).mono ?_
  rintro e w4 ⟨rfl, hb4⟩
  have A4 := Lib.hid (A3.out.next hb4)
  clear hb4 A3 m0 m1
  go_wp2_with fail
  refine (New_any br w.heap.size _ A4.out.b.size).mono ?_
  rintro e w5 ⟨rfl, hib, hb5⟩
  have l1 := A4.out.m.lt
  have l2 := A4.out.l.lt
  have l3 := A4.out.r.lt
  have l4 := A4.out.b.size
  have A5 := Lib.hid (A4.out.next hb5)
  have I5 := Lib.hid hib
  generalize w4.heap.size = b at *
  clear hib hb5 A4
  go_wp2_with fail
  refine (New_nil _).mono ?_
  rintro e w6 ⟨rfl, rfl⟩
  go_wp2_with fail
  have HA1 := Lib.hid (Add_any ⟨#[1, 3, 0, 0]⟩ false (I5.out.next ((Below.refl _ _).drew)) (by decide))
  rw [show byt ⟨#[1, 3, 0, 0]⟩ = [1, 3, 0, 0] from rfl, aw_add1] at HA1
  have HA2 : Hid (∀ y, IbTo w.heap.size b br awI1 false 0 w5.drew y → Calls Try.prog 21 #[.pointer (some ⟨b, 0, none⟩), .string ⟨#[192, 0, 2, 104, 105]⟩, .bool true] y fun e1 w' => e1 = .returned (.int .i64 0) ∧ IbTo w.heap.size b br awI2 true 0 w5.drew w') := Lib.hid (by
    rintro y ⟨ad, bf, h1, h2⟩
    refine (Add_any ⟨#[192, 0, 2, 104, 105]⟩ true h1 (by decide)).mono ?_
    rw [show byt ⟨#[192, 0, 2, 104, 105]⟩ = [192, 0, 2, 104, 105] from rfl, aw_add2]
    rintro e w' ⟨rfl, ad', bf', h3, h4⟩
    exact ⟨rfl, ad', bf', h3, h2.trans h4⟩)
  go_region_held (fun _ => True) (exact trivial)
    (first | (go_at_call 21; with_reducible refine HA1.out.mono ?_; rintro e x1 ⟨rfl, s1⟩) | (go_at_call 21; with_reducible refine (HA2.out _ s1).mono ?_; rintro e x2 ⟨rfl, s2⟩))
  clear s1 HA1 HA2 hx1 hx2
  obtain ⟨ad, bf, hI, hif⟩ := s2
  have A6 := Lib.hid ((A5.out.next ((Below.refl _ _).drew)).ifr hif l4 (by omega) (by omega) (by omega))
  have I6 := Lib.hid hI
  clear hI hif A5 I5
  go_wp2_with fail
  have hfd := Fields_any w.heap.size (.slice none 0 0) awT I6.out rfl A6.out.tab (by decide) (by decide)
  rw [show readF awT.l (txt awI2.sec) = ([fg], 0) from aw_read] at hfd
  refine hfd.mono ?_
  clear hfd
  rintro e x3 ⟨b3, v3, rfl, ho3⟩
  obtain ⟨gv, capv, M, rfl, hgv, hbv⟩ := own_blk (n := 1) (sz := 2) (xs := [.string ⟨#[58, 109, 101, 116, 104, 111, 100]⟩, .string ⟨#[71, 69, 84]⟩]) ho3 (by decide)
  have A7 := Lib.hid (A6.out.next b3)
  have I7 := Lib.hid (I6.out.next b3)
  have V7 := Lib.hid hbv
  have hgvb : gv ≠ b := by have := I6.out.lt; omega
  clear b3 ho3 hbv A6 I6
  go_wp2_with fail
  refine (Add_done ⟨#[]⟩ false I7.out).mono ?_
  rintro e x4 ⟨rfl, rfl⟩
  go_wp2_with fail
  refine (New_any br x3.heap.size _ (Nat.le_refl _)).mono ?_
  rintro e x5 ⟨rfl, hic, hb5⟩
  have C8 := Lib.hid hic
  have B8 := Lib.hid hb5
  have lz := hb5.size
  obtain ⟨c, hc⟩ : ∃ c, x3.heap.size = c := ⟨_, rfl⟩
  have HC := Lib.hid hc
  have lbc : b ≠ c := by have := I7.out.lt; omega
  clear hic hb5
  rw [hc]
  go_wp2_with fail
  have hca := Add_any ⟨#[0, 1, 120]⟩ false C8.out (by decide)
  rw [show byt ⟨#[0, 1, 120]⟩ = [0, 1, 120] from rfl, aw_add3, hc] at hca
  refine hca.mono ?_
  clear hca
  rintro e x6 ⟨rfl, ad', bf', hic, hif⟩
  have hb6 : Below x3.heap.size x3 x6 := B8.out.trans (by rw [hc]; exact hif.below (Nat.le_refl _) (by omega))
  have Z9 : Hid (AwZ w x6 (g + 1) g br b c gv c M ad bf ad' bf') := Lib.hid ⟨A7.out.next hb6, I7.out.next hb6, hic, V7.out.below hb6 V7.out.lt⟩
  clear hic hif hb6 A7 I7 V7 C8 B8 hc
  go_wp2_with fail
  have ht1 := wTake_any ⟨#[33, 1, 97, 98]⟩ x6 (by decide)
  rw [show byt ⟨#[33, 1, 97, 98]⟩ = [33, 1, 97, 98] from rfl, aw_take1, show takeV (33, [97], [98], 0) = .tuple #[.int .u64 33, .string ⟨#[97]⟩, .string ⟨#[98]⟩, .int .i64 0] from rfl] at ht1
  refine ht1.mono ?_
  clear ht1
  rintro e x7 ⟨rfl, hb7⟩
  have Z10 := Lib.hid (Z9.out.next hb7)
  clear hb7 Z9
  go_wp2_with fail
  have ht1 := wTake_any ⟨#[2]⟩ x7 (by decide)
  rw [show byt ⟨#[2]⟩ = [2] from rfl, aw_take2, show takeV (0, [], [], 2) = .tuple #[.int .u64 0, .string ⟨#[]⟩, .string ⟨#[]⟩, .int .i64 2] from rfl] at ht1
  refine ht1.mono ?_
  clear ht1
  rintro e x8 ⟨rfl, hb8⟩
  have Z11 := Lib.hid (Z10.out.next hb8)
  clear hb8 Z10
  go_wp2_with fail
  have hpb := blk.new x8 46 [.int .u64 6, .int .u64 100]
  have hal : Below x8.heap.size x8 (x8.alloc (.cells #[.int .u64 6, .int .u64 100] 46)) := (Below.refl _ _).alloc (Nat.le_refl _) _
  have hps := PutSettings_any [(6, 100)] (some ⟨x8.heap.size, 0, none⟩) 1 (x8.alloc (.cells #[.int .u64 6, .int .u64 100] 46)) (fun _ => ⟨_, 0, rfl, hpb.lt, fun i r hr => by
    have hi : i = 0 := by have := (List.getElem?_eq_some_iff.1 hr).1; simp at this; exact this
    subst hi
    injection hr with hr
    subst hr
    exact ⟨hpb.cell (k := 0) rfl, hpb.cell (k := 1) rfl⟩⟩) (fun r hr => by rw [List.mem_singleton.1 hr]; decide) (by decide)
  rw [show putSetF [(6, 100)] = ([4, 3, 6, 64, 100], 0) by unfold putSetF; rw [aw_right, if_pos rfl, aw_put], show txt [4, 3, 6, 64, 100] = (⟨#[4, 3, 6, 64, 100]⟩ : ByteArray) from rfl] at hps
  refine hps.mono ?_
  rintro e x9 ⟨rfl, hb9⟩
  have Z12 := Lib.hid ((Z11.out.next hal).next hb9)
  clear hb9 hps hal hpb Z11
  go_wp2_with fail
  have hts := TakeSettings_right [(6, 100)] x9 aw_right (by decide)
  rw [aw_put, show txt [4, 3, 6, 64, 100] = (⟨#[4, 3, 6, 64, 100]⟩ : ByteArray) from rfl] at hts
  refine hts.mono ?_
  clear hts
  rintro e x10 ⟨v4, rfl, ho4, hb10⟩
  obtain ⟨gp, capp, M2, rfl, hgp, hbp⟩ := own_blk (n := 1) (sz := 2) (xs := [.int .u64 6, .int .u64 100]) ho4 (by decide)
  have hgpb : gp ≠ b := by have := Z12.out.b.lt; omega
  have Z13 := Lib.hid (Z12.out.next hb10)
  have P13 := Lib.hid hbp
  have HS := Lib.hid (show AwS w x10 (g + 1) g br b c gv gp c M M2 from ⟨Z13.out.k, ⟨_, _, Z13.out.b⟩, ⟨_, _, Z13.out.c⟩, Z13.out.v, P13.out, l4, by omega, by omega, by omega, by omega, hgvb, hgpb⟩)
  clear ho4 hb10 hbp Z12 Z13 P13
  go_wp2_with fail
  --REGION21
  refine wp_region_held_drew (S := (fun w' => (w'.cell? ⟨gv, 0, none⟩ = some (.string ⟨#[58, 109, 101, 116, 104, 111, 100]⟩) ∧ w'.cell? ⟨gv, 1, none⟩ = some (.string ⟨#[71, 69, 84]⟩) ∧ w'.cell? ⟨(g + 1), 0, none⟩ = some (.slice (some ⟨g, 0, none⟩) 1 1) ∧ w'.cell? ⟨g, 0, none⟩ = some (.string ⟨#[58, 109, 101, 116, 104, 111, 100]⟩) ∧ w'.cell? ⟨g, 1, none⟩ = some (.string ⟨#[71, 69, 84]⟩) ∧ w'.cell? ⟨gp, 1, none⟩ = some (.int .u64 100)) ∧ AwS w w' (g + 1) g br b c gv gp c M M2)) (by as_aux_lemma => kernel_rfl) ((HS.out.next ((Below.refl _ _).drew)).cells) (fun hHeld => ?_)
  refine wpAnyH_takeD (i := 0) (v := ?_) (some 111) rfl rfl (by as_aux_lemma => kernel_rfl) (by as_aux_lemma => kernel_rfl) (by as_aux_lemma => kernel_rfl) (fun _ _ _ h => h) (Or.inl ⟨by as_aux_lemma => kernel_rfl, ?_⟩) (by assumption) ?_
  rotate_left
  · (intro w hSw; (try dsimp only at hSw); go_simp); all_goals with_reducible rfl
  try simp only [Act.put, List.setIfInBounds_toArray, List.set_cons_zero, List.set_cons_succ]
  refine wpAnyH_takeD (i := 1) (v := ?_) (some 112) rfl rfl (by as_aux_lemma => kernel_rfl) (by as_aux_lemma => kernel_rfl) (by as_aux_lemma => kernel_rfl) (fun _ _ _ h => h) (Or.inl ⟨by as_aux_lemma => kernel_rfl, ?_⟩) (by assumption) ?_
  rotate_left
  · (intro w hSw; (try dsimp only at hSw); go_simp); all_goals with_reducible rfl
  try simp only [Act.put, List.setIfInBounds_toArray, List.set_cons_zero, List.set_cons_succ]
  refine wpAnyH_takeD (i := 2) (v := ?_) (some 113) rfl rfl (by as_aux_lemma => kernel_rfl) (by as_aux_lemma => kernel_rfl) (by as_aux_lemma => kernel_rfl) (fun _ _ _ h => h) (Or.inl ⟨by as_aux_lemma => kernel_rfl, ?_⟩) (by assumption) ?_
  rotate_left
  · (intro w hSw; (try dsimp only at hSw); go_simp); all_goals with_reducible rfl
  try simp only [Act.put, List.setIfInBounds_toArray, List.set_cons_zero, List.set_cons_succ]
  refine wpAnyH_takeD (i := 3) (v := ?_) (some 114) rfl rfl (by as_aux_lemma => kernel_rfl) (by as_aux_lemma => kernel_rfl) (by as_aux_lemma => kernel_rfl) (fun _ _ _ h => h) (Or.inl ⟨by as_aux_lemma => kernel_rfl, ?_⟩) (by assumption) ?_
  rotate_left
  · (intro w hSw; (try dsimp only at hSw); go_simp); all_goals with_reducible rfl
  try simp only [Act.put, List.setIfInBounds_toArray, List.set_cons_zero, List.set_cons_succ]
  refine wpAnyH_takeD (i := 4) (v := ?_) (some 115) rfl rfl (by as_aux_lemma => kernel_rfl) (by as_aux_lemma => kernel_rfl) (by as_aux_lemma => kernel_rfl) (fun _ _ _ h => h) (Or.inl ⟨by as_aux_lemma => kernel_rfl, ?_⟩) (by assumption) ?_
  rotate_left
  · (intro w hSw; (try dsimp only at hSw); go_simp); all_goals with_reducible rfl
  try simp only [Act.put, List.setIfInBounds_toArray, List.set_cons_zero, List.set_cons_succ]
  refine wpAnyH_takeD (i := 5) (v := ?_) (some 116) rfl rfl (by as_aux_lemma => kernel_rfl) (by as_aux_lemma => kernel_rfl) (by as_aux_lemma => kernel_rfl) (fun _ _ _ h => h) (Or.inl ⟨by as_aux_lemma => kernel_rfl, ?_⟩) (by assumption) ?_
  rotate_left
  · (intro w hSw; (try dsimp only at hSw); go_simp); all_goals with_reducible rfl
  try simp only [Act.put, List.setIfInBounds_toArray, List.set_cons_zero, List.set_cons_succ]
  refine wpAnyH_takeD (i := 6) (v := ?_) (some 117) rfl rfl (by as_aux_lemma => kernel_rfl) (by as_aux_lemma => kernel_rfl) (by as_aux_lemma => kernel_rfl) (fun _ _ _ h => h) (Or.inl ⟨by as_aux_lemma => kernel_rfl, ?_⟩) (by assumption) ?_
  rotate_left
  · (intro w hSw; (try dsimp only at hSw); go_simp); all_goals with_reducible rfl
  try simp only [Act.put, List.setIfInBounds_toArray, List.set_cons_zero, List.set_cons_succ]
  refine wpAnyH_takeD (i := 7) (v := ?_) (some 118) rfl rfl (by as_aux_lemma => kernel_rfl) (by as_aux_lemma => kernel_rfl) (by as_aux_lemma => kernel_rfl) (fun _ _ _ h => h) (Or.inl ⟨by as_aux_lemma => kernel_rfl, ?_⟩) (by assumption) ?_
  rotate_left
  · (intro w hSw; (try dsimp only at hSw); go_simp); all_goals with_reducible rfl
  try simp only [Act.put, List.setIfInBounds_toArray, List.set_cons_zero, List.set_cons_succ]
  refine wpAnyH_takeD (i := 8) (v := ?_) (some 119) rfl rfl (by as_aux_lemma => kernel_rfl) (by as_aux_lemma => kernel_rfl) (by as_aux_lemma => kernel_rfl) (fun _ _ _ h => h) (Or.inl ⟨by as_aux_lemma => kernel_rfl, ?_⟩) (by assumption) ?_
  rotate_left
  · (intro w hSw; (try dsimp only at hSw); go_simp); all_goals with_reducible rfl
  try simp only [Act.put, List.setIfInBounds_toArray, List.set_cons_zero, List.set_cons_succ]
  refine wpAnyH_takeD (i := 9) (v := ?_) (some 120) rfl rfl (by as_aux_lemma => kernel_rfl) (by as_aux_lemma => kernel_rfl) (by as_aux_lemma => kernel_rfl) (fun _ _ _ h => h) (Or.inl ⟨by as_aux_lemma => kernel_rfl, ?_⟩) (by assumption) ?_
  rotate_left
  · (intro w hSw; (try dsimp only at hSw); go_simp); all_goals with_reducible rfl
  try simp only [Act.put, List.setIfInBounds_toArray, List.set_cons_zero, List.set_cons_succ]
  refine wpAnyH_takeD (i := 10) (v := ?_) (some 121) rfl rfl (by as_aux_lemma => kernel_rfl) (by as_aux_lemma => kernel_rfl) (by as_aux_lemma => kernel_rfl) (fun _ _ _ h => h) (Or.inl ⟨by as_aux_lemma => kernel_rfl, ?_⟩) (by assumption) ?_
  rotate_left
  · (intro w hSw; (try dsimp only at hSw); go_simp); all_goals with_reducible rfl
  try simp only [Act.put, List.setIfInBounds_toArray, List.set_cons_zero, List.set_cons_succ]
  refine wpAnyH_takeD (i := 11) (v := ?_) (some 122) rfl rfl (by as_aux_lemma => kernel_rfl) (by as_aux_lemma => kernel_rfl) (by as_aux_lemma => kernel_rfl) (fun _ _ _ h => h) (Or.inl ⟨by as_aux_lemma => kernel_rfl, ?_⟩) (by assumption) ?_
  rotate_left
  · (intro w hSw; (try dsimp only at hSw); go_simp); all_goals with_reducible rfl
  try simp only [Act.put, List.setIfInBounds_toArray, List.set_cons_zero, List.set_cons_succ]
  refine wpAnyH_takeD (i := 12) (v := ?_) (some 123) rfl rfl (by as_aux_lemma => kernel_rfl) (by as_aux_lemma => kernel_rfl) (by as_aux_lemma => kernel_rfl) (fun _ _ _ h => h) (Or.inl ⟨by as_aux_lemma => kernel_rfl, ?_⟩) (by assumption) ?_
  rotate_left
  · (intro w hSw; (try dsimp only at hSw); go_simp); all_goals with_reducible rfl
  try simp only [Act.put, List.setIfInBounds_toArray, List.set_cons_zero, List.set_cons_succ]
  refine wpAnyH_takeD (i := 13) (v := ?_) (some 124) rfl rfl (by as_aux_lemma => kernel_rfl) (by as_aux_lemma => kernel_rfl) (by as_aux_lemma => kernel_rfl) (fun _ _ _ h => h) (Or.inl ⟨by as_aux_lemma => kernel_rfl, ?_⟩) (by assumption) ?_
  rotate_left
  · (intro w hSw; (try dsimp only at hSw); go_simp); all_goals with_reducible rfl
  try simp only [Act.put, List.setIfInBounds_toArray, List.set_cons_zero, List.set_cons_succ]
  refine wpAnyH_takeD (i := 14) (v := ?_) (some 125) rfl rfl (by as_aux_lemma => kernel_rfl) (by as_aux_lemma => kernel_rfl) (by as_aux_lemma => kernel_rfl) (fun _ _ _ h => h) (Or.inl ⟨by as_aux_lemma => kernel_rfl, ?_⟩) (by assumption) ?_
  rotate_left
  · (intro w hSw; (try dsimp only at hSw); go_simp); all_goals with_reducible rfl
  try simp only [Act.put, List.setIfInBounds_toArray, List.set_cons_zero, List.set_cons_succ]
  refine wpAnyH_takeD (i := 15) (v := ?_) (some 126) rfl rfl (by as_aux_lemma => kernel_rfl) (by as_aux_lemma => kernel_rfl) (by as_aux_lemma => kernel_rfl) (fun _ _ _ h => h) (Or.inl ⟨by as_aux_lemma => kernel_rfl, ?_⟩) (by assumption) ?_
  rotate_left
  · (intro w hSw; (try dsimp only at hSw); go_simp); all_goals with_reducible rfl
  try simp only [Act.put, List.setIfInBounds_toArray, List.set_cons_zero, List.set_cons_succ]
  refine wpAnyH_takeD (i := 16) (v := ?_) (some 127) rfl rfl (by as_aux_lemma => kernel_rfl) (by as_aux_lemma => kernel_rfl) (by as_aux_lemma => kernel_rfl) (fun _ _ _ h => h) (Or.inl ⟨by as_aux_lemma => kernel_rfl, ?_⟩) (by assumption) ?_
  rotate_left
  · (intro w hSw; (try dsimp only at hSw); go_simp); all_goals with_reducible rfl
  try simp only [Act.put, List.setIfInBounds_toArray, List.set_cons_zero, List.set_cons_succ]
  refine wpAnyH_takeD (i := 17) (v := ?_) (some 128) rfl rfl (by as_aux_lemma => kernel_rfl) (by as_aux_lemma => kernel_rfl) (by as_aux_lemma => kernel_rfl) (fun _ _ _ h => h) (Or.inl ⟨by as_aux_lemma => kernel_rfl, ?_⟩) (by assumption) ?_
  rotate_left
  · (intro w hSw; (try dsimp only at hSw); go_simp); all_goals with_reducible rfl
  try simp only [Act.put, List.setIfInBounds_toArray, List.set_cons_zero, List.set_cons_succ]
  refine wpAnyH_takeD (i := 18) (v := ?_) (some 129) rfl rfl (by as_aux_lemma => kernel_rfl) (by as_aux_lemma => kernel_rfl) (by as_aux_lemma => kernel_rfl) (fun _ _ _ h => h) (Or.inl ⟨by as_aux_lemma => kernel_rfl, ?_⟩) (by assumption) ?_
  rotate_left
  · (intro w hSw; (try dsimp only at hSw); go_simp); all_goals with_reducible rfl
  try simp only [Act.put, List.setIfInBounds_toArray, List.set_cons_zero, List.set_cons_succ]
  refine wpAnyH_takeD (i := 19) (v := ?_) (some 130) rfl rfl (by as_aux_lemma => kernel_rfl) (by as_aux_lemma => kernel_rfl) (by as_aux_lemma => kernel_rfl) (fun _ _ _ h => h) (Or.inl ⟨by as_aux_lemma => kernel_rfl, ?_⟩) (by assumption) ?_
  rotate_left
  · (intro w hSw; (try dsimp only at hSw); go_simp); all_goals with_reducible rfl
  try simp only [Act.put, List.setIfInBounds_toArray, List.set_cons_zero, List.set_cons_succ]
  refine wpAnyH_takeD (i := 20) (v := ?_) (some 131) rfl rfl (by as_aux_lemma => kernel_rfl) (by as_aux_lemma => kernel_rfl) (by as_aux_lemma => kernel_rfl) (fun _ _ _ h => h) (Or.inl ⟨by as_aux_lemma => kernel_rfl, ?_⟩) (by assumption) ?_
  rotate_left
  · (intro w hSw; (try dsimp only at hSw); go_simp); all_goals with_reducible rfl
  try simp only [Act.put, List.setIfInBounds_toArray, List.set_cons_zero, List.set_cons_succ]
  refine wpAnyH_takeD (i := 21) (v := ?_) (some 132) rfl rfl (by as_aux_lemma => kernel_rfl) (by as_aux_lemma => kernel_rfl) (by as_aux_lemma => kernel_rfl) (fun _ _ _ h => h) (Or.inl ⟨by as_aux_lemma => kernel_rfl, ?_⟩) (by assumption) ?_
  rotate_left
  · (intro w hSw; (try dsimp only at hSw); go_simp); all_goals with_reducible rfl
  try simp only [Act.put, List.setIfInBounds_toArray, List.set_cons_zero, List.set_cons_succ]
  refine wpAnyH_takeD (i := 22) (v := ?_) (some 133) rfl rfl (by as_aux_lemma => kernel_rfl) (by as_aux_lemma => kernel_rfl) (by as_aux_lemma => kernel_rfl) (fun _ _ _ h => h) (Or.inl ⟨by as_aux_lemma => kernel_rfl, ?_⟩) (by assumption) ?_
  rotate_left
  · (intro w hSw; (try dsimp only at hSw); go_simp); all_goals with_reducible rfl
  try simp only [Act.put, List.setIfInBounds_toArray, List.set_cons_zero, List.set_cons_succ]
  refine wpAnyH_takeD (i := 23) (v := ?_) (some 134) rfl rfl (by as_aux_lemma => kernel_rfl) (by as_aux_lemma => kernel_rfl) (by as_aux_lemma => kernel_rfl) (fun _ _ _ h => h) (Or.inl ⟨by as_aux_lemma => kernel_rfl, ?_⟩) (by assumption) ?_
  rotate_left
  · (intro w hSw; (try dsimp only at hSw); go_simp); all_goals with_reducible rfl
  try simp only [Act.put, List.setIfInBounds_toArray, List.set_cons_zero, List.set_cons_succ]
  refine wpAnyH_takeD (i := 24) (v := ?_) (some 135) rfl rfl (by as_aux_lemma => kernel_rfl) (by as_aux_lemma => kernel_rfl) (by as_aux_lemma => kernel_rfl) (fun _ _ _ h => h) (Or.inl ⟨by as_aux_lemma => kernel_rfl, ?_⟩) (by assumption) ?_
  rotate_left
  · (intro w hSw; (try dsimp only at hSw); go_simp); all_goals with_reducible rfl
  try simp only [Act.put, List.setIfInBounds_toArray, List.set_cons_zero, List.set_cons_succ]
  refine wpAnyH_takeD (i := 25) (v := ?_) (some 136) rfl rfl (by as_aux_lemma => kernel_rfl) (by as_aux_lemma => kernel_rfl) (by as_aux_lemma => kernel_rfl) (fun _ _ _ h => h) (Or.inl ⟨by as_aux_lemma => kernel_rfl, ?_⟩) (by assumption) ?_
  rotate_left
  · (intro w hSw; (try dsimp only at hSw); go_simp); all_goals with_reducible rfl
  try simp only [Act.put, List.setIfInBounds_toArray, List.set_cons_zero, List.set_cons_succ]
  refine wpAnyH_takeD (i := 26) (v := ?_) (some 137) rfl rfl (by as_aux_lemma => kernel_rfl) (by as_aux_lemma => kernel_rfl) (by as_aux_lemma => kernel_rfl) (fun _ _ _ h => h) (Or.inl ⟨by as_aux_lemma => kernel_rfl, ?_⟩) (by assumption) ?_
  rotate_left
  · (intro w hSw; (try dsimp only at hSw); go_simp); all_goals with_reducible rfl
  try simp only [Act.put, List.setIfInBounds_toArray, List.set_cons_zero, List.set_cons_succ]
  refine wpAnyH_takeD (i := 27) (v := ?_) (some 138) rfl rfl (by as_aux_lemma => kernel_rfl) (by as_aux_lemma => kernel_rfl) (by as_aux_lemma => kernel_rfl) (fun _ _ _ h => h) (Or.inl ⟨by as_aux_lemma => kernel_rfl, ?_⟩) (by assumption) ?_
  rotate_left
  · (intro w hSw; (try dsimp only at hSw); go_simp); all_goals with_reducible rfl
  try simp only [Act.put, List.setIfInBounds_toArray, List.set_cons_zero, List.set_cons_succ]
  refine wpAnyH_takeD (i := 28) (v := ?_) (some 139) rfl rfl (by as_aux_lemma => kernel_rfl) (by as_aux_lemma => kernel_rfl) (by as_aux_lemma => kernel_rfl) (fun _ _ _ h => h) (Or.inl ⟨by as_aux_lemma => kernel_rfl, ?_⟩) (by assumption) ?_
  rotate_left
  · (intro w hSw; (try dsimp only at hSw); go_simp); all_goals with_reducible rfl
  try simp only [Act.put, List.setIfInBounds_toArray, List.set_cons_zero, List.set_cons_succ]
  refine wpAnyH_takeD (i := 29) (v := ?_) (some 140) rfl rfl (by as_aux_lemma => kernel_rfl) (by as_aux_lemma => kernel_rfl) (by as_aux_lemma => kernel_rfl) (fun _ _ _ h => h) (Or.inl ⟨by as_aux_lemma => kernel_rfl, ?_⟩) (by assumption) ?_
  rotate_left
  · (intro w hSw; (try dsimp only at hSw); go_simp); all_goals with_reducible rfl
  try simp only [Act.put, List.setIfInBounds_toArray, List.set_cons_zero, List.set_cons_succ]
  refine wpAnyH_takeD (i := 30) (v := ?_) (some 141) rfl rfl (by as_aux_lemma => kernel_rfl) (by as_aux_lemma => kernel_rfl) (by as_aux_lemma => kernel_rfl) (fun _ _ _ h => h) (Or.inl ⟨by as_aux_lemma => kernel_rfl, ?_⟩) (by assumption) ?_
  rotate_left
  · (intro w hSw; (try dsimp only at hSw); go_simp); all_goals with_reducible rfl
  try simp only [Act.put, List.setIfInBounds_toArray, List.set_cons_zero, List.set_cons_succ]
  refine wpAnyH_takeD (i := 31) (v := ?_) (some 142) rfl rfl (by as_aux_lemma => kernel_rfl) (by as_aux_lemma => kernel_rfl) (by as_aux_lemma => kernel_rfl) (fun _ _ _ h => h) (Or.inl ⟨by as_aux_lemma => kernel_rfl, ?_⟩) (by assumption) ?_
  rotate_left
  · (intro w hSw; (try dsimp only at hSw); go_simp); all_goals with_reducible rfl
  try simp only [Act.put, List.setIfInBounds_toArray, List.set_cons_zero, List.set_cons_succ]
  refine wpAnyH_takeD (i := 32) (v := ?_) (some 143) rfl rfl (by as_aux_lemma => kernel_rfl) (by as_aux_lemma => kernel_rfl) (by as_aux_lemma => kernel_rfl) (fun _ _ _ h => h) (Or.inl ⟨by as_aux_lemma => kernel_rfl, ?_⟩) (by assumption) ?_
  rotate_left
  · (intro w hSw; (try dsimp only at hSw); go_simp); all_goals with_reducible rfl
  try simp only [Act.put, List.setIfInBounds_toArray, List.set_cons_zero, List.set_cons_succ]
  refine wpAnyH_takeD (i := 33) (v := ?_) (some 144) rfl rfl (by as_aux_lemma => kernel_rfl) (by as_aux_lemma => kernel_rfl) (by as_aux_lemma => kernel_rfl) (fun _ _ _ h => h) (Or.inl ⟨by as_aux_lemma => kernel_rfl, ?_⟩) (by assumption) ?_
  rotate_left
  · (intro w hSw; (try dsimp only at hSw); go_simp); all_goals with_reducible rfl
  try simp only [Act.put, List.setIfInBounds_toArray, List.set_cons_zero, List.set_cons_succ]
  refine wpAnyH_takeD (i := 34) (v := ?_) (some 145) rfl rfl (by as_aux_lemma => kernel_rfl) (by as_aux_lemma => kernel_rfl) (by as_aux_lemma => kernel_rfl) (fun _ _ _ h => h) (Or.inl ⟨by as_aux_lemma => kernel_rfl, ?_⟩) (by assumption) ?_
  rotate_left
  · (intro w hSw; (try dsimp only at hSw); go_simp); all_goals with_reducible rfl
  try simp only [Act.put, List.setIfInBounds_toArray, List.set_cons_zero, List.set_cons_succ]
  refine wpAnyH_takeD (i := 35) (v := ?_) (some 146) rfl rfl (by as_aux_lemma => kernel_rfl) (by as_aux_lemma => kernel_rfl) (by as_aux_lemma => kernel_rfl) (fun _ _ _ h => h) (Or.inl ⟨by as_aux_lemma => kernel_rfl, ?_⟩) (by assumption) ?_
  rotate_left
  · (intro w hSw; (try dsimp only at hSw); go_simp); all_goals with_reducible rfl
  try simp only [Act.put, List.setIfInBounds_toArray, List.set_cons_zero, List.set_cons_succ]
  refine wpAnyH_takeD (i := 36) (v := ?_) (some 147) rfl rfl (by as_aux_lemma => kernel_rfl) (by as_aux_lemma => kernel_rfl) (by as_aux_lemma => kernel_rfl) (fun _ _ _ h => h) (Or.inl ⟨by as_aux_lemma => kernel_rfl, ?_⟩) (by assumption) ?_
  rotate_left
  · (intro w hSw; (try dsimp only at hSw); go_simp); all_goals with_reducible rfl
  try simp only [Act.put, List.setIfInBounds_toArray, List.set_cons_zero, List.set_cons_succ]
  refine wpAnyH_takeD (i := 37) (v := ?_) (some 148) rfl rfl (by as_aux_lemma => kernel_rfl) (by as_aux_lemma => kernel_rfl) (by as_aux_lemma => kernel_rfl) (fun _ _ _ h => h) (Or.inl ⟨by as_aux_lemma => kernel_rfl, ?_⟩) (by assumption) ?_
  rotate_left
  · (intro w hSw; (try dsimp only at hSw); go_simp); all_goals with_reducible rfl
  try simp only [Act.put, List.setIfInBounds_toArray, List.set_cons_zero, List.set_cons_succ]
  refine wpAnyH_takeD (i := 38) (v := ?_) (some 149) rfl rfl (by as_aux_lemma => kernel_rfl) (by as_aux_lemma => kernel_rfl) (by as_aux_lemma => kernel_rfl) (fun _ _ _ h => h) (Or.inl ⟨by as_aux_lemma => kernel_rfl, ?_⟩) (by assumption) ?_
  rotate_left
  · (intro w hSw; (try dsimp only at hSw); go_simp); all_goals with_reducible rfl
  try simp only [Act.put, List.setIfInBounds_toArray, List.set_cons_zero, List.set_cons_succ]
  refine wpAnyH_takeD (i := 39) (v := ?_) (some 150) rfl rfl (by as_aux_lemma => kernel_rfl) (by as_aux_lemma => kernel_rfl) (by as_aux_lemma => kernel_rfl) (fun _ _ _ h => h) (Or.inl ⟨by as_aux_lemma => kernel_rfl, ?_⟩) (by assumption) ?_
  rotate_left
  · (intro w hSw; (try dsimp only at hSw); go_simp); all_goals with_reducible rfl
  try simp only [Act.put, List.setIfInBounds_toArray, List.set_cons_zero, List.set_cons_succ]
  refine wpAnyH_takeD (i := 40) (v := ?_) (some 151) rfl rfl (by as_aux_lemma => kernel_rfl) (by as_aux_lemma => kernel_rfl) (by as_aux_lemma => kernel_rfl) (fun _ _ _ h => h) (Or.inl ⟨by as_aux_lemma => kernel_rfl, ?_⟩) (by assumption) ?_
  rotate_left
  · (intro w hSw; (try dsimp only at hSw); go_simp); all_goals with_reducible rfl
  try simp only [Act.put, List.setIfInBounds_toArray, List.set_cons_zero, List.set_cons_succ]
  refine wpAnyH_takeD (i := 41) (v := ?_) (some 152) rfl rfl (by as_aux_lemma => kernel_rfl) (by as_aux_lemma => kernel_rfl) (by as_aux_lemma => kernel_rfl) (fun _ _ _ h => h) (Or.inl ⟨by as_aux_lemma => kernel_rfl, ?_⟩) (by assumption) ?_
  rotate_left
  · (intro w hSw; (try dsimp only at hSw); go_simp); all_goals with_reducible rfl
  try simp only [Act.put, List.setIfInBounds_toArray, List.set_cons_zero, List.set_cons_succ]
  refine wpAnyH_takeD (i := 42) (v := ?_) (some 153) rfl rfl (by as_aux_lemma => kernel_rfl) (by as_aux_lemma => kernel_rfl) (by as_aux_lemma => kernel_rfl) (fun _ _ _ h => h) (Or.inl ⟨by as_aux_lemma => kernel_rfl, ?_⟩) (by assumption) ?_
  rotate_left
  · (intro w hSw; (try dsimp only at hSw); go_simp); all_goals with_reducible rfl
  try simp only [Act.put, List.setIfInBounds_toArray, List.set_cons_zero, List.set_cons_succ]
  refine wpAnyH_ready (rs := [43]) (by as_aux_lemma => kernel_rfl) (by simp) ?_
  refine AllReadyH.cons rfl (fun K hK => ?_) AllReadyH.nil
  go_simp
  go_wp2_with (go_at_call 23; refine hHeld.2.body.mono ?_; rintro e xb ⟨rfl, sb⟩)
  refine hK.out _ _ (sb.cells) (fun hHeld => ?_)
  clear hK K
  refine wpAnyH_takeD (i := 44) (v := ?_) (some 155) rfl rfl (by as_aux_lemma => kernel_rfl) (by as_aux_lemma => kernel_rfl) (by as_aux_lemma => kernel_rfl) (fun _ _ _ h => h) (Or.inl ⟨by as_aux_lemma => kernel_rfl, ?_⟩) (by assumption) ?_
  rotate_left
  · (intro w hSw; (try dsimp only at hSw); go_simp); all_goals with_reducible rfl
  try simp only [Act.put, List.setIfInBounds_toArray, List.set_cons_zero, List.set_cons_succ]
  refine wpAnyH_takeD (i := 45) (v := ?_) (some 156) rfl rfl (by as_aux_lemma => kernel_rfl) (by as_aux_lemma => kernel_rfl) (by as_aux_lemma => kernel_rfl) (fun _ _ _ h => h) (Or.inl ⟨by as_aux_lemma => kernel_rfl, ?_⟩) (by assumption) ?_
  rotate_left
  · (intro w hSw; (try dsimp only at hSw); go_simp); all_goals with_reducible rfl
  try simp only [Act.put, List.setIfInBounds_toArray, List.set_cons_zero, List.set_cons_succ]
  refine wpAnyH_takeD (i := 46) (v := ?_) (some 157) rfl rfl (by as_aux_lemma => kernel_rfl) (by as_aux_lemma => kernel_rfl) (by as_aux_lemma => kernel_rfl) (fun _ _ _ h => h) (Or.inl ⟨by as_aux_lemma => kernel_rfl, ?_⟩) (by assumption) ?_
  rotate_left
  · (intro w hSw; (try dsimp only at hSw); go_simp); all_goals with_reducible rfl
  try simp only [Act.put, List.setIfInBounds_toArray, List.set_cons_zero, List.set_cons_succ]
  refine wpAnyH_takeD (i := 47) (v := ?_) (some 158) rfl rfl (by as_aux_lemma => kernel_rfl) (by as_aux_lemma => kernel_rfl) (by as_aux_lemma => kernel_rfl) (fun _ _ _ h => h) (Or.inl ⟨by as_aux_lemma => kernel_rfl, ?_⟩) (by assumption) ?_
  rotate_left
  · (intro w hSw; (try dsimp only at hSw); go_simp); all_goals with_reducible rfl
  try simp only [Act.put, List.setIfInBounds_toArray, List.set_cons_zero, List.set_cons_succ]
  refine wpAnyH_ready (rs := [48]) (by as_aux_lemma => kernel_rfl) (by simp) ?_
  refine AllReadyH.cons rfl (fun K hK => ?_) AllReadyH.nil
  go_simp
  go_wp2_with (go_at_call 22; refine hHeld.2.done.mono ?_; rintro e xc ⟨rfl, rfl⟩)
  refine hK.out _ _ (hHeld) (fun hHeld => ?_)
  clear hK K
  refine wpAnyH_takeD (i := 49) (v := ?_) (some 160) rfl rfl (by as_aux_lemma => kernel_rfl) (by as_aux_lemma => kernel_rfl) (by as_aux_lemma => kernel_rfl) (fun _ _ _ h => h) (Or.inl ⟨by as_aux_lemma => kernel_rfl, ?_⟩) (by assumption) ?_
  rotate_left
  · (intro w hSw; (try dsimp only at hSw); go_simp); all_goals with_reducible rfl
  try simp only [Act.put, List.setIfInBounds_toArray, List.set_cons_zero, List.set_cons_succ]
  refine wpAnyH_takeD (i := 50) (v := ?_) (some 161) rfl rfl (by as_aux_lemma => kernel_rfl) (by as_aux_lemma => kernel_rfl) (by as_aux_lemma => kernel_rfl) (fun _ _ _ h => h) (Or.inl ⟨by as_aux_lemma => kernel_rfl, ?_⟩) (by assumption) ?_
  rotate_left
  · (intro w hSw; (try dsimp only at hSw); go_simp); all_goals with_reducible rfl
  try simp only [Act.put, List.setIfInBounds_toArray, List.set_cons_zero, List.set_cons_succ]
  refine wpAnyH_takeD (i := 51) (v := ?_) (some 162) rfl rfl (by as_aux_lemma => kernel_rfl) (by as_aux_lemma => kernel_rfl) (by as_aux_lemma => kernel_rfl) (fun _ _ _ h => h) (Or.inl ⟨by as_aux_lemma => kernel_rfl, ?_⟩) (by assumption) ?_
  rotate_left
  · (intro w hSw; (try dsimp only at hSw); go_simp); all_goals with_reducible rfl
  try simp only [Act.put, List.setIfInBounds_toArray, List.set_cons_zero, List.set_cons_succ]
  refine wpAnyH_takeD (i := 52) (v := ?_) (some 163) rfl rfl (by as_aux_lemma => kernel_rfl) (by as_aux_lemma => kernel_rfl) (by as_aux_lemma => kernel_rfl) (fun _ _ _ h => h) (Or.inl ⟨by as_aux_lemma => kernel_rfl, ?_⟩) (by assumption) ?_
  rotate_left
  · (intro w hSw; (try dsimp only at hSw); go_simp); all_goals with_reducible rfl
  try simp only [Act.put, List.setIfInBounds_toArray, List.set_cons_zero, List.set_cons_succ]
  refine wpAnyH_takeD (i := 53) (v := ?_) (some 164) rfl rfl (by as_aux_lemma => kernel_rfl) (by as_aux_lemma => kernel_rfl) (by as_aux_lemma => kernel_rfl) (fun _ _ _ h => h) (Or.inl ⟨by as_aux_lemma => kernel_rfl, ?_⟩) (by assumption) ?_
  rotate_left
  · (intro w hSw; (try dsimp only at hSw); go_simp); all_goals with_reducible rfl
  try simp only [Act.put, List.setIfInBounds_toArray, List.set_cons_zero, List.set_cons_succ]
  refine wpAnyH_takeD (i := 54) (v := ?_) (some 165) rfl rfl (by as_aux_lemma => kernel_rfl) (by as_aux_lemma => kernel_rfl) (by as_aux_lemma => kernel_rfl) (fun _ _ _ h => h) (Or.inl ⟨by as_aux_lemma => kernel_rfl, ?_⟩) (by assumption) ?_
  rotate_left
  · (intro w hSw; (try dsimp only at hSw); go_simp); all_goals with_reducible rfl
  try simp only [Act.put, List.setIfInBounds_toArray, List.set_cons_zero, List.set_cons_succ]
  refine wpAnyH_takeD (i := 55) (v := ?_) (some 166) rfl rfl (by as_aux_lemma => kernel_rfl) (by as_aux_lemma => kernel_rfl) (by as_aux_lemma => kernel_rfl) (fun _ _ _ h => h) (Or.inl ⟨by as_aux_lemma => kernel_rfl, ?_⟩) (by assumption) ?_
  rotate_left
  · (intro w hSw; (try dsimp only at hSw); go_simp); all_goals with_reducible rfl
  try simp only [Act.put, List.setIfInBounds_toArray, List.set_cons_zero, List.set_cons_succ]
  refine wpAnyH_takeD (i := 56) (v := ?_) (some 167) rfl rfl (by as_aux_lemma => kernel_rfl) (by as_aux_lemma => kernel_rfl) (by as_aux_lemma => kernel_rfl) (fun _ _ _ h => h) (Or.inl ⟨by as_aux_lemma => kernel_rfl, ?_⟩) (by assumption) ?_
  rotate_left
  · (intro w hSw; (try dsimp only at hSw); go_simp); all_goals with_reducible rfl
  try simp only [Act.put, List.setIfInBounds_toArray, List.set_cons_zero, List.set_cons_succ]
  refine wpAnyH_takeD (i := 57) (v := ?_) (some 168) rfl rfl (by as_aux_lemma => kernel_rfl) (by as_aux_lemma => kernel_rfl) (by as_aux_lemma => kernel_rfl) (fun _ _ _ h => h) (Or.inl ⟨by as_aux_lemma => kernel_rfl, ?_⟩) (by assumption) ?_
  rotate_left
  · (intro w hSw; (try dsimp only at hSw); go_simp); all_goals with_reducible rfl
  try simp only [Act.put, List.setIfInBounds_toArray, List.set_cons_zero, List.set_cons_succ]
  refine wpAnyH_takeD (i := 58) (v := ?_) (some 169) rfl rfl (by as_aux_lemma => kernel_rfl) (by as_aux_lemma => kernel_rfl) (by as_aux_lemma => kernel_rfl) (fun _ _ _ h => h) (Or.inl ⟨by as_aux_lemma => kernel_rfl, ?_⟩) (by assumption) ?_
  rotate_left
  · (intro w hSw; (try dsimp only at hSw); go_simp); all_goals with_reducible rfl
  try simp only [Act.put, List.setIfInBounds_toArray, List.set_cons_zero, List.set_cons_succ]
  refine wpAnyH_takeD (i := 59) (v := ?_) (some 170) rfl rfl (by as_aux_lemma => kernel_rfl) (by as_aux_lemma => kernel_rfl) (by as_aux_lemma => kernel_rfl) (fun _ _ _ h => h) (Or.inl ⟨by as_aux_lemma => kernel_rfl, ?_⟩) (by assumption) ?_
  rotate_left
  · (intro w hSw; (try dsimp only at hSw); go_simp); all_goals with_reducible rfl
  try simp only [Act.put, List.setIfInBounds_toArray, List.set_cons_zero, List.set_cons_succ]
  refine wpAnyH_ready (rs := [60]) (by as_aux_lemma => kernel_rfl) (by simp) ?_
  refine AllReadyH.cons rfl (fun K hK => ?_) AllReadyH.nil
  go_simp
  go_wp2_with (go_at_call 22; refine hHeld.2.doneC.mono ?_; rintro e xc ⟨rfl, rfl⟩)
  refine hK.out _ _ (hHeld) (fun hHeld => ?_)
  clear hK K
  refine wpAnyH_takeD (i := 61) (v := ?_) (some 172) rfl rfl (by as_aux_lemma => kernel_rfl) (by as_aux_lemma => kernel_rfl) (by as_aux_lemma => kernel_rfl) (fun _ _ _ h => h) (Or.inl ⟨by as_aux_lemma => kernel_rfl, ?_⟩) (by assumption) ?_
  rotate_left
  · (intro w hSw; (try dsimp only at hSw); go_simp); all_goals with_reducible rfl
  try simp only [Act.put, List.setIfInBounds_toArray, List.set_cons_zero, List.set_cons_succ]
  refine wpAnyH_takeD (i := 62) (v := ?_) (some 173) rfl rfl (by as_aux_lemma => kernel_rfl) (by as_aux_lemma => kernel_rfl) (by as_aux_lemma => kernel_rfl) (fun _ _ _ h => h) (Or.inl ⟨by as_aux_lemma => kernel_rfl, ?_⟩) (by assumption) ?_
  rotate_left
  · (intro w hSw; (try dsimp only at hSw); go_simp); all_goals with_reducible rfl
  try simp only [Act.put, List.setIfInBounds_toArray, List.set_cons_zero, List.set_cons_succ]
  refine wpAnyH_takeD (i := 63) (v := ?_) (some 174) rfl rfl (by as_aux_lemma => kernel_rfl) (by as_aux_lemma => kernel_rfl) (by as_aux_lemma => kernel_rfl) (fun _ _ _ h => h) (Or.inl ⟨by as_aux_lemma => kernel_rfl, ?_⟩) (by assumption) ?_
  rotate_left
  · (intro w hSw; (try dsimp only at hSw); go_simp); all_goals with_reducible rfl
  try simp only [Act.put, List.setIfInBounds_toArray, List.set_cons_zero, List.set_cons_succ]
  refine wpAnyH_takeD (i := 64) (v := ?_) (some 175) rfl rfl (by as_aux_lemma => kernel_rfl) (by as_aux_lemma => kernel_rfl) (by as_aux_lemma => kernel_rfl) (fun _ _ _ h => h) (Or.inl ⟨by as_aux_lemma => kernel_rfl, ?_⟩) (by assumption) ?_
  rotate_left
  · (intro w hSw; (try dsimp only at hSw); go_simp); all_goals with_reducible rfl
  try simp only [Act.put, List.setIfInBounds_toArray, List.set_cons_zero, List.set_cons_succ]
  refine wpAnyH_takeD (i := 65) (v := ?_) (some 176) rfl rfl (by as_aux_lemma => kernel_rfl) (by as_aux_lemma => kernel_rfl) (by as_aux_lemma => kernel_rfl) (fun _ _ _ h => h) (Or.inl ⟨by as_aux_lemma => kernel_rfl, ?_⟩) (by assumption) ?_
  rotate_left
  · (intro w hSw; (try dsimp only at hSw); go_simp); all_goals with_reducible rfl
  try simp only [Act.put, List.setIfInBounds_toArray, List.set_cons_zero, List.set_cons_succ]
  refine wpAnyH_takeD (i := 66) (v := ?_) (some 177) rfl rfl (by as_aux_lemma => kernel_rfl) (by as_aux_lemma => kernel_rfl) (by as_aux_lemma => kernel_rfl) (fun _ _ _ h => h) (Or.inl ⟨by as_aux_lemma => kernel_rfl, ?_⟩) (by assumption) ?_
  rotate_left
  · (intro w hSw; (try dsimp only at hSw); go_simp); all_goals with_reducible rfl
  try simp only [Act.put, List.setIfInBounds_toArray, List.set_cons_zero, List.set_cons_succ]
  refine wpAnyH_takeD (i := 67) (v := ?_) (some 178) rfl rfl (by as_aux_lemma => kernel_rfl) (by as_aux_lemma => kernel_rfl) (by as_aux_lemma => kernel_rfl) (fun _ _ _ h => h) (Or.inl ⟨by as_aux_lemma => kernel_rfl, ?_⟩) (by assumption) ?_
  rotate_left
  · (intro w hSw; (try dsimp only at hSw); go_simp); all_goals with_reducible rfl
  try simp only [Act.put, List.setIfInBounds_toArray, List.set_cons_zero, List.set_cons_succ]
  refine wpAnyH_takeD (i := 68) (v := ?_) (some 179) rfl rfl (by as_aux_lemma => kernel_rfl) (by as_aux_lemma => kernel_rfl) (by as_aux_lemma => kernel_rfl) (fun _ _ _ h => h) (Or.inl ⟨by as_aux_lemma => kernel_rfl, ?_⟩) (by assumption) ?_
  rotate_left
  · (intro w hSw; (try dsimp only at hSw); go_simp); all_goals with_reducible rfl
  try simp only [Act.put, List.setIfInBounds_toArray, List.set_cons_zero, List.set_cons_succ]
  refine wpAnyH_takeD (i := 69) (v := ?_) (some 180) rfl rfl (by as_aux_lemma => kernel_rfl) (by as_aux_lemma => kernel_rfl) (by as_aux_lemma => kernel_rfl) (fun _ _ _ h => h) (Or.inl ⟨by as_aux_lemma => kernel_rfl, ?_⟩) (by assumption) ?_
  rotate_left
  · (intro w hSw; (try dsimp only at hSw); go_simp); all_goals with_reducible rfl
  try simp only [Act.put, List.setIfInBounds_toArray, List.set_cons_zero, List.set_cons_succ]
  refine wpAnyH_takeD (i := 70) (v := ?_) (some 181) rfl rfl (by as_aux_lemma => kernel_rfl) (by as_aux_lemma => kernel_rfl) (by as_aux_lemma => kernel_rfl) (fun _ _ _ h => h) (Or.inl ⟨by as_aux_lemma => kernel_rfl, ?_⟩) (by assumption) ?_
  rotate_left
  · (intro w hSw; (try dsimp only at hSw); go_simp); all_goals with_reducible rfl
  try simp only [Act.put, List.setIfInBounds_toArray, List.set_cons_zero, List.set_cons_succ]
  refine wpAnyH_takeD (i := 71) (v := ?_) (some 182) rfl rfl (by as_aux_lemma => kernel_rfl) (by as_aux_lemma => kernel_rfl) (by as_aux_lemma => kernel_rfl) (fun _ _ _ h => h) (Or.inl ⟨by as_aux_lemma => kernel_rfl, ?_⟩) (by assumption) ?_
  rotate_left
  · (intro w hSw; (try dsimp only at hSw); go_simp); all_goals with_reducible rfl
  try simp only [Act.put, List.setIfInBounds_toArray, List.set_cons_zero, List.set_cons_succ]
  refine wpAnyH_takeD (i := 72) (v := ?_) (some 183) rfl rfl (by as_aux_lemma => kernel_rfl) (by as_aux_lemma => kernel_rfl) (by as_aux_lemma => kernel_rfl) (fun _ _ _ h => h) (Or.inl ⟨by as_aux_lemma => kernel_rfl, ?_⟩) (by assumption) ?_
  rotate_left
  · (intro w hSw; (try dsimp only at hSw); go_simp); all_goals with_reducible rfl
  try simp only [Act.put, List.setIfInBounds_toArray, List.set_cons_zero, List.set_cons_succ]
  refine wpAnyH_takeD (i := 73) (v := ?_) (some 184) rfl rfl (by as_aux_lemma => kernel_rfl) (by as_aux_lemma => kernel_rfl) (by as_aux_lemma => kernel_rfl) (fun _ _ _ h => h) (Or.inl ⟨by as_aux_lemma => kernel_rfl, ?_⟩) (by assumption) ?_
  rotate_left
  · (intro w hSw; (try dsimp only at hSw); go_simp); all_goals with_reducible rfl
  try simp only [Act.put, List.setIfInBounds_toArray, List.set_cons_zero, List.set_cons_succ]
  refine wpAnyH_takeD (i := 74) (v := ?_) (some 185) rfl rfl (by as_aux_lemma => kernel_rfl) (by as_aux_lemma => kernel_rfl) (by as_aux_lemma => kernel_rfl) (fun _ _ _ h => h) (Or.inl ⟨by as_aux_lemma => kernel_rfl, ?_⟩) (by assumption) ?_
  rotate_left
  · (intro w hSw; (try dsimp only at hSw); go_simp); all_goals with_reducible rfl
  try simp only [Act.put, List.setIfInBounds_toArray, List.set_cons_zero, List.set_cons_succ]
  refine wpAnyH_takeD (i := 75) (v := ?_) (some 186) rfl rfl (by as_aux_lemma => kernel_rfl) (by as_aux_lemma => kernel_rfl) (by as_aux_lemma => kernel_rfl) (fun _ _ _ h => h) (Or.inl ⟨by as_aux_lemma => kernel_rfl, ?_⟩) (by assumption) ?_
  rotate_left
  · (intro w hSw; (try dsimp only at hSw); go_simp); all_goals with_reducible rfl
  try simp only [Act.put, List.setIfInBounds_toArray, List.set_cons_zero, List.set_cons_succ]
  refine wpAnyH_takeD (i := 76) (v := ?_) (some 187) rfl rfl (by as_aux_lemma => kernel_rfl) (by as_aux_lemma => kernel_rfl) (by as_aux_lemma => kernel_rfl) (fun _ _ _ h => h) (Or.inl ⟨by as_aux_lemma => kernel_rfl, ?_⟩) (by assumption) ?_
  rotate_left
  · (intro w hSw; (try dsimp only at hSw); go_simp); all_goals with_reducible rfl
  try simp only [Act.put, List.setIfInBounds_toArray, List.set_cons_zero, List.set_cons_succ]
  refine wpAnyH_takeD (i := 77) (v := ?_) (some 188) rfl rfl (by as_aux_lemma => kernel_rfl) (by as_aux_lemma => kernel_rfl) (by as_aux_lemma => kernel_rfl) (fun _ _ _ h => h) (Or.inl ⟨by as_aux_lemma => kernel_rfl, ?_⟩) (by assumption) ?_
  rotate_left
  · (intro w hSw; (try dsimp only at hSw); go_simp); all_goals with_reducible rfl
  try simp only [Act.put, List.setIfInBounds_toArray, List.set_cons_zero, List.set_cons_succ]
  refine wpAnyH_takeD (i := 78) (v := ?_) (some 189) rfl rfl (by as_aux_lemma => kernel_rfl) (by as_aux_lemma => kernel_rfl) (by as_aux_lemma => kernel_rfl) (fun _ _ _ h => h) (Or.inl ⟨by as_aux_lemma => kernel_rfl, ?_⟩) (by assumption) ?_
  rotate_left
  · (intro w hSw; (try dsimp only at hSw); go_simp); all_goals with_reducible rfl
  try simp only [Act.put, List.setIfInBounds_toArray, List.set_cons_zero, List.set_cons_succ]
  refine wpAnyH_takeD (i := 79) (v := ?_) (some 190) rfl rfl (by as_aux_lemma => kernel_rfl) (by as_aux_lemma => kernel_rfl) (by as_aux_lemma => kernel_rfl) (fun _ _ _ h => h) (Or.inl ⟨by as_aux_lemma => kernel_rfl, ?_⟩) (by assumption) ?_
  rotate_left
  · (intro w hSw; (try dsimp only at hSw); go_simp); all_goals with_reducible rfl
  try simp only [Act.put, List.setIfInBounds_toArray, List.set_cons_zero, List.set_cons_succ]
  refine wpAnyH_takeD (i := 80) (v := ?_) (some 191) rfl rfl (by as_aux_lemma => kernel_rfl) (by as_aux_lemma => kernel_rfl) (by as_aux_lemma => kernel_rfl) (fun _ _ _ h => h) (Or.inl ⟨by as_aux_lemma => kernel_rfl, ?_⟩) (by assumption) ?_
  rotate_left
  · (intro w hSw; (try dsimp only at hSw); go_simp); all_goals with_reducible rfl
  try simp only [Act.put, List.setIfInBounds_toArray, List.set_cons_zero, List.set_cons_succ]
  refine wpAnyH_takeD (i := 81) (v := ?_) (some 192) rfl rfl (by as_aux_lemma => kernel_rfl) (by as_aux_lemma => kernel_rfl) (by as_aux_lemma => kernel_rfl) (fun _ _ _ h => h) (Or.inl ⟨by as_aux_lemma => kernel_rfl, ?_⟩) (by assumption) ?_
  rotate_left
  · (intro w hSw; (try dsimp only at hSw); go_simp); all_goals with_reducible rfl
  try simp only [Act.put, List.setIfInBounds_toArray, List.set_cons_zero, List.set_cons_succ]
  refine wpAnyH_takeD (i := 82) (v := ?_) (some 193) rfl rfl (by as_aux_lemma => kernel_rfl) (by as_aux_lemma => kernel_rfl) (by as_aux_lemma => kernel_rfl) (fun _ _ _ h => h) (Or.inl ⟨by as_aux_lemma => kernel_rfl, ?_⟩) (by assumption) ?_
  rotate_left
  · (intro w hSw; (try dsimp only at hSw); go_simp); all_goals with_reducible rfl
  try simp only [Act.put, List.setIfInBounds_toArray, List.set_cons_zero, List.set_cons_succ]
  refine wpAnyH_takeD (i := 83) (v := ?_) (some 194) rfl rfl (by as_aux_lemma => kernel_rfl) (by as_aux_lemma => kernel_rfl) (by as_aux_lemma => kernel_rfl) (fun _ _ _ h => h) (Or.inl ⟨by as_aux_lemma => kernel_rfl, ?_⟩) (by assumption) ?_
  rotate_left
  · (intro w hSw; (try dsimp only at hSw); go_simp); all_goals with_reducible rfl
  try simp only [Act.put, List.setIfInBounds_toArray, List.set_cons_zero, List.set_cons_succ]
  refine wpAnyH_takeD (i := 84) (v := ?_) (some 195) rfl rfl (by as_aux_lemma => kernel_rfl) (by as_aux_lemma => kernel_rfl) (by as_aux_lemma => kernel_rfl) (fun _ _ _ h => h) (Or.inl ⟨by as_aux_lemma => kernel_rfl, ?_⟩) (by assumption) ?_
  rotate_left
  · (intro w hSw; (try dsimp only at hSw); go_simp); all_goals with_reducible rfl
  try simp only [Act.put, List.setIfInBounds_toArray, List.set_cons_zero, List.set_cons_succ]
  refine wpAnyH_takeD (i := 85) (v := ?_) (some 196) rfl rfl (by as_aux_lemma => kernel_rfl) (by as_aux_lemma => kernel_rfl) (by as_aux_lemma => kernel_rfl) (fun _ _ _ h => h) (Or.inl ⟨by as_aux_lemma => kernel_rfl, ?_⟩) (by assumption) ?_
  rotate_left
  · (intro w hSw; (try dsimp only at hSw); go_simp); all_goals with_reducible rfl
  try simp only [Act.put, List.setIfInBounds_toArray, List.set_cons_zero, List.set_cons_succ]
  refine wpAnyH_takeD (i := 86) (v := ?_) (some 197) rfl rfl (by as_aux_lemma => kernel_rfl) (by as_aux_lemma => kernel_rfl) (by as_aux_lemma => kernel_rfl) (fun _ _ _ h => h) (Or.inl ⟨by as_aux_lemma => kernel_rfl, ?_⟩) (by assumption) ?_
  rotate_left
  · (intro w hSw; (try dsimp only at hSw); go_simp); all_goals with_reducible rfl
  try simp only [Act.put, List.setIfInBounds_toArray, List.set_cons_zero, List.set_cons_succ]
  refine wpAnyH_takeD (i := 87) (v := ?_) (some 198) rfl rfl (by as_aux_lemma => kernel_rfl) (by as_aux_lemma => kernel_rfl) (by as_aux_lemma => kernel_rfl) (fun _ _ _ h => h) (Or.inl ⟨by as_aux_lemma => kernel_rfl, ?_⟩) (by assumption) ?_
  rotate_left
  · (intro w hSw; (try dsimp only at hSw); go_simp); all_goals with_reducible rfl
  try simp only [Act.put, List.setIfInBounds_toArray, List.set_cons_zero, List.set_cons_succ]
  refine wpAnyH_takeD (i := 88) (v := ?_) (some 199) rfl rfl (by as_aux_lemma => kernel_rfl) (by as_aux_lemma => kernel_rfl) (by as_aux_lemma => kernel_rfl) (fun _ _ _ h => h) (Or.inl ⟨by as_aux_lemma => kernel_rfl, ?_⟩) (by assumption) ?_
  rotate_left
  · (intro w hSw; (try dsimp only at hSw); go_simp); all_goals with_reducible rfl
  try simp only [Act.put, List.setIfInBounds_toArray, List.set_cons_zero, List.set_cons_succ]
  refine wpAnyH_takeD (i := 89) (v := ?_) (some 200) rfl rfl (by as_aux_lemma => kernel_rfl) (by as_aux_lemma => kernel_rfl) (by as_aux_lemma => kernel_rfl) (fun _ _ _ h => h) (Or.inl ⟨by as_aux_lemma => kernel_rfl, ?_⟩) (by assumption) ?_
  rotate_left
  · (intro w hSw; (try dsimp only at hSw); go_simp); all_goals with_reducible rfl
  try simp only [Act.put, List.setIfInBounds_toArray, List.set_cons_zero, List.set_cons_succ]
  refine wpAnyH_takeD (i := 90) (v := ?_) (some 201) rfl rfl (by as_aux_lemma => kernel_rfl) (by as_aux_lemma => kernel_rfl) (by as_aux_lemma => kernel_rfl) (fun _ _ _ h => h) (Or.inl ⟨by as_aux_lemma => kernel_rfl, ?_⟩) (by assumption) ?_
  rotate_left
  · (intro w hSw; (try dsimp only at hSw); go_simp); all_goals with_reducible rfl
  try simp only [Act.put, List.setIfInBounds_toArray, List.set_cons_zero, List.set_cons_succ]
  refine wpAnyH_takeD (i := 91) (v := ?_) (some 202) rfl rfl (by as_aux_lemma => kernel_rfl) (by as_aux_lemma => kernel_rfl) (by as_aux_lemma => kernel_rfl) (fun _ _ _ h => h) (Or.inl ⟨by as_aux_lemma => kernel_rfl, ?_⟩) (by assumption) ?_
  rotate_left
  · (intro w hSw; (try dsimp only at hSw); go_simp); all_goals with_reducible rfl
  try simp only [Act.put, List.setIfInBounds_toArray, List.set_cons_zero, List.set_cons_succ]
  refine wpAnyH_takeD (i := 92) (v := ?_) (some 203) rfl rfl (by as_aux_lemma => kernel_rfl) (by as_aux_lemma => kernel_rfl) (by as_aux_lemma => kernel_rfl) (fun _ _ _ h => h) (Or.inl ⟨by as_aux_lemma => kernel_rfl, ?_⟩) (by assumption) ?_
  rotate_left
  · (intro w hSw; (try dsimp only at hSw); go_simp); all_goals with_reducible rfl
  try simp only [Act.put, List.setIfInBounds_toArray, List.set_cons_zero, List.set_cons_succ]
  refine wpAnyH_takeD (i := 93) (v := ?_) (some 204) rfl rfl (by as_aux_lemma => kernel_rfl) (by as_aux_lemma => kernel_rfl) (by as_aux_lemma => kernel_rfl) (fun _ _ _ h => h) (Or.inl ⟨by as_aux_lemma => kernel_rfl, ?_⟩) (by assumption) ?_
  rotate_left
  · (intro w hSw; (try dsimp only at hSw); go_simp); all_goals with_reducible rfl
  try simp only [Act.put, List.setIfInBounds_toArray, List.set_cons_zero, List.set_cons_succ]
  refine wpAnyH_takeD (i := 94) (v := ?_) (some 205) rfl rfl (by as_aux_lemma => kernel_rfl) (by as_aux_lemma => kernel_rfl) (by as_aux_lemma => kernel_rfl) (fun _ _ _ h => h) (Or.inl ⟨by as_aux_lemma => kernel_rfl, ?_⟩) (by assumption) ?_
  rotate_left
  · (intro w hSw; (try dsimp only at hSw); go_simp); all_goals with_reducible rfl
  try simp only [Act.put, List.setIfInBounds_toArray, List.set_cons_zero, List.set_cons_succ]
  refine wpAnyH_takeD (i := 95) (v := ?_) (some 206) rfl rfl (by as_aux_lemma => kernel_rfl) (by as_aux_lemma => kernel_rfl) (by as_aux_lemma => kernel_rfl) (fun _ _ _ h => h) (Or.inl ⟨by as_aux_lemma => kernel_rfl, ?_⟩) (by assumption) ?_
  rotate_left
  · (intro w hSw; (try dsimp only at hSw); go_simp); all_goals with_reducible rfl
  try simp only [Act.put, List.setIfInBounds_toArray, List.set_cons_zero, List.set_cons_succ]
  refine wpAnyH_takeD (i := 96) (v := ?_) (some 207) rfl rfl (by as_aux_lemma => kernel_rfl) (by as_aux_lemma => kernel_rfl) (by as_aux_lemma => kernel_rfl) (fun _ _ _ h => h) (Or.inl ⟨by as_aux_lemma => kernel_rfl, ?_⟩) (by assumption) ?_
  rotate_left
  · (intro w hSw; (try dsimp only at hSw); go_simp); all_goals with_reducible rfl
  try simp only [Act.put, List.setIfInBounds_toArray, List.set_cons_zero, List.set_cons_succ]
  refine wpAnyH_takeD (i := 97) (v := ?_) (some 208) rfl rfl (by as_aux_lemma => kernel_rfl) (by as_aux_lemma => kernel_rfl) (by as_aux_lemma => kernel_rfl) (fun _ _ _ h => h) (Or.inl ⟨by as_aux_lemma => kernel_rfl, ?_⟩) (by assumption) ?_
  rotate_left
  · (intro w hSw; (try dsimp only at hSw); go_simp); all_goals with_reducible rfl
  try simp only [Act.put, List.setIfInBounds_toArray, List.set_cons_zero, List.set_cons_succ]
  refine wpAnyH_takeD (i := 98) (v := ?_) (some 209) rfl rfl (by as_aux_lemma => kernel_rfl) (by as_aux_lemma => kernel_rfl) (by as_aux_lemma => kernel_rfl) (fun _ _ _ h => h) (Or.inl ⟨by as_aux_lemma => kernel_rfl, ?_⟩) (by assumption) ?_
  rotate_left
  · (intro w hSw; (try dsimp only at hSw); go_simp); all_goals with_reducible rfl
  try simp only [Act.put, List.setIfInBounds_toArray, List.set_cons_zero, List.set_cons_succ]
  refine wpAnyH_takeD (i := 99) (v := ?_) (some 210) rfl rfl (by as_aux_lemma => kernel_rfl) (by as_aux_lemma => kernel_rfl) (by as_aux_lemma => kernel_rfl) (fun _ _ _ h => h) (Or.inl ⟨by as_aux_lemma => kernel_rfl, ?_⟩) (by assumption) ?_
  rotate_left
  · (intro w hSw; (try dsimp only at hSw); go_simp); all_goals with_reducible rfl
  try simp only [Act.put, List.setIfInBounds_toArray, List.set_cons_zero, List.set_cons_succ]
  refine wpAnyH_takeD (i := 100) (v := ?_) (some 211) rfl rfl (by as_aux_lemma => kernel_rfl) (by as_aux_lemma => kernel_rfl) (by as_aux_lemma => kernel_rfl) (fun _ _ _ h => h) (Or.inl ⟨by as_aux_lemma => kernel_rfl, ?_⟩) (by assumption) ?_
  rotate_left
  · (intro w hSw; (try dsimp only at hSw); go_simp); all_goals with_reducible rfl
  try simp only [Act.put, List.setIfInBounds_toArray, List.set_cons_zero, List.set_cons_succ]
  refine wpAnyH_takeD (i := 101) (v := ?_) (some 212) rfl rfl (by as_aux_lemma => kernel_rfl) (by as_aux_lemma => kernel_rfl) (by as_aux_lemma => kernel_rfl) (fun _ _ _ h => h) (Or.inl ⟨by as_aux_lemma => kernel_rfl, ?_⟩) (by assumption) ?_
  rotate_left
  · (intro w hSw; (try dsimp only at hSw); go_simp); all_goals with_reducible rfl
  try simp only [Act.put, List.setIfInBounds_toArray, List.set_cons_zero, List.set_cons_succ]
  refine wpAnyH_takeD (i := 102) (v := ?_) (some 213) rfl rfl (by as_aux_lemma => kernel_rfl) (by as_aux_lemma => kernel_rfl) (by as_aux_lemma => kernel_rfl) (fun _ _ _ h => h) (Or.inl ⟨by as_aux_lemma => kernel_rfl, ?_⟩) (by assumption) ?_
  rotate_left
  · (intro w hSw; (try dsimp only at hSw); go_simp); all_goals with_reducible rfl
  try simp only [Act.put, List.setIfInBounds_toArray, List.set_cons_zero, List.set_cons_succ]
  refine wpAnyH_takeD (i := 103) (v := ?_) (some 214) rfl rfl (by as_aux_lemma => kernel_rfl) (by as_aux_lemma => kernel_rfl) (by as_aux_lemma => kernel_rfl) (fun _ _ _ h => h) (Or.inl ⟨by as_aux_lemma => kernel_rfl, ?_⟩) (by assumption) ?_
  rotate_left
  · (intro w hSw; (try dsimp only at hSw); go_simp); all_goals with_reducible rfl
  try simp only [Act.put, List.setIfInBounds_toArray, List.set_cons_zero, List.set_cons_succ]
  refine wpAnyH_takeD (i := 104) (v := ?_) (some 215) rfl rfl (by as_aux_lemma => kernel_rfl) (by as_aux_lemma => kernel_rfl) (by as_aux_lemma => kernel_rfl) (fun _ _ _ h => h) (Or.inl ⟨by as_aux_lemma => kernel_rfl, ?_⟩) (by assumption) ?_
  rotate_left
  · (intro w hSw; (try dsimp only at hSw); go_simp); all_goals with_reducible rfl
  try simp only [Act.put, List.setIfInBounds_toArray, List.set_cons_zero, List.set_cons_succ]
  refine wpAnyH_takeD (i := 105) (v := ?_) (some 216) rfl rfl (by as_aux_lemma => kernel_rfl) (by as_aux_lemma => kernel_rfl) (by as_aux_lemma => kernel_rfl) (fun _ _ _ h => h) (Or.inl ⟨by as_aux_lemma => kernel_rfl, ?_⟩) (by assumption) ?_
  rotate_left
  · (intro w hSw; (try dsimp only at hSw); go_simp); all_goals with_reducible rfl
  try simp only [Act.put, List.setIfInBounds_toArray, List.set_cons_zero, List.set_cons_succ]
  refine wpAnyH_takeD (i := 106) (v := ?_) (some 217) rfl rfl (by as_aux_lemma => kernel_rfl) (by as_aux_lemma => kernel_rfl) (by as_aux_lemma => kernel_rfl) (fun _ _ _ h => h) (Or.inl ⟨by as_aux_lemma => kernel_rfl, ?_⟩) (by assumption) ?_
  rotate_left
  · (intro w hSw; (try dsimp only at hSw); go_simp); all_goals with_reducible rfl
  try simp only [Act.put, List.setIfInBounds_toArray, List.set_cons_zero, List.set_cons_succ]
  refine wpAnyH_takeD (i := 107) (v := ?_) (some 218) rfl rfl (by as_aux_lemma => kernel_rfl) (by as_aux_lemma => kernel_rfl) (by as_aux_lemma => kernel_rfl) (fun _ _ _ h => h) (Or.inl ⟨by as_aux_lemma => kernel_rfl, ?_⟩) (by assumption) ?_
  rotate_left
  · (intro w hSw; (try dsimp only at hSw); go_simp); all_goals with_reducible rfl
  try simp only [Act.put, List.setIfInBounds_toArray, List.set_cons_zero, List.set_cons_succ]
  refine wpAnyH_ready (rs := [108]) (by as_aux_lemma => kernel_rfl) (by simp) ?_
  refine AllReadyH.cons rfl (fun K hK => ?_) AllReadyH.nil
  go_simp
  go_wp2_with (go_at_call 17; refine (aw_putE _).mono ?_; rintro e xp ⟨rfl, bp⟩)
  refine hK.out _ _ ((hHeld.2.next bp).cells) (fun hHeld => ?_)
  clear hK K
  refine wpAnyH_takeD (i := 109) (v := ?_) (some 220) rfl rfl (by as_aux_lemma => kernel_rfl) (by as_aux_lemma => kernel_rfl) (by as_aux_lemma => kernel_rfl) (fun _ _ _ h => h) (Or.inl ⟨by as_aux_lemma => kernel_rfl, ?_⟩) (by assumption) ?_
  rotate_left
  · (intro w hSw; (try dsimp only at hSw); go_simp); all_goals with_reducible rfl
  try simp only [Act.put, List.setIfInBounds_toArray, List.set_cons_zero, List.set_cons_succ]
  refine wpAnyH_takeD (i := 110) (v := ?_) (some 221) rfl rfl (by as_aux_lemma => kernel_rfl) (by as_aux_lemma => kernel_rfl) (by as_aux_lemma => kernel_rfl) (fun _ _ _ h => h) (Or.inl ⟨by as_aux_lemma => kernel_rfl, ?_⟩) (by assumption) ?_
  rotate_left
  · (intro w hSw; (try dsimp only at hSw); go_simp); all_goals with_reducible rfl
  try simp only [Act.put, List.setIfInBounds_toArray, List.set_cons_zero, List.set_cons_succ]
  refine wpAnyH_takeD (i := 111) (v := ?_) (some 222) rfl rfl (by as_aux_lemma => kernel_rfl) (by as_aux_lemma => kernel_rfl) (by as_aux_lemma => kernel_rfl) (fun _ _ _ h => h) (Or.inl ⟨by as_aux_lemma => kernel_rfl, ?_⟩) (by assumption) ?_
  rotate_left
  · (intro w hSw; (try dsimp only at hSw); go_simp); all_goals with_reducible rfl
  try simp only [Act.put, List.setIfInBounds_toArray, List.set_cons_zero, List.set_cons_succ]
  refine wpAnyH_takeD (i := 112) (v := ?_) (some 223) rfl rfl (by as_aux_lemma => kernel_rfl) (by as_aux_lemma => kernel_rfl) (by as_aux_lemma => kernel_rfl) (fun _ _ _ h => h) (Or.inl ⟨by as_aux_lemma => kernel_rfl, ?_⟩) (by assumption) ?_
  rotate_left
  · (intro w hSw; (try dsimp only at hSw); go_simp); all_goals with_reducible rfl
  try simp only [Act.put, List.setIfInBounds_toArray, List.set_cons_zero, List.set_cons_succ]
  refine wpAnyH_takeD (i := 113) (v := ?_) (some 224) rfl rfl (by as_aux_lemma => kernel_rfl) (by as_aux_lemma => kernel_rfl) (by as_aux_lemma => kernel_rfl) (fun _ _ _ h => h) (Or.inl ⟨by as_aux_lemma => kernel_rfl, ?_⟩) (by assumption) ?_
  rotate_left
  · (intro w hSw; (try dsimp only at hSw); go_simp); all_goals with_reducible rfl
  try simp only [Act.put, List.setIfInBounds_toArray, List.set_cons_zero, List.set_cons_succ]
  refine wpAnyH_takeD (i := 114) (v := ?_) (some 225) rfl rfl (by as_aux_lemma => kernel_rfl) (by as_aux_lemma => kernel_rfl) (by as_aux_lemma => kernel_rfl) (fun _ _ _ h => h) (Or.inl ⟨by as_aux_lemma => kernel_rfl, ?_⟩) (by assumption) ?_
  rotate_left
  · (intro w hSw; (try dsimp only at hSw); go_simp); all_goals with_reducible rfl
  try simp only [Act.put, List.setIfInBounds_toArray, List.set_cons_zero, List.set_cons_succ]
  refine wpAnyH_takeD (i := 115) (v := ?_) (some 226) rfl rfl (by as_aux_lemma => kernel_rfl) (by as_aux_lemma => kernel_rfl) (by as_aux_lemma => kernel_rfl) (fun _ _ _ h => h) (Or.inl ⟨by as_aux_lemma => kernel_rfl, ?_⟩) (by assumption) ?_
  rotate_left
  · (intro w hSw; (try dsimp only at hSw); go_simp); all_goals with_reducible rfl
  try simp only [Act.put, List.setIfInBounds_toArray, List.set_cons_zero, List.set_cons_succ]
  refine wpAnyH_takeD (i := 116) (v := ?_) (some 227) rfl rfl (by as_aux_lemma => kernel_rfl) (by as_aux_lemma => kernel_rfl) (by as_aux_lemma => kernel_rfl) (fun _ _ _ h => h) (Or.inl ⟨by as_aux_lemma => kernel_rfl, ?_⟩) (by assumption) ?_
  rotate_left
  · (intro w hSw; (try dsimp only at hSw); go_simp); all_goals with_reducible rfl
  try simp only [Act.put, List.setIfInBounds_toArray, List.set_cons_zero, List.set_cons_succ]
  refine wpAnyH_takeD (i := 117) (v := ?_) (some 0) rfl rfl (by as_aux_lemma => kernel_rfl) (by as_aux_lemma => kernel_rfl) (by as_aux_lemma => kernel_rfl) (fun _ _ _ h => h) (Or.inl ⟨by as_aux_lemma => kernel_rfl, ?_⟩) (by assumption) ?_
  rotate_left
  · (intro w hSw; (try dsimp only at hSw); go_simp); all_goals with_reducible rfl
  try simp only [Act.put, List.setIfInBounds_toArray, List.set_cons_zero, List.set_cons_succ]
  refine wpAnyH_done (by as_aux_lemma => kernel_rfl) ?_ _
  go_wp2_with fail
  go_ret
  exact ⟨rfl, hHeld.2.k.b⟩

end Go.Proofs.Ytgnoiheekgmleaa
