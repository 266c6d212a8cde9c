/- web: Fields; Write. -/
import Derived.Test.YtgnoiheekgmleaaEh
import Derived.Deep.RegionHeld
namespace Go.Proofs.Ytgnoiheekgmleaa
open Go.ChangeShapes Go.WideShapes Go.RowKit
set_option linter.unusedVariables false

/-- A body's frames. -/
def piecesF : Nat → List UInt8 → List UInt8
  | 0, _ => []
  | k + 1, l => if l = [] then [] else frameB 0 (l.take 500) ++ piecesF k (l.drop 500)
/-- What a Write makes. -/
def webF (S : Tbl) (L : List Fl) (body : List UInt8) : Tbl × ByteArray × List UInt8 × Int :=
  if (writeF S L).2.2.2 ≠ 0 then ((writeF S L).1, ⟨#[]⟩, [], (writeF S L).2.2.2) else ((writeF S L).1, (writeF S L).2.1, frameB 1 (byt (writeF S L).2.2.1) ++ piecesF body.length body, 0)

theorem pieces_fuel : ∀ (k j : Nat) (l : List UInt8), l.length ≤ k → l.length ≤ j → piecesF k l = piecesF j l
  | 0, j, l, hk, hj => by
    have h0 : l = [] := List.eq_nil_of_length_eq_zero (by omega)
    cases j with
    | zero => rfl
    | succ j => unfold piecesF; rw [if_pos h0]
  | k + 1, 0, l, hk, hj => by
    have h0 : l = [] := List.eq_nil_of_length_eq_zero (by omega)
    unfold piecesF
    rw [if_pos h0]
  | k + 1, j + 1, l, hk, hj => by
    unfold piecesF
    by_cases h0 : l = []
    · rw [if_pos h0, if_pos h0]
    · have := List.length_pos_iff.2 h0
      rw [if_neg h0, if_neg h0, pieces_fuel k j (l.drop 500) (by rw [List.length_drop]; omega) (by rw [List.length_drop]; omega)]
theorem frameB_le (k : Nat) (d : List UInt8) : (frameB k d).length ≤ 16 + d.length := by
  unfold frameB
  split
  · have := putB_le k
    have := putB_le d.length
    rw [List.length_append, List.length_append]
    omega
  · exact Nat.zero_le _
theorem writeF_size {S : Tbl} (hok : S.Ok) (L : List Fl) (hl : L.length ≤ 10000) : (writeF S L).2.2.1.size ≤ 30604 := by
  unfold writeF
  split
  · exact Nat.zero_le _
  · split
    · exact Nat.zero_le _
    · rename_i h1 h2
      have hinv := InvW.fold hok L L.length (Nat.le_refl _)
      rw [List.take_length] at hinv
      obtain ⟨hSt, i1, i2, _, _, i6⟩ := hinv
      have hml : (foldW S L).2.2 ≤ 5000 := by have := hSt.2.1; have := hSt.2.2; omega
      have hone : ∀ (i : Nat) f, L[i]? = some f → idxF fixedL f < 0 → idxF (foldW S L).1.l f < (foldW S L).2.2 := by
        intro i f hf hn
        refine (i6 f (List.mem_of_getElem? hf) ?_).1
        intro hm
        have := (has_iff fixedL f).2 hm
        unfold hasF at this
        rw [decide_eq_true_iff] at this
        omega
      have := secF_size hone (fun i f hf => where_may h2 i f hf) ⟨i1, hml⟩ L.length (Nat.le_refl _)
      rw [List.take_length] at this
      simp only
      omega
theorem writeF_err (S : Tbl) (L : List Fl) : (writeF S L).2.2.2 = 0 ∨ (writeF S L).2.2.2 = 4 ∨ (writeF S L).2.2.2 = 2 := by
  unfold writeF
  split
  · exact .inr (.inl rfl)
  · split
    · exact .inr (.inr rfl)
    · exact .inl rfl
theorem txt_app_size (a b : List UInt8) : (txt (a ++ b)).size = a.length + b.length := by rw [txt_size, List.length_append]

section
variable {B b br : Nat} {I : IB} {fin : Bool} {ad bf : Value} {w : World}

theorem FldS.further {x y : World} {C : ByteArray} {Bt : Nat} {v : Value} {S : Tbl} (h : (x.cell? ⟨b, 0, none⟩ = some (.pointer (some ⟨br, 0, none⟩)) ∧ x.cell? ⟨b, 2, none⟩ = some (.string C)) ∧ TblIs x Bt br 89 v S ∧ Below w.heap.size w x) (hb : Below x.heap.size x y) :
    (y.cell? ⟨b, 0, none⟩ = some (.pointer (some ⟨br, 0, none⟩)) ∧ y.cell? ⟨b, 2, none⟩ = some (.string C)) ∧ TblIs y Bt br 89 v S ∧ Below w.heap.size w y :=
  ⟨⟨(hb.cell (World.block_lt_of_cell? x _ h.1.1)).trans h.1.1, (hb.cell (World.block_lt_of_cell? x _ h.1.2)).trans h.1.2⟩, h.2.1.below hb, h.2.2.trans (hb.mono h.2.2.size)⟩

set_option maxRecDepth 100000 in
set_option maxHeartbeats 1000000 in
theorem Fields_any (Bt : Nat) (v : Value) (S : Tbl) (h : Ibx w B b br I fin 0 ad bf) (hh : I.head = true) (ht : TblIs w Bt br 89 v S) (hs : I.sec.length ≤ 5000) (hSl : S.l.length ≤ 10000) :
    Calls Try.prog 24 #[.pointer (some ⟨b, 0, none⟩)] w (REnd (readF S.l (txt I.sec)) w) := by
  have c7 := h.at_.cell (k := 7) rfl
  have c3 := h.at_.cell (k := 3) rfl
  have d0 := h.at_.drew.cell (k := 0) rfl
  have d2 := h.at_.drew.cell (k := 2) rfl
  rw [hh] at c3
  have hR := fun x hx => Read_any Bt br v S (txt I.sec) x hx (by rw [txt_size]; exact hs) hSl
  obtain ⟨C, hC⟩ : ∃ C, txt I.sec = C := ⟨_, rfl⟩
  rw [hC] at d2 hR ⊢
  have HR := Lib.hid hR
  have HS0 := Lib.hid (show (w.drew.cell? ⟨b, 0, none⟩ = some (.pointer (some ⟨br, 0, none⟩)) ∧ w.drew.cell? ⟨b, 2, none⟩ = some (.string C)) ∧ TblIs w.drew Bt br 89 v S ∧ Below w.heap.size w w.drew from ⟨⟨d0, d2⟩, TblIs.drewN ht 1, (Below.refl _ _).drew⟩)
  clear hR h ht hC hs hSl hh d0 d2
  go_enter Try.func24, Try.ntmps24
  go_wp2_with fail
  go_region_held (fun w' => (w'.cell? ⟨b, 0, none⟩ = some (.pointer (some ⟨br, 0, none⟩)) ∧ w'.cell? ⟨b, 2, none⟩ = some (.string C)) ∧ TblIs w' Bt br 89 v S ∧ Below w.heap.size w w')
    (first | with_reducible assumption | exact HS0.out | exact FldS.further (by with_reducible assumption) b4)
    (first | (go_at_call 38; refine (HR.out _ HS0.out.2.1).mono ?_; rintro e x1 ⟨b4, u, rfl, ho⟩; have HO := Lib.hid (And.intro (HS0.out.2.2.trans (b4.mono HS0.out.2.2.size)) (own_base ho HS0.out.2.2.size))))
  all_goals
    go_wp2_with fail
    go_ret2
    exact ⟨HO.out.1, _, rfl, HO.out.2⟩
end

theorem Try.liesBd : liesAt Try.prog Try.prog.depth 78 (2 / Try.prog.cellsOf 78) 0 78 1 = true := by kernel_rfl

/-- The builder while a message is written. -/
def WSt (w2 : World) (g : Nat) (D : List UInt8) (x : World) : Prop := ∃ bf, blk x g 78 [.pointer (some ⟨g, 0, none⟩), bf] ∧ Bd x g D bf ∧ Below g w2 x ∧ g ≤ x.heap.size
theorem WSt.next {w2 x y : World} {g : Nat} {D : List UInt8} (h : WSt w2 g D x) (hb : Below x.heap.size x y) : WSt w2 g D y := by
  obtain ⟨bf, h1, h2, h3, h4⟩ := h
  exact ⟨bf, h1.below hb h1.lt, h2.next hb, h3.trans (hb.mono h4), Nat.le_trans h4 hb.size⟩
set_option maxRecDepth 100000 in
theorem WSt.write {w2 x : World} {g : Nat} {D : List UInt8} (h : WSt w2 g D x) (s : ByteArray) (hlen : D.length + s.size ≤ 1000000) :
    Calls Try.prog 28 #[.pointer (some ⟨g, 0, none⟩), .string s] x fun e w' => e = .returned (.tuple #[.int .i64 s.size, .nilIface]) ∧ WSt w2 g (D ++ byt s) w' := by
  obtain ⟨bf, h1, h2, h3, h4⟩ := h
  refine (WriteString_any 78 g 0 g [.pointer (some ⟨g, 0, none⟩), bf] (.pointer (some ⟨g, 0, none⟩)) bf D s x Try.liesBd (by decide) h1 rfl rfl (.inr rfl) h2 h4 hlen).mono ?_
  rintro e w' ⟨rfl, bf', q1, q2, q3⟩
  exact ⟨rfl, bf', q1, q2, h3.trans (q3.below h4 (fun k hk => by rcases hk with hk | hk; omega; exact (h2.lt k hk).1)), Nat.le_trans h4 q3.size⟩
set_option maxRecDepth 100000 in
theorem WSt.string {w2 x : World} {g : Nat} {D : List UInt8} (h : WSt w2 g D x) (hlen : D.length ≤ 1000000) :
    Calls Try.prog 29 #[.pointer (some ⟨g, 0, none⟩)] x fun e w' => e = .returned (.string (txt D)) ∧ Below g w2 w' := by
  obtain ⟨bf, h1, h2, h3, h4⟩ := h
  refine (String_any 78 g 0 g _ bf D x (by decide) h1 rfl h2 hlen).mono ?_
  rintro e w' ⟨rfl, q1, q2, q3⟩
  exact ⟨rfl, h3.trans (q3.below h4 (fun k hk => (h2.lt k hk).1))⟩

set_option maxRecDepth 100000 in
set_option maxHeartbeats 4000000 in
theorem wWrite_any (B b : Nat) (v : Value) (S : Tbl) (L : List Fl) (p : Option Addr) (cap : Nat) (body : ByteArray) (w : World) (h : TblIs w B b 71 v S) (hok : S.Ok) (hBw : B ≤ w.heap.size) (hBb : B ≤ b)
    (hL : FV w p L) (hlen : L.length ≤ 10000) (hsep : 0 < L.length → ∀ g o, p = some ⟨g, o, none⟩ → g < w.heap.size ∧ g ≠ b ∧ v.ownBlock ≠ some g) (hbody : body.size ≤ 5000) :
    Calls Try.prog 11 #[.pointer (some ⟨b, 0, none⟩), .agg #[.slice p L.length cap, .string body]] w fun e w' => e = .returned (.tuple #[.string (webF S L (byt body)).2.1, .string (txt (webF S L (byt body)).2.2.1), .int .i64 (webF S L (byt body)).2.2.2]) ∧ TabTo w w' B b 71 v (webF S L (byt body)).1 := by
  have hg : Below w.heap.size w (w.alloc (.cells #[.slice p L.length cap, .string body] 31)) := (Below.refl _ _).alloc (Nat.le_refl _) _
  have hm : blk (w.alloc (.cells #[.slice p L.length cap, .string body] 31)) w.heap.size 31 [.slice p L.length cap, .string body] := blk.new w _ _
  have c0 := hm.cell (k := 0) rfl
  have c1 := hm.cell (k := 1) rfl
  have hw := Write_any B b v S L p cap (w.alloc (.cells #[.slice p L.length cap, .string body] 31)) (h.below hg) hok (Nat.le_trans hBw hg.size) hBb (hL.below hg) hlen (fun hl g o hp => by
    obtain ⟨q1, q2, q3⟩ := hsep hl g o hp
    exact ⟨Nat.lt_of_lt_of_le q1 hg.size, q2, q3⟩)
  have hne : b ≠ w.heap.size := Nat.ne_of_lt h.1.lt
  have hnv : v.ownBlock ≠ some w.heap.size := fun e => Nat.lt_irrefl _ (own_lt h.2 _ e)
  have hsz := writeF_size hok L hlen
  have herr := writeF_err S L
  obtain ⟨R, hR⟩ : ∃ R, webF S L (byt body) = R := ⟨_, rfl⟩
  rw [hR]
  unfold webF at hR
  rcases hW : writeF S L with ⟨S1, told, sec, e⟩
  rw [hW] at hR hw hsz herr
  simp only at hR hw hsz herr
  obtain ⟨N, hN⟩ : ∃ N, L.length = N := ⟨_, rfl⟩
  rw [hN] at hw hg hm c0 c1 ⊢
  have HW := Lib.hid hw
  have HG := Lib.hid hg
  have HM := Lib.hid hm
  have HR := Lib.hid hR
  have HNe := Lib.hid (And.intro hne hnv)
  clear h hok hL hsep hw hg hm hR hN hlen hBw hBb hne hnv hW
  rcases herr with rfl | he
  · have hP := fun W => wPut_any 1 sec W (by decide) (by omega)
    have hfl := frameB_le 1 (byt sec)
    rw [byt_length] at hfl
    obtain ⟨D0, hD0⟩ : ∃ D0, frameB 1 (byt sec) = D0 := ⟨_, rfl⟩
    have hR := HR.out
    rw [if_neg (fun h => h rfl)] at hR
    rw [hD0] at hP hfl hR
    have HP := Lib.hid hP
    have HR2 := Lib.hid hR
    have HFl := Lib.hid hfl
    have HSz := Lib.hid hsz
    clear hP hD0 hR HR hfl hsz
    go_enter Try.func11, Try.ntmps11
    go_wp2_with fail
    refine HW.out.mono ?_
    rintro e w2 ⟨rfl, ht⟩
    have hm2 : blk w2 w.heap.size 31 [.slice p N cap, .string body] := by
      obtain ⟨v', _, ho, _⟩ := ht
      exact HM.out.only ho (fun h => by rcases h with h | h; exact HNe.out.1 h.symm; exact HNe.out.2 h)
    have HT := Lib.hid (TabTo.ahead HG.out ht)
    have HM2 := Lib.hid hm2
    clear ht hm2 HW HM
    have hb3 : Below w2.heap.size w2 (w2.alloc (.cells #[.pointer none, .slice none 0 0] 78)) := (Below.refl _ _).alloc (Nat.le_refl _) _
    have HB3 := Lib.hid hb3
    have HBk := Lib.hid (blk.new w2 78 [.pointer none, .slice none 0 0])
    clear hb3
    go_wp2_with fail
    refine (HP.out _).mono ?_
    rintro e w4 ⟨rfl, hb4⟩
    have HB4 := Lib.hid (HB3.out.trans (hb4.mono HB3.out.size))
    have HBk4 := Lib.hid (HBk.out.below hb4 HBk.out.lt)
    clear hb4 HP
    have HWS := Lib.hid (WriteString_any 78 w2.heap.size 0 w2.heap.size [.pointer none, .slice none 0 0] (.pointer none) (.slice none 0 0) [] (txt D0) w4 Try.liesBd (by decide) HBk4.out rfl rfl (.inl rfl) (Bd.start _ _) HB4.out.size (by rw [txt_size]; have := HFl.out; have := HSz.out; simp only [List.length_nil]; omega))
    go_wp2_with fail
    refine HWS.out.mono ?_
    rintro e w5 ⟨rfl, bf, hbk, hbd, ho⟩
    have hws : WSt w2 w2.heap.size D0 w5 := ⟨bf, hbk, by simpa [byt_txt] using hbd, HB4.out.trans (ho.below HB4.out.size (fun k hk => by rcases hk with hk | hk; omega; cases hk)), Nat.le_trans HB4.out.size ho.size⟩
    obtain ⟨g, hg⟩ : ∃ g, w2.heap.size = g := ⟨_, rfl⟩
    have hgm : w.heap.size < g := by rw [← hg]; exact HM2.out.lt
    have HM5 := Lib.hid (HM2.out.below (hws.elim (fun _ h => h.2.2.1)) HM2.out.lt)
    rw [hg] at hws
    have HGG := Lib.hid hg
    simp only [hg] at hws ⊢
    have c1 := HM5.out.cell (k := 1) rfl
    have HWs := Lib.hid hws
    clear hg hws hbk hbd ho HWS HBk4 HB4 HBk HB3 HM2
    go_wp2_with fail
    go_loopg [9] body.size (fun gk s9 wr => ∃ (r D : List UInt8), s9 = .string (txt r) ∧ r.length ≤ gk ∧ D ++ piecesF gk r = D0 ++ piecesF (byt body).length (byt body) ∧ D.length + 17 * r.length ≤ 500000 ∧ WSt w2 g D wr)
    case atStart => exact ⟨byt body, D0, by rw [txt_byt], by rw [byt_length]; omega, by rw [byt_length], by rw [byt_length]; have := HFl.out; have := HSz.out; omega, HWs.out⟩
    case round =>
      obtain ⟨r, D, rfl, hr, hD, hl, hws⟩ := hrel
      by_cases hc : r = []
      · subst hc
        have hp : piecesF gk [] = [] := by cases gk <;> rfl
        rw [hp, List.append_nil] at hD
        rw [txt_nil]
        have HS := Lib.hid (hws.string (by omega))
        have HD := Lib.hid hD
        clear hws hD hp hr hl
        go_wp2_with fail
        refine HS.out.mono ?_
        rintro e w6 ⟨rfl, hb6⟩
        rw [← HGG.out] at hb6
        have HF := Lib.hid (TabTo.further HT.out hb6)
        clear hb6 HS
        go_wp2_with fail
        go_ret3
        rw [← HR2.out]
        rw [HD.out]
        exact ⟨rfl, HF.out⟩
      · obtain ⟨n1, n2⟩ := txt_ne hc
        obtain ⟨gj, rfl⟩ : ∃ gj, gk = gj + 1 := ⟨gk - 1, by have := List.length_pos_iff.2 hc; omega⟩
        obtain ⟨m, hm⟩ : ∃ m, min r.length 500 = m := ⟨_, rfl⟩
        have ht := txt_take r m
        have hd := txt_drop r m r.length rfl
        have hsz := txt_size r
        obtain ⟨Z, hZ⟩ : ∃ Z, r.length = Z := ⟨_, rfl⟩
        obtain ⟨C, hC⟩ : ∃ C, txt r = C := ⟨_, rfl⟩
        rw [hC] at ht hd hsz n1 n2 ⊢
        rw [hZ] at hsz hm hd hr hl
        have hmi : min (Z : Int) 500 = (m : Int) := by omega
        have hZ3 : Z ≤ 100000 := by omega
        have hmZ : m ≤ Z := by omega
        have hm5 : m ≤ 500 := by omega
        have hm0 : 0 < m := by have := List.length_pos_iff.2 hc; omega
        have hlt : (r.take m).length = m := by rw [List.length_take]; omega
        have hld : (r.drop m).length = Z - m := by rw [List.length_drop]; omega
        obtain ⟨P, hP⟩ : ∃ P, C.extract 0 m = P := ⟨_, rfl⟩
        obtain ⟨C2, hC2⟩ : ∃ C2, C.extract m Z = C2 := ⟨_, rfl⟩
        rw [hP] at ht
        rw [hC2] at hd
        have hp := fun W => wPut_any 0 P W (by decide) (by rw [ht, txt_size]; omega)
        have hfl := frameB_le 0 (byt P)
        rw [ht, byt_txt] at hp hfl
        have htk : r.take m = r.take 500 := by
          rcases Nat.le_total Z 500 with h | h
          · rw [List.take_of_length_le (by omega), List.take_of_length_le (by omega)]
          · rw [show m = 500 by omega]
        have hdk : r.drop m = r.drop 500 := by
          rcases Nat.le_total Z 500 with h | h
          · rw [List.drop_of_length_le (by omega), List.drop_of_length_le (by omega)]
          · rw [show m = 500 by omega]
        have hst : piecesF (gj + 1) r = frameB 0 (r.take m) ++ piecesF gj (r.drop m) := by
          rw [htk, hdk]
          conv => lhs; unfold piecesF
          rw [if_neg hc]
        rw [hst, ← List.append_assoc] at hD
        obtain ⟨F, hF⟩ : ∃ F, frameB 0 (r.take m) = F := ⟨_, rfl⟩
        rw [hF] at hp hfl hD
        have HWs2 := Lib.hid hws
        have HD := Lib.hid hD
        have HP := Lib.hid (show ∀ W, Calls Try.prog 17 #[.int .u64 0, .string P] W fun e w' => e = .returned (.string (txt F)) ∧ Below W.heap.size W w' by rw [ht]; exact hp)
        have HL := Lib.hid (show D.length + F.length ≤ 1000000 ∧ (D ++ F).length + 17 * (r.drop m).length ≤ 500000 by rw [List.length_append]; omega)
        have HC2 := Lib.hid hd
        have HLd := Lib.hid (show (r.drop m).length ≤ gj by omega)
        clear hws hD hC hp hfl hl hF ht hd hst htk hdk hlt hld hZ hr hc hm
        go_wp2_with fail
        refine (HP.out _).mono ?_
        rintro e w6 ⟨rfl, hb6⟩
        have HW6 := Lib.hid ((HWs2.out.next hb6).write (txt F) (by rw [txt_size]; exact HL.out.1))
        clear hb6 HWs2 HP
        go_wp2_with fail
        refine HW6.out.mono ?_
        rintro e w7 ⟨rfl, hws7⟩
        rw [byt_txt] at hws7
        have HW7 := Lib.hid hws7
        clear hws7 HW6
        go_wp2_with fail
        go_roundg gj
        case measure => omega
        case rel => exact ⟨r.drop m, D ++ F, by rw [← HC2.out], HLd.out, HD.out, HL.out.2, HW7.out⟩
  · have he2 : e ≠ 0 := by omega
    have hR := HR.out
    rw [if_pos he2] at hR
    have d0 : (e == 0) = false := by rw [beq_eq_false_iff_ne]; exact he2
    have HR2 := Lib.hid hR
    clear he he2 hR HR
    go_enter Try.func11, Try.ntmps11
    go_wp2_with fail
    refine HW.out.mono ?_
    rintro e w2 ⟨rfl, ht⟩
    have HT := Lib.hid (TabTo.ahead HG.out ht)
    clear ht HW
    go_wp2_with fail
    go_ret3
    rw [← HR2.out]
    exact ⟨rfl, HT.out⟩

end Go.Proofs.Ytgnoiheekgmleaa
