/- web: the reference's put, Put, Write. -/
import Derived.Test.YtgnoiheekgmleaaEi
import Derived.Test.YtgnoiheekgmleaaYo
namespace Go.Proofs.Ytgnoiheekgmleaa
open Go.ChangeShapes Go.WideShapes Go.RowKit
set_option linter.unusedVariables false

set_option maxRecDepth 100000 in
theorem rputs_any (n : Nat) (w : World) :
    Calls Try.prog 56 #[.int .u64 (n : Int)] w fun e w' => e = .returned (.string (txt (putB n))) ∧ Below w.heap.size w w' := by
  have h := rPut_any n w
  unfold putB
  obtain ⟨p, hp⟩ : ∃ p, putF n = p := ⟨_, rfl⟩
  rw [hp] at h ⊢
  have H := Lib.hid h
  clear h hp
  go_enter Try.func56, Try.ntmps56
  go_wp2_with fail
  refine H.out.mono ?_
  rintro e w' ⟨rfl, hb⟩
  have HB := Lib.hid hb
  clear hb H
  go_wp2_with fail
  go_ret
  exact ⟨rfl, HB.out⟩

set_option maxRecDepth 100000 in
theorem rwPut_any (kind : Nat) (d : ByteArray) (w : World) (hk : kind < 18446744073709551616) (hd : d.size ≤ 1000000) :
    Calls Try.prog 31 #[.int .u64 (kind : Int), .string d] w fun e w' => e = .returned (.string (txt (frameB kind (byt d)))) ∧ Below w.heap.size w w' := by
  have h1 := rputs_any kind w
  have h2 := fun W => rputs_any d.size W
  have hdl : (byt d).length = d.size := byt_length d
  by_cases hk2 : kind < 4611686018427387904
  · have he : txt (frameB kind (byt d)) = txt (putB kind) ++ txt (putB d.size) ++ d := by
      rw [frameB_eq hk2, wtxt_app, wtxt_app, hdl, txt_byt]
    obtain ⟨k, hkk⟩ : ∃ k, txt (putB kind) = k := ⟨_, rfl⟩
    obtain ⟨q, hq⟩ : ∃ q, txt (putB d.size) = q := ⟨_, rfl⟩
    obtain ⟨D, hD⟩ : ∃ D, d.size = D := ⟨_, rfl⟩
    rw [hkk] at h1
    rw [hq] at h2
    rw [hkk, hq] at he
    have hc : IntKind.u64.wrap (d.size : Int) = (d.size : Int) := IntWalk.u64_in _ (by omega)
    have hks : k.size ≤ 8 := by rw [← hkk, txt_size]; exact putB_le _
    have hqs : q.size ≤ 8 := by rw [← hq, txt_size]; exact putB_le _
    rw [hD] at hd h2 hc
    have n3 : ¬ 9223372036854775807 < k.size + q.size := by omega
    have n4 : ¬ 9223372036854775807 < k.size + q.size + D := by omega
    have n5 : ¬ (4611686018427387904 : Int) ≤ (kind : Int) := by omega
    have H1 := Lib.hid h1
    have H2 := Lib.hid h2
    have HE := Lib.hid he
    clear h1 h2 he hkk hq hk hk2 hdl
    go_enter Try.func31, Try.ntmps31
    go_wp2_with fail
    refine H1.out.mono ?_
    rintro e w1 ⟨rfl, hb1⟩
    have HB1 := Lib.hid hb1
    clear hb1 H1
    go_wp2_with fail
    refine (H2.out _).mono ?_
    rintro e w2 ⟨rfl, hb2⟩
    have HB := Lib.hid (HB1.out.trans (hb2.mono HB1.out.size))
    clear hb2 H2
    go_wp2_with fail
    go_ret
    rw [HE.out]
    exact ⟨rfl, HB.out⟩
  · have e1 : frameB kind (byt d) = [] := by unfold frameB; rw [if_neg hk2]
    rw [e1, show txt [] = (⟨#[]⟩ : ByteArray) from rfl]
    have n5 : (4611686018427387904 : Int) ≤ (kind : Int) := by omega
    have HB : Hid (Below w.heap.size w w) := Lib.hid (Below.refl _ _)
    clear h1 h2 e1 hk hk2 hdl
    go_enter Try.func31, Try.ntmps31
    go_wp2_with fail
    go_ret
    exact ⟨rfl, HB.out⟩

set_option maxRecDepth 100000 in
set_option maxHeartbeats 4000000 in
theorem rwWrite_any (B b : Nat) (v : Value) (S : Tbl) (L : List Fl) (pl : Option Addr) (cap : Nat) (body : ByteArray) (w : World) (h : TbR w B b v S) (hok : S.Ok) (hsz : SzOk S) (hBw : B ≤ w.heap.size)
    (hL : FV w pl L) (hlen : L.length ≤ 10000) (hsep : 0 < L.length → ∀ g o, pl = some ⟨g, o, none⟩ → g ≠ b) (hbody : body.size ≤ 5000) :
    Calls Try.prog 12 #[.pointer (some ⟨b, 0, none⟩), .slice pl L.length cap, .string body] w fun e w' => e = .returned (.tuple #[.string (webF S L (byt body)).2.1, .string (txt (webF S L (byt body)).2.2.1), .int .i64 (webF S L (byt body)).2.2.2]) ∧ RTo w w' B b (webF S L (byt body)).1 := by
  have hw := RWrite_any B b v S L pl cap w h hok hsz hBw hL hlen hsep
  have hsz := writeF_size hok L hlen
  have herr := writeF_err S L
  obtain ⟨R, hR⟩ : ∃ R, webF S L (byt body) = R := ⟨_, rfl⟩
  rw [hR]
  unfold webF at hR
  rcases hW : writeF S L with ⟨S1, told, sec, e⟩
  rw [hW] at hR hw hsz herr
  simp only at hR hw hsz herr
  obtain ⟨N, hN⟩ : ∃ N, L.length = N := ⟨_, rfl⟩
  rw [hN] at hw ⊢
  have HW := Lib.hid hw
  have HR := Lib.hid hR
  clear h hok hL hsep hw hR hN hlen hBw hW
  rcases herr with rfl | he
  · have hP := fun W => rwPut_any 1 sec W (by decide) (by omega)
    have hfl := frameB_le 1 (byt sec)
    rw [byt_length] at hfl
    obtain ⟨D0, hD0⟩ : ∃ D0, frameB 1 (byt sec) = D0 := ⟨_, rfl⟩
    have hR := HR.out
    rw [if_neg (fun h => h rfl)] at hR
    rw [hD0] at hP hfl hR
    obtain ⟨Z, hZ⟩ : ∃ Z, body.size = Z := ⟨_, rfl⟩
    have hbl : (byt body).length = Z := by rw [byt_length, hZ]
    rw [hbl] at hR
    rw [hZ] at hbody
    have hsz3 : body.size = Z := hZ
    have HP := Lib.hid hP
    have HR2 := Lib.hid hR
    have HBL := Lib.hid hbl
    have HFl := Lib.hid (show D0.length ≤ 16 + 30604 by omega)
    clear hP hD0 hR HR hfl hsz hbl hZ
    go_enter Try.func12, Try.ntmps12
    go_wp2_with fail
    refine HW.out.mono ?_
    rintro e w2 ⟨rfl, ht⟩
    have HT := Lib.hid ht
    clear ht HW
    go_wp2_with fail
    refine (HP.out _).mono ?_
    rintro e w3 ⟨rfl, hb3⟩
    have HT3 := Lib.hid (HT.out.further hb3)
    clear hb3 HP HT
    go_wp2_with fail
    go_loopg [12, 13] Z (fun gk s i wr => ∃ (j : Nat) (D : List UInt8), i = .int .i64 j ∧ s = .string (txt D) ∧ j ≤ 10000 ∧ Z ≤ j + gk ∧ D ++ piecesF gk ((byt body).drop j) = D0 ++ piecesF Z (byt body) ∧ D.length + 17 * (Z - j) ≤ 500000 ∧ RTo w wr B b S1)
    case atStart => exact ⟨0, D0, rfl, rfl, by omega, by omega, by rw [List.drop_zero], by have := HFl.out; omega, HT3.out⟩
    case round =>
      obtain ⟨j, D, rfl, rfl, hj, hg, hD, hl, hto⟩ := hrel
      by_cases hlt : j < Z
      · obtain ⟨gj, rfl⟩ : ∃ gj, gk = gj + 1 := ⟨gk - 1, by omega⟩
        obtain ⟨m, hm⟩ : ∃ m, min (j + 500) Z = m := ⟨_, rfl⟩
        have hmi : min ((j : Int) + 500) (Z : Int) = (m : Int) := by omega
        have hw1 : IntKind.i64.wrap ((j : Int) + 500) = (j : Int) + 500 := IntWalk.i64_in _ (by omega)
        have hjm : j ≤ m := by omega
        have hmZ : m ≤ Z := by omega
        have hne : (byt body).drop j ≠ [] := by
          intro h
          have := List.drop_eq_nil_iff.1 h
          have := HBL.out
          omega
        obtain ⟨P, hP⟩ : ∃ P, body.extract j m = P := ⟨_, rfl⟩
        have hpb : byt P = ((byt body).drop j).take 500 := by
          rw [← hP, byt_extract, List.drop_take]
          rcases Nat.le_total (j + 500) Z with h | h
          · rw [show m - j = 500 by omega]
          · rw [List.take_of_length_le (by rw [List.length_drop, HBL.out]; omega), List.take_of_length_le (by rw [List.length_drop, HBL.out]; omega)]
        have hpl : (byt P).length = m - j := by rw [hpb, List.length_take, List.length_drop, HBL.out]; omega
        rw [byt_length] at hpl
        have hp := fun W => rwPut_any 0 P W (by decide) (by omega)
        have hfl := frameB_le 0 (byt P)
        rw [byt_length] at hfl
        have hst : piecesF (gj + 1) ((byt body).drop j) = frameB 0 (byt P) ++ piecesF gj ((byt body).drop (j + 500)) := by
          conv => lhs; unfold piecesF
          rw [if_neg hne, hpb, List.drop_drop]
        rw [hst, ← List.append_assoc] at hD
        obtain ⟨F, hF⟩ : ∃ F, frameB 0 (byt P) = F := ⟨_, rfl⟩
        rw [hF] at hp hfl hD
        have hcat : txt D ++ txt F = txt (D ++ F) := (wtxt_app D F).symm
        have e1 : ¬ 9223372036854775807 < (txt D).size + (txt F).size := by rw [txt_size, txt_size]; omega
        have HL := Lib.hid (show (D ++ F).length + 17 * (Z - (j + 500)) ≤ 500000 by rw [List.length_append]; omega)
        obtain ⟨T1, hT1⟩ : ∃ T1, txt D = T1 := ⟨_, rfl⟩
        obtain ⟨T2, hT2⟩ : ∃ T2, txt F = T2 := ⟨_, rfl⟩
        rw [hT1, hT2] at hcat e1
        rw [hT2] at hp
        rw [hT1]
        have HD := Lib.hid hD
        have HPt := Lib.hid hp
        have HTo := Lib.hid hto
        have HC := Lib.hid hcat
        clear hD hp hto hcat hst hfl hF hpb hne hT1 hT2 hm hl
        go_wp2_with fail
        refine (HPt.out _).mono ?_
        rintro e w6 ⟨rfl, hb6⟩
        have HT6 := Lib.hid (HTo.out.further hb6)
        clear hb6 HTo HPt
        go_wp2_with fail
        go_roundg gj
        case measure => omega
        case rel => exact ⟨j + 500, D ++ F, by go_num, by rw [HC.out], by omega, by omega, HD.out, HL.out, HT6.out⟩
      · have hnil : (byt body).drop j = [] := by rw [List.drop_eq_nil_iff, HBL.out]; omega
        have hp : piecesF gk [] = [] := by cases gk <;> rfl
        rw [hnil, hp, List.append_nil] at hD
        have HD := Lib.hid hD
        have HTo := Lib.hid hto
        clear hnil hp hD hto
        go_wp2_with fail
        go_ret3
        rw [← HR2.out]
        rw [HD.out]
        exact ⟨rfl, HTo.out⟩
  · have he2 : e ≠ 0 := by omega
    have hR := HR.out
    rw [if_pos he2] at hR
    have d0 : (e == 0) = false := by rw [beq_eq_false_iff_ne]; exact he2
    have HR2 := Lib.hid hR
    clear he he2 hR HR
    go_enter Try.func12, Try.ntmps12
    go_wp2_with fail
    refine HW.out.mono ?_
    rintro e w2 ⟨rfl, ht⟩
    have HT := Lib.hid ht
    clear ht HW
    go_wp2_with fail
    go_ret3
    rw [← HR2.out]
    exact ⟨rfl, HT.out⟩

end Go.Proofs.Ytgnoiheekgmleaa
