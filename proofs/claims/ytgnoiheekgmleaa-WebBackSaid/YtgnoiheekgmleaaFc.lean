/- fields: contracts of text and takeText. -/
import Derived.Test.YtgnoiheekgmleaaFb
namespace Go.Proofs.Ytgnoiheekgmleaa
open Go.ChangeShapes Go.WideShapes Go.RowKit
set_option linter.unusedVariables false

theorem txt_app (a b : List UInt8) : txt a ++ txt b = txt (a ++ b) := by
  apply ByteArray.ext
  simp [txt]

theorem numberF_len (n k high : Nat) (hn : n < 2 ^ 64) : (numberF n k high).length ≤ 11 := by
  unfold numberF
  split
  · simp
  · rw [List.length_cons]
    have e : (128 : Nat) ^ (9 + 1) = 2 ^ 70 := by decide
    have := tailF_len 9 (n - (2 ^ k - 1)) (by omega)
    omega

/-- A text's bytes, with k bits left. -/
def textB (l : List UInt8) (k high : Nat) : List UInt8 :=
  if (packF l).length < l.length then numberF (packF l).length (k - 1) (high ||| 2 ^ (k - 1)) ++ packF l else numberF l.length (k - 1) high ++ l

theorem shl_u8 (c : Nat) (hc : c ≤ 7) : IntKind.u8.wrap ((2 : Int) ^ c) = ((2 ^ c : Nat) : Int) := by
  have h : c = 0 ∨ c = 1 ∨ c = 2 ∨ c = 3 ∨ c = 4 ∨ c = 5 ∨ c = 6 ∨ c = 7 := by omega
  rcases h with rfl | rfl | rfl | rfl | rfl | rfl | rfl | rfl <;> decide

theorem pow_u8 (c : Nat) (hc : c ≤ 7) : 2 ^ c < 256 := by
  have h : c = 0 ∨ c = 1 ∨ c = 2 ∨ c = 3 ∨ c = 4 ∨ c = 5 ∨ c = 6 ∨ c = 7 := by omega
  rcases h with rfl | rfl | rfl | rfl | rfl | rfl | rfl | rfl <;> decide

set_option maxRecDepth 100000 in
set_option maxHeartbeats 4000000 in
theorem text_any (s : ByteArray) (c high : Nat) (w : World) (hs : s.size ≤ 5000) (hc : 1 ≤ c ∧ c ≤ 7) (hh : high < 256) :
    Calls Try.prog 70 #[.string s, .int .i64 ((c : Int) + 1), .int .u8 (high : Int)] w fun e w' => e = .returned (.string (txt (textB (byt s) (c + 1) high))) ∧ Below w.heap.size w w' := by
  have hbl := byt_length s
  have hp := fun w => Pack_any s w (by omega)
  have hsh := shl_u8 c hc.2
  have hpw := pow_u8 c hc.2
  have hts := txt_byt s
  unfold textB
  rw [Nat.add_sub_cancel]
  obtain ⟨l, hl⟩ : ∃ l, byt s = l := ⟨_, rfl⟩
  rw [hl] at hbl hp hts ⊢
  have hpl := txt_size (packF l)
  by_cases hlt : (packF l).length < l.length
  · rw [if_pos hlt]
    have hor : bits BinOp.or IntKind.u8 (high : Int) ((2 ^ c : Nat) : Int) = ((high ||| 2 ^ c : Nat) : Int) := u8_or_nat _ _ hh hpw
    have ho8 := or_lt high (2 ^ c) hh hpw
    have hnum := fun w => Number_any (packF l).length c (high ||| 2 ^ c) w (by omega) (by omega) ho8
    have hap := txt_app (numberF (packF l).length c (high ||| 2 ^ c)) (packF l)
    have hz := txt_size (numberF (packF l).length c (high ||| 2 ^ c))
    have hzl := numberF_len (packF l).length c (high ||| 2 ^ c) (by omega)
    generalize txt (numberF (packF l).length c (high ||| 2 ^ c) ++ packF l) = res at *
    generalize numberF (packF l).length c (high ||| 2 ^ c) = nl at *
    obtain ⟨PL, hPL⟩ : ∃ n, (packF l).length = n := ⟨_, rfl⟩
    rw [hPL] at hlt hnum hpl
    have hd : decide ((PL : Int) < (s.size : Int)) = true := by rw [decide_eq_true_iff]; omega
    generalize high ||| 2 ^ c = h2 at *
    obtain ⟨P2, hP2⟩ : ∃ n, 2 ^ c = n := ⟨_, rfl⟩
    rw [hP2] at hsh hor
    generalize txt (packF l) = ps at *
    generalize txt nl = ns at *
    rw [hbl] at hlt
    have hnz : ns.size ≤ 11 := by omega
    have HP := Lib.hid hp
    have HN := Lib.hid hnum
    clear hp hnum hpw hPL hP2 hz hzl hts hl hbl
    go_enter Try.func70, Try.ntmps70
    go_wp2_with fail
    refine (HP.out _).mono ?_
    rintro e w1 ⟨rfl, b1⟩
    have B1 := Lib.hid b1
    clear b1
    go_wp2_with fail
    refine (HN.out _).mono ?_
    rintro e w2 ⟨rfl, b2⟩
    have B2 := Lib.hid (B1.out.trans (b2.mono B1.out.size))
    clear b2 B1
    go_wp2_with fail
    go_ret
    exact ⟨rfl, B2.out⟩
  · rw [if_neg hlt]
    have hnum := fun w => Number_any l.length c high w (by omega) (by omega) hh
    have hap := txt_app (numberF l.length c high) l
    have hz := txt_size (numberF l.length c high)
    have hzl := numberF_len l.length c high (by omega)
    rw [hts] at hap
    generalize txt (numberF l.length c high ++ l) = res at *
    generalize numberF l.length c high = nl at *
    rw [hbl] at hnum hlt
    have hd : decide (((packF l).length : Int) < (s.size : Int)) = false := by rw [decide_eq_false_iff_not]; omega
    obtain ⟨PL, hPL⟩ : ∃ n, (packF l).length = n := ⟨_, rfl⟩
    rw [hPL] at hlt hpl hd
    generalize txt (packF l) = ps at *
    generalize txt nl = ns at *
    have hnz : ns.size ≤ 11 := by omega
    have HP := Lib.hid hp
    have HN := Lib.hid hnum
    clear hp hnum hpw hPL hz hzl hts hl hbl hsh
    go_enter Try.func70, Try.ntmps70
    go_wp2_with fail
    refine (HP.out _).mono ?_
    rintro e w1 ⟨rfl, b1⟩
    have B1 := Lib.hid b1
    clear b1
    go_wp2_with fail
    refine (HN.out _).mono ?_
    rintro e w2 ⟨rfl, b2⟩
    have B2 := Lib.hid (B1.out.trans (b2.mono B1.out.size))
    clear b2 B1
    go_wp2_with fail
    go_ret
    exact ⟨rfl, B2.out⟩

/-- A text off, of k bits. -/
def takeTextF (l : List UInt8) (k : Nat) : List UInt8 × List UInt8 × Bool :=
  if (takeF l (k - 1)).2.2 = false ∨ (takeF l (k - 1)).2.1.length < (takeF l (k - 1)).1 then ([], [], false)
  else if (l.headD 0).toNat / 2 ^ (k - 1) % 2 = 0 then ((takeF l (k - 1)).2.1.take (takeF l (k - 1)).1, (takeF l (k - 1)).2.1.drop (takeF l (k - 1)).1,
    decide (((takeF l (k - 1)).2.1.take (takeF l (k - 1)).1).length ≤ (packF ((takeF l (k - 1)).2.1.take (takeF l (k - 1)).1)).length))
  else ((unpackF ((takeF l (k - 1)).2.1.take (takeF l (k - 1)).1)).1, (takeF l (k - 1)).2.1.drop (takeF l (k - 1)).1,
    decide ((unpackF ((takeF l (k - 1)).2.1.take (takeF l (k - 1)).1)).2 = 0) && decide (((takeF l (k - 1)).2.1.take (takeF l (k - 1)).1).length < (unpackF ((takeF l (k - 1)).2.1.take (takeF l (k - 1)).1)).1.length))

theorem moreG_len : ∀ (k i n : Nat) (l : List UInt8), (moreG k i n l).2.1.length ≤ l.length
  | 0, _, _, l => by simp [moreG]
  | k + 1, i, n, [] => by simp [moreG]
  | k + 1, i, n, b :: r => by
    rw [moreG]
    split
    · simp
    · have := moreG_len k (i + 1) (n + b.toNat % 128 * 128 ^ i) r
      rw [List.length_cons]
      omega

theorem takeF_len (l : List UInt8) (k : Nat) : (takeF l k).2.1.length ≤ l.length := by
  cases l with
  | nil => simp [takeF]
  | cons b r =>
    unfold takeF
    simp only
    split
    · simp
    · split
      · simp
      · have := moreG_len 9 0 0 r
        show (moreF r).2.1.length ≤ _
        unfold moreF
        rw [List.length_cons]
        omega

theorem ext_take (l : List UInt8) (n : Nat) : (txt l).extract 0 n = txt (l.take n) := by
  rw [← txt_byt ((txt l).extract 0 n)]
  congr 1
  simp only [byt, ByteArray.data_extract, Array.toList_extract, List.extract_eq_take_drop]
  simp [txt]
theorem ext_drop (l : List UInt8) (n m : Nat) (h : m = l.length) : (txt l).extract n m = txt (l.drop n) := by
  rw [← txt_byt ((txt l).extract n m)]
  congr 1
  simp only [byt, ByteArray.data_extract, Array.toList_extract, List.extract_eq_take_drop]
  subst h
  have e : (txt l).data.toList = l := by simp [txt]
  rw [e, List.take_of_length_le (by rw [List.length_drop]; exact Nat.le_refl _)]

set_option maxRecDepth 100000 in
set_option maxHeartbeats 4000000 in
theorem takeText_any (s : ByteArray) (c : Nat) (w : World) (hs : s.size ≤ 5000) (hc : 1 ≤ c ∧ c ≤ 7) :
    Calls Try.prog 61 #[.string s, .int .i64 ((c : Int) + 1)] w fun e w' => e = .returned (.tuple #[.string (txt (takeTextF (byt s) (c + 1)).1), .string (txt (takeTextF (byt s) (c + 1)).2.1), .bool (takeTextF (byt s) (c + 1)).2.2]) ∧ Below w.heap.size w w' := by
  have ht := fun w => TakeNumber_any s c w (by omega) (by omega)
  have hbl := byt_length s
  obtain ⟨l, hl⟩ : ∃ l, byt s = l := ⟨_, rfl⟩
  rw [hl] at hbl ht ⊢
  unfold takeTextF
  rw [Nat.add_sub_cancel]
  have htl := takeF_len l c
  have hnil : (takeF l c).2.2 = true → 0 < l.length := by
    intro h
    cases l with
    | nil => simp [takeF] at h
    | cons b r => simp
  generalize takeF l c = q at *
  obtain ⟨n, rest, is⟩ := q
  simp only at ht htl hnil ⊢
  have HT := Lib.hid ht
  cases is
  · rw [if_pos (.inl rfl)]
    clear ht hnil
    go_enter Try.func61, Try.ntmps61
    go_wp2_with fail
    refine (HT.out _).mono ?_
    rintro e w1 ⟨rfl, b1⟩
    have B1 := Lib.hid b1
    clear b1
    go_wp2_with fail
    go_ret3
    exact ⟨rfl, B1.out⟩
  · have hrs := txt_size rest
    have hx1 := ext_take rest n
    have hx2 := ext_drop rest n rest.length rfl
    obtain ⟨RL, hRL⟩ : ∃ n, rest.length = n := ⟨_, rfl⟩
    rw [hRL] at hrs hx2 htl ⊢
    have hRb : RL ≤ 5000 := by omega
    by_cases hgt : RL < n
    · rw [if_pos (.inr hgt)]
      have hd : decide (RL < n) = true := by rw [decide_eq_true_iff]; omega
      have hdI : decide ((RL : Int) < (n : Int)) = true := by rw [decide_eq_true_iff]; omega
      generalize txt rest = rs at *
      clear ht hnil hgt hRL hx1 hx2
      go_enter Try.func61, Try.ntmps61
      go_wp2_with fail
      refine (HT.out _).mono ?_
      rintro e w1 ⟨rfl, b1⟩
      have B1 := Lib.hid b1
      clear b1
      go_wp2_with fail
      go_ret3
      exact ⟨rfl, B1.out⟩
    · rw [if_neg (by simp; omega)]
      have hd : decide (RL < n) = false := by rw [decide_eq_false_iff_not]; exact hgt
      have hdI : decide ((RL : Int) < (n : Int)) = false := by rw [decide_eq_false_iff_not]; omega
      have hl0 := hnil rfl
      have h0 : 0 < s.size := by omega
      obtain ⟨x, hx⟩ : ∃ x, (l.headD 0).toNat = x := ⟨_, rfl⟩
      have hsx : s[0].toNat = x := by
        rw [byt_get, ← hx]
        cases l with
        | nil => simp at hl0
        | cons b r => simp [hl]
      have hx8 : x < 256 := by rw [← hx]; exact UInt8.toNat_lt _
      rw [hx]
      obtain ⟨y, hy⟩ : ∃ y, x / 2 ^ c = y := ⟨_, rfl⟩
      have hyx : y ≤ x := by rw [← hy]; exact Nat.div_le_self _ _
      have hyi : (x : Int) / 2 ^ c = (y : Int) := by
        rw [← hy, Int.natCast_ediv]
        congr 1
      have hand : bits BinOp.and IntKind.u8 (y : Int) 1 = ((y % 2 : Nat) : Int) := by
        have H : ∀ x : Fin 256, bits BinOp.and IntKind.u8 (x.val : Int) 1 = ((x.val % 2 : Nat) : Int) := by decide +kernel
        exact H ⟨y, by omega⟩
      rw [hy]
      have hol : (rest.take n).length = n := by rw [List.length_take, hRL]; omega
      have hp := fun w => Pack_any (txt (rest.take n)) w (by rw [txt_size, hol]; omega)
      have hu := fun w => Unpack_any (txt (rest.take n)) w (by rw [txt_size, hol]; omega)
      rw [byt_txt] at hp hu
      have hos := txt_size (rest.take n)
      rw [hol] at hos ⊢
      generalize rest.take n = own at *
      have hpl := txt_size (packF own)
      generalize unpackF own = up at *
      obtain ⟨ul, E⟩ := up
      simp only at hu ⊢
      have hul := txt_size ul
      have hni1 : (n : Int) ≤ (RL : Int) := by omega
      generalize txt rest = rs at *
      generalize htd : txt (rest.drop n) = rd at *
      have HTD := Lib.hid htd
      generalize hto : txt own = os at *
      have HTO := Lib.hid hto
      have HP := Lib.hid hp
      have HU := Lib.hid hu
      clear ht hnil hgt hRL hx hy hol hl0 hp hu htd hto htl
      by_cases hz : y % 2 = 0
      · rw [if_pos hz]
        rw [hz] at hand
        have hand0 : bits BinOp.and IntKind.u8 (y : Int) 1 = 0 := hand
        obtain ⟨PL, hPL⟩ : ∃ n, (packF own).length = n := ⟨_, rfl⟩
        rw [hPL] at hpl
        obtain ⟨g, hg⟩ : ∃ g, decide (n ≤ (packF own).length) = g := ⟨_, rfl⟩
        have hg2 : decide (n ≤ PL) = g := by rw [← hPL]; exact hg
        have HG := Lib.hid hg
        generalize txt (packF own) = ps at *
        clear hg hz hand hPL
        go_enter Try.func61, Try.ntmps61
        go_wp2_with fail
        refine (HT.out _).mono ?_
        rintro e w1 ⟨rfl, b1⟩
        have B1 := Lib.hid b1
        clear b1
        go_wp2_with fail
        go_quiet (fail)
        go_wp2_with fail
        refine (HP.out _).mono ?_
        rintro e w2 ⟨rfl, b2⟩
        have B2 := Lib.hid ((below_drewN B1.out _).trans (b2.mono (below_drewN B1.out _).size))
        clear b2 B1
        go_wp2_with fail
        go_ret3
        exact ⟨by rw [HG.out, HTO.out, HTD.out]; rfl, B2.out⟩
      · rw [if_neg hz]
        have hz1 : y % 2 = 1 := by omega
        rw [hz1] at hand
        have hand1 : bits BinOp.and IntKind.u8 (y : Int) 1 = 1 := hand
        obtain ⟨UL, hUL⟩ : ∃ n, ul.length = n := ⟨_, rfl⟩
        rw [hUL] at hul ⊢
        generalize htu : txt ul = us at *
        have HTU := Lib.hid htu
        clear hz hz1 hand htu hUL
        by_cases hE : E = 0
        · subst hE
          obtain ⟨g, hg⟩ : ∃ g, decide (n < UL) = g := ⟨_, rfl⟩
          have hgI : decide ((n : Int) < (UL : Int)) = g := by rw [← hg, decide_eq_decide]; omega
          rw [hg, show decide ((0 : Int) = 0) = true from rfl, Bool.true_and]
          go_enter Try.func61, Try.ntmps61
          go_wp2_with fail
          refine (HT.out _).mono ?_
          rintro e w1 ⟨rfl, b1⟩
          have B1 := Lib.hid b1
          clear b1
          go_wp2_with fail
          go_quiet (fail)
          go_wp2_with fail
          refine (HU.out _).mono ?_
          rintro e w2 ⟨rfl, b2⟩
          have B2 := Lib.hid ((below_drewN B1.out _).trans (b2.mono (below_drewN B1.out _).size))
          clear b2 B1
          go_wp2_with fail
          go_ret3
          exact ⟨by rw [HTD.out]; rfl, B2.out⟩
        · have hE2 : (E == 0) = false := by rw [beq_eq_false_iff_ne]; exact hE
          rw [decide_eq_false hE, Bool.false_and]
          clear hE
          go_enter Try.func61, Try.ntmps61
          go_wp2_with fail
          refine (HT.out _).mono ?_
          rintro e w1 ⟨rfl, b1⟩
          have B1 := Lib.hid b1
          clear b1
          go_wp2_with fail
          go_quiet (fail)
          go_wp2_with fail
          refine (HU.out _).mono ?_
          rintro e w2 ⟨rfl, b2⟩
          have B2 := Lib.hid ((below_drewN B1.out _).trans (b2.mono (below_drewN B1.out _).size))
          clear b2 B1
          go_wp2_with fail
          go_ret3
          exact ⟨by rw [HTD.out]; rfl, B2.out⟩

end Go.Proofs.Ytgnoiheekgmleaa
