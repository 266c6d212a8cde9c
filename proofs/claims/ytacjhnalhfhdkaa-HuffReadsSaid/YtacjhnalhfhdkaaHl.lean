/- Contract of the reference's Unpack. -/
import Derived.Test.YtacjhnalhfhdkaaHk
namespace Go.Proofs.Ytacjhnalhfhdkaa
open Go.ChangeShapes Go.WideShapes Go.RowKit
set_option linter.unusedVariables false

/-- Byte c is what is looked for. -/
def hit (n code c : Nat) : Bool := hlen c == n && hcode c == code

theorem hit_look (cur : List Bool) (c : Nat) (hc : c < 256) (h : hit cur.length (bv cur % 65536) c = true) : look cur = some c := by
  unfold hit at h
  rw [Bool.and_eq_true, beq_iff_eq, beq_iff_eq] at h
  obtain ⟨h1, h2⟩ := h
  have h12 := (hlen_le c).2
  have hb := bv_lt cur
  have hp : 2 ^ cur.length ≤ 2 ^ 12 := Nat.pow_le_pow_right (by omega) (by omega)
  have hm : bv cur % 65536 = bv cur := Nat.mod_eq_of_lt (by omega)
  rw [hm] at h2
  have e : cur = cb c := by
    apply bits_eq
    · rw [cb_length, h1]
    · rw [cb_bv c (by omega), h2]
  rw [e]
  exact look_cb c (by omega)

theorem look_hit (cur : List Bool) (c : Nat) (h : look cur = some c) : hit cur.length (bv cur % 65536) c = true := by
  obtain ⟨h1, h2⟩ := look_some cur c h
  unfold hit
  have hl := code_lt c h1
  have hp : 2 ^ hlen c ≤ 2 ^ 12 := Nat.pow_le_pow_right (by omega) (hlen_le c).2
  rw [h2, cb_length, cb_bv c h1, Nat.mod_eq_of_lt (by omega), beq_self_eq_true, beq_self_eq_true]
  rfl

theorem rstep_hit (out : List UInt8) (cur : List Bool) (b : Bool) (c : Nat) (hc : c < 256) (h : hit (cur ++ [b]).length (bv (cur ++ [b]) % 65536) c = true) : rstep (out, cur) b = (out ++ [UInt8.ofNat c], []) := by
  unfold rstep
  simp only [hit_look _ c hc h, if_neg (show c ≠ 256 by omega)]

theorem rstep_miss (out : List UInt8) (cur : List Bool) (b : Bool) (h : ∀ c, c < 256 → hit (cur ++ [b]).length (bv (cur ++ [b]) % 65536) c = false) : rstep (out, cur) b = (out, cur ++ [b]) := by
  unfold rstep
  cases hlk : look (cur ++ [b]) with
  | none => rfl
  | some x =>
    have h1 := look_hit _ x hlk
    obtain ⟨h2, _⟩ := look_some _ x hlk
    by_cases hx : x = 256
    · simp only [if_pos hx]
    · rw [h x (by omega)] at h1
      exact absurd h1 (by decide)

theorem bit_at (l : List UInt8) (i : Nat) (h : i / 8 < l.length) : (toBits l).take (i + 1) = (toBits l).take i ++ [(l[i / 8]).toNat / 2 ^ (7 - i % 8) % 2 == 1] := by
  obtain ⟨Q, hQ⟩ := upTo_pre l (i / 8) (i % 8) h
  obtain ⟨Q2, hQ2⟩ := upTo_pre l (i / 8) (i % 8 + 1) h
  have hl1 : (upTo l (i / 8) (l[i / 8]).toNat (i % 8)).length = i := by
    unfold upTo
    rw [List.length_append, toBits_length, List.length_take, List.length_take, bitsN_length]
    omega
  have hl2 : (upTo l (i / 8) (l[i / 8]).toNat (i % 8 + 1)).length = i + 1 := by
    unfold upTo
    rw [List.length_append, toBits_length, List.length_take, List.length_take, bitsN_length]
    omega
  have e1 : (toBits l).take i = upTo l (i / 8) (l[i / 8]).toNat (i % 8) := by rw [hQ, List.take_left' hl1]
  have e2 : (toBits l).take (i + 1) = upTo l (i / 8) (l[i / 8]).toNat (i % 8 + 1) := by rw [hQ2, List.take_left' hl2]
  rw [e1, e2, upTo_next l (i / 8) _ (i % 8) (by omega)]

theorem bv_mod (cur : List Bool) (x : Nat) (hx : x < 2) : (bv cur % 65536 * 2 + x) % 65536 = bv (cur ++ [x == 1]) % 65536 := by
  rw [bv_bit cur x hx]
  omega

/-- Where the look for a byte stands: nothing found among the first c, or found. -/
def Scan (R : List UInt8 × List Bool) (out : List UInt8) (n1 b2 c m b' : Nat) (out' : List UInt8) : Prop :=
  (m = n1 ∧ b' = b2 ∧ out' = out ∧ ∀ x, x < c → hit n1 b2 x = false) ∨ (m = 0 ∧ b' = 0 ∧ R = (out', []))

theorem hit_short (n1 b2 : Nat) (h : n1 < 5) (c : Nat) : hit n1 b2 c = false := by
  unfold hit
  have : (hlen c == n1) = false := by
    rw [beq_eq_false_iff_ne]
    rcases hlen_cases c with h | h | h | h <;> omega
  rw [this, Bool.false_and]

set_option maxRecDepth 100000 in
set_option maxHeartbeats 1000000 in
theorem rUnpack_any (s : ByteArray) (w : World) (hs : s.size ≤ 1000) :
    Calls Try.prog 19 #[.string s] w fun e w' => e = .returned (.tuple #[.string (txt (runpackF (byt s)).1), .int .i64 (runpackF (byt s)).2]) ∧ Below w.heap.size w w' := by
  have hbl := byt_length s
  have hts := txt_byt s
  obtain ⟨l, hl⟩ : ∃ l, byt s = l := ⟨_, rfl⟩
  rw [hl] at hbl hts ⊢
  have hget : ∀ j (h : j < s.size) (h2 : j < l.length), s[j].toNat = l[j].toNat := by
    intro j h h2
    rw [byt_get]
    simp [hl]
  have Hget := Lib.hid hget
  have Hbl := Lib.hid hbl
  have Hts := Lib.hid hts
  have hL := fun (c : Nat) (hc : c < 257) w => rLength_any c w hc
  have HL := Lib.hid hL
  clear hget hl hbl hts hL
  go_enter Try.func19, Try.ntmps19
  go_wp2_with fail
  refine (codes_any _).mono ?_
  rintro e w1 ⟨g, cap, rfl, hb1, hg, hcd⟩
  have Hb1 := Lib.hid hb1
  have Hcd := Lib.hid hcd
  clear hb1 hcd
  obtain ⟨B, hB⟩ : ∃ B, w1.heap.size = B := ⟨_, rfl⟩
  have HB := Lib.hid hB
  clear hB
  go_wp2_with fail
  go_loopw [5, 6, 7, 8] (fun v cv nv i wr => ∃ j n b : Nat, ∃ out : List UInt8, ∃ cur : List Bool, j ≤ 8 * s.size ∧ i = .int .i64 j ∧ rdec ((toBits l).take j) = (out, cur) ∧ cur.length = n ∧ bv cur % 65536 = b ∧ n ≤ j ∧ out.length ≤ j ∧ cv = .int .u16 (b : Nat) ∧ nv = .int .i64 (n : Nat) ∧ Own8 B wr v out ∧ Below B w1 wr) (fun _ _ _ i _ => 8 * s.size - (intOf i).toNat)
  case atStart =>
    refine ⟨0, 0, 0, [], [], by omega, rfl, rfl, rfl, rfl, by omega, by simp, rfl, rfl, ?_, ?_⟩
    · exact Own8.nilAlloc _ _ (by rw [HB.out]; exact Nat.le_refl _)
    · exact (Below.refl _ _).alloc (by rw [HB.out]; exact Nat.le_refl _) _
  case round =>
    obtain ⟨j, n, b, out, cur, hj, rfl, hd, hn, hb, hnj, hol, rfl, rfl, hO, hbw⟩ := hrel
    have Hd := Lib.hid hd
    have Hn := Lib.hid hn
    have Hb := Lib.hid hb
    have hb16 : b < 65536 := by omega
    have HO := Lib.hid hO
    have Hbw := Lib.hid hbw
    clear hd hn hb hO hbw
    by_cases hlt : j < 8 * s.size
    · obtain ⟨J, hJ⟩ : ∃ J, j / 8 = J := ⟨_, rfl⟩
      obtain ⟨K, hK⟩ : ∃ K, 7 - j % 8 = K := ⟨_, rfl⟩
      have hJs : J < s.size := by omega
      have hJl : J < l.length := by rw [Hbl.out]; exact hJs
      obtain ⟨c, hc⟩ : ∃ c, s[J].toNat = c := ⟨_, rfl⟩
      have hc8 : c < 256 := by rw [← hc]; exact s[J].toNat_lt
      obtain ⟨x, hx⟩ : ∃ x, c / 2 ^ K % 2 = x := ⟨_, rfl⟩
      have hx2 : x < 2 := by omega
      have hnext : (toBits l).take (j + 1) = (toBits l).take j ++ [x == 1] := by
        subst hJ
        rw [bit_at l j hJl, ← Hget.out _ hJs hJl, hc, hK, hx]
      have hJi : (j : Int).tdiv 8 = (J : Int) := by rw [Int.tdiv_eq_ediv_of_nonneg (by omega)]; omega
      have hMi : (j : Int).tmod 8 = ((j % 8 : Nat) : Int) := by rw [Int.tmod_eq_emod_of_nonneg (by omega)]; omega
      have hM8 : j % 8 ≤ 7 := by omega
      obtain ⟨M, hM⟩ : ∃ M, j % 8 = M := ⟨_, rfl⟩
      rw [hM] at hMi hK hM8
      have hKi : (7 : Int) - (M : Int) = (K : Int) := by omega
      have hKl : K ≤ 7 := by omega
      have hxi : ((c : Int) / 2 ^ K).tmod 2 = (x : Int) := by
        have e : (c : Int) / 2 ^ K = ((c / 2 ^ K : Nat) : Int) := by
          rw [Int.natCast_ediv, Int.natCast_pow]
          rfl
        rw [e, ← hx]
        generalize c / 2 ^ K = q
        rw [Int.tmod_eq_emod_of_nonneg (by omega)]
        omega
      obtain ⟨b2, hb2⟩ : ∃ b2, (b * 2 + x) % 65536 = b2 := ⟨_, rfl⟩
      have hb2l : b2 < 65536 := by omega
      have hbv := bv_mod cur x hx2
      rw [Hb.out, hb2] at hbv
      have hlti : decide ((j : Int) < 8 * (s.size : Int)) = true := by rw [decide_eq_true_iff]; omega
      have hwr : IntKind.u16.wrap (IntKind.u16.wrap ((b : Int) * 2) + (x : Int)) = (b2 : Int) := by
        simp only [IntKind.wrap_u16]
        omega
      obtain ⟨n1, hn1⟩ : ∃ n1, n + 1 = n1 := ⟨_, rfl⟩
      have hni : (n : Int) + 1 = (n1 : Int) := by omega
      have hn1j : n1 ≤ j + 1 := by omega
      have hcl : (cur ++ [x == 1]).length = n1 := by rw [List.length_append, Hn.out, List.length_singleton, hn1]
      have hR : rdec ((toBits l).take (j + 1)) = rstep (out, cur) (x == 1) := by rw [hnext, rdec_snoc, Hd.out]
      have hhit : ∀ c, c < 256 → hit n1 b2 c = true → rdec ((toBits l).take (j + 1)) = (out ++ [UInt8.ofNat c], []) := by
        intro c hc h
        rw [hR]
        exact rstep_hit out cur _ c hc (by rw [hcl, ← hbv]; exact h)
      have hmiss : (∀ c, c < 256 → hit n1 b2 c = false) → rdec ((toBits l).take (j + 1)) = (out, cur ++ [x == 1]) := by
        intro h
        rw [hR]
        exact rstep_miss out cur _ (by rw [hcl, ← hbv]; exact h)
      have Hbv := Lib.hid hbv
      have Hcl := Lib.hid hcl
      have Hhit := Lib.hid hhit
      have Hmiss := Lib.hid hmiss
      have HM := Lib.hid hM
      have Hb2 := Lib.hid hb2
      have Hc := Lib.hid hc
      clear hR hcl hhit hmiss hnext hJ hx hbv hM hn1 hb2
      obtain ⟨wo, rfl⟩ : ∃ wo, wo = wr := ⟨_, rfl⟩
      go_wp2_with fail
      clear hlti hwr hxi hni hc hJi hMi hKi
      go_loopw [5, 6, 7, 9] (fun v cv nv iv wz => ∃ c m b' : Nat, ∃ out' : List UInt8, c ≤ 256 ∧ iv = .int .i64 c ∧ Scan (rdec ((toBits l).take (j + 1))) out n1 b2 c m b' out' ∧ m ≤ n1 ∧ b' < 65536 ∧ out'.length ≤ j + 1 ∧ cv = .int .u16 (b' : Nat) ∧ nv = .int .i64 (m : Nat) ∧ Own8 B wz v out' ∧ Below B w1 wz) (fun _ _ _ iv _ => 256 - (intOf iv).toNat)
      case atStart => exact ⟨0, n1, b2, out, by omega, rfl, .inl ⟨rfl, rfl, rfl, fun x hx => by omega⟩, by omega, by omega, by omega, rfl, rfl, HO.out, Hbw.out⟩
      case round =>
        obtain ⟨c, m, b', out', hc6, rfl, hS, hm1, hb6, hol2, rfl, rfl, hO2, hbw2⟩ := hrel
        have HO2 := Lib.hid hO2
        have Hbw2 := Lib.hid hbw2
        clear hO2 hbw2
        rcases hS with ⟨rfl, rfl, rfl, hno⟩ | ⟨rfl, rfl, hfin⟩
        · have Hno := Lib.hid hno
          clear hno
          by_cases hgo : c < 256 ∧ 5 ≤ m
          · obtain ⟨hg1, hg2⟩ := hgo
            obtain ⟨q, hq⟩ : ∃ q, hlen c = q := ⟨_, rfl⟩
            obtain ⟨d, hd⟩ : ∃ d, hcode c = d := ⟨_, rfl⟩
            have hL := HL.out c (by omega)
            rw [hq] at hL
            have HLc := Lib.hid hL
            have hcell : wr.cell? ⟨g, c, none⟩ = some (.int .u16 (d : Int)) := by
              have := (Hcd.out.next (Hbw2.out.mono (by rw [HB.out]; exact Nat.le_refl _))).2 c (by omega)
              rw [hd] at this
              exact this
            have hcell2 := hcell
            have hit_eq : hit m b' c = (q == m && d == b') := by unfold hit; rw [hq, hd]
            have Hhe := Lib.hid hit_eq
            clear hL hq hd hit_eq hcell2
            by_cases h1 : q = m
            · have g1 : ((q : Int) == (m : Int)) = true := by rw [h1, beq_self_eq_true]
              by_cases h2 : d = b'
              · have g2 : ((d : Int) == (b' : Int)) = true := by rw [h2, beq_self_eq_true]
                have hfin := Hhit.out c hg1 (by rw [Hhe.out, h1, h2, beq_self_eq_true, beq_self_eq_true]; rfl)
                have Hfin := Lib.hid hfin
                have hX : (c : Int) = ((UInt8.ofNat c).toNat : Int) := by
                  rw [UInt8.toNat_ofNat']
                  omega
                have HX := Lib.hid hX
                have hwB : B ≤ wr.heap.size := by have := Hbw2.out.size; rw [HB.out] at this; exact this
                have hol3 : out'.length ≤ 1000000 := by omega
                clear hfin hX h1 h2
                go_wp2_with fail
                refine (HLc.out _).mono ?_
                rintro e w3 ⟨rfl, rfl⟩
                go_wp2_with (at_builtin; refine app8 wr rfl _ _ rfl B u5 out' _ (UInt8.ofNat c) HX.out rfl rfl HO2.out hol3 hwB ?_)
                intro v' wn hOn hbn
                have HOn := Lib.hid hOn
                have Hbn := Lib.hid (Hbw2.out.trans hbn)
                clear hOn hbn
                go_wp2_with fail
                go_roundw
                case rel => exact ⟨c + 1, 0, 0, out' ++ [UInt8.ofNat c], by omega, by go_num, .inr ⟨rfl, rfl, Hfin.out⟩, by omega, by omega, by rw [List.length_append, List.length_singleton]; omega, rfl, rfl, HOn.out, Hbn.out⟩
                case measure => simp [intOf]; omega
              · have g2 : ((d : Int) == (b' : Int)) = false := by rw [beq_eq_false_iff_ne]; omega
                have hno2 : ∀ x, x < c + 1 → hit m b' x = false := by
                  intro x hx
                  rcases Nat.lt_or_ge x c with h3 | h3
                  · exact Hno.out x h3
                  · have : x = c := by omega
                    rw [this, Hhe.out]
                    have : (d == b') = false := by rw [beq_eq_false_iff_ne]; exact h2
                    rw [this, Bool.and_false]
                have Hno2 := Lib.hid hno2
                clear hno2 h1 h2
                go_wp2_with fail
                refine (HLc.out _).mono ?_
                rintro e w3 ⟨rfl, rfl⟩
                go_wp2_with fail
                go_roundw
                case rel => exact ⟨c + 1, m, b', out', by omega, by go_num, .inl ⟨rfl, rfl, rfl, Hno2.out⟩, by omega, by omega, by omega, rfl, rfl, HO2.out, Hbw2.out⟩
                case measure => simp [intOf]; omega
            · have g1 : ((q : Int) == (m : Int)) = false := by rw [beq_eq_false_iff_ne]; omega
              have hno2 : ∀ x, x < c + 1 → hit m b' x = false := by
                intro x hx
                rcases Nat.lt_or_ge x c with h3 | h3
                · exact Hno.out x h3
                · have : x = c := by omega
                  rw [this, Hhe.out]
                  have : (q == m) = false := by rw [beq_eq_false_iff_ne]; exact h1
                  rw [this, Bool.false_and]
              have Hno2 := Lib.hid hno2
              clear hno2 h1
              go_wp2_with fail
              refine (HLc.out _).mono ?_
              rintro e w3 ⟨rfl, rfl⟩
              go_wp2_with fail
              go_roundw
              case rel => exact ⟨c + 1, m, b', out', by omega, by go_num, .inl ⟨rfl, rfl, rfl, Hno2.out⟩, by omega, by omega, by omega, rfl, rfl, HO2.out, Hbw2.out⟩
              case measure => simp [intOf]; omega
          · have hall : ∀ c, c < 256 → hit m b' c = false := by
              intro x hx
              rcases Nat.lt_or_ge m 5 with h3 | h3
              · exact hit_short m b' h3 x
              · exact Hno.out x (by omega)
            have hfin := Hmiss.out hall
            have Hfin := Lib.hid hfin
            clear hfin hall
            by_cases hc256 : c < 256
            all_goals
              go_wp2_with fail
              go_roundw
              case rel => exact ⟨j + 1, m, b', out', cur ++ [x == 1], by omega, by go_num, Hfin.out, Hcl.out, Hbv.out.symm, by omega, by omega, rfl, rfl, HO2.out, Hbw2.out⟩
              case measure => simp [intOf]; omega
        · have Hfin := Lib.hid hfin
          clear hfin
          by_cases hc256 : c < 256
          all_goals
            go_wp2_with fail
            go_roundw
            case rel => exact ⟨j + 1, 0, 0, out', [], by omega, by go_num, Hfin.out, rfl, rfl, by omega, by omega, rfl, rfl, HO2.out, Hbw2.out⟩
            case measure => simp [intOf]; omega
    · obtain rfl : j = 8 * s.size := by omega
      have hlti : decide (((8 * s.size : Nat) : Int) < 8 * (s.size : Int)) = false := by rw [decide_eq_false_iff_not]; omega
      have hfull : (toBits l).take (8 * s.size) = toBits l := List.take_of_length_le (by rw [toBits_length, Hbl.out]; exact Nat.le_refl _)
      have hd2 := Hd.out
      rw [hfull] at hd2
      have hrun : runpackF l = if packF out = l then (out, 0) else ([], 2) := by unfold runpackF; rw [hd2]
      have hcv := conv_own B wr u5 out HO.out
      have hP : ∀ w, Calls Try.prog 11 #[.string (txt out)] w fun e w' => e = .returned (.string (txt (packF out))) ∧ Below w.heap.size w w' := by
        intro w
        have := rPack_any (txt out) w (by rw [txt_size]; omega)
        rw [byt_txt] at this
        exact this
      obtain ⟨T, hT⟩ : ∃ T, txt out = T := ⟨_, rfl⟩
      obtain ⟨K, hK⟩ : ∃ K, txt (packF out) = K := ⟨_, rfl⟩
      rw [hT] at hcv hP
      rw [hK] at hP
      have hts : txt l = s := Hts.out
      have HP := Lib.hid hP
      have HK := Lib.hid hK
      have HT := Lib.hid hT
      clear hP hK hd2 hfull hT
      by_cases heq : packF out = l
      · rw [if_pos heq] at hrun
        have hKs : K = s := by rw [← HK.out, heq, hts]
        subst hKs
        have Hrun := Lib.hid hrun
        clear hrun heq hts
        go_wp2_with fail
        refine (HP.out _).mono ?_
        rintro e w3 ⟨rfl, hb3⟩
        have hO3 := HO.out.below hb3
        have hcv3 := conv_own B w3 u5 out hO3
        rw [HT.out] at hcv3
        have Hb3 := Lib.hid hb3
        clear hO3 hb3
        go_wp2_with fail
        go_ret2
        refine ⟨by rw [Hrun.out, HT.out]; rfl, ?_⟩
        exact Hb1.out.trans ((Hbw.out.mono (by rw [← HB.out]; exact Hb1.out.size)).trans (Hb3.out.mono (by have := Hb1.out.size; have := Hbw.out.size; rw [HB.out] at *; omega)))
      · rw [if_neg heq] at hrun
        have hne : ¬ K = s := by
          intro h
          apply heq
          have h2 : byt (txt (packF out)) = byt s := by rw [HK.out, h]
          rw [byt_txt, ← hts, byt_txt] at h2
          exact h2
        have Hrun := Lib.hid hrun
        have hne2 : (K.toList == s.toList) = false := by
          rw [beq_eq_false_iff_ne]
          intro h
          apply hne
          rw [ByteArray.toList_eq, ByteArray.toList_eq] at h
          exact ByteArray.ext (Array.toList_inj.1 h)
        have hne3 : (K.toList != s.toList) = true := by
          rw [bne, hne2]
          rfl
        clear hrun heq hts hne
        go_wp2_with fail
        refine (HP.out _).mono ?_
        rintro e w3 ⟨rfl, hb3⟩
        have Hb3 := Lib.hid hb3
        clear hb3
        go_wp2_with fail
        go_ret2
        refine ⟨by rw [Hrun.out]; rfl, ?_⟩
        exact Hb1.out.trans ((Hbw.out.mono (by rw [← HB.out]; exact Hb1.out.size)).trans (Hb3.out.mono (by have := Hb1.out.size; have := Hbw.out.size; rw [HB.out] at *; omega)))

end Go.Proofs.Ytacjhnalhfhdkaa
