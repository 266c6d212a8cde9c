/- Contract of huff's Unpack. -/
import Derived.Test.YtgnoiheekgmleaaIe
namespace Go.Proofs.Ytgnoiheekgmleaa
open Go.ChangeShapes Go.WideShapes Go.RowKit
set_option linter.unusedVariables false

/-- '[]byte(t)': a new row that holds t's bytes. -/
theorem conv_bytes (l : List UInt8) (n : Nat) (w : World) (hn : l.length = n) : ∃ w1 cap, (convert 9 76 (.string (txt l))).run Try.prog w = .ok (.slice (some ⟨w.heap.size, 0, none⟩) n cap) w1 ∧ w1.heap.size = w.heap.size + 1 ∧ Below w.heap.size w w1 ∧
    (∀ j (h : j < l.length), w1.cell? ⟨w.heap.size, j, none⟩ = some (.int .u8 (l[j].toNat : Int))) := by
  obtain ⟨t, ht⟩ : ∃ t, txt l = t := ⟨_, rfl⟩
  have hs : t.size = n := by rw [← ht, ← hn]; simp [txt, ByteArray.size]
  have h0 := run_bytes_of_string (P := Try.prog) w 9 76 5 t Try.underlying9 Try.underlying76 Try.underlying5
  rw [hs] at h0
  rw [ht]
  refine ⟨_, _, h0, ?_, ?_, ?_⟩
  · simp
  · exact ((Below.refl _ _).drew).alloc (Nat.le_refl _) _
  · intro j h
    refine (World.cell?_alloc_mark w.drew _ _ _ j).trans ?_
    have hj : j < t.data.size := by show j < t.size; omega
    rw [bytesRow_at _ _ _ hj]
    subst ht
    simp [txt]

theorem dec_none (P Q : List Bool) (h : dec P = none) : dec (P ++ Q) = none := by
  refine snoc_rec (P := fun Q => dec (P ++ Q) = none) (by simpa using h) ?_ Q
  intro Q b ih
  rw [← List.append_assoc, dec_snoc, ih]
  rfl

theorem bitsN_at : ∀ n v t, t < n → (bitsN n v).take (t + 1) = (bitsN n v).take t ++ [v / 2 ^ (n - 1 - t) % 2 == 1]
  | 0, _, _, h => by omega
  | n + 1, v, t, h => by
    have hl := bitsN_length n (v / 2)
    rw [bitsN]
    by_cases ht : t = n
    · subst ht
      rw [List.take_of_length_le (by simp [hl]), List.take_left' hl]
      simp
    · rw [List.take_append_of_le_length (by omega), List.take_append_of_le_length (by omega), bitsN_at n (v / 2) t (by omega)]
      congr 2
      rw [Nat.div_div_eq_div_mul, Nat.mul_comm 2, ← Nat.pow_succ]
      congr 4
      omega

theorem toBits_take (l : List UInt8) (j : Nat) (h : j < l.length) : toBits (l.take (j + 1)) = toBits (l.take j) ++ bitsN 8 (l[j]).toNat := by
  rw [List.take_succ_eq_append_getElem h, toBits_append]
  simp [toBits]

/-- The bits of a text, read up to bit t of byte j. -/
def upTo (l : List UInt8) (j c t : Nat) : List Bool := toBits (l.take j) ++ (bitsN 8 c).take t

theorem upTo_next (l : List UInt8) (j c t : Nat) (h : t < 8) : upTo l j c (t + 1) = upTo l j c t ++ [c / 2 ^ (7 - t) % 2 == 1] := by
  unfold upTo
  rw [bitsN_at 8 c t h, List.append_assoc]
theorem upTo_zero (l : List UInt8) (j c : Nat) : upTo l j c 0 = toBits (l.take j) := by simp [upTo]
theorem upTo_full (l : List UInt8) (j : Nat) (h : j < l.length) : upTo l j (l[j]).toNat 8 = toBits (l.take (j + 1)) := by
  unfold upTo
  have h8 : (bitsN 8 (l[j]).toNat).take 8 = bitsN 8 (l[j]).toNat := List.take_of_length_le (by rw [bitsN_length]; omega)
  rw [toBits_take l j h, h8]
theorem upTo_pre (l : List UInt8) (j t : Nat) (h : j < l.length) : ∃ Q, toBits l = upTo l j (l[j]).toNat t ++ Q := by
  refine ⟨(bitsN 8 (l[j]).toNat).drop t ++ toBits (l.drop (j + 1)), ?_⟩
  unfold upTo
  rw [List.append_assoc, ← List.append_assoc (List.take t _), List.take_append_drop, ← List.append_assoc, ← toBits_take l j h, ← toBits_append, List.take_append_drop]

/-- One more bit that waits. -/
theorem bv_bit (cur : List Bool) (x : Nat) (hx : x < 2) : bv (cur ++ [x == 1]) = bv cur * 2 + x := by
  rw [bv_snoc]
  have : (x == 1).toNat = x := by
    have h : x = 0 ∨ x = 1 := by omega
    rcases h with rfl | rfl <;> rfl
  rw [this]

theorem unpack_of_none (l : List UInt8) (P Q : List Bool) (h : toBits l = P ++ Q) (hd : dec P = none) : unpackF l = ([], 2) := by
  unfold unpackF
  rw [h, dec_none P Q hd]

set_option maxRecDepth 100000 in
theorem Unpack_any (s : ByteArray) (w : World) (hs : s.size ≤ 10000) :
    Calls Try.prog 77 #[.string s] w fun e w' => e = .returned (.tuple #[.string (txt (unpackF (byt s)).1), .int .i64 (unpackF (byt s)).2]) ∧ Below w.heap.size w w' := by
  have hbl := byt_length s
  obtain ⟨l, hl⟩ : ∃ l, byt s = l := ⟨_, rfl⟩
  have hts := txt_byt s
  rw [hl] at hbl hts ⊢
  have Hbl := Lib.hid hbl
  have Hts := Lib.hid hts
  clear hl hts
  obtain ⟨N, hN⟩ : ∃ N, l.length = N := ⟨_, rfl⟩
  rw [hN] at hbl
  have HN := Lib.hid hN
  have hNl : N ≤ 10000 := by omega
  clear hN hbl
  go_enter Try.func77, Try.ntmps77
  go_wp2_with fail
  refine (lay_any _).mono ?_
  rintro e w1 ⟨rfl, hb⟩
  have ht : HasTab w1 w.heap.size := hb.2
  have hb1 := hb.1
  obtain ⟨w2, cap, hcv, hsz, hb2, hcells⟩ := conv_bytes l N w1 HN.out
  rw [Hts.out] at hcv
  obtain ⟨A1, hA⟩ : ∃ A, w1.heap.size = A := ⟨_, rfl⟩
  rw [hA] at hcv hsz hcells
  have Hb := Lib.hid (hb1.trans (hb2.mono hb1.size))
  have Ht := Lib.hid (ht.next hb2)
  have Hcells := Lib.hid hcells
  have Hsz := Lib.hid hsz
  clear hb ht hb1 hb2 hcells hsz hA
  go_wp2_with fail
  obtain ⟨B, hB⟩ : ∃ B, w2.heap.size = B := ⟨_, rfl⟩
  have HB := Lib.hid hB
  clear hB
  go_loopw [5, 6, 7, 17] (fun v cv nv i wr => ∃ j : Nat, ∃ out : List UInt8, ∃ cur : List Bool, j ≤ N ∧ i = .int .i64 j ∧ dec (toBits (l.take j)) = some (out, cur) ∧ cur.length < 12 ∧ out.length ≤ 8 * j ∧ cv = .int .u16 (bv cur : Nat) ∧ nv = .int .i64 (cur.length : Nat) ∧ Own8 B wr v out ∧ Below B w2 wr) (fun _ _ _ i _ => N - (intOf i).toNat)
  case atStart => exact ⟨0, [], [], by omega, rfl, rfl, by simp, by simp, rfl, rfl, Own8.nil _ _, Below.refl _ _⟩
  case round =>
    obtain ⟨j, out, cur, hj, rfl, hd, hcl, hol, rfl, rfl, hO, hbw⟩ := hrel
    have Hd := Lib.hid hd
    have HO := Lib.hid hO
    have Hbw := Lib.hid hbw
    clear hd hO hbw
    by_cases hlt : j < N
    · have hjl : j < l.length := by rw [HN.out]; exact hlt
      obtain ⟨c, hc⟩ : ∃ c, l[j].toNat = c := ⟨_, rfl⟩
      have hc8 : c < 256 := by rw [← hc]; exact l[j].toNat_lt
      have hcell : wr.cell? ⟨A1, j, none⟩ = some (.int .u8 (c : Int)) := by
        rw [Hbw.out.cell (by rw [← HB.out, Hsz.out]; simp), Hcells.out j hjl, hc]
      have hfull := upTo_full l j hjl
      have hpre := fun t => upTo_pre l j t hjl
      rw [hc] at hfull hpre
      have Hfull := Lib.hid hfull
      have Hpre := Lib.hid hpre
      clear hfull hpre hc
      have hd0 : dec (upTo l j c 0) = some (out, cur) := by rw [upTo_zero]; exact Hd.out
      have Hd0 := Lib.hid hd0
      clear hd0
      go_wp2_with fail
      go_loopw [5, 6, 7, 10] (fun v cv nv i wz => ∃ t cn b : Nat, ∃ o2 : List UInt8, ∃ cu : List Bool, t ≤ 8 ∧ i = .int .i64 (7 - (t : Int)) ∧ dec (upTo l j c t) = some (o2, cu) ∧ cu.length = cn ∧ bv cu = b ∧ cn < 12 ∧ o2.length ≤ 8 * j + t ∧ cv = .int .u16 (b : Nat) ∧ nv = .int .i64 (cn : Nat) ∧ Own8 B wz v o2 ∧ Below B w2 wz) (fun _ _ _ i _ => (intOf i + 1).toNat)
      case atStart => exact ⟨0, _, _, out, cur, by omega, rfl, Hd0.out, rfl, rfl, hcl, hol, rfl, rfl, HO.out, Hbw.out⟩
      case round =>
        obtain ⟨t, cn, b, o2, cu, ht8, rfl, hd2, hcn, hb2, hcl2, hol2, rfl, rfl, hO2, hbw2⟩ := hrel
        have Hd2 := Lib.hid hd2
        have Hcn := Lib.hid hcn
        have Hb2 := Lib.hid hb2
        have HO2 := Lib.hid hO2
        have Hbw2 := Lib.hid hbw2
        clear hd2 hO2 hbw2 hcn hb2
        by_cases ht : t < 8
        · obtain ⟨K, hK⟩ : ∃ K, 7 - t = K := ⟨_, rfl⟩
          obtain ⟨x, hx⟩ : ∃ x, c / 2 ^ K % 2 = x := ⟨_, rfl⟩
          have hx2 : x < 2 := by omega
          have hbl : b < 4096 := by
            have := bv_lt cu
            have h2 : 2 ^ cu.length ≤ 2 ^ 12 := Nat.pow_le_pow_right (by omega) (by rw [Hcn.out]; omega)
            rw [Hb2.out] at this
            omega
          have hKi : (7 : Int) - (t : Int) = (K : Int) := by omega
          have hand : bits BinOp.and IntKind.u8 ((c : Int) / 2 ^ K) 1 = (x : Int) := by
            have e : (c : Int) / 2 ^ K = ((c / 2 ^ K : Nat) : Int) := by
              rw [Int.natCast_ediv, Int.natCast_pow]
              rfl
            rw [e, show (1 : Int) = ((1 : Nat) : Int) from rfl, u8_and_nat _ 1 (Nat.lt_of_le_of_lt (Nat.div_le_self _ _) hc8) (by decide), Nat.and_one_is_mod, hx]
          obtain ⟨m, hm⟩ : ∃ m, b * 2 + x = m := ⟨_, rfl⟩
          have hm8 : m < 8192 := by omega
          have hor : bits BinOp.or IntKind.u16 ((b : Int) * 2) (x : Int) = (m : Int) := by
            rw [show (b : Int) * 2 = ((b * 2 : Nat) : Int) by omega, u16_or_nat _ _ (by omega) (by omega), nat_join 1 _ _ (by omega) (by omega), hm]
          obtain ⟨n1, hn1⟩ : ∃ n1, cn + 1 = n1 := ⟨_, rfl⟩
          have hni : (cn : Int) + 1 = (n1 : Int) := by omega
          have hdn : dec (upTo l j c (t + 1)) = dstep (some (o2, cu)) (x == 1) := by
            rw [upTo_next l j c t ht, dec_snoc, Hd2.out, hK, hx]
          have hln : (cu ++ [x == 1]).length = n1 := by rw [List.length_append, Hcn.out, List.length_singleton, hn1]
          have hlk : look (cu ++ [x == 1]) = lookN n1 m := by
            unfold look
            rw [hln, if_pos (by omega), bv_bit cu x hx2, Hb2.out, hm]
          have hbn : bv (cu ++ [x == 1]) = m := by rw [bv_bit cu x hx2, Hb2.out, hm]
          unfold dstep at hdn
          simp only [hlk, hln] at hdn
          have htr : HasTab wr w.heap.size := Ht.out.next (Hbw2.out.mono (by rw [HB.out]; exact Nat.le_refl _))
          have Htr := Lib.hid htr
          have Hdn := Lib.hid hdn
          have Hln := Lib.hid hln
          have Hbn := Lib.hid hbn
          have Hn1 := Lib.hid hn1
          have Hlk := Lib.hid hlk
          have Hx := Lib.hid hx
          have Hm := Lib.hid hm
          have HK := Lib.hid hK
          clear htr hdn hln hbn hn1 hlk hx hm hK
          have hn13 : n1 ≤ 12 := by omega
          go_wp2_with fail
          refine (find_any w.heap.size n1 m wr Htr.out hn13 (by omega)).mono ?_
          rintro e w3 ⟨rfl, hb3⟩
          have Hb3 := Lib.hid (Hbw2.out.trans (hb3.mono (by have := Hbw2.out.size; rw [HB.out] at this; exact this)))
          have HO3 := Lib.hid (HO2.out.below hb3)
          clear hb3
          unfold findF
          have hdn := Hdn.out
          cases hlo : lookN n1 m with
          | none =>
            rw [hlo] at hdn
            simp only at hdn ⊢
            by_cases h12 : 12 ≤ n1
            · rw [if_pos h12] at hdn
              obtain ⟨Q, hQ⟩ := Hpre.out (t + 1)
              have hun := unpack_of_none l _ Q hQ hdn
              have Hun := Lib.hid hun
              clear hQ hun hdn hlo
              go_wp2_with fail
              go_ret2
              rw [Hun.out]
              exact ⟨rfl, Hb.out.trans (Hb3.out.mono (by have := Hb.out.size; rw [HB.out] at this; exact this))⟩
            · rw [if_neg h12] at hdn
              have Hdn2 := Lib.hid hdn
              clear hdn hlo
              go_wp2_with fail
              go_roundw
              case rel => exact ⟨t + 1, n1, m, o2, cu ++ [x == 1], by omega, by go_num, Hdn2.out, Hln.out, Hbn.out, by omega, by omega, rfl, rfl, HO3.out, Hb3.out⟩
              case measure => simp [intOf]; omega
          | some y =>
            obtain ⟨hy1, hy2, hy3⟩ := lookN_some n1 m y (by omega) hlo
            rw [hlo] at hdn
            simp only at hdn ⊢
            by_cases h256 : y = 256
            · rw [if_pos h256] at hdn
              obtain ⟨Q, hQ⟩ := Hpre.out (t + 1)
              have hun := unpack_of_none l _ Q hQ hdn
              have Hun := Lib.hid hun
              clear hQ hun hdn hlo hy1 hy2 hy3
              subst h256
              go_wp2_with fail
              go_ret2
              rw [Hun.out]
              exact ⟨rfl, Hb.out.trans (Hb3.out.mono (by have := Hb.out.size; rw [HB.out] at this; exact this))⟩
            · rw [if_neg h256] at hdn
              have Hdn2 := Lib.hid hdn
              have hne : ((y : Int) == 256) = false := by
                rw [beq_eq_false_iff_ne]
                omega
              have hX : (y : Int) = ((UInt8.ofNat y).toNat : Int) := by
                rw [UInt8.toNat_ofNat']
                omega
              have HX := Lib.hid hX
              clear hX
              have hy256 : y < 256 := by omega
              have hwB : B ≤ w3.heap.size := by have := Hb3.out.size; rw [HB.out] at this; exact this
              have hol3 : o2.length ≤ 1000000 := by omega
              clear hdn hlo hy2 hy3 hy1 h256
              go_wp2_with (at_builtin; refine app8 w3 rfl _ _ rfl B u5 o2 _ (UInt8.ofNat y) HX.out rfl rfl HO3.out hol3 hwB ?_)
              intro v' wn hO4 hb4
              have HO4 := Lib.hid hO4
              have Hb4 := Lib.hid (Hb3.out.trans hb4)
              clear hO4 hb4
              go_wp2_with fail
              go_roundw
              case rel => exact ⟨t + 1, 0, 0, o2 ++ [UInt8.ofNat y], [], by omega, by go_num, Hdn2.out, rfl, rfl, by omega, by rw [List.length_append, List.length_singleton]; omega, rfl, rfl, HO4.out, Hb4.out⟩
              case measure => simp [intOf]; omega
        · obtain rfl : t = 8 := by omega
          have hd3 := Hd2.out
          rw [Hfull.out] at hd3
          have Hd3 := Lib.hid hd3
          clear hd3
          go_wp2_with fail
          go_roundw
          case rel => exact ⟨j + 1, o2, cu, by omega, by go_num, Hd3.out, by rw [Hcn.out]; exact hcl2, by omega, by rw [Hb2.out], by rw [Hcn.out], HO2.out, Hbw2.out⟩
          case measure => simp [intOf]; omega
    · obtain rfl : j = N := by omega
      have hd3 := Hd.out
      rw [List.take_of_length_le (by rw [HN.out]; exact Nat.le_refl _)] at hd3
      obtain ⟨cn, hcn⟩ : ∃ cn, cur.length = cn := ⟨_, rfl⟩
      obtain ⟨b, hb⟩ : ∃ b, bv cur = b := ⟨_, rfl⟩
      have hun : unpackF l = if 8 ≤ cn ∨ (0 < cn ∧ b ≠ hcode 256 / 2 ^ (12 - cn)) then ([], 2) else (out, 0) := by
        unfold unpackF
        rw [hd3]
        simp only [hcn, hb]
      have htr : HasTab wr w.heap.size := Ht.out.next (Hbw.out.mono (by rw [HB.out]; exact Nat.le_refl _))
      have hcell := cellF_code htr 256 (by omega)
      obtain ⟨d, hd⟩ : ∃ d, hcode 256 = d := ⟨_, rfl⟩
      have hdl : d < 4096 := by
        rw [← hd]
        have h1 := code_lt 256 (by omega)
        rw [hlen_end] at h1
        exact h1
      rw [hd] at hcell hun
      have hbl : b < 4096 := by
        have := bv_lt cur
        have h2 : 2 ^ cur.length ≤ 2 ^ 12 := Nat.pow_le_pow_right (by omega) (by omega)
        omega
      have hcv := conv_own B wr u5 out HO.out
      rw [hcn] at hcl
      rw [hcn, hb]
      clear hd3 htr hd hcn hb
      by_cases h8 : 8 ≤ cn
      · rw [if_pos (.inl h8)] at hun
        have Hun := Lib.hid hun
        clear hun
        go_wp2_with fail
        go_ret2
        rw [Hun.out]
        exact ⟨rfl, Hb.out.trans (Hbw.out.mono (by have := Hb.out.size; rw [HB.out] at this; exact this))⟩
      · have hcl8 : cn < 8 := by omega
        have hdvi : (d : Int) / 2 ^ (12 - cn) = ((d / 2 ^ (12 - cn) : Nat) : Int) := by
          rw [Int.natCast_ediv, Int.natCast_pow]
          rfl
        rcases Nat.eq_zero_or_pos cn with h0 | h0
        · subst h0
          rw [if_neg (by omega)] at hun
          have Hun := Lib.hid hun
          clear hun hdvi
          go_wp2_with fail
          go_ret2
          rw [Hun.out]
          exact ⟨rfl, Hb.out.trans (Hbw.out.mono (by have := Hb.out.size; rw [HB.out] at this; exact this))⟩
        · obtain ⟨z, hz⟩ : ∃ z, 12 - cn = z := ⟨_, rfl⟩
          obtain ⟨q, hq⟩ : ∃ q, d / 2 ^ z = q := ⟨_, rfl⟩
          have hzi : (12 : Int) - (cn : Int) = (z : Int) := by omega
          rw [hz, hq] at hdvi hun
          have hbw2 := below_drewN Hbw.out
          have Hq := Lib.hid hq
          clear hz hq
          by_cases hne : b = q
          · rw [if_neg (by omega)] at hun
            have Hun := Lib.hid hun
            clear hun
            go_wp2_with fail
            go_ret2
            rw [Hun.out]
            exact ⟨rfl, Hb.out.trans (Hbw.out.mono (by have := Hb.out.size; rw [HB.out] at this; exact this))⟩
          · rw [if_pos (.inr ⟨h0, hne⟩)] at hun
            have Hun := Lib.hid hun
            clear hun
            have hne1 : ((b : Int) == (q : Int)) = false := by
              rw [beq_eq_false_iff_ne]
              omega
            have hne2 : ((b : Int) != (q : Int)) = true := by
              rw [bne_iff_ne]
              omega
            clear hne
            go_wp2_with fail
            go_ret2
            rw [Hun.out]
            exact ⟨rfl, Hb.out.trans (Hbw.out.mono (by have := Hb.out.size; rw [HB.out] at this; exact this))⟩

end Go.Proofs.Ytgnoiheekgmleaa
