/- Contract of Due. -/
import Derived.Test.YtaoeamkkbopioaaLi
namespace Go.Proofs.Ytaoeamkkbopioaa
open Go.ChangeShapes Go.WideShapes Go.RowKit
set_option linter.unusedVariables false

def minT (bi : Bool) (bn : Nat) (a : Nat) (l : List Pk) : Nat := l.foldl (fun m q => if behindF bi bn q.num then min m q.time else m) a
theorem minT_snoc (bi : Bool) (bn a : Nat) (l : List Pk) (q : Pk) : minT bi bn a (l ++ [q]) = if behindF bi bn q.num then min (minT bi bn a l) q.time else minT bi bn a l := by
  unfold minT
  rw [List.foldl_append]
  rfl

/-- What Due comes to. -/
def DueEnd (S : Lg) (wait : Nat) (w : World) (e : Ending) (w' : World) : Prop :=
  Below w.heap.size w w' ∧ ((S.op.any (fun q => behindF S.bi S.bn q.num) = false ∧ e = .returned (.tuple #[.int .u64 0, .bool false])) ∨
    ∃ p, S.op.find? (fun q => behindF S.bi S.bn q.num) = some p ∧ e = .returned (.tuple #[.int .u64 (IntKind.u64.wrap ((minT S.bi S.bn p.time S.op : Nat) + (wait : Int))), .bool true]))

set_option maxRecDepth 100000 in
set_option maxHeartbeats 2000000 in
theorem Due_any (B b : Nat) (T : TypeId) (rest : List Value) (v : Value) (S : Lg) (w : World) (wait : Nat) (h : Owns B b T rest v S w) (hlen : S.op.length ≤ 1000) (hbn : S.bn < 2 ^ 63) :
    Calls Try.prog 17 #[.pointer (some ⟨b, 0, none⟩), .int .u64 (wait : Int)] w (DueEnd S wait w) := by
  have hbl := h.led.lt
  have hO := h.own
  obtain ⟨p, cap, rfl, hpn⟩ := own_shape hO
  have c0 : w.cell? ⟨b, 0, none⟩ = some (.slice p S.op.length cap) := h.led.cell rfl
  have c3 : w.cell? ⟨b, 3, none⟩ = some (.int .u64 (S.bn : Int)) := h.led.cell rfl
  have c4 : w.cell? ⟨b, 4, none⟩ = some (.bool S.bi) := h.led.cell rfl
  obtain ⟨N, hN⟩ : ∃ N, S.op.length = N := ⟨_, rfl⟩
  obtain ⟨bn, hbne⟩ : ∃ x, S.bn = x := ⟨_, rfl⟩
  obtain ⟨bi, hbie⟩ : ∃ x, S.bi = x := ⟨_, rfl⟩
  have hlt := fun num time size asks fr W h1 h2 h3 => late_any b num time size asks fr bn bi W h1 h2 h3 (by rw [← hbne]; exact hbn)
  unfold DueEnd
  rw [hN] at hpn hlen hO c0
  rw [hbne] at c3 ⊢
  rw [hbie] at c4 ⊢
  obtain ⟨L, hLe⟩ : ∃ L, S.op = L := ⟨_, rfl⟩
  rw [hLe] at hN hO ⊢
  have HN := Lib.hid hN
  have HO := Lib.hid hO
  have HL := Lib.hid hlt
  clear h hN hO hpn hbne hbie hlt hbn hLe
  go_enter Try.func17, Try.ntmps17
  go_wp2_with fail
  go_loopw [20] (fun i wr => ∃ j : Nat, j ≤ N ∧ i = .int .i64 j ∧ (∀ q ∈ L.take j, behindF bi bn q.num = false) ∧ Below w.heap.size w wr) (fun i _ => N - (intOf i).toNat)
  case atStart => exact ⟨0, by omega, rfl, by simp, Below.refl _ _⟩
  case round =>
    obtain ⟨j, hj, rfl, hno, hbw⟩ := hrel
    have Hno := Lib.hid hno
    clear hno
    by_cases hlt : j < N
    · have hjl : j < L.length := by rw [HN.out]; exact hlt
      obtain ⟨q, hq⟩ : ∃ q, L[j] = q := ⟨_, rfl⟩
      have hq2 : L[j]? = some q := by rw [List.getElem?_eq_getElem hjl, hq]
      obtain ⟨g1, cap1, hv, hgB, hg1, k0, k1, k2, k3, k4⟩ := pk_cells HO.out j q hq2
      injection hv with hv1 hv2 hv3
      subst hv1
      obtain ⟨z, hz⟩ : ∃ z, behindF bi bn q.num = z := ⟨_, rfl⟩
      have hnext : z = false → ∀ q ∈ L.take (j + 1), behindF bi bn q.num = false := by
        intro h0 x hx
        rw [List.take_succ_eq_append_getElem hjl, hq, List.mem_append, List.mem_singleton] at hx
        rcases hx with hx | rfl
        · exact Hno.out x hx
        · rw [hz]; exact h0
      have hfind : z = true → L.find? (fun q => behindF bi bn q.num) = some q := by
        intro h1
        have e : L = L.take j ++ q :: L.drop (j + 1) := by rw [← hq, List.getElem_cons_drop, List.take_append_drop]
        rw [e, List.find?_append]
        have e2 : (L.take j).find? (fun q => behindF bi bn q.num) = none := by
          rw [List.find?_eq_none]
          intro x hx
          rw [Hno.out x hx]
          exact Bool.false_ne_true
        rw [e2, Option.none_or, List.find?_cons_of_pos (by rw [hz, h1])]
      have Hz := Lib.hid hz
      have Hnext := Lib.hid hnext
      have Hfind := Lib.hid hfind
      clear hz hnext hfind
      obtain ⟨num, time, size, asks, fa, fl, fc⟩ := q
      simp only at k0 k1 k2 k3 k4 Hz
      have e0 := (hbw.cell (p := ⟨g1, j * 5, none⟩) hg1).trans k0
      have e1 := (hbw.cell (p := ⟨g1, j * 5 + 1, none⟩) hg1).trans k1
      have e2 := (hbw.cell (p := ⟨g1, j * 5 + 2, none⟩) hg1).trans k2
      have e3 := (hbw.cell (p := ⟨g1, j * 5 + 3, none⟩) hg1).trans k3
      have e4 := (hbw.cell (p := ⟨g1, j * 5 + 4, none⟩) hg1).trans k4
      have hW := hbw.alloc hbw.size (.cells #[.int .u64 (num : Int), .int .u64 (time : Int), .int .u64 (size : Int), .bool asks, .slice fa fl fc] 38)
      have hnw := blk.new wr 38 [.int .u64 (num : Int), .int .u64 (time : Int), .int .u64 (size : Int), .bool asks, .slice fa fl fc]
      have hcall := HL.out num time size asks (.slice fa fl fc) _ (Nat.lt_of_lt_of_le hbl hW.size) ((hW.cell (p := ⟨b, 3, none⟩) hbl).trans c3) ((hW.cell (p := ⟨b, 4, none⟩) hbl).trans c4)
      rw [Hz.out] at hcall
      obtain ⟨far, hfar⟩ : ∃ x, farF bi bn num = x := ⟨_, rfl⟩
      rw [hfar] at hcall
      have HC := Lib.hid hcall
      have HW := Lib.hid hW
      have Hnw := Lib.hid hnw
      clear hW hnw hcall hbw hq hq2 hv2 hv3 k0 k1 k2 k3 k4 hfar
      cases z
      · go_wp2_with fail
        refine HC.out.mono ?_
        rintro e w2 ⟨rfl, hb2⟩
        have Hb2 := Lib.hid (HW.out.trans (hb2.mono HW.out.size))
        clear hb2
        go_wp2_with fail
        go_roundw
        case rel => exact ⟨j + 1, by omega, by go_num, Hnext.out (by trivial), Hb2.out⟩
        case measure => simp [intOf]; omega
      · go_wp2_with fail
        refine HC.out.mono ?_
        rintro e w2 ⟨rfl, hb2⟩
        have hx := Hnw.out.below hb2 Hnw.out.lt
        have x1 := hx.cell (k := 1) rfl
        have hb2w := HW.out.trans (hb2.mono HW.out.size)
        have d0 := (hb2w.cell (p := ⟨b, 0, none⟩) hbl).trans c0
        have Hb2 := Lib.hid hb2w
        clear hb2 hx hb2w e0 e1 e2 e3 e4
        go_wp2_with fail
        obtain ⟨wo, rfl⟩ : ∃ wo, wo = w2 := ⟨_, rfl⟩
        go_loopw [10, 38] (fun f i wz => ∃ k t : Nat, k ≤ N ∧ i = .int .i64 k ∧ t = minT bi bn time (L.take k) ∧ f = .int .u64 t ∧ Below w.heap.size w wz) (fun _ i _ => N - (intOf i).toNat)
        case atStart => exact ⟨0, time, by omega, rfl, rfl, rfl, Hb2.out⟩
        case round =>
          obtain ⟨k, t, hk, rfl, ht, rfl, hbw⟩ := hrel
          by_cases hlt2 : k < N
          · have hkl : k < L.length := by rw [HN.out]; exact hlt2
            obtain ⟨q2, hq⟩ : ∃ q, L[k] = q := ⟨_, rfl⟩
            have hq2 : L[k]? = some q2 := by rw [List.getElem?_eq_getElem hkl, hq]
            obtain ⟨g3, cap3, hv3, _, hg3, k0, k1, k2, k3, k4⟩ := pk_cells HO.out k q2 hq2
            injection hv3 with hv1 hv2 hv3
            injection hv1 with hv1
            injection hv1 with hv1 _ _
            subst hv1
            have hsn := minT_snoc bi bn time (L.take k) q2
            rw [← hq, ← List.take_succ_eq_append_getElem hkl, hq, ← ht] at hsn
            obtain ⟨z2, hz2⟩ : ∃ z, behindF bi bn q2.num = z := ⟨_, rfl⟩
            rw [hz2] at hsn
            obtain ⟨num2, time2, size2, asks2, fa2, fl2, fc2⟩ := q2
            simp only at k0 k1 k2 k3 k4 hz2 hsn
            have e0 := (hbw.cell (p := ⟨g1, k * 5, none⟩) hg1).trans k0
            have e1 := (hbw.cell (p := ⟨g1, k * 5 + 1, none⟩) hg1).trans k1
            have e2 := (hbw.cell (p := ⟨g1, k * 5 + 2, none⟩) hg1).trans k2
            have e3 := (hbw.cell (p := ⟨g1, k * 5 + 3, none⟩) hg1).trans k3
            have e4 := (hbw.cell (p := ⟨g1, k * 5 + 4, none⟩) hg1).trans k4
            have hW := hbw.alloc hbw.size (.cells #[.int .u64 (num2 : Int), .int .u64 (time2 : Int), .int .u64 (size2 : Int), .bool asks2, .slice fa2 fl2 fc2] 38)
            have hnw := blk.new wr 38 [.int .u64 (num2 : Int), .int .u64 (time2 : Int), .int .u64 (size2 : Int), .bool asks2, .slice fa2 fl2 fc2]
            have hcall := HL.out num2 time2 size2 asks2 (.slice fa2 fl2 fc2) _ (Nat.lt_of_lt_of_le hbl hW.size) ((hW.cell (p := ⟨b, 3, none⟩) hbl).trans c3) ((hW.cell (p := ⟨b, 4, none⟩) hbl).trans c4)
            rw [hz2] at hcall
            obtain ⟨far2, hfar⟩ : ∃ x, farF bi bn num2 = x := ⟨_, rfl⟩
            rw [hfar] at hcall
            have HC2 := Lib.hid hcall
            have HW2 := Lib.hid hW
            have Hnw2 := Lib.hid hnw
            clear hW hnw hcall hbw hq hq2 hv2 hv3 k0 k1 k2 k3 k4 hfar hz2 ht
            cases z2
            · rw [if_neg Bool.false_ne_true] at hsn
              have Hsn := Lib.hid hsn
              clear hsn
              go_wp2_with fail
              refine HC2.out.mono ?_
              rintro e w3 ⟨rfl, hb3⟩
              have Hb3 := Lib.hid (HW2.out.trans (hb3.mono HW2.out.size))
              clear hb3
              go_wp2_with fail
              go_roundw
              case rel => exact ⟨k + 1, t, by omega, by go_num, Hsn.out.symm, rfl, Hb3.out⟩
              case measure => simp [intOf]; omega
            · rw [if_pos rfl] at hsn
              have hmn : (if time2 < t then (time2 : Int) else (t : Int)) = ((minT bi bn time (L.take (k + 1)) : Nat) : Int) := by
                rw [hsn]
                split <;> omega
              have Hmn := Lib.hid hmn
              clear hsn hmn
              go_wp2_with fail
              refine HC2.out.mono ?_
              rintro e w3 ⟨rfl, hb3⟩
              have hx := Hnw2.out.below hb3 Hnw2.out.lt
              have x1 := hx.cell (k := 1) rfl
              have Hb3 := Lib.hid (HW2.out.trans (hb3.mono HW2.out.size))
              clear hb3 hx
              go_wp2_with fail
              go_roundw
              case rel => exact ⟨k + 1, minT bi bn time (L.take (k + 1)), by omega, by go_num, rfl, by rw [← Hmn.out], Hb3.out⟩
              case measure => simp [intOf]; omega
          · obtain rfl : k = N := by omega
            rw [List.take_of_length_le (by rw [HN.out]; exact Nat.le_refl _)] at ht
            have Ht := Lib.hid ht
            have Hbw := Lib.hid hbw
            clear ht hbw
            go_wp2_with fail
            go_ret2
            refine ⟨Hbw.out, .inr ⟨_, Hfind.out (by trivial), ?_⟩⟩
            simp only
            rw [← Ht.out]
            rfl
    · obtain rfl : j = N := by omega
      have hany : L.any (fun q => behindF bi bn q.num) = false := by
        rw [List.any_eq_false]
        intro x hx
        rw [Hno.out x (by rw [List.take_of_length_le (by rw [HN.out]; exact Nat.le_refl _)]; exact hx)]
        exact Bool.false_ne_true
      have Hany := Lib.hid hany
      have Hbw := Lib.hid hbw
      clear hany hbw
      go_wp2_with fail
      go_ret2
      exact ⟨Hbw.out, .inl ⟨Hany.out, rfl⟩⟩

end Go.Proofs.Ytaoeamkkbopioaa
