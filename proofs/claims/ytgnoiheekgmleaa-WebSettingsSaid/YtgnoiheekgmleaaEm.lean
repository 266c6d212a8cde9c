/- web: WebSettings. -/
import Derived.Test.YtgnoiheekgmleaaEk
import Derived.Test.YtgnoiheekgmleaaMv
namespace Go.Proofs.Ytgnoiheekgmleaa
open Go.ChangeShapes Go.WideShapes Go.RowKit
set_option linter.unusedVariables false
set_option linter.unusedSimpArgs false

def PrIn (w : World) (p : Option Addr) (l : List (Nat × Nat)) : Prop := PV w p l ∧ Num2 l
section
variable {H : Type} {enc : TypeId × Value → H} {w : World} {base : Nat} {spare : Nat → Bool} {held : Bool}
theorem wpairs_view {a : Option Addr} {len cap : Nat} {fuel : Nat} {x : DataW H × List MemPlace} (h : DataW.trod enc Try.prog w base spare held fuel 39 [.slice a len cap] = some x) :
    ∃ rs : List (Nat × Nat), rs.length = len ∧ PrIn w a rs ∧ len ≤ maxLen := by
  obtain ⟨hm, hv⟩ := rows_view (C := 2) Try.underlying39 (by kernel_rfl) (by omega) h
  rcases Nat.eq_zero_or_pos len with h0 | h0
  · subst h0
    exact ⟨[], rfl, ⟨fun h => by simp at h, fun r h => by cases h⟩, hm⟩
  · obtain ⟨g, o, n, rfl, hg, hi⟩ := hv h0
    obtain ⟨rs, hl, hp⟩ := list_of (α := Nat × Nat) (p := fun i r => (w.cell? ⟨g, o + i * 2, none⟩ = some (.int .u64 (r.1 : Int)) ∧ w.cell? ⟨g, o + i * 2 + 1, none⟩ = some (.int .u64 (r.2 : Int))) ∧ r.1 < 18446744073709551616 ∧ r.2 < 18446744073709551616) (n := len) (by
      intro i hil
      obtain ⟨cs, y, h1, h2, h3⟩ := hi i hil
      match cs, h1 with
      | [c0, c1], _ =>
        obtain ⟨_, _, z0⟩ := field_one Try.underlying46 h3 0 _ c0 rfl rfl (by kernel_rfl) rfl
        obtain ⟨_, _, z1⟩ := field_one Try.underlying46 h3 1 _ c1 rfl rfl (by kernel_rfl) rfl
        obtain ⟨n0, e0, _, f0⟩ := DataW.trod_int Try.underlying40 z0
        obtain ⟨n1, e1, _, f1⟩ := DataW.trod_int Try.underlying40 z1
        obtain ⟨k0, rfl, b0⟩ := nat_of_u64 f0
        obtain ⟨k1, rfl, b1⟩ := nat_of_u64 f1
        simp at e0 e1
        subst e0
        subst e1
        exact ⟨(k0, k1), ⟨h2 0 _ rfl, h2 1 _ rfl⟩, b0, b1⟩)
    refine ⟨rs, hl, ⟨fun _ => ⟨g, o, rfl, hg, fun i r hr => (hp i r hr).1⟩, fun r hr => ?_⟩, hm⟩
    obtain ⟨i, hi, he⟩ := List.mem_iff_getElem.1 hr
    exact (hp i r (by rw [List.getElem?_eq_getElem hi, he])).2
end

theorem other_kind (kind : Nat) (d : List UInt8) (hk : kind < 4611686018427387904) (hk4 : kind ≠ 4) (hd : d.length < 4611686018427387904) :
    (wtake (frameB kind d)).2.2.2 = 2 ∨ (wtake (frameB kind d)).2.2.2 = 0 ∧ (wtake (frameB kind d)).1 ≠ 4 := by
  cases hb : badKind kind with
  | true =>
    left
    rw [frameB_eq hk, List.append_assoc]
    unfold wtake
    rw [wnum_putB hk]
    simp only [ne_eq, not_true, if_false, hb, if_true]
  | false =>
    right
    have := wtake_frame hk hb d [] hd
    rw [List.append_nil] at this
    rw [this]
    exact ⟨rfl, hk4⟩

set_option maxRecDepth 100000 in
set_option maxHeartbeats 4000000 in
theorem settings_walk (HAW0 : ∀ w, Calls Try.prog 7 #[] w fun e w' => e = .returned (.bool true) ∧ Below w.heap.size w w') (a0 : Option Addr) (cap0 : Nat) (l : List (Nat × Nat)) (kind : Nat) (W : World) (A : PrIn W a0 l) (m : l.length ≤ maxLen) (bk : kind < 2 ^ 64) :
    Calls Try.prog 4 #[.slice a0 l.length cap0, .int .u64 (kind : Int)] W fun e w' => e = .returned (.bool true) ∧ Below W.heap.size W w' := by
  have bk' : kind < 18446744073709551616 := bk
  clear bk
  have HAw := Lib.hid (HAW0 W)
  clear HAW0
  obtain ⟨N, hN⟩ : ∃ N, l.length = N := ⟨_, rfl⟩
  have HN := Lib.hid hN
  have HA := Lib.hid A
  unfold maxLen at m
  rw [hN] at m ⊢
  clear hN A
  by_cases h40 : 40 < N
  · have hd : (40 : Int) < (N : Int) := by omega
    clear h40
    go_enter Try.func4, Try.ntmps4
    go_wp2_with fail
    refine HAw.out.mono ?_
    rintro e w1 ⟨rfl, hb1⟩
    have HB1 := Lib.hid hb1
    clear hb1 HAw
    go_wp2_with fail
    go_ret
    exact ⟨rfl, HB1.out⟩
  · have hd : ¬ (40 : Int) < (N : Int) := by omega
    have hps := fun W' (hb : Below W.heap.size W W') => PutSettings_any l a0 cap0 W' (HA.out.1.below hb) HA.out.2 (by rw [HN.out]; omega)
    rw [HN.out] at hps
    unfold putSetF at hps
    obtain ⟨c, hc⟩ : ∃ c, rightL [] l = c := ⟨_, rfl⟩
    rw [hc] at hps
    cases c with
    | false =>
      rw [if_neg (by decide), txt_nil] at hps
      have HP := Lib.hid hps
      clear hps hc
      go_enter Try.func4, Try.ntmps4
      go_wp2_with fail
      refine HAw.out.mono ?_
      rintro e w1 ⟨rfl, hb1⟩
      have HB1 := Lib.hid hb1
      clear hb1 HAw
      go_wp2_with fail
      refine (HP.out _ HB1.out).mono ?_
      rintro e w2 ⟨rfl, hb2⟩
      have HB2 := Lib.hid (HB1.out.trans (hb2.mono HB1.out.size))
      clear hb2 HP HB1
      go_wp2_with fail
      go_ret
      exact ⟨rfl, HB2.out⟩
    | true =>
      rw [if_pos rfl] at hps
      have hz := setB_le l
      rw [HN.out] at hz
      have hts := fun W' => TakeSettings_right l W' hc (by rw [HN.out]; omega)
      have hfl := frameB_le 4 (setB l)
      have htk := fun W' => wTake_any (txt (frameB 4 (setB l))) W' (by rw [txt_size]; omega)
      rw [byt_txt, show frameB 4 (setB l) = frameB 4 (setB l) ++ [] by rw [List.append_nil], wtake_frame (by decide) (by decide) _ _ (by omega), List.append_nil] at htk
      obtain ⟨F, hF⟩ : ∃ F, txt (frameB 4 (setB l)) = F := ⟨_, rfl⟩
      obtain ⟨D, hD⟩ : ∃ D, txt (setB l) = D := ⟨_, rfl⟩
      rw [hF] at hps hts htk
      unfold takeV at htk
      simp only [hD, txt_nil] at htk
      have hpk := fun W' => wPut_any kind D W' bk' (by rw [← hD, txt_size]; omega)
      have hto := fun W' (hk : kind < 4611686018427387904) (hk4 : kind ≠ 4) => TakeSettings_other (txt (frameB kind (byt D))) W' (by rw [txt_size]; have := frameB_le kind (byt D); rw [← hD, byt_txt]; rw [← hD, byt_txt] at this; omega) (by rw [byt_txt]; exact other_kind kind _ hk hk4 (by rw [← hD, byt_txt]; omega))
      obtain ⟨G, hG⟩ : ∃ G, txt (frameB kind (byt D)) = G := ⟨_, rfl⟩
      rw [hG] at hpk hto
      have HP := Lib.hid hps
      have HTs := Lib.hid hts
      have HTk := Lib.hid htk
      have HPk := Lib.hid hpk
      have HTo := Lib.hid hto
      clear hps hts htk hpk hto hfl hz hF hD hG hc
      go_enter Try.func4, Try.ntmps4
      go_wp2_with fail
      refine HAw.out.mono ?_
      rintro e w1 ⟨rfl, hb1⟩
      have HB1 := Lib.hid hb1
      clear hb1 HAw
      go_wp2_with fail
      refine (HP.out _ HB1.out).mono ?_
      rintro e w2 ⟨rfl, hb2⟩
      have HB2 := Lib.hid (HB1.out.trans (hb2.mono HB1.out.size))
      clear hb2 HP HB1
      go_wp2_with fail
      refine (HTs.out _).mono ?_
      rintro e w3 ⟨v3, rfl, ho3, hb3⟩
      have HB3 := Lib.hid (HB2.out.trans (hb3.mono HB2.out.size))
      obtain ⟨p3, cap3, rfl, _⟩ := own_shape ho3
      rw [HN.out] at ho3 ⊢
      have HO3 := Lib.hid (ho3.pv)
      clear hb3 ho3 HTs HB2
      go_wp2_with fail
      go_loopg [9, 46] N (fun gk _ i wr => ∃ (j : Nat), j + gk = N ∧ i = .int .i64 j ∧ Below W.heap.size W wr ∧ PV wr p3 l)
      case atStart => exact ⟨0, by omega, rfl, HB3.out, HO3.out⟩
      case round =>
        obtain ⟨j, hj, rfl, hB, hO⟩ := hrel
        by_cases hlt : j < N
        · have hjl : j < l.length := by rw [HN.out]; exact hlt
          obtain ⟨⟨k, v⟩, hq⟩ : ∃ q, l[j]? = some q := ⟨_, List.getElem?_eq_getElem hjl⟩
          obtain ⟨g, o, rfl, hg, hc⟩ := HA.out.1.below hB (by omega)
          obtain ⟨k1, k2⟩ := hc j _ hq
          obtain ⟨g3, o3, rfl, hg3, hc3⟩ := hO (by omega)
          obtain ⟨q1, q2⟩ := hc3 j _ hq
          simp only at k1 k2 q1 q2
          have HO := Lib.hid hO
          have HB := Lib.hid hB
          clear hc hc3 hq hO hB hjl
          go_wp2_with fail
          go_quiet (fail)
          go_wp2_with fail
          go_roundg (gk - 1)
          case measure => omega
          case rel => exact ⟨j + 1, by omega, by go_num, below_drewN HB.out _, HO.out.below (below_drewN (Below.refl _ _) _)⟩
        · have hjN : j = N := by omega
          subst hjN
          have HB := Lib.hid hB
          clear hO hB
          go_wp2_with fail
          refine (HTk.out _).mono ?_
          rintro e w5 ⟨rfl, hb5⟩
          have HB5 := Lib.hid (HB.out.trans (hb5.mono HB.out.size))
          clear hb5 HB HTk
          by_cases k4 : kind = 4
          · subst k4
            go_wp2_with fail
            go_ret
            exact ⟨rfl, HB5.out⟩
          · have d4 : ¬ (kind : Int) = 4 := by omega
            have d4b : ((kind : Int) == 4) = false := by rw [beq_eq_false_iff_ne]; omega
            by_cases km : 4611686018427387903 < kind
            · have dm : (4611686018427387903 : Int) < (kind : Int) := by omega
              clear km k4
              go_wp2_with fail
              go_ret
              exact ⟨rfl, HB5.out⟩
            · have dm : ¬ (4611686018427387903 : Int) < (kind : Int) := by omega
              have HT2 := Lib.hid (fun W' => HTo.out W' (by omega) k4)
              clear km k4 HTo
              go_wp2_with fail
              refine (HPk.out _).mono ?_
              rintro e w6 ⟨rfl, hb6⟩
              have HB6 := Lib.hid (HB5.out.trans (hb6.mono HB5.out.size))
              clear hb6 HPk HB5
              go_wp2_with fail
              refine (HT2.out _).mono ?_
              rintro e w7 ⟨rfl, hb7⟩
              have HB7 := Lib.hid (HB6.out.trans (hb7.mono HB6.out.size))
              clear hb7 HT2 HB6
              go_wp2_with fail
              go_ret
              exact ⟨rfl, HB7.out⟩

end Go.Proofs.Ytgnoiheekgmleaa
