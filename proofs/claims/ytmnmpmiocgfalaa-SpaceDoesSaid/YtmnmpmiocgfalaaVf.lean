/- Printed by wip/tools/does_tpl.py out of texts of other layers. -/
import Derived.Test.YtmnmpmiocgfalaaVe
import Derived.Deep.DeepCutAuto
import Derived.Deep.LoopGhost
import Derived.Deep.CutBlock
import Derived.Deep.RegionHeld
import Derived.BigRegion

namespace Go.Proofs.Ytmnmpmiocgfalaa
open Go.ChangeShapes Go.WideShapes Go.RowKit
set_option linter.unusedVariables false
variable {X : Crx}

set_option maxRecDepth 100000 in
set_option maxHeartbeats 2000000 in
theorem rtop_ok (b B : Nat) (v : Value) (L : List Rg) (w : World) (many : Int) (h : RIs X w b B v L) (hn : L.length ≤ 900000) (hm : -9223372036854775808 ≤ many ∧ many < 9223372036854775808) :
    Calls Try.prog 65 #[.pointer (some ⟨b, 2, none⟩), .int .i64 many] w fun e w' => ∃ u, e = .returned u ∧ w'.ownsRow w.heap.size 47 2 u (topN many L.length) (rgs (L.take (topN many L.length))) ∧ Below w.heap.size w w' := by
  have hbl := h.lt
  obtain ⟨p, cap, rfl, hpn⟩ := own_shape h.own
  have c0 : w.cell? ⟨b, 2, none⟩ = some (.slice p L.length cap) := h.at_.cell (k := 2) rfl
  obtain ⟨N, hN⟩ : ∃ N, L.length = N := ⟨_, rfl⟩
  have HO := Lib.hid h.own
  have HN := Lib.hid hN
  rw [hN] at c0 hn ⊢
  obtain ⟨T, hT⟩ : ∃ T, topN many N = T := ⟨_, rfl⟩
  have hT1 : T ≤ N ∧ ((T : Int) < many → T = N) ∧ (∀ j : Nat, j < T → (j : Int) < many) := by
    rw [← hT]
    unfold topN
    refine ⟨by omega, by omega, fun j hj => by omega⟩
  rw [hT]
  obtain ⟨hT2, hT3, hT4⟩ := hT1
  have HT4 := Lib.hid hT4
  have HT3 := Lib.hid hT3
  have hbW : Below w.heap.size w (w.alloc (.cells #[] 47)) := (Below.refl _ _).alloc (Nat.le_refl _) _
  have hs1 : (w.alloc (.cells #[] 47)).ownsRow w.heap.size 47 2 (.slice (some ⟨w.heap.size, 0, none⟩) 0 0) 0 [] := World.ownsRow_made w #[] 0 (Nat.le_refl _) (by decide) rfl
  have Hs := Lib.hid (And.intro hbW hs1)
  clear h hpn hN hT hT3 hT4 hbW hs1
  go_enter Try.func65, Try.ntmps65
  go_wp2_with fail
  go_loopw [5, 6] (fun v5 i wr => ∃ j : Nat, j ≤ T ∧ i = .int .i64 j ∧ wr.ownsRow w.heap.size 47 2 v5 j (rgs (L.take j)) ∧ Below w.heap.size w wr) (fun _ i _ => T - (intOf i).toNat)
  case atStart => exact ⟨0, by omega, rfl, Hs.out.2, Hs.out.1⟩
  case round =>
    obtain ⟨j, hj, rfl, h5, hbw⟩ := hrel
    have e0 := (hbw.cell (p := ⟨b, 2, none⟩) hbl).trans c0
    have hsz := hbw.size
    have H5 := Lib.hid h5
    have Hbw := Lib.hid hbw
    by_cases hlt : j < T
    · obtain ⟨q, hq⟩ : ∃ q, L[j]? = some q := ⟨_, List.getElem?_eq_getElem (by rw [HN.out]; omega)⟩
      obtain ⟨g1, cap1, hv, hgB, hg1, k0, k1⟩ := rg_cells HO.out j q hq
      injection hv with hv1 hv2 hv3
      subst hv1
      have x0 := (hbw.cell (p := ⟨g1, j * 2, none⟩) hg1).trans k0
      have x1 := (hbw.cell (p := ⟨g1, j * 2 + 1, none⟩) hg1).trans k1
      have htk : L.take (j + 1) = L.take j ++ [q] := by
        rw [List.take_succ_eq_append_getElem (by rw [HN.out]; omega)]
        congr 2
        rw [List.getElem?_eq_getElem (by rw [HN.out]; omega)] at hq
        exact Option.some.inj hq
      have Htk := Lib.hid htk
      have hjm := HT4.out j hlt
      have hjN : j < N := by omega
      obtain ⟨r1, r2⟩ := q
      simp only at x0 x1
      clear h5 hbw hq htk k0 k1 hv2 hv3
      obtain ⟨i0, hi0, hz0, hz1, hz2⟩ := info_parts Try.infoRg
      go_wp2_with (at_builtin; refine wpList_append_new wr rfl _ _ 30 rfl w.heap.size 47 i0 _ 2 16 Try.underlying30 hi0 hz0 hz1 hz2 rfl (by decide) u5 _ _ H5.out (rgVals (r1, r2)) _ rfl rfl (rgVals_one _) (by omega) (by decide) hsz rfl rfl ?_)
      intro v' w' ho3 hon3 hat3
      have h5 : w'.ownsRow w.heap.size 47 2 v' (j + 1) (rgs (L.take (j + 1))) := by
        rw [Htk.out, rgs_append, rgs_one]
        exact ho3
      have hbw3 : Below w.heap.size w w' := Hbw.out.trans (hon3.below hsz (fun k hk => (own_base_le H5.out k hk).1))
      have H56 := Lib.hid (And.intro h5 hbw3)
      clear ho3 hon3 hat3 h5 hbw3
      go_wp2_with fail
      go_roundw
      case rel => exact ⟨j + 1, by omega, by go_num, H56.out.1, H56.out.2⟩
      case measure => simp [intOf]; omega
    · obtain rfl : j = T := by omega
      clear h5 hbw
      by_cases hjN : j < N
      · have hjm : many ≤ (j : Int) := by
          rcases Int.lt_or_le (j : Int) many with h1 | h1
          · have := HT3.out h1
            omega
          · exact h1
        go_wp2_with fail
        go_ret
        exact ⟨_, rfl, H5.out, Hbw.out⟩
      · have hj5 : ¬ (j : Int) < (N : Int) := by omega
        go_wp2_with fail
        go_ret
        exact ⟨_, rfl, H5.out, Hbw.out⟩

end Go.Proofs.Ytmnmpmiocgfalaa

namespace Go.Proofs.Ytmnmpmiocgfalaa
open Go.ChangeShapes Go.WideShapes Go.RowKit
set_option linter.unusedVariables false
variable {X : Crx}

/-- What an Add of the document's has come to. -/
def RAdd (X : Crx) (b B : Nat) (v : Value) (L : List Rg) (w : World) (low high : Nat) (e : Ending) (w' : World) : Prop :=
  e = .returned (.int .i64 ((addE L low high : Nat) : Int)) ∧ ∃ v', RIs X w' b B v' (addR L low high) ∧ Only (fun k => k = b) w w' ∧ (v' = v ∨ ∀ k, v'.ownBlock = some k → w.heap.size ≤ k)

theorem RAdd.bad {b B : Nat} {v : Value} {L : List Rg} {w w' : World} {low high : Nat} {E : Nat} (h : RIs X w b B v L) (hE : addE L low high = E) (h0 : E ≠ 0) (hb : Below w.heap.size w w') : RAdd X b B v L w low high (.returned (.int .i64 (E : Int))) w' := by
  refine ⟨by rw [hE], v, ?_, Only.ofBelow hb, .inl rfl⟩
  have : addR L low high = L := by unfold addR; rw [if_neg (by rw [hE]; exact h0)]
  rw [this]
  exact h.next hb
theorem RAdd.good {b B : Nat} {v v' : Value} {L : List Rg} {w wr : World} {low high : Nat} (h : RIs X w b B v L) (hE : addE L low high = 0) (hb : Below w.heap.size w wr) (ho : wr.ownsRow w.heap.size 47 2 v' (addR L low high).length (rgs (addR L low high))) :
    RAdd X b B v L w low high (.returned (.int .i64 0)) (wr.setCell ⟨b, 2, none⟩ v') := by
  obtain ⟨h1, h2, h3⟩ := h.to hb ho
  exact ⟨by rw [hE]; rfl, v', h1, h2, .inr h3⟩
theorem addR_good {L : List Rg} {low high : Nat} (h : addE L low high = 0) : addR L low high = putR L low high := by
  unfold addR
  rw [if_pos h]

/-- Behind an append to a row of the call's own, what lies ahead of it stands. -/
theorem app_facts {G : Nat} {w z w' : World} {v : Value} {n : Nat} {xs : List Value} {L : List Value} (hO : z.ownsRow (G + 1) 47 2 v n xs) (hon : Only (fun k => v.ownBlock = some k) z w') (hB : Below G w z) (hbk : blk z G 47 L) : Below G w w' ∧ blk w' G 47 L :=
  ⟨hB.trans (hon.below (Nat.le_of_lt hbk.lt) (fun k hk => by have := (own_base_le hO k hk).1; omega)), hbk.only hon (fun e => by have := (own_base_le hO G e).1; omega)⟩
theorem laid_of {r : Rg} {L O : List Rg} {ld : Bool} (h : lay r L = (O, ld)) : laid r L = if ld then O else O ++ [r] := by
  unfold laid
  rw [h]

theorem lay1_len (r : Rg) (acc : List Rg × Bool) (q : Rg) : (lay1 r acc q).1.length ≤ acc.1.length + 2 := by
  unfold lay1
  split
  · omega
  · split <;> simp
theorem lay_len (r : Rg) (L : List Rg) : (lay r L).1.length ≤ L.length * 2 := by
  have key : ∀ (L : List Rg) (acc : List Rg × Bool), (L.foldl (lay1 r) acc).1.length ≤ acc.1.length + L.length * 2 := by
    intro L
    induction L with
    | nil => intro acc; simp
    | cons q L ih =>
      intro acc
      have h1 := ih (lay1 r acc q)
      have h2 := lay1_len r acc q
      simp only [List.foldl_cons, List.length_cons]
      omega
  have := key L ([], false)
  simpa [lay] using this

set_option maxRecDepth 100000 in
set_option maxHeartbeats 4000000 in
theorem radd_ok (b B : Nat) (v : Value) (L : List Rg) (w : World) (low high : Nat) (h : RIs X w b B v L) (hn : L.length ≤ 200) (hOk : OkR L) (hl : low < 18446744073709551616) (hh : high < 18446744073709551616) :
    Calls Try.prog 63 #[.pointer (some ⟨b, 2, none⟩), .int .u64 (low : Int), .int .u64 (high : Int)] w (RAdd X b B v L w low high) := by
  by_cases hbad : high < low ∨ 4611686018427387903 < high
  · have hE : addE L low high = 3 := by unfold addE; rw [if_pos hbad]
    have HE := Lib.hid (RAdd.bad h hE (by decide) (Below.refl _ _))
    clear h hE
    by_cases h1 : high < low
    · have h1' : (high : Int) < (low : Int) := by omega
      clear hbad
      go_enter Try.func63, Try.ntmps63
      go_wp2_with fail
      go_ret
      exact HE.out
    · have h1' : (low : Int) ≤ (high : Int) := by omega
      have h2 : (4611686018427387904 : Int) ≤ (high : Int) := by omega
      clear hbad
      go_enter Try.func63, Try.ntmps63
      go_wp2_with fail
      go_ret
      exact HE.out
  · have hEis := addE_is hn low high
    rw [if_neg hbad, ← put_is L _ low high hOk (by omega)] at hEis
    have hPut := put_is L _ low high hOk (by omega)
    have h1' : decide ((high : Int) < (low : Int)) = false := decide_eq_false (by omega)
    have h1'' : decide (high < low) = false := decide_eq_false (by omega)
    have h2' : decide ((4611686018427387904 : Int) ≤ (high : Int)) = false := decide_eq_false (by omega)
    have hh2 : high ≤ 4611686018427387903 := by omega
    have hqm : ∀ q ∈ L, q.2 ≤ 4611686018427387903 := fun q hq => by have := OkB.below hOk q hq; omega
    have hgr := fun j => grow_le low high 4611686018427387903 (L.take j) hh2 (fun q hq => hqm q (List.mem_of_mem_take hq))
    have hbl := h.lt
    have Hh := Lib.hid h
    obtain ⟨p, cap, rfl, hpn⟩ := own_shape h.own
    have c0 : w.cell? ⟨b, 2, none⟩ = some (.slice p L.length cap) := h.at_.cell (k := 2) rfl
    have f0 : w.frozen? ⟨b, 2, none⟩ = false := h.at_.free 2
    obtain ⟨N, hN⟩ : ∃ N, L.length = N := ⟨_, rfl⟩
    have HO := Lib.hid h.own
    have HN := Lib.hid hN
    have HEis := Lib.hid hEis
    have HPut := Lib.hid hPut
    have HQm := Lib.hid hqm
    have HGr := Lib.hid hgr
    rw [hN] at c0 hn
    obtain ⟨G, hG⟩ : ∃ G, w.heap.size = G := ⟨_, rfl⟩
    have hbW : Below w.heap.size w (w.alloc (.cells #[.int .u64 (low : Int), .int .u64 (high : Int)] 47)) := (Below.refl _ _).alloc (Nat.le_refl _) _
    have hs1 : blk (w.alloc (.cells #[.int .u64 (low : Int), .int .u64 (high : Int)] 47)) w.heap.size 47 [.int .u64 (low : Int), .int .u64 (high : Int)] := blk.new w _ _
    rw [hG] at hbW hs1 hbl
    have Hs := Lib.hid (And.intro hbW hs1)
    have HG := Lib.hid hG
    have HH2 := Lib.hid hh2
    clear hh2 hh hl
    clear h hpn hN hOk hEis hPut hqm hgr hbW hs1 hbad
    go_enter Try.func63, Try.ntmps63
    go_wp2_with (rw [hG])
    clear hG
    go_loopw [8] (fun i wr => ∃ j : Nat, j ≤ N ∧ i = .int .i64 j ∧ blk wr G 47 (rgVals (grow low high (L.take j))) ∧ Below G w wr) (fun i _ => N - (intOf i).toNat)
    case atStart => exact ⟨0, by omega, rfl, Hs.out.2, Hs.out.1⟩
    case round =>
      obtain ⟨j, hj, rfl, hbk, hbw⟩ := hrel
      have e0 := (hbw.cell (p := ⟨b, 2, none⟩) hbl).trans c0
      have HBk := Lib.hid hbk
      have Hbw := Lib.hid hbw
      by_cases hlt : j < N
      · obtain ⟨⟨q1, q2⟩, hq⟩ : ∃ q, L[j]? = some q := ⟨_, List.getElem?_eq_getElem (by rw [HN.out]; omega)⟩
        obtain ⟨g1, cap1, hv, hgB, hg1, k0, k1⟩ := rg_cells HO.out j _ hq
        injection hv with hv1 hv2 hv3
        subst hv1
        have hg1' : g1 < G := by rw [← HG.out]; exact hg1
        have x0 := (hbw.cell (p := ⟨g1, j * 2, none⟩) hg1').trans k0
        have x1 := (hbw.cell (p := ⟨g1, j * 2 + 1, none⟩) hg1').trans k1
        have hgt := grow_take low high L j _ hq
        simp only at k0 k1
        have hq2 := HQm.out _ (List.mem_of_getElem? hq)
        obtain ⟨⟨a1, a2⟩, hacc⟩ : ∃ acc, grow low high (L.take j) = acc := ⟨_, rfl⟩
        rw [hacc] at hgt HBk hbk
        have hto := touch_ok q1 q2 low high wr hq2 HH2.out
        have hGl := hbk.lt
        simp only at x0 x1 hq2
        clear hq hv2 hv3 hbw hbk
        cases htb : touchB (q1, q2) (low, high) with
        | false =>
          have hgt2 : grow low high (L.take (j + 1)) = (a1, a2) := by rw [hgt]; unfold grow1; rw [if_neg (by rw [htb]; simp)]
          rw [htb] at hto
          have HTo := Lib.hid hto
          have HGt := Lib.hid hgt2
          clear hto hgt hgt2 htb hacc
          go_wp2_with fail
          refine HTo.out.mono ?_
          rintro e y ⟨rfl, hby⟩
          have H2 := Lib.hid (And.intro (HBk.out.below hby hGl) (Hbw.out.trans (hby.mono (by have := HG.out; have := Hbw.out.size; omega))))
          clear hby
          go_wp2_with fail
          go_roundw
          case rel => exact ⟨j + 1, by omega, by go_num, by rw [HGt.out]; exact H2.out.1, H2.out.2⟩
          case measure => simp [intOf]; omega
        | true =>
          obtain ⟨M1, hM1, hM1'⟩ : ∃ M1 : Nat, min (a1 : Int) (q1 : Int) = (M1 : Int) ∧ min a1 q1 = M1 := ⟨min a1 q1, by omega, rfl⟩
          obtain ⟨M2, hM2, hM2'⟩ : ∃ M2 : Nat, max (a2 : Int) (q2 : Int) = (M2 : Int) ∧ max a2 q2 = M2 := ⟨max a2 q2, by omega, rfl⟩
          have hgt2 : grow low high (L.take (j + 1)) = (M1, M2) := by rw [hgt]; unfold grow1; rw [if_pos htb, ← hM1', ← hM2']
          rw [htb] at hto
          have HTo := Lib.hid hto
          have HGt := Lib.hid hgt2
          have HM2 := Lib.hid hM2
          clear hto hgt hgt2 htb hacc hM1' hM2' hM2
          go_wp2_with fail
          refine HTo.out.mono ?_
          rintro e y ⟨rfl, hby⟩
          have hyb := HBk.out.below hby hGl
          have hbY : Below G w y := Hbw.out.trans (hby.mono (by have := HG.out; have := Hbw.out.size; omega))
          have y0 := (hbY.cell (p := ⟨b, 2, none⟩) hbl).trans c0
          have y1 := (hbY.cell (p := ⟨g1, j * 2, none⟩) hg1').trans k0
          have y2 := (hbY.cell (p := ⟨g1, j * 2 + 1, none⟩) hg1').trans k1
          have y3 := hyb.cell (k := 0) rfl
          have y4 := hyb.cell (k := 1) rfl
          have y5 := hyb.free 0
          have HY := Lib.hid (And.intro hyb hbY)
          clear hby hyb hbY x0 x1 e0
          go_wp2_with fail
          go_still_tail 12, (by kernel_rfl)
          change wpList _ _ _ _ _ y.drew
          obtain ⟨z, hz⟩ : ∃ z, y.drew = z := ⟨_, rfl⟩
          rw [hz]
          have HZ : Hid (blk z G 47 [.int .u64 (a1 : Int), .int .u64 (a2 : Int)] ∧ Below G w z) := Lib.hid (by rw [← hz]; exact ⟨HY.out.1, Below.drew2 HY.out.2⟩)
          have z3 := HZ.out.1.cell (k := 0) rfl
          have z5 := HZ.out.1.free 0
          clear hz y0 y1 y2 y3 y4 y5 HY
          go_wp2_with fail
          obtain ⟨x, hx⟩ : ∃ x, z.setCell ⟨G, 0, none⟩ (.int .u64 (M1 : Int)) = x := ⟨_, rfl⟩
          rw [hx]
          have HX : Hid (blk x G 47 [.int .u64 (M1 : Int), .int .u64 (a2 : Int)] ∧ Below G w x) := Lib.hid (by rw [← hx]; exact ⟨HZ.out.1.set 0 _, HZ.out.2.setCell (p := ⟨G, 0, none⟩) (Nat.le_refl _) _⟩)
          have y0 := (HX.out.2.cell (p := ⟨b, 2, none⟩) hbl).trans c0
          have y1 := (HX.out.2.cell (p := ⟨g1, j * 2, none⟩) hg1').trans k0
          have y2 := (HX.out.2.cell (p := ⟨g1, j * 2 + 1, none⟩) hg1').trans k1
          have y3 := HX.out.1.cell (k := 0) rfl
          have y4 := HX.out.1.cell (k := 1) rfl
          have hM2 := HM2.out
          clear hx z3 z5 HZ hM1 HM2
          go_still_tail 12, (by kernel_rfl)
          change wpList _ _ _ _ _ x.drew
          obtain ⟨z, hz⟩ : ∃ z, x.drew = z := ⟨_, rfl⟩
          rw [hz]
          have HZ : Hid (blk z G 47 [.int .u64 (M1 : Int), .int .u64 (a2 : Int)] ∧ Below G w z) := Lib.hid (by rw [← hz]; exact ⟨HX.out.1, Below.drew2 HX.out.2⟩)
          have z3 := HZ.out.1.cell (k := 1) rfl
          have z5 := HZ.out.1.free 1
          clear hz y0 y1 y2 y3 y4 HX
          go_wp2_with fail
          go_roundw
          case rel => exact ⟨j + 1, by omega, by go_num, by rw [HGt.out]; exact HZ.out.1.set 1 _, HZ.out.2.setCell (p := ⟨G, 1, none⟩) (Nat.le_refl _) _⟩
          case measure => simp [intOf]; omega
      · obtain rfl : j = N := by omega
        have hgrow : grow low high (L.take j) = grow low high L := by rw [List.take_of_length_le (by rw [HN.out]; exact Nat.le_refl _)]
        have hgj := HGr.out j
        rw [hgrow] at HBk hgj
        obtain ⟨⟨R1, R2⟩, hR⟩ : ∃ R, grow low high L = R := ⟨_, rfl⟩
        rw [hR] at HBk hgj HEis HPut
        obtain ⟨hgR2, -, -⟩ := hgj
        simp only at hgR2
        have HGR := Lib.hid hgR2
        have hGl := HBk.out.lt
        have hnewO : (wr.alloc (.cells #[] 47)).ownsRow (G + 1) 47 2 (.slice (some ⟨wr.heap.size, 0, none⟩) 0 0) 0 [] := World.ownsRow_made wr #[] 0 (by omega) (by decide) rfl
        have HStart := Lib.hid (And.intro hnewO (And.intro (HBk.out.alloc (.cells #[] 47)) (Hbw.out.alloc (by omega) (.cells #[] 47))))
        clear hbk hbw hgrow hR hgR2 hnewO
        go_wp2_with fail
        clear e0
        obtain ⟨wo, rfl⟩ : ∃ wo : World, wo = wr := ⟨_, rfl⟩
        go_loopw [9, 10, 11] (fun v9 v10 i wr => ∃ (k : Nat) (O : List Rg) (ld : Bool), k ≤ j ∧ i = .int .i64 k ∧ lay (R1, R2) (L.take k) = (O, ld) ∧ v10 = .bool ld ∧ wr.ownsRow (G + 1) 47 2 v9 O.length (rgs O) ∧ blk wr G 47 (rgVals (R1, R2)) ∧ Below G w wr) (fun _ _ i _ => j - (intOf i).toNat)
        case atStart => exact ⟨0, [], false, by omega, rfl, rfl, rfl, HStart.out.1, HStart.out.2.1, HStart.out.2.2⟩
        case round =>
          obtain ⟨k, O, ld, hk, rfl, hlay, rfl, hO, hbk, hbw⟩ := hrel
          have e0 := (hbw.cell (p := ⟨b, 2, none⟩) hbl).trans c0
          have hOl := lay_len (R1, R2) (L.take k)
          have hkl : (L.take k).length ≤ k := List.length_take_le _ _
          rw [hlay] at hOl
          have hO4 : O.length ≤ 400 := by simp only at hOl; omega
          obtain ⟨n, hnO⟩ : ∃ n, O.length = n := ⟨_, rfl⟩
          rw [hnO] at hO4 hO
          obtain ⟨p9, cap9, rfl, _⟩ := own_shape hO
          have HLay := Lib.hid hlay
          have HNO := Lib.hid hnO
          have HOo := Lib.hid hO
          have HBk2 := Lib.hid hbk
          have Hbw2 := Lib.hid hbw
          have hGl2 := hbk.lt
          clear hOl hkl hlay hnO
          by_cases hlt2 : k < j
          · obtain ⟨⟨q1, q2⟩, hq⟩ : ∃ q, L[k]? = some q := ⟨_, List.getElem?_eq_getElem (by rw [HN.out]; omega)⟩
            obtain ⟨g1, cap1, hv, hgB, hg1, k0, k1⟩ := rg_cells HO.out k _ hq
            injection hv with hv1 hv2 hv3
            subst hv1
            have hg1' : g1 < G := by rw [← HG.out]; exact hg1
            have hlt3 := lay_take (R1, R2) L k _ hq
            have hq2 := HQm.out _ (List.mem_of_getElem? hq)
            have hto := fun W => touch_ok q1 q2 R1 R2 W hq2 HGR.out
            rw [HLay.out] at hlt3
            simp only at k0 k1 hq2
            have x0 := (hbw.cell (p := ⟨g1, k * 2, none⟩) hg1').trans k0
            have x1 := (hbw.cell (p := ⟨g1, k * 2 + 1, none⟩) hg1').trans k1
            have x2 := hbk.cell (k := 0) rfl
            have x3 := hbk.cell (k := 1) rfl
            simp only at x2 x3
            obtain ⟨tb, htb⟩ : ∃ tb, touchB (q1, q2) (R1, R2) = tb := ⟨_, rfl⟩
            rw [htb] at hto
            have HTo := Lib.hid (hto wr.drew)
            have HTb := Lib.hid htb
            have HLt := Lib.hid hlt3
            clear hq hv2 hv3 hbw hbk hto htb hlt3 hO hq2
            go_wp2_with fail
            go_still_tail 8, (by kernel_rfl)
            change wpList _ _ _ _ _ wr.drew
            cases tb with
            | true =>
              go_wp2_with (go_at_call 80; refine HTo.out.mono ?_; rintro e y ⟨rfl, hby⟩; have HBy := Lib.hid (Below.trans (Below.drew2 (Below.refl wr.heap.size wr)) hby); clear hby)
              go_roundw
              case rel => exact ⟨k + 1, O, ld, by omega, by go_num, by rw [HLt.out]; unfold lay1; rw [if_pos HTb.out], rfl, by rw [HNO.out]; exact own_below HOo.out HBy.out, HBk2.out.below HBy.out hGl2, Hbw2.out.trans (HBy.out.mono (by omega))⟩
              case measure => simp [intOf]; omega
            | false =>
              go_wp2_with (go_at_call 80; refine HTo.out.mono ?_; rintro e y ⟨rfl, hby⟩; have HBy := Lib.hid (Below.trans (Below.drew2 (Below.refl wr.heap.size wr)) hby); clear hby)
              have HYo := Lib.hid (own_below HOo.out HBy.out)
              have HYb := Lib.hid (HBk2.out.below HBy.out hGl2)
              have HYw := Lib.hid (Hbw2.out.trans (HBy.out.mono (by omega)))
              have HTb2 := HTb.out
              clear x0 x1 x2 x3 e0 HTo HBy
              have e0 := (HYw.out.cell (p := ⟨b, 2, none⟩) hbl).trans c0
              have x0 := (HYw.out.cell (p := ⟨g1, k * 2, none⟩) hg1').trans k0
              have x1 := (HYw.out.cell (p := ⟨g1, k * 2 + 1, none⟩) hg1').trans k1
              have x2 := HYb.out.cell (k := 0) rfl
              have x3 := HYb.out.cell (k := 1) rfl
              simp only at x2 x3
              obtain ⟨i0, hi0, hz0, hz1, hz2⟩ := info_parts Try.infoRg
              have hn401 : n ≤ 1000000 := by omega
              cases ld with
              | true =>
                have HL2 : Hid (lay (R1, R2) (L.take (k + 1)) = (O ++ [(q1, q2)], true)) := Lib.hid (by rw [HLt.out]; unfold lay1; rw [if_neg (by rw [HTb2]; simp), if_neg (by simp)])
                clear HTb2
                go_wp2_with fail
                go_quiet (fail)
                generalize hz : World.drewN y _ = z
                have HZo := Lib.hid (show z.ownsRow (G + 1) 47 2 (.slice p9 n cap9) n (rgs O) by rw [← hz]; exact HYo.out)
                have zbk : Hid (blk z G 47 (rgVals (R1, R2))) := Lib.hid (by rw [← hz]; exact HYb.out)
                have zB : Hid (Below G w z) := Lib.hid (by rw [← hz]; exact ⟨HYw.out.os, HYw.out.tape, HYw.out.output, HYw.out.size, HYw.out.block⟩)
                clear hz e0 x0 x1 x2 x3
                have e0 := (zB.out.cell (p := ⟨b, 2, none⟩) hbl).trans c0
                have x0 := (zB.out.cell (p := ⟨g1, k * 2, none⟩) hg1').trans k0
                have x1 := (zB.out.cell (p := ⟨g1, k * 2 + 1, none⟩) hg1').trans k1
                have x2 := zbk.out.cell (k := 0) rfl
                have x3 := zbk.out.cell (k := 1) rfl
                go_wp2_with (at_builtin; refine wpList_append_new z rfl _ _ 30 rfl (G + 1) 47 i0 _ 2 16 Try.underlying30 hi0 hz0 hz1 hz2 rfl (by decide) (.slice p9 n cap9) _ _ HZo.out (rgVals (q1, q2)) _ rfl rfl (rgVals_one _) hn401 (by decide) (by have := zbk.out.lt; omega) rfl rfl ?_)
                intro v' w' ho3 hon3 hat3
                have hfin := app_facts HZo.out hon3 zB.out zbk.out
                have H56 := Lib.hid (And.intro ho3 hfin)
                clear ho3 hon3 hat3 hfin
                go_wp2_with fail
                go_roundw
                case rel => exact ⟨k + 1, O ++ [(q1, q2)], true, by omega, by go_num, HL2.out, rfl, by rw [rgs_append, rgs_one, List.length_append]; have := H56.out.1; simpa [HNO.out] using this, H56.out.2.2, H56.out.2.1⟩
                case measure => simp [intOf]; omega
              | false =>
                by_cases hc : q2 < R1
                · have HL2 : Hid (lay (R1, R2) (L.take (k + 1)) = ((O ++ [(R1, R2)]) ++ [(q1, q2)], true)) := Lib.hid (by rw [HLt.out]; unfold lay1; rw [if_neg (by rw [HTb2]; simp), if_pos (by simp; omega)])
                  have d1 : decide (q2 < R1) = true := decide_eq_true hc
                  have d2 : decide ((q2 : Int) < (R1 : Int)) = true := decide_eq_true (by omega)
                  clear HTb2 hc
                  go_wp2_with fail
                  go_quiet (fail)
                  generalize hz : World.drewN y _ = z
                  have HZo := Lib.hid (show z.ownsRow (G + 1) 47 2 (.slice p9 n cap9) n (rgs O) by rw [← hz]; exact HYo.out)
                  have zbk : Hid (blk z G 47 (rgVals (R1, R2))) := Lib.hid (by rw [← hz]; exact HYb.out)
                  have zB : Hid (Below G w z) := Lib.hid (by rw [← hz]; exact ⟨HYw.out.os, HYw.out.tape, HYw.out.output, HYw.out.size, HYw.out.block⟩)
                  clear hz e0 x0 x1 x2 x3
                  have e0 := (zB.out.cell (p := ⟨b, 2, none⟩) hbl).trans c0
                  have x0 := (zB.out.cell (p := ⟨g1, k * 2, none⟩) hg1').trans k0
                  have x1 := (zB.out.cell (p := ⟨g1, k * 2 + 1, none⟩) hg1').trans k1
                  have x2 := zbk.out.cell (k := 0) rfl
                  have x3 := zbk.out.cell (k := 1) rfl
                  go_wp2_with (at_builtin; refine wpList_append_new z rfl _ _ 30 rfl (G + 1) 47 i0 _ 2 16 Try.underlying30 hi0 hz0 hz1 hz2 rfl (by decide) (.slice p9 n cap9) _ _ HZo.out (rgVals (R1, R2)) _ rfl rfl (rgVals_one _) hn401 (by decide) (by have := zbk.out.lt; omega) rfl rfl ?_)
                  intro v2 x ho3 hon3 hat3
                  have hfin := app_facts HZo.out hon3 zB.out zbk.out
                  obtain ⟨p8, cap8, rfl, _⟩ := own_shape ho3
                  have HXo : Hid (x.ownsRow (G + 1) 47 2 (.slice p8 (n + 1) cap8) (n + 1) (rgs (O ++ [(R1, R2)]))) := Lib.hid (by rw [rgs_append, rgs_one]; exact ho3)
                  have xB := Lib.hid hfin.1
                  have xbk := Lib.hid hfin.2
                  have hn402 : n + 1 ≤ 1000000 := by omega
                  clear ho3 hon3 hat3 hfin e0 x0 x1 x2 x3
                  have e0 := (xB.out.cell (p := ⟨b, 2, none⟩) hbl).trans c0
                  have x0 := (xB.out.cell (p := ⟨g1, k * 2, none⟩) hg1').trans k0
                  have x1 := (xB.out.cell (p := ⟨g1, k * 2 + 1, none⟩) hg1').trans k1
                  have x2 := xbk.out.cell (k := 0) rfl
                  have x3 := xbk.out.cell (k := 1) rfl
                  go_wp2_with (at_builtin; refine wpList_append_new x rfl _ _ 30 rfl (G + 1) 47 i0 _ 2 16 Try.underlying30 hi0 hz0 hz1 hz2 rfl (by decide) (.slice p8 (n + 1) cap8) _ _ HXo.out (rgVals (q1, q2)) _ rfl rfl (rgVals_one _) hn402 (by decide) (by have := xbk.out.lt; omega) rfl rfl ?_)
                  intro v' w' ho3 hon3 hat3
                  have hfin := app_facts HXo.out hon3 xB.out xbk.out
                  have H56 := Lib.hid (And.intro ho3 hfin)
                  clear ho3 hon3 hat3 hfin
                  go_wp2_with fail
                  go_roundw
                  case rel => exact ⟨k + 1, (O ++ [(R1, R2)]) ++ [(q1, q2)], true, by omega, by go_num, HL2.out, rfl, by rw [rgs_append, rgs_one, List.length_append]; have := H56.out.1; simpa [HNO.out] using this, H56.out.2.2, H56.out.2.1⟩
                  case measure => simp [intOf]; omega
                · have HL2 : Hid (lay (R1, R2) (L.take (k + 1)) = (O ++ [(q1, q2)], false)) := Lib.hid (by rw [HLt.out]; unfold lay1; rw [if_neg (by rw [HTb2]; simp), if_neg (by simp; omega)])
                  have d1 : decide (q2 < R1) = false := decide_eq_false hc
                  have d2 : decide ((q2 : Int) < (R1 : Int)) = false := decide_eq_false (by omega)
                  clear HTb2 hc
                  go_wp2_with fail
                  go_quiet (fail)
                  generalize hz : World.drewN y _ = z
                  have HZo := Lib.hid (show z.ownsRow (G + 1) 47 2 (.slice p9 n cap9) n (rgs O) by rw [← hz]; exact HYo.out)
                  have zbk : Hid (blk z G 47 (rgVals (R1, R2))) := Lib.hid (by rw [← hz]; exact HYb.out)
                  have zB : Hid (Below G w z) := Lib.hid (by rw [← hz]; exact ⟨HYw.out.os, HYw.out.tape, HYw.out.output, HYw.out.size, HYw.out.block⟩)
                  clear hz e0 x0 x1 x2 x3
                  have e0 := (zB.out.cell (p := ⟨b, 2, none⟩) hbl).trans c0
                  have x0 := (zB.out.cell (p := ⟨g1, k * 2, none⟩) hg1').trans k0
                  have x1 := (zB.out.cell (p := ⟨g1, k * 2 + 1, none⟩) hg1').trans k1
                  have x2 := zbk.out.cell (k := 0) rfl
                  have x3 := zbk.out.cell (k := 1) rfl
                  go_wp2_with (at_builtin; refine wpList_append_new z rfl _ _ 30 rfl (G + 1) 47 i0 _ 2 16 Try.underlying30 hi0 hz0 hz1 hz2 rfl (by decide) (.slice p9 n cap9) _ _ HZo.out (rgVals (q1, q2)) _ rfl rfl (rgVals_one _) hn401 (by decide) (by have := zbk.out.lt; omega) rfl rfl ?_)
                  intro v' w' ho3 hon3 hat3
                  have hfin := app_facts HZo.out hon3 zB.out zbk.out
                  have H56 := Lib.hid (And.intro ho3 hfin)
                  clear ho3 hon3 hat3 hfin
                  go_wp2_with fail
                  go_roundw
                  case rel => exact ⟨k + 1, O ++ [(q1, q2)], false, by omega, by go_num, HL2.out, rfl, by rw [rgs_append, rgs_one, List.length_append]; have := H56.out.1; simpa [HNO.out] using this, H56.out.2.2, H56.out.2.1⟩
                  case measure => simp [intOf]; omega
          · obtain rfl : k = j := by omega
            have hfull : lay (R1, R2) L = (O, ld) := by have := HLay.out; rw [List.take_of_length_le (by rw [HN.out]; exact Nat.le_refl _)] at this; exact this
            have hld := laid_of hfull
            have f1 := (hbw.frozen (p := ⟨b, 2, none⟩) hbl).trans f0
            clear hfull hO hbk hbw
            cases ld with
            | true =>
              have HLd : Hid (laid (R1, R2) L = O) := Lib.hid (by rw [hld]; rfl)
              clear hld
              by_cases hbig : 200 < n
              · have hE : addE L low high = 4 := by rw [HEis.out, HLd.out, if_pos (by simp [HNO.out]; omega)]
                have HE := Lib.hid (RAdd.bad Hh.out hE (by decide) (by rw [HG.out]; exact Hbw2.out))
                have hbig' : (200 : Int) < ((n : Nat) : Int) := by omega
                clear hE
                go_wp2_with fail
                go_ret
                exact HE.out
              · have hE : addE L low high = 0 := by rw [HEis.out, HLd.out, if_neg (by simp [HNO.out]; omega)]
                have hadd : addR L low high = O := by rw [addR_good hE, ← HPut.out, HLd.out]
                have HE := Lib.hid (RAdd.good (wr := wr) (v' := (.slice p9 n cap9)) Hh.out hE (by rw [HG.out]; exact Hbw2.out) (by rw [hadd, HG.out]; exact own_base (by simpa [HNO.out] using HOo.out) (by omega)))
                have hbig' : ¬ (200 : Int) < ((n : Nat) : Int) := by omega
                clear hE hadd
                go_wp2_with fail
                go_ret
                exact HE.out
            | false =>
              have HLd : Hid (laid (R1, R2) L = O ++ [(R1, R2)]) := Lib.hid (by rw [hld]; rfl)
              clear hld
              have x2 := HBk2.out.cell (k := 0) rfl
              have x3 := HBk2.out.cell (k := 1) rfl
              simp only at x2 x3
              obtain ⟨i0, hi0, hz0, hz1, hz2⟩ := info_parts Try.infoRg
              have hn401 : n ≤ 1000000 := by omega
              go_wp2_with (at_builtin; refine wpList_append_new wr rfl _ _ 30 rfl (G + 1) 47 i0 _ 2 16 Try.underlying30 hi0 hz0 hz1 hz2 rfl (by decide) (.slice p9 n cap9) _ _ HOo.out (rgVals (R1, R2)) _ rfl rfl (rgVals_one _) hn401 (by decide) (by omega) rfl rfl ?_)
              intro v2 x ho3 hon3 hat3
              have hfin := app_facts HOo.out hon3 Hbw2.out HBk2.out
              obtain ⟨p8, cap8, rfl, _⟩ := own_shape ho3
              have HXo : Hid (x.ownsRow (G + 1) 47 2 (.slice p8 (n + 1) cap8) (n + 1) (rgs (O ++ [(R1, R2)]))) := Lib.hid (by rw [rgs_append, rgs_one]; exact ho3)
              have xB := Lib.hid hfin.1
              clear ho3 hon3 hat3 hfin e0 f1 x2 x3
              have e0 := (xB.out.cell (p := ⟨b, 2, none⟩) hbl).trans c0
              have f1 := (xB.out.frozen (p := ⟨b, 2, none⟩) hbl).trans f0
              by_cases hbig : 200 < n + 1
              · have hE : addE L low high = 4 := by rw [HEis.out, HLd.out, if_pos (by simp [HNO.out]; omega)]
                have HE := Lib.hid (RAdd.bad Hh.out hE (by decide) (by rw [HG.out]; exact xB.out))
                have hbig' : (200 : Int) < ((n + 1 : Nat) : Int) := by omega
                clear hE
                go_wp2_with fail
                go_ret
                exact HE.out
              · have hE : addE L low high = 0 := by rw [HEis.out, HLd.out, if_neg (by simp [HNO.out]; omega)]
                have hadd : addR L low high = O ++ [(R1, R2)] := by rw [addR_good hE, ← HPut.out, HLd.out]
                have HE := Lib.hid (RAdd.good (wr := x) (v' := (.slice p8 (n + 1) cap8)) Hh.out hE (by rw [HG.out]; exact xB.out) (by rw [hadd, HG.out]; exact own_base (by simpa [HNO.out] using HXo.out) (by omega)))
                have hbig' : ¬ (200 : Int) < ((n + 1 : Nat) : Int) := by omega
                clear hE hadd
                go_wp2_with fail
                go_ret
                exact HE.out

end Go.Proofs.Ytmnmpmiocgfalaa
