/- Contract of Acked. -/
import Derived.Test.YtaoeamkkbopioaaLh
namespace Go.Proofs.Ytaoeamkkbopioaa
open Go.ChangeShapes Go.WideShapes Go.RowKit
set_option linter.unusedVariables false

def formB (r : Nat × Nat) : Bool := decide (r.2 < r.1)
def rangeB (li : Bool) (ln : Nat) (r : Nat × Nat) : Bool := !li || decide (ln < r.2)
def bestN (bn : Nat) (rs : List (Nat × Nat)) : Nat := rs.foldl (fun m r => max m r.2) bn
def bestF (S : Lg) (rs : List (Nat × Nat)) : Lg := { S with bn := bestN S.bn rs, bi := S.bi || !rs.isEmpty }
def ackP (rs : List (Nat × Nat)) (q : Pk) : Bool := rs.any (inR q.num)

/-- What Acked comes to. -/
def AckEnd (B b : Nat) (T : TypeId) (rest : List Value) (v : Value) (S : Lg) (w : World) (rs : List (Nat × Nat)) (e : Ending) (w' : World) : Prop :=
  (rs.any formB = true ∧ e = .returned (.tuple #[.slice none 0 0, .int .i64 2]) ∧ Below w.heap.size w w') ∨
  (rs.any formB = false ∧ rs.any (rangeB S.li S.ln) = true ∧ e = .returned (.tuple #[.slice none 0 0, .int .i64 3]) ∧ Below w.heap.size w w') ∨
  (rs.any formB = false ∧ rs.any (rangeB S.li S.ln) = false ∧ ∃ vg v', e = .returned (.tuple #[vg, .int .i64 0]) ∧ w'.ownsRow w.heap.size 38 5 vg (S.op.filter (ackP rs)).length (pks (S.op.filter (ackP rs))) ∧
    CameV B b T rest v w { bestF S rs with op := S.op.filter (fun q => !ackP rs q) } v' w' ∧ ∀ k, vg.ownBlock = some k → v'.ownBlock ≠ some k)

theorem any_take {f : Nat × Nat → Bool} {rs : List (Nat × Nat)} {j : Nat} {r : Nat × Nat} (h : rs[j]? = some r) : (rs.take (j + 1)).any f = ((rs.take j).any f || f r) := by
  obtain ⟨hj, hr⟩ := List.getElem?_eq_some_iff.1 h
  rw [List.take_succ_eq_append_getElem hj, hr, List.any_append, List.any_cons, List.any_nil, Bool.or_false]
theorem any_mem {f : Nat × Nat → Bool} {rs : List (Nat × Nat)} {j : Nat} {r : Nat × Nat} (h : rs[j]? = some r) (hf : f r = true) : rs.any f = true := by
  rw [List.any_eq_true]
  exact ⟨r, List.mem_of_getElem? h, hf⟩
theorem bestN_take {rs : List (Nat × Nat)} {j bn : Nat} {r : Nat × Nat} (h : rs[j]? = some r) : bestN bn (rs.take (j + 1)) = max (bestN bn (rs.take j)) r.2 := by
  obtain ⟨hj, hr⟩ := List.getElem?_eq_some_iff.1 h
  unfold bestN
  rw [List.take_succ_eq_append_getElem hj, hr, List.foldl_append]
  rfl

set_option maxRecDepth 100000 in
set_option maxHeartbeats 2000000 in
theorem Acked_any (B b : Nat) (T : TypeId) (rest : List Value) (v : Value) (S : Lg) (w : World) (p : Option Addr) (cap : Nat) (rs : List (Nat × Nat)) (h : Owns B b T rest v S w) (hlen : S.op.length ≤ 1000) (hbn : S.bn < 2 ^ 63) (hln : S.ln < 2 ^ 63)
    (hr : RgAt w p rs) (hrl : rs.length ≤ 1000000) (hrb : 0 < rs.length → ∀ a, p = some a → a.block ≠ b) :
    Calls Try.prog 11 #[.pointer (some ⟨b, 0, none⟩), .slice p rs.length cap] w (AckEnd B b T rest v S w rs) := by
  obtain ⟨W, hWe⟩ : ∃ W, w.alloc (.cells #[.slice p rs.length cap] 31) = W := ⟨_, rfl⟩
  have hW : Below w.heap.size w W := by rw [← hWe]; exact (Below.refl _ _).alloc (Nat.le_refl _) _
  have hbx : blk W w.heap.size 31 [.slice p rs.length cap] := by rw [← hWe]; exact blk.new w _ _
  have hOw : Owns B b T rest v S W := ⟨h.led.below hW h.led.lt, own_below h.own hW, Nat.le_trans h.bw hW.size, h.bb, h.ty⟩
  have hRW := hr.below hW
  obtain ⟨n, hn⟩ : ∃ n, rs.length = n := ⟨_, rfl⟩
  rw [hn] at hWe hbx hrl ⊢
  have HN := Lib.hid hn
  have HW := Lib.hid hW
  have Hbx := Lib.hid hbx
  have HOw := Lib.hid hOw
  have HRW := Lib.hid hRW
  have Hh := Lib.hid h
  have Hrb := Lib.hid hrb
  have c0 := hbx.cell (k := 0) rfl
  have hbW : w.heap.size < W.heap.size := hbx.lt
  clear hn hW hbx hOw hRW h hr hrb
  go_enter Try.func11, Try.ntmps11
  go_wp2_with fail
  go_loopw [14] (fun i wr => ∃ j : Nat, j ≤ n ∧ i = .int .i64 j ∧ (rs.take j).any formB = false ∧ Below W.heap.size W wr) (fun i _ => n - (intOf i).toNat)
  case atStart => exact ⟨0, by omega, rfl, rfl, Below.refl _ _⟩
  case round =>
    obtain ⟨j, hj, rfl, hno, hbw⟩ := hrel
    by_cases hlt : j < n
    · have hjl : j < rs.length := by rw [HN.out]; exact hlt
      obtain ⟨⟨lo, hi⟩, hq⟩ : ∃ r, rs[j] = r := ⟨_, rfl⟩
      have hq2 : rs[j]? = some (lo, hi) := by rw [List.getElem?_eq_getElem hjl, hq]
      obtain ⟨gb, o, hpe, hg, hc⟩ := (HRW.out.below hbw) (by omega)
      obtain ⟨c1, c2⟩ := hc j _ hq2
      simp only at c1 c2
      have Htk := Lib.hid (any_take (f := formB) hq2)
      have Hq2 := Lib.hid hq2
      have Hno := Lib.hid hno
      have hbw2 : Below W.heap.size W (wr.alloc (.cells #[.int .u64 (lo : Int), .int .u64 (hi : Int)] 66)) := hbw.alloc hbw.size _
      have Hbw := Lib.hid hbw2
      subst hpe
      clear hbw hc hq hq2 hno hbw2
      by_cases hbad : hi < lo
      · have hf : formB (lo, hi) = true := by simp [formB, hbad]
        have Hany := Lib.hid (any_mem Hq2.out hf)
        clear hf
        go_wp2_with fail
        go_ret2
        exact .inl ⟨Hany.out, rfl, HW.out.trans (Hbw.out.mono HW.out.size)⟩
      · have hf : formB (lo, hi) = false := by simp [formB]; omega
        have hnext : (rs.take (j + 1)).any formB = false := by rw [Htk.out, Hno.out, hf]; rfl
        have Hnext := Lib.hid hnext
        clear hf hnext
        go_wp2_with fail
        go_roundw
        case rel => exact ⟨j + 1, by omega, by go_num, Hnext.out, Hbw.out⟩
        case measure => simp [intOf]; omega
    · obtain rfl : j = n := by omega
      rw [List.take_of_length_le (by rw [HN.out]; exact Nat.le_refl _)] at hno
      have Hform := Lib.hid hno
      have Hbw := Lib.hid hbw
      have c0 := (Hbx.out.below Hbw.out hbW).cell (k := 0) rfl
      obtain ⟨wo, rfl⟩ : ∃ wo, wo = wr := ⟨_, rfl⟩
      clear hno hbw
      have hLo : LedIs wo b T rest v S := HOw.out.led.below Hbw.out HOw.out.led.lt
      have hbo := hLo.lt
      have d1 := hLo.cell (k := 1) rfl
      have d2 := hLo.cell (k := 2) rfl
      obtain ⟨ln, hlne⟩ : ∃ x, S.ln = x := ⟨_, rfl⟩
      obtain ⟨li, hli⟩ : ∃ x, S.li = x := ⟨_, rfl⟩
      rw [hlne] at d1 hln
      rw [hli] at d2
      have Hlne := Lib.hid hlne
      have Hli := Lib.hid hli
      clear hLo hlne hli
      go_wp2_with fail
      go_loopw [26] (fun i wr => ∃ k : Nat, k ≤ j ∧ i = .int .i64 k ∧ (rs.take k).any (rangeB li ln) = false ∧ Below wo.heap.size wo wr) (fun i _ => j - (intOf i).toNat)
      case atStart => exact ⟨0, by omega, rfl, rfl, Below.refl _ _⟩
      case round =>
        obtain ⟨k, hk, rfl, hno, hbw⟩ := hrel
        by_cases hlt : k < j
        · have hkl : k < rs.length := by rw [HN.out]; exact hlt
          obtain ⟨⟨lo, hi⟩, hq⟩ : ∃ r, rs[k] = r := ⟨_, rfl⟩
          have hq2 : rs[k]? = some (lo, hi) := by rw [List.getElem?_eq_getElem hkl, hq]
          obtain ⟨gb, o, hpe, hg, hc⟩ := ((HRW.out.below Hbw.out).below hbw) (by omega)
          obtain ⟨c1, c2⟩ := hc k _ hq2
          simp only at c1 c2
          have Htk := Lib.hid (any_take (f := rangeB li ln) hq2)
          have Hq2 := Lib.hid hq2
          have Hno := Lib.hid hno
          have hbw2 : Below wo.heap.size wo (wr.alloc (.cells #[.int .u64 (lo : Int), .int .u64 (hi : Int)] 66)) := hbw.alloc hbw.size _
          have Hbw2 := Lib.hid hbw2
          have e1 := (hbw.cell (p := ⟨b, 1, none⟩) hbo).trans d1
          have e2 := (hbw.cell (p := ⟨b, 2, none⟩) hbo).trans d2
          have hbr : b < wr.heap.size := Nat.lt_of_lt_of_le hbo hbw.size
          subst hpe
          clear hbw hc hq hq2 hno hbw2
          cases li
          · have hf : rangeB false ln (lo, hi) = true := rfl
            have Hany := Lib.hid (any_mem Hq2.out hf)
            clear hf
            go_wp2_with fail
            go_quiet (fail)
            go_wp2_with fail
            go_ret2
            exact .inr (.inl ⟨Hform.out, by rw [Hlne.out, Hli.out]; exact Hany.out, rfl, HW.out.trans ((Hbw.out.trans (below_drewN (Hbw2.out.mono Hbw.out.size) _)).mono HW.out.size)⟩)
          · by_cases hbad : ln < hi
            · have hf : rangeB true ln (lo, hi) = true := by simp [rangeB, hbad]
              have Hany := Lib.hid (any_mem Hq2.out hf)
              clear hf
              go_wp2_with fail
              go_quiet (fail)
              go_wp2_with fail
              go_ret2
              exact .inr (.inl ⟨Hform.out, by rw [Hlne.out, Hli.out]; exact Hany.out, rfl, HW.out.trans ((Hbw.out.trans (below_drewN (Hbw2.out.mono Hbw.out.size) _)).mono HW.out.size)⟩)
            · have hf : rangeB true ln (lo, hi) = false := by simp [rangeB]; omega
              have hnext : (rs.take (k + 1)).any (rangeB true ln) = false := by rw [Htk.out, Hno.out, hf]; rfl
              have Hnext := Lib.hid hnext
              clear hf hnext
              go_wp2_with fail
              go_quiet (fail)
              go_wp2_with fail
              go_roundw
              case rel => exact ⟨k + 1, by omega, by go_num, Hnext.out, below_drewN Hbw2.out _⟩
              case measure => simp [intOf]; omega
        · obtain rfl : k = j := by omega
          rw [List.take_of_length_le (by rw [HN.out]; exact Nat.le_refl _)] at hno
          have Hrange := Lib.hid hno
          have Hbw2 := Lib.hid (Hbw.out.trans (hbw.mono Hbw.out.size))
          have c0 := (Hbx.out.below Hbw2.out hbW).cell (k := 0) rfl
          have hbr : b < wr.heap.size := Nat.lt_of_lt_of_le hbo hbw.size
          obtain ⟨wq, rfl⟩ : ∃ wq, wq = wr := ⟨_, rfl⟩
          clear hno hbw d1 d2
          have hLq : LedIs wq b T rest v S := HOw.out.led.below Hbw2.out HOw.out.led.lt
          have hst : LedIs wq b T rest v { S with bn := bestN S.bn (rs.take 0), bi := S.bi || decide (0 < 0) } := by
            have e1 : bestN S.bn (rs.take 0) = S.bn := rfl
            have e2 : (S.bi || decide (0 < 0)) = S.bi := by simp
            rw [e1, e2]
            exact hLq
          have Hst := Lib.hid hst
          clear hst hLq
          go_wp2_with fail
          go_loopw [49] (fun i wr => ∃ t : Nat, t ≤ k ∧ i = .int .i64 t ∧ LedIs wr b T rest v { S with bn := bestN S.bn (rs.take t), bi := S.bi || decide (0 < t) } ∧ Only (fun k => k = b) wq wr) (fun i _ => k - (intOf i).toNat)
          case atStart => exact ⟨0, by omega, rfl, Hst.out, Only.refl _ _⟩
          case round =>
            obtain ⟨t, ht, rfl, hLt, hon⟩ := hrel
            by_cases hlt : t < k
            · have htl : t < rs.length := by rw [HN.out]; exact hlt
              obtain ⟨⟨lo, hi⟩, hq⟩ : ∃ r, rs[t] = r := ⟨_, rfl⟩
              have hq2 : rs[t]? = some (lo, hi) := by rw [List.getElem?_eq_getElem htl, hq]
              obtain ⟨gb, o, hpe, hg, hc⟩ := (HRW.out.below Hbw2.out) (by omega)
              have hgb : gb ≠ b := Hrb.out (by omega) _ hpe
              obtain ⟨c1, c2⟩ := hc t _ hq2
              simp only at c1 c2
              have e1 := (hon.cell (p := ⟨gb, o + t * 2, none⟩) hg hgb).trans c1
              have e2 := (hon.cell (p := ⟨gb, o + t * 2 + 1, none⟩) hg hgb).trans c2
              have hbr : b < wr.heap.size := hLt.lt
              have hbn2 := bestN_take (bn := S.bn) hq2
              obtain ⟨m, hm⟩ : ∃ m, bestN S.bn (rs.take t) = m := ⟨_, rfl⟩
              obtain ⟨z, hz⟩ : ∃ z, (S.bi || decide (0 < t)) = z := ⟨_, rfl⟩
              rw [hm] at hbn2 hLt
              rw [hz] at hLt
              have f3 := hLt.cell (k := 3) rfl
              have f4 := hLt.cell (k := 4) rfl
              have f5 := hLt.free 3
              have f6 := hLt.free 4
              simp only at f3 f4
              have hmx : (if m < hi then (hi : Int) else (m : Int)) = ((bestN S.bn (rs.take (t + 1)) : Nat) : Int) := by
                rw [hbn2]
                split <;> omega
              have hLn : LedIs ((wr.setCell ⟨b, 3, none⟩ (.int .u64 (if m < hi then (hi : Int) else (m : Int)))).setCell ⟨b, 4, none⟩ (.bool true)) b T rest v { S with bn := bestN S.bn (rs.take (t + 1)), bi := S.bi || decide (0 < t + 1) } := by
                have e : (S.bi || decide (0 < t + 1)) = true := by simp
                rw [e, hmx]
                exact (blk.set hLt 3 _).set 4 _
              have hon2 : Only (fun k => k = b) wq ((wr.setCell ⟨b, 3, none⟩ (.int .u64 (if m < hi then (hi : Int) else (m : Int)))).setCell ⟨b, 4, none⟩ (.bool true)) :=
                Only.setCell (S := fun k => k = b) (p := ⟨b, 4, none⟩) (Only.setCell (S := fun k => k = b) (p := ⟨b, 3, none⟩) hon (.inl rfl) _) (.inl rfl) _
              have HLn := Lib.hid hLn
              have Hon2 := Lib.hid hon2
              subst hpe
              clear hc hq hq2 hm hz hLt hon c1 c2 hLn hon2 hbn2 hmx
              go_wp2_with fail
              go_region
              all_goals
                go_wp2_with fail
                go_roundw
                case rel => exact ⟨t + 1, by omega, by go_num, blk.alloc HLn.out _, (Hon2.out.alloc _).drew⟩
                case measure => simp [intOf]; omega
            · obtain rfl : t = k := by omega
              have hfin : LedIs wr b T rest v (bestF S rs) := by
                have e1 : rs.take t = rs := List.take_of_length_le (by rw [HN.out]; exact Nat.le_refl _)
                have e2 : decide (0 < t) = !rs.isEmpty := by
                  rw [← HN.out]
                  cases rs <;> simp
                rw [e1, e2] at hLt
                exact hLt
              have hne : v.ownBlock ≠ some b := own_ne HOw.out.own HOw.out.led HOw.out.ty
              have hownq := own_below HOw.out.own Hbw2.out
              have hown : wr.ownsRow B 38 5 v S.op.length (pks S.op) := own_only hownq hon (fun k hk e => hne (by rw [hk, e]))
              have hbxq := Hbx.out.below Hbw2.out hbW
              have hbxr := hbxq.only hon (fun e => by
                have h1 := Hh.out.led.lt
                omega)
              have hRr : RgAt wr p rs := by
                intro hn
                obtain ⟨g2, o2, hp2, hg2, hc2⟩ := HRW.out.below Hbw2.out hn
                have hgb := Hrb.out hn _ hp2
                exact ⟨g2, o2, hp2, Nat.lt_of_lt_of_le hg2 hon.size, fun i r hr => ⟨(hon.cell (p := ⟨g2, o2 + i * 2, none⟩) hg2 hgb).trans (hc2 i r hr).1, (hon.cell (p := ⟨g2, o2 + i * 2 + 1, none⟩) hg2 hgb).trans (hc2 i r hr).2⟩⟩
              have eg : ∀ args w, (callFunc 33 args).run Try.prog w = .ok (.enter 33 args) w := enters_of Try.func33 (by kernel_rfl) rfl
              have hsp := split_any B b T rest v (bestF S rs) wr (ackP rs) 33 #[.pointer (some ⟨w.heap.size, 0, none⟩)] eg
                (fun W2 q hb => by
                  have h1 := hbxr.below hb hbxr.lt
                  exact acked_fn w.heap.size q p cap rs W2 h1.lt (by rw [HN.out]; exact h1.cell rfl) (hRr.below hb) (by rw [HN.out]; exact hrl)) hfin hown hlen
              have hend : ∀ vg vs w', LedIs w' b T rest vs { bestF S rs with op := S.op.filter (fun q => !ackP rs q) } → w'.ownsRow wr.heap.size 38 5 vg (S.op.filter (ackP rs)).length (pks (S.op.filter (ackP rs))) →
                  w'.ownsRow wr.heap.size 38 5 vs (S.op.filter (fun q => !ackP rs q)).length (pks (S.op.filter (fun q => !ackP rs q))) → (∀ k, vg.ownBlock = some k → vs.ownBlock ≠ some k) → Only (fun k => k = b) wr w' → AckEnd B b T rest v S w rs (.returned (.tuple #[vg, .int .i64 0])) w' := by
                intro vg vs w' h1 h2 h3 h5 h4
                have hsz : w.heap.size ≤ wr.heap.size := Nat.le_trans HW.out.size (Nat.le_trans Hbw2.out.size hon.size)
                refine .inr (.inr ⟨Hform.out, by rw [Hlne.out, Hli.out]; exact Hrange.out, vg, vs, rfl, own_base h2 hsz, ⟨h1, own_base h3 (Nat.le_trans Hh.out.bw hsz), ?_, .inr (fun k hk => Nat.le_trans hsz (h3.lt k hk).1)⟩, h5⟩)
                have g1 : Only (fun k => k = b ∨ v.ownBlock = some k) w wq := Only.ofBelow (HW.out.trans (Hbw2.out.mono HW.out.size))
                exact (g1.then hon (fun i hi => .inl (.inl hi))).then h4 (fun i hi => .inl (.inl hi))
              have HS := Lib.hid hsp
              have HE := Lib.hid hend
              clear hsp hend hfin hne hownq hown hbxq hbxr hRr hLt hon
              go_wp2_with fail
              refine HS.out.mono ?_
              rintro e w' ⟨vg, vs, rfl, h1, h2, h3, h5, h4⟩
              have HX := Lib.hid (HE.out vg vs w' h1 h2 h3 h5 h4)
              clear h1 h2 h3 h4 h5
              go_wp2_with fail
              go_ret2
              exact HX.out

end Go.Proofs.Ytaoeamkkbopioaa
