/- Printed by wip/tools/does_tpl.py out of texts of other layers. -/
import Derived.Test.YtmnmpmiocgfalaaVb

namespace Go.Proofs.Ytmnmpmiocgfalaa
open Go.ChangeShapes Go.WideShapes Go.RowKit
set_option linter.unusedVariables false

set_option maxRecDepth 100000 in
set_option maxHeartbeats 2000000 in
theorem take_any (B b : Nat) (v c1 c2 : Value) (S : Lg) (w : World) (f : Pk → Bool) (gg gc : Nat) (hL : blk w b 80 [v, c1, c2]) (hO : w.ownsRow B 103 5 v S.op.length (pks S.op)) (hlen : S.op.length ≤ 1000)
    (hgg : gg < w.heap.size) (hG : ∀ i q, S.op[i]? = some q → w.cell? ⟨gg, i, none⟩ = some (.bool (f q))) :
    Calls Try.prog 68 #[.pointer (some ⟨b, 0, none⟩), .slice (some ⟨gg, 0, none⟩) S.op.length gc] w fun e w' => ∃ vg vs, e = .returned vg ∧ blk w' b 80 [vs, c1, c2] ∧
      w'.ownsRow w.heap.size 103 5 vg (S.op.filter f).length (pks (S.op.filter f)) ∧ w'.ownsRow w.heap.size 103 5 vs (S.op.filter (fun p => !f p)).length (pks (S.op.filter (fun p => !f p))) ∧ (∀ k, vg.ownBlock = some k → vs.ownBlock ≠ some k) ∧ Only (fun k => k = b) w w' := by
  obtain ⟨p, cap, rfl, hpn⟩ := own_shape hO
  obtain ⟨N, hN⟩ : ∃ N, S.op.length = N := ⟨_, rfl⟩
  have hbl := hL.lt
  have hc0 : w.cell? ⟨b, 0, none⟩ = some (.slice p S.op.length cap) := hL.cell rfl
  rw [hN] at hc0 hlen hpn ⊢
  have HN := Lib.hid hN
  have HL := Lib.hid hL
  have HO := Lib.hid hO
  have HG := Lib.hid hG
  have hbW : Below w.heap.size w ((w.alloc (.cells #[] 103)).alloc (.cells #[] 103)) := ((Below.refl _ _).alloc (Nat.le_refl _) _).alloc (by rw [World.size_alloc]; omega) _
  have hs1 : ((w.alloc (.cells #[] 103)).alloc (.cells #[] 103)).ownsRow w.heap.size 103 5 (.slice (some ⟨w.heap.size, 0, none⟩) 0 0) 0 [] := (World.ownsRow_made w #[] 0 (Nat.le_refl _) (by decide) rfl).alloc _
  have hs2 : ((w.alloc (.cells #[] 103)).alloc (.cells #[] 103)).ownsRow w.heap.size 103 5 (.slice (some ⟨w.heap.size + 1, 0, none⟩) 0 0) 0 [] := by
    have := World.ownsRow_made (e := 103) (size := 5) (base := w.heap.size) (w.alloc (.cells #[] 103)) #[] 0 (by rw [World.size_alloc]; omega) (by decide) rfl
    rw [World.size_alloc] at this
    exact this
  have Hs := Lib.hid (And.intro hbW (And.intro hs1 hs2))
  clear hN hL hO hG hbW hs1 hs2 hpn
  go_enter Try.func68, Try.ntmps68
  go_wp2_with fail
  go_loopw [5, 6, 7] (fun v5 v6 i wr => ∃ j : Nat, j ≤ N ∧ i = .int .i64 j ∧ wr.ownsRow w.heap.size 103 5 v5 ((S.op.take j).filter f).length (pks ((S.op.take j).filter f)) ∧
      wr.ownsRow w.heap.size 103 5 v6 ((S.op.take j).filter (fun p => !f p)).length (pks ((S.op.take j).filter (fun p => !f p))) ∧ (∀ k, v5.ownBlock = some k → v6.ownBlock ≠ some k) ∧ Below w.heap.size w wr) (fun _ _ i _ => N - (intOf i).toNat)
  case atStart => exact ⟨0, by omega, rfl, Hs.out.2.1, Hs.out.2.2, fun k hk e => by simp only [Value.ownBlock, Option.some.injEq] at hk e; omega, Hs.out.1⟩
  case round =>
    obtain ⟨j, hj, rfl, h5, h6, hne, hbw⟩ := hrel
    have e0 := (hbw.cell (p := ⟨b, 0, none⟩) hbl).trans hc0
    have hblr := Nat.lt_of_lt_of_le hbl hbw.size
    by_cases hlt : j < N
    · have hjl : j < S.op.length := by rw [HN.out]; exact hlt
      obtain ⟨q, hq⟩ : ∃ q, S.op[j] = q := ⟨_, rfl⟩
      have hq2 : S.op[j]? = some q := by rw [List.getElem?_eq_getElem hjl, hq]
      obtain ⟨g1, cap1, hv, hgB, hg1, k0, k1, k2, k3, k4⟩ := rpk_cells HO.out j q hq2
      injection hv with hv1 hv2 hv3
      subst hv1
      have htk : S.op.take (j + 1) = S.op.take j ++ [q] := by rw [List.take_succ_eq_append_getElem hjl, hq]
      have x0 := (hbw.cell (p := ⟨g1, j * 5, none⟩) hg1).trans k0
      have x1 := (hbw.cell (p := ⟨g1, j * 5 + 1, none⟩) hg1).trans k1
      have x2 := (hbw.cell (p := ⟨g1, j * 5 + 2, none⟩) hg1).trans k2
      have x3 := (hbw.cell (p := ⟨g1, j * 5 + 3, none⟩) hg1).trans k3
      have x4 := (hbw.cell (p := ⟨g1, j * 5 + 4, none⟩) hg1).trans k4
      obtain ⟨fq, hfq⟩ : ∃ fq, f q = fq := ⟨_, rfl⟩
      have y0 := (hbw.cell (p := ⟨gg, j, none⟩) hgg).trans (HG.out j q hq2)
      rw [hfq] at y0
      have H5 := Lib.hid h5
      have H6 := Lib.hid h6
      have Hne := Lib.hid hne
      have Hbw := Lib.hid hbw
      have Hfq := Lib.hid hfq
      have Htk := Lib.hid htk
      clear h5 h6 hne hbw hq hq2 hfq htk k0 k1 k2 k3 k4 hv2 hv3
      obtain ⟨i0, hi0, hz0, hz1, hz2⟩ := info_parts Try.infoR10
      have hf1 := List.length_filter_le f (S.op.take j)
      have hf2 := List.length_filter_le (fun p => !f p) (S.op.take j)
      have hf3 : (S.op.take j).length ≤ j := List.length_take_le _ _
      have hsz := Hbw.out.size
      cases fq
      · have e5 : (S.op.take (j + 1)).filter f = (S.op.take j).filter f := by
          rw [Htk.out, List.filter_append, List.filter_cons_of_neg (by rw [Hfq.out]; simp), List.filter_nil, List.append_nil]
        have e6 : (S.op.take (j + 1)).filter (fun p => !f p) = (S.op.take j).filter (fun p => !f p) ++ [q] := by
          rw [Htk.out, List.filter_append, List.filter_cons_of_pos (by rw [Hfq.out]; rfl), List.filter_nil]
        have E5 := Lib.hid e5
        have E6 := Lib.hid e6
        clear e5 e6
        go_wp2_with (at_builtin; refine wpList_append_new wr rfl _ _ 66 rfl w.heap.size 103 i0 _ 5 56 Try.underlying66 hi0 hz0 hz1 hz2 rfl (by decide) u6 _ _ H6.out q.vals _ rfl rfl (by intro u hu; simp [Pk.vals] at hu; rcases hu with rfl | rfl | rfl | rfl | rfl <;> rfl) (by omega) (by decide) hsz rfl rfl ?_)
        intro v' w' ho3 hon3 hat3
        have h6 : w'.ownsRow w.heap.size 103 5 v' ((S.op.take (j + 1)).filter (fun p => !f p)).length (pks ((S.op.take (j + 1)).filter (fun p => !f p))) := by
          rw [E6.out, pks_append, pks_one, List.length_append]
          exact ho3
        have h5 : w'.ownsRow w.heap.size 103 5 u5 ((S.op.take (j + 1)).filter f).length (pks ((S.op.take (j + 1)).filter f)) := by
          rw [E5.out]
          exact own_only H5.out hon3 (fun k hk => Hne.out k hk)
        have hne3 : ∀ k, u5.ownBlock = some k → v'.ownBlock ≠ some k := by
          intro k hk
          rcases hat3 with h | h
          · rw [h]; exact Hne.out k hk
          · rw [h]
            have := (H5.out.lt k hk).2
            intro e
            injection e with e
            omega
        have hbw3 : Below w.heap.size w w' := Hbw.out.trans (hon3.below hsz (fun k hk => (H6.out.lt k hk).1))
        have H56 := Lib.hid (And.intro h5 (And.intro h6 (And.intro hne3 hbw3)))
        clear ho3 hon3 hat3 h5 h6 hne3 hbw3
        go_wp2_with fail
        go_roundw
        case rel => exact ⟨j + 1, by omega, by go_num, H56.out.1, H56.out.2.1, H56.out.2.2.1, H56.out.2.2.2⟩
        case measure => simp [intOf]; omega
      · have e5 : (S.op.take (j + 1)).filter f = (S.op.take j).filter f ++ [q] := by
          rw [Htk.out, List.filter_append, List.filter_cons_of_pos Hfq.out, List.filter_nil]
        have e6 : (S.op.take (j + 1)).filter (fun p => !f p) = (S.op.take j).filter (fun p => !f p) := by
          rw [Htk.out, List.filter_append, List.filter_cons_of_neg (by rw [Hfq.out]; simp), List.filter_nil, List.append_nil]
        have E5 := Lib.hid e5
        have E6 := Lib.hid e6
        clear e5 e6
        go_wp2_with (at_builtin; refine wpList_append_new wr rfl _ _ 66 rfl w.heap.size 103 i0 _ 5 56 Try.underlying66 hi0 hz0 hz1 hz2 rfl (by decide) u5 _ _ H5.out q.vals _ rfl rfl (by intro u hu; simp [Pk.vals] at hu; rcases hu with rfl | rfl | rfl | rfl | rfl <;> rfl) (by omega) (by decide) hsz rfl rfl ?_)
        intro v' w' ho3 hon3 hat3
        have h5 : w'.ownsRow w.heap.size 103 5 v' ((S.op.take (j + 1)).filter f).length (pks ((S.op.take (j + 1)).filter f)) := by
          rw [E5.out, pks_append, pks_one, List.length_append]
          exact ho3
        have h6 : w'.ownsRow w.heap.size 103 5 u6 ((S.op.take (j + 1)).filter (fun p => !f p)).length (pks ((S.op.take (j + 1)).filter (fun p => !f p))) := by
          rw [E6.out]
          exact own_only H6.out hon3 (fun k hk e => Hne.out k e hk)
        have hne3 : ∀ k, v'.ownBlock = some k → u6.ownBlock ≠ some k := by
          intro k hk
          rcases hat3 with h | h
          · rw [h] at hk; exact Hne.out k hk
          · rw [h] at hk
            intro e
            have := (H6.out.lt k e).2
            injection hk with hk
            omega
        have hbw3 : Below w.heap.size w w' := Hbw.out.trans (hon3.below hsz (fun k hk => (H5.out.lt k hk).1))
        have H56 := Lib.hid (And.intro h5 (And.intro h6 (And.intro hne3 hbw3)))
        clear ho3 hon3 hat3 h5 h6 hne3 hbw3
        go_wp2_with fail
        go_roundw
        case rel => exact ⟨j + 1, by omega, by go_num, H56.out.1, H56.out.2.1, H56.out.2.2.1, H56.out.2.2.2⟩
        case measure => simp [intOf]; omega
    · obtain rfl : j = N := by omega
      rw [List.take_of_length_le (by rw [HN.out]; exact Nat.le_refl _)] at h5 h6
      have hblk := HL.out.below hbw hbl
      have hfr := hblk.free 0
      have hset := hblk.set 0 u6
      have ho5 := ownsRow_setCell_other h5 (a := ⟨b, 0, none⟩) (fun e => by have := (h5.lt b e).1; omega) u6
      have ho6 := ownsRow_setCell_other h6 (a := ⟨b, 0, none⟩) (fun e => by have := (h6.lt b e).1; omega) u6
      have hon : Only (fun k => k = b) w (wr.setCell ⟨b, 0, none⟩ u6) := Only.setCell (S := fun k => k = b) (p := ⟨b, 0, none⟩) (Only.ofBelow hbw) (.inl rfl) u6
      have H56 := Lib.hid (And.intro hset (And.intro ho5 (And.intro ho6 (And.intro hne hon))))
      have h6c := own_shape h6
      obtain ⟨p6, cap6, rfl, _⟩ := h6c
      clear hset ho5 ho6 hon h5 h6 hblk hne hbw
      go_wp2_with fail
      go_ret
      exact ⟨_, _, rfl, H56.out.1, H56.out.2.1, H56.out.2.2.1, H56.out.2.2.2.1, H56.out.2.2.2.2⟩

end Go.Proofs.Ytmnmpmiocgfalaa

namespace Go.Proofs.Ytmnmpmiocgfalaa
open Go.ChangeShapes Go.WideShapes Go.RowKit
set_option linter.unusedVariables false

def bools (l : List Bool) : List Value := l.map Value.bool
theorem bools_at {l : List Bool} {i : Nat} {x : Bool} (h : l[i]? = some x) : (bools l)[i]? = some (.bool x) := by unfold bools; rw [List.getElem?_map, h]; rfl
theorem bools_set (l : List Bool) (i : Nat) (x : Bool) : bools (l.set i x) = (bools l).set i (.bool x) := by unfold bools; rw [List.map_set]
theorem bools_zero (n : Nat) : (madeCells #[Value.bool false] n).toList = bools (List.replicate n false) := by
  unfold bools
  rw [toList_madeCells_one, List.map_replicate]

theorem own_blk {w : World} {base : Nat} {e : TypeId} {size n g : Nat} {xs : List Value} (h : w.ownsRow base e size (.slice (some ⟨g, 0, none⟩) n n) n xs) : blk w g e xs := by
  rcases h.2 with ⟨hv, _⟩ | ⟨g', cap, cur, hv, hb, hh, hnc, hcm, hcs, ht⟩
  · cases hv
  · injection hv with h1 h2 h3
    injection h1 with h1
    injection h1 with h1 _ _
    subst h1
    subst h3
    unfold blk
    rw [hh, ← ht, List.take_of_length_le (by rw [Array.length_toList, hcs]; exact Nat.le_refl _)]

/-- The row of what is gone, half through. -/
def Bs (op : List Pk) (bs : List Bool) (f1 f0 : Pk → Bool) (j : Nat) : Prop := bs.length = op.length ∧ ∀ i q, op[i]? = some q → bs[i]? = some (if i < j then f1 q else f0 q)
theorem Bs.start {op : List Pk} {bs : List Bool} {f1 f0 : Pk → Bool} (h1 : bs.length = op.length) (h2 : ∀ (i : Nat) (q : Pk), op[i]? = some q → bs[i]? = some (f0 q)) : Bs op bs f1 f0 0 := ⟨h1, fun i q h => by rw [if_neg (Nat.not_lt_zero i)]; exact h2 i q h⟩
theorem Bs.zero (op : List Pk) (f1 : Pk → Bool) (n : Nat) (hn : op.length = n) : Bs op (List.replicate n false) f1 (fun _ => false) 0 := by
  refine Bs.start (by rw [List.length_replicate, hn]) (fun i q h => ?_)
  rw [List.getElem?_replicate, if_pos (by rw [← hn]; exact (List.getElem?_eq_some_iff.1 h).1)]
theorem Bs.step {op : List Pk} {bs : List Bool} {f1 f0 : Pk → Bool} {j : Nat} {q : Pk} {x : Bool} (h : Bs op bs f1 f0 j) (hq : op[j]? = some q) (hx : f1 q = x) : Bs op (bs.set j x) f1 f0 (j + 1) := by
  refine ⟨by rw [List.length_set]; exact h.1, fun i p hp => ?_⟩
  rw [List.getElem?_set]
  by_cases e : j = i
  · subst e
    rw [hq] at hp
    obtain rfl := Option.some.inj hp
    rw [if_pos rfl, if_pos (by rw [h.1]; exact (List.getElem?_eq_some_iff.1 hq).1), if_pos (Nat.lt_succ_self _), hx]
  · rw [if_neg e, h.2 i p hp]
    by_cases h1 : i < j
    · rw [if_pos h1, if_pos (by omega)]
    · rw [if_neg h1, if_neg (by omega)]
theorem Bs.full {op : List Pk} {bs : List Bool} {f1 f0 : Pk → Bool} {j : Nat} (h : Bs op bs f1 f0 j) (hj : op.length ≤ j) (i : Nat) (q : Pk) (hq : op[i]? = some q) : bs[i]? = some (f1 q) := by
  rw [h.2 i q hq, if_pos (Nat.lt_of_lt_of_le (List.getElem?_eq_some_iff.1 hq).1 hj)]
theorem Bs.at {op : List Pk} {bs : List Bool} {f1 f0 : Pk → Bool} {j : Nat} {q : Pk} (h : Bs op bs f1 f0 j) (hq : op[j]? = some q) : bs[j]? = some (f0 q) := by
  rw [h.2 j q hq, if_neg (Nat.lt_irrefl j)]

theorem take_end {B b : Nat} {v : Value} {S S1 : Lg} {w wr w' : World} {vg vs : Value} {f : Pk → Bool} (h : ROwns B b v S w) (ho : Only (fun k => k = b) w wr) (hop : S1.op = S.op)
    (h1 : blk w' b 80 [vs, .int .i64 (sg S1.li S1.ln), .int .i64 (sg S1.bi S1.bn)])
    (h2 : w'.ownsRow wr.heap.size 103 5 vg (S.op.filter f).length (pks (S.op.filter f))) (h3 : w'.ownsRow wr.heap.size 103 5 vs (S.op.filter (fun p => !f p)).length (pks (S.op.filter (fun p => !f p))))
    (h5 : ∀ k, vg.ownBlock = some k → vs.ownBlock ≠ some k) (h4 : Only (fun k => k = b) wr w') :
    w'.ownsRow w.heap.size 103 5 vg (S.op.filter f).length (pks (S.op.filter f)) ∧ RCame B b v w { S1 with op := S.op.filter (fun p => !f p) } vs w' ∧ ∀ k, vg.ownBlock = some k → vs.ownBlock ≠ some k := by
  have hsz := ho.size
  exact ⟨own_base h2 hsz, ⟨⟨h1, own_base h3 (Nat.le_trans h.bw hsz), Nat.le_trans h.bw (Nat.le_trans hsz h4.size), h.bb⟩, (ho.then h4 (fun i hi => .inl hi)).mono (fun i hi => .inl hi), .inr fun k hk => Nat.le_trans hsz (h3.lt k hk).1⟩, h5⟩

/-- What the reference tells of a split. -/
def RTold (B b : Nat) (v : Value) (S S' : Lg) (w : World) (f : Pk → Bool) (vg : Value) (w' : World) : Prop :=
  ∃ v', w'.ownsRow w.heap.size 103 5 vg (S.op.filter f).length (pks (S.op.filter f)) ∧ RCame B b v w S' v' w' ∧ ∀ k, vg.ownBlock = some k → v'.ownBlock ≠ some k

theorem Try.infoB : (Try.prog.info? 4).map (fun i => (i.zero, i.size, i.bytes)) = some (some (.bool false), 1, 1) := by kernel_rfl

theorem lost_round {G j : Nat} {wr : World} {bs : List Bool} {op : List Pk} {f f0 : Pk → Bool} {q : Pk} {x : Bool} {o : Obj} (hb : blk wr G 4 (bools bs)) (hBs : Bs op bs f f0 j) (hq : op[j]? = some q) (hf : f q = x) :
    Bs op (bs.set j x) f f0 (j + 1) ∧ blk ((wr.setCell ⟨G, j, none⟩ (.bool x)).alloc o) G 4 (bools (bs.set j x)) := by
  refine ⟨hBs.step hq hf, ?_⟩
  rw [bools_set]
  exact (hb.set j _).alloc o

set_option maxRecDepth 100000 in
set_option maxHeartbeats 4000000 in
theorem rLost_any (B b : Nat) (v : Value) (S : Lg) (w : World) (now wait : Nat) (h : ROwns B b v S w) (hI : Inv S) (hnow : now < 2 ^ 64) :
    Calls Try.prog 30 #[.pointer (some ⟨b, 0, none⟩), .int .u64 (now : Int), .int .u64 (wait : Int)] w fun e w' => ∃ vg, e = .returned vg ∧ RTold B b v S { S with op := S.op.filter (fun p => !lostP S.bi S.bn now wait p) } w (lostP S.bi S.bn now wait) vg w' := by
  have hlen := hI.len1
  have hnm : ∀ p ∈ S.op, p.num ≤ 4611686018427387903 := fun p hp => Nat.le_trans (hI.le p hp).1 hI.ln
  obtain ⟨hs1, hs2⟩ := sg_bounds (is := S.bi) (Nat.le_trans hI.bl hI.ln)
  have hbl := h.led.lt
  have hO := h.own
  obtain ⟨p, cap, rfl, hpn⟩ := own_shape hO
  have c0 : w.cell? ⟨b, 0, none⟩ = some (.slice p S.op.length cap) := h.led.cell rfl
  have c2 := h.led.cell (k := 2) rfl
  have hbeh : ∀ q : Pk, decide ((q.num : Int) < sg S.bi S.bn) = behindF S.bi S.bn q.num := fun q => beh_sg S.bi S.bn q.num
  have hfar : ∀ q : Pk, decide ((q.num : Int) + 3 ≤ sg S.bi S.bn) = farF S.bi S.bn q.num := fun q => far_sg S.bi S.bn q.num
  have hf : ∀ q : Pk, lostP S.bi S.bn now wait q = (decide ((q.num : Int) + 3 ≤ sg S.bi S.bn) || (decide ((q.num : Int) < sg S.bi S.bn) && decide (q.time ≤ now) && decide (wait ≤ now - q.time))) := fun q => by rw [hbeh, hfar]; rfl
  obtain ⟨f, hfe⟩ : ∃ f, lostP S.bi S.bn now wait = f := ⟨_, rfl⟩
  rw [hfe] at hf ⊢
  obtain ⟨N, hN⟩ : ∃ N, S.op.length = N := ⟨_, rfl⟩
  obtain ⟨be, hbe⟩ : ∃ x, sg S.bi S.bn = x := ⟨_, rfl⟩
  rw [hbe] at c2 hs1 hs2
  simp only [hbe] at hf
  have Hh := Lib.hid h
  rw [hN] at hpn hlen hO c0
  have HN := Lib.hid hN
  have HO := Lib.hid hO
  have Hnm := Lib.hid hnm
  have Hf := Lib.hid hf
  have Hnow := Lib.hid hnow
  have Hbe := Lib.hid hbe
  clear h hN hO hpn hnm hI hbeh hfar hbe hf hfe hnow
  obtain ⟨i0, hi0, hz0, hz1, hz2⟩ := info_parts Try.infoB
  go_enter Try.func30, Try.ntmps30
  go_wp2_with (at_make; refine wpList_make_full w rfl _ _ 51 rfl w.heap.size 4 i0 _ 1 Try.underlying51 hi0 hz0 hz1 .i64 .i64 _ _ N rfl rfl rfl rfl (by rw [hz2]; omega) (by unfold maxLen; omega) (Nat.le_refl _) ?_)
  intro w1 ho1 hg1
  have hb1 : Below w.heap.size w w1 := (Below.refl _ _).grown hg1 (Nat.le_refl _) (fun k hk => by cases hk)
  have hbg := own_blk ho1
  rw [bools_zero] at hbg
  have Hb1 := Lib.hid hb1
  have Hbg := Lib.hid hbg
  have d0 := (hb1.cell (p := ⟨b, 0, none⟩) hbl).trans c0
  clear ho1 hg1 hb1 hbg
  go_wp2_with fail
  go_loopw [8] (fun i wr => ∃ j : Nat, ∃ bs : List Bool, j ≤ N ∧ i = .int .i64 j ∧ Bs S.op bs f (fun _ => false) j ∧ blk wr w.heap.size 4 (bools bs) ∧ Below w.heap.size w wr) (fun i _ => N - (intOf i).toNat)
  case atStart => exact ⟨0, List.replicate N false, by omega, rfl, Bs.zero _ _ _ HN.out, Hbg.out, Hb1.out⟩
  case round =>
    obtain ⟨j, bs, hj, rfl, hBs, hbg, hbw⟩ := hrel
    have e0 := (hbw.cell (p := ⟨b, 0, none⟩) hbl).trans c0
    have e2 := (hbw.cell (p := ⟨b, 2, none⟩) hbl).trans c2
    have hblr := Nat.lt_of_lt_of_le hbl hbw.size
    have hgl := hbg.lt
    have HBs := Lib.hid hBs
    have Hbg := Lib.hid hbg
    by_cases hlt : j < N
    · have hjl : j < S.op.length := by rw [HN.out]; exact hlt
      obtain ⟨q, hq⟩ : ∃ q, S.op[j] = q := ⟨_, rfl⟩
      have hq2 : S.op[j]? = some q := by rw [List.getElem?_eq_getElem hjl, hq]
      obtain ⟨g1, cap1, hv, hgB, hg1, k0, k1, k2, k3, k4⟩ := rpk_cells HO.out j q hq2
      injection hv with hv1 hv2 hv3
      subst hv1
      have hqm : q ∈ S.op := by rw [← hq]; exact List.getElem_mem _
      have hqn := Hnm.out q hqm
      have hfq := Hf.out q
      have y0 := hbg.cell (k := j) (bools_at (hBs.at hq2))
      have y1 := hbg.free j
      have Hq2 := Lib.hid hq2
      obtain ⟨num, time, size, asks, fa, fl, fc⟩ := q
      simp only at k0 k1 k2 k3 k4 hqn hfq
      have x0 := (hbw.cell (p := ⟨g1, j * 5, none⟩) hg1).trans k0
      have x1 := (hbw.cell (p := ⟨g1, j * 5 + 1, none⟩) hg1).trans k1
      have x2 := (hbw.cell (p := ⟨g1, j * 5 + 2, none⟩) hg1).trans k2
      have x3 := (hbw.cell (p := ⟨g1, j * 5 + 3, none⟩) hg1).trans k3
      have x4 := (hbw.cell (p := ⟨g1, j * 5 + 4, none⟩) hg1).trans k4
      have hg1r := Nat.lt_of_lt_of_le hg1 hbw.size
      have Hbw := Lib.hid hbw
      clear hbw hq hq2 k0 k1 k2 k3 k4 hv2 hv3 hqm hBs hbg
      by_cases h1 : (num : Int) + 3 ≤ be
      · have d1 : decide ((num : Int) + 3 ≤ be) = true := by rw [decide_eq_true_iff]; exact h1
        rw [d1, Bool.true_or] at hfq
        have Hfq := Lib.hid hfq
        clear hfq
        go_wp2_with fail
        go_roundw
        case rel =>
          obtain ⟨r1, r2⟩ := lost_round Hbg.out HBs.out Hq2.out Hfq.out
          exact ⟨j + 1, _, by omega, by go_num, r1, r2, (Hbw.out.setCell (p := ⟨w.heap.size, j, none⟩) (Nat.le_refl _) _).alloc (Hbw.out.setCell (p := ⟨w.heap.size, j, none⟩) (Nat.le_refl _) _).size _⟩
        case measure => simp [intOf]; omega
      · have d1 : decide ((num : Int) + 3 ≤ be) = false := by rw [decide_eq_false_iff_not]; exact h1
        rw [d1, Bool.false_or] at hfq
        by_cases h2 : (num : Int) < be
        · have d2 : decide ((num : Int) < be) = true := by rw [decide_eq_true_iff]; exact h2
          rw [d2, Bool.true_and] at hfq
          by_cases h3 : time ≤ now
          · have d3 : decide (time ≤ now) = true := by rw [decide_eq_true_iff]; exact h3
            rw [d3, Bool.true_and] at hfq
            have hwr := u64_sub now time h3 Hnow.out
            obtain ⟨m, hm⟩ : ∃ m, now - time = m := ⟨_, rfl⟩
            rw [hm] at hwr hfq
            clear hm
            by_cases h4 : wait ≤ m
            · have d4 : decide (wait ≤ m) = true := by rw [decide_eq_true_iff]; exact h4
              rw [d4] at hfq
              have Hfq := Lib.hid hfq
              clear hfq
              go_wp2_with fail
              go_roundw
              case rel =>
                obtain ⟨r1, r2⟩ := lost_round Hbg.out HBs.out Hq2.out Hfq.out
                exact ⟨j + 1, _, by omega, by go_num, r1, r2, (Hbw.out.setCell (p := ⟨w.heap.size, j, none⟩) (Nat.le_refl _) _).alloc (Hbw.out.setCell (p := ⟨w.heap.size, j, none⟩) (Nat.le_refl _) _).size _⟩
              case measure => simp [intOf]; omega
            · have d4 : decide (wait ≤ m) = false := by rw [decide_eq_false_iff_not]; exact h4
              rw [d4] at hfq
              have Hfq := Lib.hid hfq
              clear hfq
              go_wp2_with fail
              go_roundw
              case rel =>
                obtain ⟨r1, r2⟩ := lost_round Hbg.out HBs.out Hq2.out Hfq.out
                exact ⟨j + 1, _, by omega, by go_num, r1, r2, (Hbw.out.setCell (p := ⟨w.heap.size, j, none⟩) (Nat.le_refl _) _).alloc (Hbw.out.setCell (p := ⟨w.heap.size, j, none⟩) (Nat.le_refl _) _).size _⟩
              case measure => simp [intOf]; omega
          · have d3 : decide (time ≤ now) = false := by rw [decide_eq_false_iff_not]; exact h3
            rw [d3, Bool.false_and] at hfq
            have Hfq := Lib.hid hfq
            clear hfq
            go_wp2_with fail
            go_roundw
            case rel =>
              obtain ⟨r1, r2⟩ := lost_round Hbg.out HBs.out Hq2.out Hfq.out
              exact ⟨j + 1, _, by omega, by go_num, r1, r2, (Hbw.out.setCell (p := ⟨w.heap.size, j, none⟩) (Nat.le_refl _) _).alloc (Hbw.out.setCell (p := ⟨w.heap.size, j, none⟩) (Nat.le_refl _) _).size _⟩
            case measure => simp [intOf]; omega
        · have d2 : decide ((num : Int) < be) = false := by rw [decide_eq_false_iff_not]; exact h2
          rw [d2, Bool.false_and, Bool.false_and] at hfq
          have Hfq := Lib.hid hfq
          clear hfq
          go_wp2_with fail
          go_roundw
          case rel =>
            obtain ⟨r1, r2⟩ := lost_round Hbg.out HBs.out Hq2.out Hfq.out
            exact ⟨j + 1, _, by omega, by go_num, r1, r2, (Hbw.out.setCell (p := ⟨w.heap.size, j, none⟩) (Nat.le_refl _) _).alloc (Hbw.out.setCell (p := ⟨w.heap.size, j, none⟩) (Nat.le_refl _) _).size _⟩
          case measure => simp [intOf]; omega
    · obtain rfl : j = N := by omega
      have hled := (Hh.out.next hbw).led
      have hownr := (Hh.out.next hbw).own
      have hT := take_any B b _ _ _ S wr f w.heap.size j hled hownr (by rw [HN.out]; exact hlen) hgl (fun i q hq => hbg.cell (bools_at (hBs.full (by rw [HN.out]; exact Nat.le_refl _) i q hq)))
      rw [HN.out] at hT
      have Hbw := Lib.hid hbw
      have HT := Lib.hid hT
      clear hled hownr hT hbw hbg hBs HBs Hbg
      go_wp2_with fail
      refine HT.out.mono ?_
      rintro e w' ⟨vg, vs, rfl, t1, t2, t3, t5, t4⟩
      have HE := Lib.hid (take_end (S1 := S) Hh.out (Only.ofBelow Hbw.out) rfl t1 t2 t3 t5 t4)
      clear t1 t2 t3 t4 t5
      go_wp2_with fail
      go_ret
      exact ⟨vg, rfl, vs, HE.out⟩

end Go.Proofs.Ytmnmpmiocgfalaa
