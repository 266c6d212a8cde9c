/- Printed by wip/tools/space_tpl.py out of texts of other layers. -/
import Derived.Test.YtmnmpmiocgfalaaRows
import Derived.Test.YtmnmpmiocgfalaaMa

namespace Go.Proofs.Ytmnmpmiocgfalaa
open Go.ChangeShapes Go.WideShapes Go.RowKit
set_option linter.unusedVariables false

/-- A packet. -/
structure Pk where
  num : Nat
  time : Nat
  size : Nat
  asks : Bool
  fa : Option Addr
  fl : Nat
  fc : Nat

def Pk.vals (p : Pk) : List Value := [.int .u64 (p.num : Int), .int .u64 (p.time : Int), .int .u64 (p.size : Int), .bool p.asks, .slice p.fa p.fl p.fc]
def pks (l : List Pk) : List Value := l.flatMap Pk.vals
def pkV (p : Pk) : Value := .agg #[.int .u64 (p.num : Int), .int .u64 (p.time : Int), .int .u64 (p.size : Int), .bool p.asks, .slice p.fa p.fl p.fc]

theorem pks_append (a b : List Pk) : pks (a ++ b) = pks a ++ pks b := by simp [pks]
theorem pks_one (p : Pk) : pks [p] = p.vals := by simp [pks]
theorem pks_length (l : List Pk) : (pks l).length = l.length * 5 := by
  induction l with
  | nil => rfl
  | cons p l ih =>
    have : pks (p :: l) = p.vals ++ pks l := rfl
    rw [this, List.length_append, ih, List.length_cons]
    simp [Pk.vals]
    omega
theorem pks_at (l : List Pk) : ∀ (i : Nat) (p : Pk), l[i]? = some p → ∀ k, k < 5 → (pks l)[i * 5 + k]? = p.vals[k]? := by
  induction l with
  | nil => intro i p h; simp at h
  | cons q l ih =>
    intro i p h k hk
    have e : pks (q :: l) = q.vals ++ pks l := rfl
    have e5 : q.vals.length = 5 := rfl
    rw [e]
    cases i with
    | zero =>
      simp at h
      subst h
      rw [List.getElem?_append_left (by rw [e5]; omega)]
      congr 1
      omega
    | succ i =>
      simp only [List.getElem?_cons_succ] at h
      rw [List.getElem?_append_right (by rw [e5]; omega), e5, ← ih i p h k hk]
      congr 1
      omega

/-- A ledger's numbers. -/
structure Lg where
  op : List Pk
  ln : Nat
  li : Bool
  bn : Nat
  bi : Bool

def Lg.cells (S : Lg) (v : Value) (rest : List Value) : List Value := v :: .int .u64 (S.ln : Int) :: .bool S.li :: .int .u64 (S.bn : Int) :: .bool S.bi :: rest

/-- A ledger lies at the head of block b. -/
def LedIs (w : World) (b : Nat) (T : TypeId) (rest : List Value) (v : Value) (S : Lg) : Prop := blk w b T (S.cells v rest)

def behindF (bi : Bool) (bn num : Nat) : Bool := bi && decide (num < bn)
def farF (bi : Bool) (bn num : Nat) : Bool := behindF bi bn num && decide (3 ≤ bn - num)

set_option maxRecDepth 100000 in
set_option maxHeartbeats 1000000 in
theorem late_any (b : Nat) (num time size : Nat) (asks : Bool) (fr : Value) (bn : Nat) (bi : Bool) (w : World) (hb : b < w.heap.size) (hn : w.cell? ⟨b, 3, none⟩ = some (.int .u64 (bn : Int))) (hi : w.cell? ⟨b, 4, none⟩ = some (.bool bi)) (hbn : bn < 2 ^ 63) :
    Calls Try.prog 57 #[.pointer (some ⟨b, 0, none⟩), .agg #[.int .u64 (num : Int), .int .u64 (time : Int), .int .u64 (size : Int), .bool asks, fr]] w fun e w' => e = .returned (.tuple #[.bool (farF bi bn num), .bool (behindF bi bn num)]) ∧ Below w.heap.size w w' := by
  cases bi
  · have h1 : farF false bn num = false := rfl
    have h2 : behindF false bn num = false := rfl
    rw [h1, h2]
    clear h1 h2
    go_enter Try.func57, Try.ntmps57
    go_wp2_with fail
    go_quiet (fail)
    go_wp2_with fail
    go_quiet (fail)
    go_wp2_with fail
    go_ret2
    exact ⟨rfl, below_drewN (below_drewN ((Below.refl _ _).alloc (Nat.le_refl _) _) _) _⟩
  · by_cases hlt : num < bn
    · have h2 : behindF true bn num = true := by simp [behindF, hlt]
      by_cases h3 : 3 ≤ bn - num
      · have h1 : farF true bn num = true := by simp [farF, h2, h3]
        have g1 : decide ((3 : Int) ≤ (bn : Int) - (num : Int)) = true := by rw [decide_eq_true_iff]; omega
        rw [h1, h2]
        clear h1 h2
        go_enter Try.func57, Try.ntmps57
        go_wp2_with fail
        go_quiet (fail)
        go_wp2_with fail
        go_quiet (fail)
        go_wp2_with fail
        go_ret2
        exact ⟨rfl, below_drewN (below_drewN ((Below.refl _ _).alloc (Nat.le_refl _) _) _) _⟩
      · have h1 : farF true bn num = false := by simp only [farF, h2, h3]; rfl
        have g1 : decide ((3 : Int) ≤ (bn : Int) - (num : Int)) = false := by rw [decide_eq_false_iff_not]; omega
        rw [h1, h2]
        clear h1 h2
        go_enter Try.func57, Try.ntmps57
        go_wp2_with fail
        go_quiet (fail)
        go_wp2_with fail
        go_quiet (fail)
        go_wp2_with fail
        go_ret2
        exact ⟨rfl, below_drewN (below_drewN ((Below.refl _ _).alloc (Nat.le_refl _) _) _) _⟩
    · have h2 : behindF true bn num = false := by simp [behindF, hlt]
      have h1 : farF true bn num = false := by simp [farF, h2]
      have g1 : decide (num < bn) = false := by rw [decide_eq_false_iff_not]; exact hlt
      rw [h1, h2]
      clear h1 h2
      go_enter Try.func57, Try.ntmps57
      go_wp2_with fail
      go_quiet (fail)
      go_wp2_with fail
      go_quiet (fail)
      go_wp2_with fail
      go_ret2
      exact ⟨rfl, below_drewN (below_drewN ((Below.refl _ _).alloc (Nat.le_refl _) _) _) _⟩

end Go.Proofs.Ytmnmpmiocgfalaa

namespace Go.Proofs.Ytmnmpmiocgfalaa
open Go.ChangeShapes Go.WideShapes Go.RowKit
set_option linter.unusedVariables false

theorem Try.infoP : (Try.prog.info? 57).map (fun i => (i.zero, i.size, i.bytes)) = some (some (.agg #[.int .u64 0, .int .u64 0, .int .u64 0, .bool false, .slice none 0 0]), 5, 56) := by kernel_rfl

/-- A packet's five cells at the place of element i. -/
theorem pk_cells {w : World} {base : Nat} {v : Value} {n : Nat} {l : List Pk} (h : w.ownsRow base 57 5 v n (pks l)) (i : Nat) (p : Pk) (hp : l[i]? = some p) :
    ∃ g cap, v = .slice (some ⟨g, 0, none⟩) n cap ∧ base ≤ g ∧ g < w.heap.size ∧ w.cell? ⟨g, i * 5, none⟩ = some (.int .u64 (p.num : Int)) ∧ w.cell? ⟨g, i * 5 + 1, none⟩ = some (.int .u64 (p.time : Int)) ∧
      w.cell? ⟨g, i * 5 + 2, none⟩ = some (.int .u64 (p.size : Int)) ∧ w.cell? ⟨g, i * 5 + 3, none⟩ = some (.bool p.asks) ∧ w.cell? ⟨g, i * 5 + 4, none⟩ = some (.slice p.fa p.fl p.fc) := by
  have hl := h.1
  rw [pks_length] at hl
  have hi : i < l.length := (List.getElem?_eq_some_iff.1 hp).1
  obtain ⟨g, cap, hv, hb, hg, hc, _⟩ := own_view h (by omega)
  exact ⟨g, cap, hv, hb, hg, hc _ _ (pks_at l i p hp 0 (by omega)), hc _ _ (pks_at l i p hp 1 (by omega)), hc _ _ (pks_at l i p hp 2 (by omega)), hc _ _ (pks_at l i p hp 3 (by omega)), hc _ _ (pks_at l i p hp 4 (by omega))⟩

set_option maxRecDepth 100000 in
set_option maxHeartbeats 1000000 in
theorem split_any (B b : Nat) (T : TypeId) (rest : List Value) (v : Value) (S : Lg) (w : World) (f : Pk → Bool) (g : Nat) (lb : Array Value)
    (eg : ∀ args w, (callFunc g args).run Try.prog w = .ok (.enter g args) w)
    (hp : ∀ W p, Below w.heap.size w W → Calls Try.prog g (#[pkV p] ++ lb) W fun e w' => e = .returned (.bool (f p)) ∧ Below W.heap.size W w')
    (hL : LedIs w b T rest v S) (hO : w.ownsRow B 57 5 v S.op.length (pks S.op)) (hlen : S.op.length ≤ 1000) :
    Calls Try.prog 55 #[.pointer (some ⟨b, 0, none⟩), .func (.func g) #[] lb] w fun e w' => ∃ vg vs, e = .returned vg ∧ LedIs w' b T rest vs { S with op := S.op.filter (fun p => !f p) } ∧
      w'.ownsRow w.heap.size 57 5 vg (S.op.filter f).length (pks (S.op.filter f)) ∧ w'.ownsRow w.heap.size 57 5 vs (S.op.filter (fun p => !f p)).length (pks (S.op.filter (fun p => !f p))) ∧ (∀ k, vg.ownBlock = some k → vs.ownBlock ≠ some k) ∧ Only (fun k => k = b) w w' := by
  obtain ⟨p, cap, rfl, hpn⟩ := own_shape hO
  obtain ⟨N, hN⟩ : ∃ N, S.op.length = N := ⟨_, rfl⟩
  have hbl := hL.lt
  have hc0 : w.cell? ⟨b, 0, none⟩ = some (.slice p S.op.length cap) := hL.cell rfl
  rw [hN] at hc0 hlen hpn
  have HN := Lib.hid hN
  have HL := Lib.hid hL
  have HO := Lib.hid hO
  have HP := Lib.hid hp
  clear hN hL hO hp
  go_enter Try.func55, Try.ntmps55
  go_wp2_with fail
  go_loopw [5, 6, 14] (fun v5 v6 i wr => ∃ j : Nat, j ≤ N ∧ i = .int .i64 j ∧ wr.ownsRow w.heap.size 57 5 v5 ((S.op.take j).filter f).length (pks ((S.op.take j).filter f)) ∧
      wr.ownsRow w.heap.size 57 5 v6 ((S.op.take j).filter (fun p => !f p)).length (pks ((S.op.take j).filter (fun p => !f p))) ∧ (∀ k, v5.ownBlock = some k → v6.ownBlock ≠ some k) ∧ Below w.heap.size w wr) (fun _ _ i _ => N - (intOf i).toNat)
  case atStart => exact ⟨0, by omega, rfl, World.ownsRow_nil _ _ _ _, World.ownsRow_nil _ _ _ _, fun k hk => by simp [Value.ownBlock] at hk, Below.refl _ _⟩
  case round =>
    obtain ⟨j, hj, rfl, h5, h6, hne, hbw⟩ := hrel
    by_cases hlt : j < N
    · have hjl : j < S.op.length := by rw [HN.out]; exact hlt
      obtain ⟨q, hq⟩ : ∃ q, S.op[j] = q := ⟨_, rfl⟩
      have hq2 : S.op[j]? = some q := by rw [List.getElem?_eq_getElem hjl, hq]
      obtain ⟨g1, cap1, hv, hgB, hg1, k0, k1, k2, k3, k4⟩ := pk_cells HO.out j q hq2
      injection hv with hv1 hv2 hv3
      subst hv1
      have htk : S.op.take (j + 1) = S.op.take j ++ [q] := by rw [List.take_succ_eq_append_getElem hjl, hq]
      have c0 := (hbw.cell (p := ⟨g1, j * 5, none⟩) hg1).trans k0
      have c1 := (hbw.cell (p := ⟨g1, j * 5 + 1, none⟩) hg1).trans k1
      have c2 := (hbw.cell (p := ⟨g1, j * 5 + 2, none⟩) hg1).trans k2
      have c3 := (hbw.cell (p := ⟨g1, j * 5 + 3, none⟩) hg1).trans k3
      have c4 := (hbw.cell (p := ⟨g1, j * 5 + 4, none⟩) hg1).trans k4
      have hcall := HP.out (wr.alloc (.cells #[.int .u64 (q.num : Int), .int .u64 (q.time : Int), .int .u64 (q.size : Int), .bool q.asks, .slice q.fa q.fl q.fc] 57)) q (hbw.alloc hbw.size _)
      unfold pkV at hcall
      obtain ⟨fq, hfq⟩ : ∃ fq, f q = fq := ⟨_, rfl⟩
      rw [hfq] at hcall
      have H5 := Lib.hid h5
      have H6 := Lib.hid h6
      have Hne := Lib.hid hne
      have Hbw := Lib.hid hbw
      have Hq := Lib.hid hq
      have Hfq := Lib.hid hfq
      have Htk := Lib.hid htk
      have HC := Lib.hid hcall
      clear h5 h6 hne hbw hq hq2 hfq htk k0 k1 k2 k3 k4 hcall hv2 hv3
      go_wp2_with fail
      refine HC.out.mono ?_
      rintro e w2 ⟨rfl, hb2⟩
      have hblk := (blk.new wr 57 [.int .u64 (q.num : Int), .int .u64 (q.time : Int), .int .u64 (q.size : Int), .bool q.asks, .slice q.fa q.fl q.fc]).below hb2 (by simp)
      have hbw2 : Below w.heap.size w w2 := (Hbw.out.alloc Hbw.out.size _).trans (hb2.mono (by have := Hbw.out.size; simp; omega))
      have hwr2 : Below wr.heap.size wr w2 := ((Below.refl _ _).alloc (Nat.le_refl _) _).trans (hb2.mono (by simp))
      have d0 := hblk.cell (k := 0) rfl
      have d1 := hblk.cell (k := 1) rfl
      have d2 := hblk.cell (k := 2) rfl
      have d3 := hblk.cell (k := 3) rfl
      have d4 := hblk.cell (k := 4) rfl
      have h5 := own_below H5.out hwr2
      have h6 := own_below H6.out hwr2
      have H5 := Lib.hid h5
      have H6 := Lib.hid h6
      have Hbw2 := Lib.hid hbw2
      clear hb2 hblk hbw2 hwr2 h5 h6 Hbw HC
      obtain ⟨i0, hi0, hz0, hz1, hz2⟩ := info_parts Try.infoP
      have hf1 := List.length_filter_le f (S.op.take j)
      have hf2 := List.length_filter_le (fun p => !f p) (S.op.take j)
      have hf3 : (S.op.take j).length ≤ j := List.length_take_le _ _
      have hsz := Hbw2.out.size
      cases fq
      · have e5 : (S.op.take (j + 1)).filter f = (S.op.take j).filter f := by
          rw [Htk.out, List.filter_append, List.filter_cons_of_neg (by rw [Hfq.out]; simp), List.filter_nil, List.append_nil]
        have e6 : (S.op.take (j + 1)).filter (fun p => !f p) = (S.op.take j).filter (fun p => !f p) ++ [q] := by
          rw [Htk.out, List.filter_append, List.filter_cons_of_pos (by rw [Hfq.out]; rfl), List.filter_nil]
        have E5 := Lib.hid e5
        have E6 := Lib.hid e6
        clear e5 e6
        go_wp2_with (at_builtin; refine wpList_append_new w2 rfl _ _ 24 rfl w.heap.size 57 i0 _ 5 56 Try.underlying24 hi0 hz0 hz1 hz2 rfl (by decide) u6 _ _ H6.out q.vals _ rfl rfl (by intro u hu; simp [Pk.vals] at hu; rcases hu with rfl | rfl | rfl | rfl | rfl <;> rfl) (by omega) (by decide) hsz rfl rfl ?_)
        intro v' w' ho3 hon3 hat3
        have h6 : w'.ownsRow w.heap.size 57 5 v' ((S.op.take (j + 1)).filter (fun p => !f p)).length (pks ((S.op.take (j + 1)).filter (fun p => !f p))) := by
          rw [E6.out, pks_append, pks_one, List.length_append]
          exact ho3
        have h5 : w'.ownsRow w.heap.size 57 5 u5 ((S.op.take (j + 1)).filter f).length (pks ((S.op.take (j + 1)).filter f)) := by
          rw [E5.out]
          exact own_only H5.out hon3 (fun k hk => Hne.out k hk)
        have hne3 : ∀ k, u5.ownBlock = some k → v'.ownBlock ≠ some k := by
          intro k hk
          rcases hat3 with h | h
          · rw [h]; exact Hne.out k hk
          · rw [h]
            have := (H5.out.lt k hk).2
            intro e
            injection e with e
            omega
        have hbw3 : Below w.heap.size w w' := Hbw2.out.trans (hon3.below hsz (fun k hk => (H6.out.lt k hk).1))
        have H56 := Lib.hid (And.intro h5 (And.intro h6 (And.intro hne3 hbw3)))
        clear ho3 hon3 hat3 h5 h6 hne3 hbw3
        go_wp2_with fail
        go_roundw
        case rel => exact ⟨j + 1, by omega, by go_num, H56.out.1, H56.out.2.1, H56.out.2.2.1, H56.out.2.2.2⟩
        case measure => simp [intOf]; omega
      · have e5 : (S.op.take (j + 1)).filter f = (S.op.take j).filter f ++ [q] := by
          rw [Htk.out, List.filter_append, List.filter_cons_of_pos Hfq.out, List.filter_nil]
        have e6 : (S.op.take (j + 1)).filter (fun p => !f p) = (S.op.take j).filter (fun p => !f p) := by
          rw [Htk.out, List.filter_append, List.filter_cons_of_neg (by rw [Hfq.out]; simp), List.filter_nil, List.append_nil]
        have E5 := Lib.hid e5
        have E6 := Lib.hid e6
        clear e5 e6
        go_wp2_with (at_builtin; refine wpList_append_new w2 rfl _ _ 24 rfl w.heap.size 57 i0 _ 5 56 Try.underlying24 hi0 hz0 hz1 hz2 rfl (by decide) u5 _ _ H5.out q.vals _ rfl rfl (by intro u hu; simp [Pk.vals] at hu; rcases hu with rfl | rfl | rfl | rfl | rfl <;> rfl) (by omega) (by decide) hsz rfl rfl ?_)
        intro v' w' ho3 hon3 hat3
        have h5 : w'.ownsRow w.heap.size 57 5 v' ((S.op.take (j + 1)).filter f).length (pks ((S.op.take (j + 1)).filter f)) := by
          rw [E5.out, pks_append, pks_one, List.length_append]
          exact ho3
        have h6 : w'.ownsRow w.heap.size 57 5 u6 ((S.op.take (j + 1)).filter (fun p => !f p)).length (pks ((S.op.take (j + 1)).filter (fun p => !f p))) := by
          rw [E6.out]
          exact own_only H6.out hon3 (fun k hk e => Hne.out k e hk)
        have hne3 : ∀ k, v'.ownBlock = some k → u6.ownBlock ≠ some k := by
          intro k hk
          rcases hat3 with h | h
          · rw [h] at hk; exact Hne.out k hk
          · rw [h] at hk
            intro e
            have := (H6.out.lt k e).2
            injection hk with hk
            omega
        have hbw3 : Below w.heap.size w w' := Hbw2.out.trans (hon3.below hsz (fun k hk => (H5.out.lt k hk).1))
        have H56 := Lib.hid (And.intro h5 (And.intro h6 (And.intro hne3 hbw3)))
        clear ho3 hon3 hat3 h5 h6 hne3 hbw3
        go_wp2_with fail
        go_roundw
        case rel => exact ⟨j + 1, by omega, by go_num, H56.out.1, H56.out.2.1, H56.out.2.2.1, H56.out.2.2.2⟩
        case measure => simp [intOf]; omega
    · obtain rfl : j = N := by omega
      rw [List.take_of_length_le (by rw [HN.out]; exact Nat.le_refl _)] at h5 h6
      have hblk : LedIs wr b T rest (.slice p S.op.length cap) S := HL.out.below hbw hbl
      have hfr := hblk.free 0
      have hwc := hblk.cell (k := 0) rfl
      rw [HN.out] at hwc
      have hset := hblk.set 0 u6
      have ho5 := ownsRow_setCell_other h5 (a := ⟨b, 0, none⟩) (fun e => by have := (h5.lt b e).1; omega) u6
      have ho6 := ownsRow_setCell_other h6 (a := ⟨b, 0, none⟩) (fun e => by have := (h6.lt b e).1; omega) u6
      have hon : Only (fun k => k = b) w (wr.setCell ⟨b, 0, none⟩ u6) := Only.setCell (S := fun k => k = b) (p := ⟨b, 0, none⟩) (Only.ofBelow hbw) (.inl rfl) u6
      have H56 := Lib.hid (And.intro hset (And.intro ho5 (And.intro ho6 (And.intro hne hon))))
      have h6c := own_shape h6
      obtain ⟨p6, cap6, rfl, _⟩ := h6c
      clear hset ho5 ho6 hon h5 h6 hblk hne hbw
      go_wp2_with fail
      go_ret
      exact ⟨_, _, rfl, H56.out.1, H56.out.2.1, H56.out.2.2.1, H56.out.2.2.2.1, H56.out.2.2.2.2⟩

end Go.Proofs.Ytmnmpmiocgfalaa

namespace Go.Proofs.Ytmnmpmiocgfalaa
open Go.ChangeShapes Go.WideShapes Go.RowKit
set_option linter.unusedVariables false

def badNum (S : Lg) (num : Nat) : Bool := decide (4611686018427387903 < num) || (S.li && decide (num ≤ S.ln))
def sentBad (S : Lg) (p : Pk) : Bool := badNum S p.num || decide (1099511627776 < p.time) || decide (1099511627776 < p.size)
/-- What Sent does, and answers. -/
def sentF (S : Lg) (p : Pk) : Lg × Int :=
  if sentBad S p then (S, 3) else if 500 ≤ S.op.length then (S, 4) else ({ S with op := S.op ++ [p], ln := p.num, li := true }, 0)

/-- The end of a Sent that goes well. -/
theorem sent_end {B b : Nat} {T : TypeId} {rest : List Value} {v v4 : Value} {S : Lg} {w w3 w4 : World} {N num : Nat} {q : Pk} (hN : S.op.length = N) (hv : v.ownBlock ≠ some b) (hbB : B ≤ b) (hbl : b < w.heap.size)
    (hT : T ≠ 57) (hT2 : T ≠ 43) {frs : List Value} {vf : Value} {fl Bf : Nat} {p3 : Option Addr} {N3 cap3 : Nat} (hv3 : v = .slice p3 N3 cap3) (hO3 : w3.ownsRow B 57 5 v N3 (pks S.op)) (hfr : w3.ownsRow Bf 43 8 vf fl frs) (hw3 : Below w.heap.size w w3) (hon : Only (fun k => v.ownBlock = some k) w3.drew w4) (hL4 : LedIs w4 b T rest v S) (ho : w4.ownsRow B 57 5 v4 (N + 1) (pks S.op ++ q.vals))
    (hat : v4.ownBlock = v.ownBlock ∨ v4.ownBlock = some (w3.drew.heap.size + 1)) (hq : q.num = num) :
    ∃ v', LedIs (((w4.setCell ⟨b, 0, none⟩ v4).setCell ⟨b, 1, none⟩ (.int .u64 (num : Int))).setCell ⟨b, 2, none⟩ (.bool true)) b T rest v' { S with op := S.op ++ [q], ln := num, li := true } ∧
      (((w4.setCell ⟨b, 0, none⟩ v4).setCell ⟨b, 1, none⟩ (.int .u64 (num : Int))).setCell ⟨b, 2, none⟩ (.bool true)).ownsRow B 57 5 v' (S.op.length + 1) (pks (S.op ++ [q])) ∧
      Only (fun k => k = b ∨ v.ownBlock = some k) w (((w4.setCell ⟨b, 0, none⟩ v4).setCell ⟨b, 1, none⟩ (.int .u64 (num : Int))).setCell ⟨b, 2, none⟩ (.bool true)) ∧
      (v'.ownBlock = v.ownBlock ∨ ∀ k, v'.ownBlock = some k → w.heap.size ≤ k) ∧
      (((w4.setCell ⟨b, 0, none⟩ v4).setCell ⟨b, 1, none⟩ (.int .u64 (num : Int))).setCell ⟨b, 2, none⟩ (.bool true)).ownsRow Bf 43 8 vf fl frs := by
  have hne : v4.ownBlock ≠ some b := own_ne ho hL4 hT
  have hfr4 : w4.ownsRow Bf 43 8 vf fl frs := own_only (w := w3.drew) hfr hon (fun k hk e => own_ne2 hfr hO3 (by decide) k hk e)
  have hnf : vf.ownBlock ≠ some b := own_ne hfr4 hL4 hT2
  refine ⟨v4, ?_, ?_, ?_, ?_, ownsRow_setCell_other (ownsRow_setCell_other (ownsRow_setCell_other hfr4 (a := ⟨b, 0, none⟩) hnf _) (a := ⟨b, 1, none⟩) hnf _) (a := ⟨b, 2, none⟩) hnf _⟩
  · exact ((blk.set hL4 0 v4).set 1 _).set 2 _
  · rw [hN, pks_append, pks_one]
    exact ownsRow_setCell_other (ownsRow_setCell_other (ownsRow_setCell_other ho (a := ⟨b, 0, none⟩) hne _) (a := ⟨b, 1, none⟩) hne _) (a := ⟨b, 2, none⟩) hne _
  · have h0 : Only (fun k => k = b ∨ v.ownBlock = some k) w w4 := (Only.drew (Only.ofBelow hw3)).then hon (fun i hi => .inl (.inr hi))
    exact Only.setCell (p := ⟨b, 2, none⟩) (Only.setCell (p := ⟨b, 1, none⟩) (Only.setCell (p := ⟨b, 0, none⟩) h0 (.inl (.inl rfl)) _) (.inl (.inl rfl)) _) (.inl (.inl rfl)) _
  · rcases hat with h | h
    · exact .inl h
    · refine .inr (fun k hk => ?_)
      rw [h] at hk
      injection hk with hk
      have := hw3.size
      have : w3.drew.heap.size = w3.heap.size := rfl
      omega

set_option maxRecDepth 100000 in
set_option maxHeartbeats 1000000 in
theorem sent_ok (B b : Nat) (T : TypeId) (rest : List Value) (v : Value) (S : Lg) (w : World) (num time size : Nat) (asks : Bool) (fin : Value) (fl : Nat) (frs : List Value)
    (hcl : ∀ W, Below w.heap.size w W → Calls Try.prog 75 #[fin] W fun e w' => ∃ fa fc, e = .returned (.slice fa fl fc) ∧ Below W.heap.size W w' ∧ w'.ownsRow W.heap.size 43 8 (.slice fa fl fc) fl frs) (hT2 : T ≠ 43)
    (hL : LedIs w b T rest v S) (hO : w.ownsRow B 57 5 v S.op.length (pks S.op)) (hBw : B ≤ w.heap.size) (hBb : B ≤ b) (hT : T ≠ 57)
    (h1 : num ≤ 4611686018427387903) (hln : S.ln < 2 ^ 63) (h2 : S.li = true → S.ln < num) (h3 : time ≤ 1099511627776) (h4 : size ≤ 1099511627776) (h5 : S.op.length < 500) :
    Calls Try.prog 50 #[.pointer (some ⟨b, 0, none⟩), .agg #[.int .u64 (num : Int), .int .u64 (time : Int), .int .u64 (size : Int), .bool asks, fin]] w fun e w' => e = .returned (.int .i64 0) ∧
      ∃ fa fc v', LedIs w' b T rest v' { S with op := S.op ++ [⟨num, time, size, asks, fa, fl, fc⟩], ln := num, li := true } ∧ w'.ownsRow B 57 5 v' (S.op.length + 1) (pks (S.op ++ [⟨num, time, size, asks, fa, fl, fc⟩])) ∧ Only (fun k => k = b ∨ v.ownBlock = some k) w w' ∧ (v'.ownBlock = v.ownBlock ∨ ∀ k, v'.ownBlock = some k → w.heap.size ≤ k) ∧ w'.ownsRow w.heap.size 43 8 (.slice fa fl fc) fl frs := by
  obtain ⟨p, cap, rfl, hpn⟩ := own_shape hO
  obtain ⟨N, hN⟩ : ∃ N, S.op.length = N := ⟨_, rfl⟩
  have hbl := hL.lt
  have c0 : w.cell? ⟨b, 0, none⟩ = some (.slice p S.op.length cap) := hL.cell rfl
  have c1 : w.cell? ⟨b, 1, none⟩ = some (.int .u64 (S.ln : Int)) := hL.cell rfl
  have c2 : w.cell? ⟨b, 2, none⟩ = some (.bool S.li) := hL.cell rfl
  obtain ⟨ln, hlne⟩ : ∃ x, S.ln = x := ⟨_, rfl⟩
  obtain ⟨li, hli⟩ : ∃ x, S.li = x := ⟨_, rfl⟩
  rw [hN] at c0 h5
  rw [hlne] at c1 h2 hln
  rw [hli] at c2 h2
  have HN := Lib.hid hN
  have HL := Lib.hid hL
  have HO := Lib.hid hO
  have HC := Lib.hid hcl
  clear hN hL hO hcl hlne hli
  have hW : ∀ nq, Below w.heap.size w ((w.alloc (.cells #[.int .u64 (num : Int), .int .u64 (time : Int), .int .u64 (size : Int), .bool asks, fin] 57)).drewN nq) := fun nq => below_drewN ((Below.refl _ _).alloc (Nat.le_refl _) _) _
  have HW := Lib.hid hW
  clear hW
  cases li
  · clear h2
    go_enter Try.func50, Try.ntmps50
    go_wp2_with fail
    go_quiet (fail)
    go_wp2_with fail
    refine (HC.out _ (HW.out nq)).mono ?_
    rintro e w2 ⟨fa, fc, rfl, hb2, hfr⟩
    have hbx := (((blk.new w 57 [.int .u64 (num : Int), .int .u64 (time : Int), .int .u64 (size : Int), .bool asks, fin]).drewN nq).below hb2 (by simp))
    have hw2 : Below w.heap.size w w2 := (HW.out nq).trans (hb2.mono (by simp))
    have hbx2 := hbx.set 4 (.slice fa fl fc)
    have hf := hbx.free 4
    have hx4 := hbx.cell (k := 4) rfl
    have hw3 : Below w.heap.size w (w2.setCell ⟨w.heap.size, 4, none⟩ (.slice fa fl fc)) := hw2.setCell (Nat.le_refl _) _
    obtain ⟨w3, hw3e⟩ : ∃ w3, w2.setCell ⟨w.heap.size, 4, none⟩ (.slice fa fl fc) = w3 := ⟨_, rfl⟩
    rw [hw3e] at hbx2 hw3
    have hfr3 : w3.ownsRow w.heap.size 43 8 (.slice fa fl fc) fl frs := by rw [← hw3e]; exact ownsRow_setCell_other (own_base hfr (HW.out nq).size) (a := ⟨w.heap.size, 4, none⟩) (own_ne hfr hbx (by decide)) _
    have HFR := Lib.hid hfr3
    clear hb2 hbx hw2 hfr hfr3
    go_wp2_with fail
    have hL3 : LedIs w3 b T rest (.slice p S.op.length cap) S := HL.out.below hw3 hbl
    have hO3 := own_below HO.out hw3
    rw [HN.out] at hO3
    have e0 := hbx2.cell (k := 0) rfl
    have e1 := hbx2.cell (k := 1) rfl
    have e2 := hbx2.cell (k := 2) rfl
    have e3 := hbx2.cell (k := 3) rfl
    have e4 := hbx2.cell (k := 4) rfl
    have f0 := hL3.cell (k := 0) rfl
    have f1 := hL3.free 0
    rw [HN.out] at f0
    have hB3 : B ≤ w3.heap.size := Nat.le_trans hBw hw3.size
    obtain ⟨i0, hi0, hz0, hz1, hz2⟩ := info_parts Try.infoP
    have hwl : w.heap.size < w3.heap.size := hbx2.lt
    have hbl3 : b < w3.heap.size := by omega
    have hnb : ¬ (Value.slice p N cap).ownBlock = some b := own_ne hO3 hL3 hT
    have HL3 := Lib.hid hL3
    have HO3 := Lib.hid hO3
    have Hw3 := Lib.hid hw3
    have Hnb := Lib.hid hnb
    clear hL3 hO3 hw3 hw3e hx4 hf hbx2 c0 c1 c2 hnb
    go_region_law ((refine step_append_new w3.drew _ rfl (.tmp 45) (.tmp 47) 24 rfl B 57 i0 _ 5 56 Try.underlying24 hi0 hz0 hz1 hz2 rfl (by decide) (.slice p N cap) N (pks S.op) HO3.out [.int .u64 (num : Int), .int .u64 (time : Int), .int .u64 (size : Int), .bool asks, .slice fa fl fc] _ rfl rfl (by intro u hu; simp at hu; rcases hu with rfl | rfl | rfl | rfl | rfl <;> rfl) (by omega) (by decide) hB3 rfl (by simp [Act.eval]) (by simp [Act.eval]) ?_); (intro v4 w4 ho4 hon4 hat4; obtain ⟨p4, cap4, hv4, _⟩ := own_shape ho4; subst hv4; have f4 := (hon4.cell (p := ⟨b, 0, none⟩) hbl3 Hnb.out).trans f0; have f5 := (hon4.frozen (p := ⟨b, 0, none⟩) hbl3 Hnb.out).trans f1; have Hon4 := Lib.hid hon4; have Ho4 := Lib.hid ho4; have Hat4 := Lib.hid hat4; clear hon4 ho4 hat4))
    all_goals
      have hL4 : LedIs w4 b T rest (.slice p S.op.length cap) S := blk.only (blk.drew HL3.out) Hon4.out Hnb.out
      have hx : ¬ (Value.slice p N cap).ownBlock = some w.heap.size := by
        intro e
        have := HO.out.lt w.heap.size (by rw [HN.out]; exact e)
        omega
      have Hnb0 : Hid ((Value.slice p S.op.length cap).ownBlock ≠ some b) := by rw [HN.out]; exact Hnb.out
      have k0 := (Hon4.out.cell (p := ⟨w.heap.size, 0, none⟩) hwl hx).trans e0
      have k1 := hL4.cell (k := 1) rfl
      have k2 := hL4.cell (k := 2) rfl
      have k3 := hL4.free 1
      have k4 := hL4.free 2
      clear hx
      have HL4 := Lib.hid hL4
      clear hL4
      go_wp2_with fail
      go_ret
      exact ⟨rfl, fa, fc, sent_end (hT2 := hT2) (hv3 := rfl) (hO3 := by rw [HN.out]; exact HO3.out) (hfr := HFR.out) (q := ⟨num, time, size, asks, fa, fl, fc⟩) HN.out Hnb0.out hBb hbl hT Hw3.out (by rw [HN.out]; exact Hon4.out) HL4.out Ho4.out (by rw [HN.out]; exact Hat4.out) rfl⟩
  · have h2l : ln < num := h2 rfl
    clear h2
    go_enter Try.func50, Try.ntmps50
    go_wp2_with fail
    go_quiet (fail)
    go_wp2_with fail
    refine (HC.out _ (HW.out nq)).mono ?_
    rintro e w2 ⟨fa, fc, rfl, hb2, hfr⟩
    have hbx := (((blk.new w 57 [.int .u64 (num : Int), .int .u64 (time : Int), .int .u64 (size : Int), .bool asks, fin]).drewN nq).below hb2 (by simp))
    have hw2 : Below w.heap.size w w2 := (HW.out nq).trans (hb2.mono (by simp))
    have hbx2 := hbx.set 4 (.slice fa fl fc)
    have hf := hbx.free 4
    have hx4 := hbx.cell (k := 4) rfl
    have hw3 : Below w.heap.size w (w2.setCell ⟨w.heap.size, 4, none⟩ (.slice fa fl fc)) := hw2.setCell (Nat.le_refl _) _
    obtain ⟨w3, hw3e⟩ : ∃ w3, w2.setCell ⟨w.heap.size, 4, none⟩ (.slice fa fl fc) = w3 := ⟨_, rfl⟩
    rw [hw3e] at hbx2 hw3
    have hfr3 : w3.ownsRow w.heap.size 43 8 (.slice fa fl fc) fl frs := by rw [← hw3e]; exact ownsRow_setCell_other (own_base hfr (HW.out nq).size) (a := ⟨w.heap.size, 4, none⟩) (own_ne hfr hbx (by decide)) _
    have HFR := Lib.hid hfr3
    clear hb2 hbx hw2 hfr hfr3
    go_wp2_with fail
    have hL3 : LedIs w3 b T rest (.slice p S.op.length cap) S := HL.out.below hw3 hbl
    have hO3 := own_below HO.out hw3
    rw [HN.out] at hO3
    have e0 := hbx2.cell (k := 0) rfl
    have e1 := hbx2.cell (k := 1) rfl
    have e2 := hbx2.cell (k := 2) rfl
    have e3 := hbx2.cell (k := 3) rfl
    have e4 := hbx2.cell (k := 4) rfl
    have f0 := hL3.cell (k := 0) rfl
    have f1 := hL3.free 0
    rw [HN.out] at f0
    have hB3 : B ≤ w3.heap.size := Nat.le_trans hBw hw3.size
    obtain ⟨i0, hi0, hz0, hz1, hz2⟩ := info_parts Try.infoP
    have hwl : w.heap.size < w3.heap.size := hbx2.lt
    have hbl3 : b < w3.heap.size := by omega
    have hnb : ¬ (Value.slice p N cap).ownBlock = some b := own_ne hO3 hL3 hT
    have HL3 := Lib.hid hL3
    have HO3 := Lib.hid hO3
    have Hw3 := Lib.hid hw3
    have Hnb := Lib.hid hnb
    clear hL3 hO3 hw3 hw3e hx4 hf hbx2 c0 c1 c2 hnb
    go_region_law ((refine step_append_new w3.drew _ rfl (.tmp 45) (.tmp 47) 24 rfl B 57 i0 _ 5 56 Try.underlying24 hi0 hz0 hz1 hz2 rfl (by decide) (.slice p N cap) N (pks S.op) HO3.out [.int .u64 (num : Int), .int .u64 (time : Int), .int .u64 (size : Int), .bool asks, .slice fa fl fc] _ rfl rfl (by intro u hu; simp at hu; rcases hu with rfl | rfl | rfl | rfl | rfl <;> rfl) (by omega) (by decide) hB3 rfl (by simp [Act.eval]) (by simp [Act.eval]) ?_); (intro v4 w4 ho4 hon4 hat4; obtain ⟨p4, cap4, hv4, _⟩ := own_shape ho4; subst hv4; have f4 := (hon4.cell (p := ⟨b, 0, none⟩) hbl3 Hnb.out).trans f0; have f5 := (hon4.frozen (p := ⟨b, 0, none⟩) hbl3 Hnb.out).trans f1; have Hon4 := Lib.hid hon4; have Ho4 := Lib.hid ho4; have Hat4 := Lib.hid hat4; clear hon4 ho4 hat4))
    all_goals
      have hL4 : LedIs w4 b T rest (.slice p S.op.length cap) S := blk.only (blk.drew HL3.out) Hon4.out Hnb.out
      have hx : ¬ (Value.slice p N cap).ownBlock = some w.heap.size := by
        intro e
        have := HO.out.lt w.heap.size (by rw [HN.out]; exact e)
        omega
      have Hnb0 : Hid ((Value.slice p S.op.length cap).ownBlock ≠ some b) := by rw [HN.out]; exact Hnb.out
      have k0 := (Hon4.out.cell (p := ⟨w.heap.size, 0, none⟩) hwl hx).trans e0
      have k1 := hL4.cell (k := 1) rfl
      have k2 := hL4.cell (k := 2) rfl
      have k3 := hL4.free 1
      have k4 := hL4.free 2
      clear hx
      have HL4 := Lib.hid hL4
      clear hL4
      go_wp2_with fail
      go_ret
      exact ⟨rfl, fa, fc, sent_end (hT2 := hT2) (hv3 := rfl) (hO3 := by rw [HN.out]; exact HO3.out) (hfr := HFR.out) (q := ⟨num, time, size, asks, fa, fl, fc⟩) HN.out Hnb0.out hBb hbl hT Hw3.out (by rw [HN.out]; exact Hon4.out) HL4.out Ho4.out (by rw [HN.out]; exact Hat4.out) rfl⟩

/-- Packets and numbers that are refused. -/
theorem sent_bad (b : Nat) (T : TypeId) (rest : List Value) (v : Value) (S : Lg) (w : World) (num time size : Nat) (asks : Bool) (fin : Value)
    (hL : LedIs w b T rest v S) (hnum : num < 2 ^ 64) (hln : S.ln < 2 ^ 63) (hbad : sentBad S ⟨num, time, size, asks, none, 0, 0⟩ = true) :
    Calls Try.prog 50 #[.pointer (some ⟨b, 0, none⟩), .agg #[.int .u64 (num : Int), .int .u64 (time : Int), .int .u64 (size : Int), .bool asks, fin]] w fun e w' => e = .returned (.int .i64 3) ∧ Below w.heap.size w w' := by
  have hbl := hL.lt
  have c1 : w.cell? ⟨b, 1, none⟩ = some (.int .u64 (S.ln : Int)) := hL.cell rfl
  have c2 : w.cell? ⟨b, 2, none⟩ = some (.bool S.li) := hL.cell rfl
  unfold sentBad badNum at hbad
  simp only at hbad
  obtain ⟨ln, hlne⟩ : ∃ x, S.ln = x := ⟨_, rfl⟩
  obtain ⟨li, hli⟩ : ∃ x, S.li = x := ⟨_, rfl⟩
  rw [hlne] at c1 hbad hln
  rw [hli] at c2 hbad
  clear hL hlne hli
  by_cases h1 : 4611686018427387903 < num
  · clear hbad
    go_enter Try.func50, Try.ntmps50
    go_wp2_with fail
    go_ret
    exact ⟨rfl, (Below.refl _ _).alloc (Nat.le_refl _) _⟩
  · have h1d : decide (4611686018427387903 < num) = false := by simpa using h1
    rw [h1d, Bool.false_or] at hbad
    clear h1d
    cases li
    · rw [Bool.false_and, Bool.false_or] at hbad
      by_cases h3 : 1099511627776 < time
      · clear hbad
        go_enter Try.func50, Try.ntmps50
        go_wp2_with fail
        go_quiet (fail)
        go_wp2_with fail
        go_ret
        exact ⟨rfl, below_drewN ((Below.refl _ _).alloc (Nat.le_refl _) _) _⟩
      · have h4 : 1099511627776 < size := by
          simp only [Bool.or_eq_true, decide_eq_true_eq] at hbad
          omega
        clear hbad
        go_enter Try.func50, Try.ntmps50
        go_wp2_with fail
        go_quiet (fail)
        go_wp2_with fail
        go_ret
        exact ⟨rfl, below_drewN ((Below.refl _ _).alloc (Nat.le_refl _) _) _⟩
    · rw [Bool.true_and] at hbad
      by_cases h2 : num ≤ ln
      · clear hbad
        go_enter Try.func50, Try.ntmps50
        go_wp2_with fail
        go_quiet (fail)
        go_wp2_with fail
        go_ret
        exact ⟨rfl, below_drewN ((Below.refl _ _).alloc (Nat.le_refl _) _) _⟩
      · have h2l : ln < num := by omega
        have h2d : decide (num ≤ ln) = false := by simpa using h2
        rw [h2d, Bool.false_or] at hbad
        by_cases h3 : 1099511627776 < time
        · clear hbad
          go_enter Try.func50, Try.ntmps50
          go_wp2_with fail
          go_quiet (fail)
          go_wp2_with fail
          go_ret
          exact ⟨rfl, below_drewN ((Below.refl _ _).alloc (Nat.le_refl _) _) _⟩
        · have h4 : 1099511627776 < size := by
            simp only [Bool.or_eq_true, decide_eq_true_eq] at hbad
            omega
          clear hbad
          go_enter Try.func50, Try.ntmps50
          go_wp2_with fail
          go_quiet (fail)
          go_wp2_with fail
          go_ret
          exact ⟨rfl, below_drewN ((Below.refl _ _).alloc (Nat.le_refl _) _) _⟩

end Go.Proofs.Ytmnmpmiocgfalaa

namespace Go.Proofs.Ytmnmpmiocgfalaa
open Go.ChangeShapes Go.WideShapes Go.RowKit
set_option linter.unusedVariables false

/-- What a ledger has come to behind a call: of old memory only the ledger itself has turned. -/
def CameV (B b : Nat) (T : TypeId) (rest : List Value) (v : Value) (w : World) (S' : Lg) (v' : Value) (w' : World) : Prop :=
  LedIs w' b T rest v' S' ∧ w'.ownsRow B 57 5 v' S'.op.length (pks S'.op) ∧ Only (fun k => k = b ∨ v.ownBlock = some k) w w' ∧ (v'.ownBlock = v.ownBlock ∨ ∀ k, v'.ownBlock = some k → w.heap.size ≤ k)
def Came (B b : Nat) (T : TypeId) (rest : List Value) (v : Value) (w : World) (S' : Lg) (w' : World) : Prop := ∃ v', CameV B b T rest v w S' v' w'

/-- Whose ledger it is. -/
structure Owns (B b : Nat) (T : TypeId) (rest : List Value) (v : Value) (S : Lg) (w : World) : Prop where
  led : LedIs w b T rest v S
  own : w.ownsRow B 57 5 v S.op.length (pks S.op)
  bw : B ≤ w.heap.size
  bb : B ≤ b
  ty : T ≠ 57

theorem Came.same {B b : Nat} {T : TypeId} {rest : List Value} {v : Value} {S : Lg} {w w' : World} (h : Owns B b T rest v S w) (hb : Below w.heap.size w w') : Came B b T rest v w S w' :=
  ⟨v, h.led.below hb h.led.lt, own_below h.own hb, Only.ofBelow hb, .inl rfl⟩

theorem CameV.owns {B b : Nat} {T : TypeId} {rest : List Value} {v v' : Value} {S S' : Lg} {w w' : World} (hc : CameV B b T rest v w S' v' w') (h : Owns B b T rest v S w) : Owns B b T rest v' S' w' :=
  ⟨hc.1, hc.2.1, Nat.le_trans h.bw hc.2.2.1.size, h.bb, h.ty⟩

theorem CameV.below {B b : Nat} {T : TypeId} {rest : List Value} {v v' : Value} {S S' : Lg} {w w' : World} (hc : CameV B b T rest v w S' v' w') (h : Owns B b T rest v S w) : Below B w w' := by
  refine hc.2.2.1.below h.bw ?_
  rintro k (rfl | hk)
  · exact h.bb
  · exact (h.own.lt k hk).1

/-- Packets that were told lie apart from the ledger. -/
def Apart (b : Nat) (v vg : Value) (n : Nat) (xs : List Value) (w : World) : Prop :=
  (∃ base, w.ownsRow base 57 5 vg n xs) ∧ ∀ k, vg.ownBlock = some k → v.ownBlock ≠ some k

theorem Apart.next {B b : Nat} {T : TypeId} {rest : List Value} {v v' vg : Value} {S S' : Lg} {w w' : World} {n : Nat} {xs : List Value} (hp : Apart b v vg n xs w) (hc : CameV B b T rest v w S' v' w') (h : Owns B b T rest v S w) : Apart b v' vg n xs w' := by
  obtain ⟨⟨base, ho⟩, hne⟩ := hp
  refine ⟨⟨base, own_only ho hc.2.2.1 ?_⟩, ?_⟩
  · rintro k hk (rfl | h2)
    · exact own_ne ho h.led h.ty hk
    · exact hne k hk h2
  · intro k hk
    rcases hc.2.2.2 with h1 | h1
    · rw [h1]; exact hne k hk
    · intro e
      have := h1 k e
      have := (ho.lt k hk).2
      omega
theorem Apart.below {b : Nat} {v vg : Value} {w w' : World} {n : Nat} {xs : List Value} (hp : Apart b v vg n xs w) (hb : Below w.heap.size w w') : Apart b v vg n xs w' := by
  obtain ⟨⟨base, ho⟩, hne⟩ := hp
  exact ⟨⟨base, own_below ho hb⟩, hne⟩
theorem Owns.next {B b : Nat} {T : TypeId} {rest : List Value} {v : Value} {S : Lg} {w w' : World} (h : Owns B b T rest v S w) (hb : Below w.heap.size w w') : Owns B b T rest v S w' :=
  ⟨h.led.below hb h.led.lt, own_below h.own hb, Nat.le_trans h.bw hb.size, h.bb, h.ty⟩

set_option maxRecDepth 100000 in
set_option maxHeartbeats 1000000 in
theorem sent_many (B b : Nat) (T : TypeId) (rest : List Value) (v : Value) (S : Lg) (w : World) (num time size : Nat) (asks : Bool) (fin : Value) (h : Owns B b T rest v S w)
    (h1 : num ≤ 4611686018427387903) (hln : S.ln < 2 ^ 63) (h2 : S.li = true → S.ln < num) (h3 : time ≤ 1099511627776) (h4 : size ≤ 1099511627776) (h5 : 500 ≤ S.op.length) (h6 : S.op.length ≤ 1000) :
    Calls Try.prog 50 #[.pointer (some ⟨b, 0, none⟩), .agg #[.int .u64 (num : Int), .int .u64 (time : Int), .int .u64 (size : Int), .bool asks, fin]] w fun e w' => e = .returned (.int .i64 4) ∧ Below w.heap.size w w' := by
  have hL := h.led
  have hO := h.own
  clear h
  obtain ⟨p, cap, rfl, hpn⟩ := own_shape hO
  have hbl := hL.lt
  have c0 : w.cell? ⟨b, 0, none⟩ = some (.slice p S.op.length cap) := hL.cell rfl
  have c1 : w.cell? ⟨b, 1, none⟩ = some (.int .u64 (S.ln : Int)) := hL.cell rfl
  have c2 : w.cell? ⟨b, 2, none⟩ = some (.bool S.li) := hL.cell rfl
  obtain ⟨N, hN⟩ : ∃ N, S.op.length = N := ⟨_, rfl⟩
  obtain ⟨ln, hlne⟩ : ∃ x, S.ln = x := ⟨_, rfl⟩
  obtain ⟨li, hli⟩ : ∃ x, S.li = x := ⟨_, rfl⟩
  rw [hN] at c0 h5 h6
  rw [hlne] at c1 h2 hln
  rw [hli] at c2 h2
  clear hL hO hlne hli hN hpn
  cases li
  · clear h2
    go_enter Try.func50, Try.ntmps50
    go_wp2_with fail
    go_quiet (fail)
    go_wp2_with fail
    go_ret
    exact ⟨rfl, below_drewN ((Below.refl _ _).alloc (Nat.le_refl _) _) _⟩
  · have h2l : ln < num := h2 rfl
    clear h2
    go_enter Try.func50, Try.ntmps50
    go_wp2_with fail
    go_quiet (fail)
    go_wp2_with fail
    go_ret
    exact ⟨rfl, below_drewN ((Below.refl _ _).alloc (Nat.le_refl _) _) _⟩

theorem sent_letters (S : Lg) (num time size : Nat) (asks : Bool) (fa fa' : Option Addr) (fl fl' fc fc' : Nat) : (sentF S ⟨num, time, size, asks, fa, fl, fc⟩).2 = (sentF S ⟨num, time, size, asks, fa', fl', fc'⟩).2 := by
  unfold sentF
  have : sentBad S ⟨num, time, size, asks, fa, fl, fc⟩ = sentBad S ⟨num, time, size, asks, fa', fl', fc'⟩ := rfl
  rw [this]
  split
  · rfl
  · split <;> rfl
/-- Sent, whole. -/
theorem Sent_any (B b : Nat) (T : TypeId) (rest : List Value) (v : Value) (S : Lg) (w : World) (num time size : Nat) (asks : Bool) (h : Owns B b T rest v S w)
    (hnum : num < 2 ^ 64) (hln : S.ln < 2 ^ 63) (h6 : S.op.length ≤ 1000) (fin : Value) (fl : Nat) (frs : List Value)
    (hcl : ∀ W, Below w.heap.size w W → Calls Try.prog 75 #[fin] W fun e w' => ∃ fa fc, e = .returned (.slice fa fl fc) ∧ Below W.heap.size W w' ∧ w'.ownsRow W.heap.size 43 8 (.slice fa fl fc) fl frs) (hT2 : T ≠ 43) :
    Calls Try.prog 50 #[.pointer (some ⟨b, 0, none⟩), .agg #[.int .u64 (num : Int), .int .u64 (time : Int), .int .u64 (size : Int), .bool asks, fin]] w fun e w' => e = .returned (.int .i64 (sentF S ⟨num, time, size, asks, none, 0, 0⟩).2) ∧
      ∃ fa fc, Came B b T rest v w (sentF S ⟨num, time, size, asks, fa, fl, fc⟩).1 w' ∧ ((sentF S ⟨num, time, size, asks, none, 0, 0⟩).2 = 0 → w'.ownsRow w.heap.size 43 8 (.slice fa fl fc) fl frs) := by
  by_cases hbad : sentBad S ⟨num, time, size, asks, none, 0, 0⟩ = true
  · have e1 : ∀ fa fl fc, sentF S ⟨num, time, size, asks, fa, fl, fc⟩ = (S, 3) := fun fa fl fc => by unfold sentF; rw [if_pos (show sentBad S ⟨num, time, size, asks, fa, fl, fc⟩ = true from hbad)]
    refine (sent_bad b T rest v S w num time size asks fin h.led hnum hln hbad).mono fun e w' ⟨h1, h2⟩ => ⟨by rw [e1]; exact h1, none, 0, by rw [e1]; exact Came.same h h2, fun h0 => ?_⟩
    rw [e1] at h0
    exact absurd (show (3 : Int) = 0 from h0) (by decide)
  · have hbad0 := hbad
    unfold sentBad badNum at hbad
    simp only [Bool.or_eq_true, Bool.and_eq_true, decide_eq_true_eq, not_or, not_and] at hbad
    obtain ⟨⟨⟨g1, g2⟩, g3⟩, g4⟩ := hbad
    by_cases h5 : 500 ≤ S.op.length
    · have e1 : ∀ fa fl fc, sentF S ⟨num, time, size, asks, fa, fl, fc⟩ = (S, 4) := fun fa fl fc => by unfold sentF; rw [if_neg (show ¬ sentBad S ⟨num, time, size, asks, fa, fl, fc⟩ = true from hbad0), if_pos h5]
      refine (sent_many B b T rest v S w num time size asks fin h (by omega) hln (fun e => by have := g2 e; omega) (by omega) (by omega) h5 h6).mono fun e w' ⟨h1, h2⟩ => ⟨by rw [e1]; exact h1, none, 0, by rw [e1]; exact Came.same h h2, fun h0 => ?_⟩
      rw [e1] at h0
      exact absurd (show (4 : Int) = 0 from h0) (by decide)
    · have e1 : ∀ fa fl fc, sentF S ⟨num, time, size, asks, fa, fl, fc⟩ = ({ S with op := S.op ++ [⟨num, time, size, asks, fa, fl, fc⟩], ln := num, li := true }, 0) := fun fa fl fc => by unfold sentF; rw [if_neg (show ¬ sentBad S ⟨num, time, size, asks, fa, fl, fc⟩ = true from hbad0), if_neg h5]
      refine (sent_ok B b T rest v S w num time size asks fin fl frs hcl hT2 h.led h.own h.bw h.bb h.ty (by omega) hln (fun e => by have := g2 e; omega) (by omega) (by omega) (by omega)).mono ?_
      rintro e w' ⟨h1, fa, fc, v', h2, h3, h4, h5, h6⟩
      exact ⟨by rw [e1]; exact h1, fa, fc, ⟨v', by rw [e1]; exact h2, by rw [e1]; show w'.ownsRow B _ 5 v' (S.op ++ [_]).length _; rw [List.length_append, List.length_singleton]; exact h3, h4, h5⟩, fun _ => h6⟩

def skipF (S : Lg) (num : Nat) : Lg × Int := if badNum S num then (S, 3) else ({ S with ln := num, li := true }, 0)

set_option maxRecDepth 100000 in
set_option maxHeartbeats 1000000 in
theorem Skip_any (B b : Nat) (T : TypeId) (rest : List Value) (v : Value) (S : Lg) (w : World) (num : Nat) (h : Owns B b T rest v S w)
    (hnum : num < 2 ^ 64) (hln : S.ln < 2 ^ 63) :
    Calls Try.prog 51 #[.pointer (some ⟨b, 0, none⟩), .int .u64 (num : Int)] w fun e w' => e = .returned (.int .i64 (skipF S num).2) ∧ Came B b T rest v w (skipF S num).1 w' := by
  have hbl := h.led.lt
  have c1 : w.cell? ⟨b, 1, none⟩ = some (.int .u64 (S.ln : Int)) := h.led.cell rfl
  have c2 : w.cell? ⟨b, 2, none⟩ = some (.bool S.li) := h.led.cell rfl
  have f1 : w.frozen? ⟨b, 1, none⟩ = false := h.led.free 1
  have f2 : w.frozen? ⟨b, 2, none⟩ = false := h.led.free 2
  have hgood : Came B b T rest v w { S with ln := num, li := true } ((w.setCell ⟨b, 1, none⟩ (.int .u64 (num : Int))).setCell ⟨b, 2, none⟩ (.bool true)) := by
    have hne : v.ownBlock ≠ some b := own_ne h.own h.led h.ty
    refine ⟨v, (blk.set h.led 1 _).set 2 _, ownsRow_setCell_other (ownsRow_setCell_other h.own (a := ⟨b, 1, none⟩) hne _) (a := ⟨b, 2, none⟩) hne _, ?_, .inl rfl⟩
    exact Only.setCell (p := ⟨b, 2, none⟩) (Only.setCell (p := ⟨b, 1, none⟩) (Only.refl _ _) (.inl (.inl rfl)) _) (.inl (.inl rfl)) _
  have hsame := fun w' => Came.same (w' := w') h
  unfold skipF badNum
  obtain ⟨ln, hlne⟩ : ∃ x, S.ln = x := ⟨_, rfl⟩
  obtain ⟨li, hli⟩ : ∃ x, S.li = x := ⟨_, rfl⟩
  rw [hlne] at c1 hln ⊢
  rw [hli] at c2 ⊢
  have Hg := Lib.hid hgood
  have Hs := Lib.hid hsame
  clear hgood hsame h hlne hli
  by_cases h1 : 4611686018427387903 < num
  · have hd : decide (4611686018427387903 < num) = true := by simpa using h1
    rw [hd, Bool.true_or, if_pos rfl]
    clear hd
    go_enter Try.func51, Try.ntmps51
    go_wp2_with fail
    go_ret
    exact ⟨rfl, Hs.out _ (Below.refl _ _)⟩
  · have hd : decide (4611686018427387903 < num) = false := by simpa using h1
    rw [hd, Bool.false_or]
    cases li
    · rw [Bool.false_and, if_neg (by decide)]
      clear hd
      have hd : decide ((4611686018427387903 : Int) < (num : Int)) = false := by rw [decide_eq_false_iff_not]; omega
      go_enter Try.func51, Try.ntmps51
      go_wp2_with fail
      go_ret
      exact ⟨rfl, Hg.out⟩
    · rw [Bool.true_and]
      clear hd
      have hd : decide ((4611686018427387903 : Int) < (num : Int)) = false := by rw [decide_eq_false_iff_not]; omega
      by_cases h2 : num ≤ ln
      · have hd2 : decide (num ≤ ln) = true := by simpa using h2
        rw [hd2, if_pos rfl]
        go_enter Try.func51, Try.ntmps51
        go_wp2_with fail
        go_ret
        exact ⟨rfl, Hs.out _ (Below.refl _ _)⟩
      · have hd2 : decide (num ≤ ln) = false := by simpa using h2
        rw [hd2, if_neg (by decide)]
        go_enter Try.func51, Try.ntmps51
        go_wp2_with fail
        go_ret
        exact ⟨rfl, Hg.out⟩

set_option maxRecDepth 100000 in
theorem Best_any (b : Nat) (bn : Nat) (bi : Bool) (w : World) (hbl : b < w.heap.size) (c1 : w.cell? ⟨b, 3, none⟩ = some (.int .u64 (bn : Int))) (c2 : w.cell? ⟨b, 4, none⟩ = some (.bool bi)) :
    Calls Try.prog 70 #[.pointer (some ⟨b, 0, none⟩)] w fun e w' => e = .returned (.tuple #[.int .u64 (bn : Int), .bool bi]) ∧ Below w.heap.size w w' := by
  go_enter Try.func70, Try.ntmps70
  go_wp2_with fail
  go_quiet (fail)
  go_wp2_with fail
  go_ret2
  exact ⟨rfl, below_drewN (Below.refl _ _) _⟩

end Go.Proofs.Ytmnmpmiocgfalaa
