/- The law LossOnce, walked. -/
import Derived.Test.YtaoeamkkbopioaaLo
import Derived.Deep.DeepCutAuto
import Derived.Deep.LoopGhost
import Derived.Deep.CutBlock
namespace Go.Proofs.Ytaoeamkkbopioaa
open Go.ChangeShapes Go.WideShapes Go.RowKit Go.Maps
set_option linter.unusedVariables false

/-- Packets that were told. -/
def Td (tv : Value) (told : List Pk) (w : World) : Prop := (told = [] ∧ ∃ p cap, tv = .slice p 0 cap) ∨ ∃ base, w.ownsRow base 38 5 tv told.length (pks told)
theorem Td.shape {tv : Value} {told : List Pk} {w : World} (h : Td tv told w) : ∃ p cap, tv = .slice p told.length cap ∧ ∀ i q, told[i]? = some q → ∃ g, p = some ⟨g, 0, none⟩ ∧ g < w.heap.size ∧ w.cell? ⟨g, i * 5, none⟩ = some (.int .u64 (q.num : Int)) ∧ w.cell? ⟨g, i * 5 + 1, none⟩ = some (.int .u64 (q.time : Int)) ∧
      w.cell? ⟨g, i * 5 + 2, none⟩ = some (.int .u64 (q.size : Int)) ∧ w.cell? ⟨g, i * 5 + 3, none⟩ = some (.bool q.asks) ∧ w.cell? ⟨g, i * 5 + 4, none⟩ = some (.slice q.fa q.fl q.fc) := by
  rcases h with ⟨rfl, p, cap, rfl⟩ | ⟨base, ho⟩
  · exact ⟨p, cap, rfl, fun i q h => by simp at h⟩
  · obtain ⟨p, cap, rfl, _⟩ := own_shape ho
    refine ⟨p, cap, rfl, fun i q h => ?_⟩
    obtain ⟨g, cap2, hv, _, hg, k0, k1, k2, k3, k4⟩ := pk_cells ho i q h
    injection hv with hv _ _
    exact ⟨g, hv, hg, k0, k1, k2, k3, k4⟩
theorem Td.ne {p : Option Addr} {n cap : Nat} {told : List Pk} {w : World} {b m : Nat} {M : Nat → Int} (h : Td (.slice p n cap) told w) (hm : MapIs w b m M) : 0 < told.length → ∀ g, p = some ⟨g, 0, none⟩ → g ≠ b := by
  rintro hn g rfl rfl
  rcases h with ⟨rfl, _⟩ | ⟨base, ho⟩
  · simp at hn
  · exact hm.ne_own ho rfl

theorem Owns.only {B b : Nat} {T : TypeId} {rest : List Value} {v : Value} {S : Lg} {w w' : World} {P : Nat → Prop} (h : Owns B b T rest v S w) (ho : Only P w w') (hb : ¬ P b) (hv : ∀ k, v.ownBlock = some k → ¬ P k) : Owns B b T rest v S w' :=
  ⟨blk.only h.led ho hb, own_only h.own ho hv, Nat.le_trans h.bw ho.size, h.bb, h.ty⟩

/-- The states of numbers, after some were told. -/
def told2 (M : Nat → Int) (l : List Pk) (x : Nat) : Int := if l.any (fun q => q.num == x) then 2 else M x

/-- What the states know of a ledger, and of what was just told. -/
def Know2 (S : Lg) (told : List Pk) (M : Nat → Int) : Prop :=
  (∀ x, M x = 1 ↔ (∃ p ∈ S.op, p.num = x) ∨ ∃ p ∈ told, p.num = x) ∧ (∀ x, M x ≠ 0 → S.li = true ∧ x ≤ S.ln) ∧ (∀ p ∈ S.op, ∀ q ∈ told, p.num ≠ q.num) ∧ told.Pairwise (fun p q => p.num ≠ q.num)
def Know (S : Lg) (M : Nat → Int) : Prop := Know2 S [] M

/-- What an act leaves behind. -/
def OnceStep (B : Nat) (w : World) (n : Nat) (M : Nat → Int) (s7 : Value) (wy : World) : Prop :=
  ∃ S' v' told M' n', Owns B B 29 [] v' S' wy ∧ Inv S' ∧ Td s7 told wy ∧ MapIs wy (B + 1) n' M' ∧ Know2 S' told M' ∧ (∀ q ∈ told, M' q.num = 1 ∧ True) ∧ told.length ≤ 500 ∧ n' ≤ n + 1 ∧ Below B w wy

theorem Know.start : Know S0 (fun _ => 0) := ⟨fun x => by simp [S0], fun x h => absurd rfl h, fun p hp => by simp [S0] at hp, List.Pairwise.nil⟩
theorem Know.nil {S : Lg} {M : Nat → Int} (h : Know S M) : Know2 S [] M := h

theorem told2_next {M : Nat → Int} {told : List Pk} {k : Nat} {q : Pk} (h1 : M q.num = 1) (hd : told.Pairwise (fun p q => p.num ≠ q.num)) (hq : told[k]? = some q) : told2 M (told.take k) q.num = 1 := by
  unfold told2
  rw [if_neg, h1]
  intro h
  rw [List.any_eq_true] at h
  obtain ⟨p, hp, he⟩ := h
  obtain ⟨hk, hqe⟩ := List.getElem?_eq_some_iff.1 hq
  obtain ⟨i, hi, hpe⟩ := List.getElem_of_mem hp
  have hil : i < k := by rw [List.length_take] at hi; omega
  rw [List.getElem_take] at hpe
  have := List.pairwise_iff_getElem.1 hd i k (by omega) hk hil
  rw [hpe, hqe] at this
  exact this (by simpa using he)
theorem told2_snoc {M : Nat → Int} {told : List Pk} {k : Nat} {q : Pk} (hq : told[k]? = some q) : (fun y => if y = q.num then (2 : Int) else told2 M (told.take k) y) = told2 M (told.take (k + 1)) := by
  obtain ⟨hk, hqe⟩ := List.getElem?_eq_some_iff.1 hq
  funext y
  unfold told2
  rw [List.take_succ_eq_append_getElem hk, hqe, List.any_append, List.any_cons, List.any_nil, Bool.or_false]
  by_cases hy : y = q.num
  · rw [if_pos hy, if_pos (by rw [hy]; simp)]
  · rw [if_neg hy]
    have : (q.num == y) = false := by rw [beq_eq_false_iff_ne]; exact fun e => hy e.symm
    rw [this, Bool.or_false]
theorem told2_in {M : Nat → Int} {told : List Pk} {x : Nat} : told2 M told x = if ∃ q ∈ told, q.num = x then 2 else M x := by
  unfold told2
  have : (told.any (fun q => q.num == x) = true) ↔ ∃ q ∈ told, q.num = x := by rw [List.any_eq_true]; simp
  by_cases h : ∃ q ∈ told, q.num = x
  · rw [if_pos h, if_pos (this.2 h)]
  · rw [if_neg h, if_neg (fun e => h (this.1 e))]

theorem Know.told {S : Lg} {told : List Pk} {M : Nat → Int} (h : Know2 S told M) : Know S (told2 M told) := by
  obtain ⟨h1, h2, h3, h4⟩ := h
  refine ⟨fun x => ?_, fun x hx => ?_, fun p hp q hq => by simp at hq, List.Pairwise.nil⟩
  · rw [told2_in]
    constructor
    · intro hx
      split at hx
      · exact absurd hx (by decide)
      · rename_i hn
        rcases (h1 x).1 hx with h5 | h5
        · exact .inl h5
        · exact absurd h5 hn
    · rintro (⟨p, hp, rfl⟩ | ⟨p, hp, _⟩)
      · rw [if_neg]
        · exact (h1 p.num).2 (.inl ⟨p, hp, rfl⟩)
        · rintro ⟨q, hq, he⟩
          exact h3 p hp q hq he.symm
      · simp at hp
  · rw [told2_in] at hx
    split at hx
    · rename_i hq
      obtain ⟨q, hq, rfl⟩ := hq
      exact h2 q.num (by rw [(h1 q.num).2 (.inr ⟨q, hq, rfl⟩)]; decide)
    · exact h2 x hx

theorem Know.split {S : Lg} {M : Nat → Int} (h : Know S M) (hI : Inv S) (f : Pk → Bool) : Know2 { S with op := S.op.filter (fun p => !f p) } (S.op.filter f) M ∧ (∀ q ∈ S.op.filter f, M q.num = 1 ∧ True) ∧ (S.op.filter f).length ≤ 500 := by
  obtain ⟨h1, h2, _, _⟩ := h
  have hd : S.op.Pairwise (fun p q => p.num ≠ q.num) := hI.up.imp (fun hlt => Nat.ne_of_lt hlt)
  refine ⟨⟨fun x => ?_, h2, fun p hp q hq he => ?_, hd.filter _⟩, fun q hq => ⟨(h1 q.num).2 (.inl ⟨q, (List.mem_filter.1 hq).1, rfl⟩), trivial⟩, Nat.le_trans (List.length_filter_le _ _) hI.len⟩
  · rw [h1 x]
    constructor
    · rintro (⟨p, hp, he⟩ | ⟨p, hp, _⟩)
      · cases hf : f p with
        | true => exact .inr ⟨p, List.mem_filter.2 ⟨hp, hf⟩, he⟩
        | false => exact .inl ⟨p, List.mem_filter.2 ⟨hp, by rw [hf]; rfl⟩, he⟩
      · simp at hp
    · rintro (⟨p, hp, he⟩ | ⟨p, hp, he⟩)
      · exact .inl ⟨p, (List.mem_filter.1 hp).1, he⟩
      · exact .inl ⟨p, (List.mem_filter.1 hp).1, he⟩
  · obtain ⟨hp1, hp2⟩ := List.mem_filter.1 hp
    obtain ⟨hq1, hq2⟩ := List.mem_filter.1 hq
    have : p = q := by
      obtain ⟨i, hi, rfl⟩ := List.getElem_of_mem hp1
      obtain ⟨j, hj, rfl⟩ := List.getElem_of_mem hq1
      rcases Nat.lt_trichotomy i j with hlt | rfl | hlt
      · exact absurd he (List.pairwise_iff_getElem.1 hd i j hi hj hlt)
      · rfl
      · exact absurd he.symm (List.pairwise_iff_getElem.1 hd j i hj hi hlt)
    subst this
    rw [hq2] at hp2
    simp at hp2

theorem Know.ack {S : Lg} {M : Nat → Int} (h : Know S M) (hI : Inv S) (rs : List (Nat × Nat)) : Know2 (ackS S rs) (ackT S rs) M ∧ (∀ q ∈ ackT S rs, M q.num = 1 ∧ True) ∧ (ackT S rs).length ≤ 500 := by
  unfold ackS ackT
  split
  · exact ⟨h, fun q hq => by simp at hq, by simp⟩
  · obtain ⟨h1, h2, h3⟩ := h.split hI (ackP rs)
    exact ⟨h1, h2, h3⟩

theorem Know.sent {S : Lg} {M : Nat → Int} (h : Know S M) (hI : Inv S) (p : Pk) (h0 : (sentF S p).2 = 0) : M p.num = 0 ∧ Know2 (sentF S p).1 [] (fun y => if y = p.num then 1 else M y) := by
  unfold sentF at h0 ⊢
  by_cases hb : sentBad S p = true
  · rw [if_pos hb] at h0
    exact absurd (show (3 : Int) = 0 from h0) (by decide)
  · rw [if_neg hb] at h0 ⊢
    by_cases h5 : 500 ≤ S.op.length
    · rw [if_pos h5] at h0
      exact absurd (show (4 : Int) = 0 from h0) (by decide)
    · rw [if_neg h5]
      obtain ⟨h1, h2, _, _⟩ := h
      unfold sentBad badNum at hb
      simp only [Bool.or_eq_true, Bool.and_eq_true, decide_eq_true_eq, not_or, not_and, Nat.not_lt, Nat.not_le] at hb
      obtain ⟨⟨⟨_, g2⟩, _⟩, _⟩ := hb
      have hM0 : M p.num = 0 := by
        apply Classical.byContradiction
        intro hne
        obtain ⟨e1, e2⟩ := h2 _ hne
        have := g2 e1
        omega
      refine ⟨hM0, fun x => ?_, fun x hx => ?_, fun a ha c hc => by simp at hc, List.Pairwise.nil⟩
      · show (if x = p.num then (1 : Int) else M x) = 1 ↔ _
        by_cases hx : x = p.num
        · rw [if_pos hx]
          exact ⟨fun _ => .inl ⟨p, by simp, hx.symm⟩, fun _ => rfl⟩
        · rw [if_neg hx, h1 x]
          constructor
          · rintro (⟨q, hq, he⟩ | ⟨q, hq, _⟩)
            · exact .inl ⟨q, by simp [hq], he⟩
            · simp at hq
          · rintro (⟨q, hq, he⟩ | ⟨q, hq, _⟩)
            · simp only [List.mem_append, List.mem_singleton] at hq
              rcases hq with hq | rfl
              · exact .inl ⟨q, hq, he⟩
              · exact absurd he.symm hx
            · simp at hq
      · refine ⟨rfl, ?_⟩
        show x ≤ p.num
        by_cases hxe : x = p.num
        · omega
        · have hx2 : (if x = p.num then (1 : Int) else M x) ≠ 0 := hx
          rw [if_neg hxe] at hx2
          obtain ⟨e1, e2⟩ := h2 x hx2
          have := g2 e1
          omega

theorem Know.sent_no {S : Lg} {M : Nat → Int} (h : Know S M) (p : Pk) (h0 : (sentF S p).2 ≠ 0) : (sentF S p).1 = S := by
  unfold sentF at h0 ⊢
  by_cases hb : sentBad S p = true
  · rw [if_pos hb]
  · rw [if_neg hb] at h0 ⊢
    by_cases h5 : 500 ≤ S.op.length
    · rw [if_pos h5]
    · rw [if_neg h5] at h0
      exact absurd rfl h0

theorem map_came {B : Nat} {v v' : Value} {S S' : Lg} {w w' : World} {n : Nat} {M : Nat → Int} (hc : CameV B B 29 [] v w S' v' w') (ho : Owns B B 29 [] v S w) (hm : MapIs w (B + 1) n M) : MapIs w' (B + 1) n M := by
  refine hm.only hc.2.2.1 ?_
  rintro (h3 | h3)
  · omega
  · exact hm.ne_own ho.own h3
theorem map_told {B : Nat} {v : Value} {S : Lg} {w w' : World} {f : Pk → Bool} {e : Ending} {n : Nat} {M : Nat → Int} (h : Told B B 29 [] v S w f e w') (ho : Owns B B 29 [] v S w) (hm : MapIs w (B + 1) n M) : MapIs w' (B + 1) n M := by
  obtain ⟨vg, v', _, _, hc, _⟩ := h
  exact map_came hc ho hm
theorem map_ack {B : Nat} {v : Value} {S : Lg} {w w' : World} {rs : List (Nat × Nat)} {e : Ending} {n : Nat} {M : Nat → Int} (h : AckEnd B B 29 [] v S w rs e w') (ho : Owns B B 29 [] v S w) (hm : MapIs w (B + 1) n M) : MapIs w' (B + 1) n M := by
  rcases h with ⟨_, _, h3⟩ | ⟨_, _, _, h3⟩ | ⟨_, _, vg, v', _, _, hc, _⟩
  · exact hm.below h3
  · exact hm.below h3
  · exact map_came hc ho hm

/-- How many of the open packets' entries have been met. -/
def cntF (left : Lit → Bool) (l : List Pk) : Nat := (l.filter (fun p => !left (.int .u64 (p.num : Int)))).length
theorem cntF_start {left : Lit → Bool} {l : List Pk} (h : ∀ p ∈ l, left (.int .u64 (p.num : Int)) = true) : cntF left l = 0 := by
  unfold cntF
  rw [List.length_eq_zero_iff, List.filter_eq_nil_iff]
  intro p hp
  rw [h p hp]
  simp
theorem cntF_end {left : Lit → Bool} {l : List Pk} (h : ∀ kl, left kl = false) : cntF left l = l.length := by
  unfold cntF
  rw [List.filter_eq_self.2]
  intro p hp
  rw [h]
  rfl
theorem cntF_miss {left : Lit → Bool} {l : List Pk} {x : Int} (h : ∀ p ∈ l, (p.num : Int) ≠ x) : cntF (fun z => left z && !z.sameKey (.int .u64 x)) l = cntF left l := by
  unfold cntF
  congr 1
  apply List.filter_congr
  intro p hp
  have : (Lit.int .u64 (p.num : Int)).sameKey (.int .u64 x) = false := by
    apply sameKey_ne
    intro e
    injection e with _ e
    exact h p hp e
  simp [this]
theorem cntF_hit {left : Lit → Bool} {l : List Pk} {x : Nat} (hd : l.Pairwise (fun p q => p.num ≠ q.num)) (hx : ∃ p ∈ l, p.num = x) (hl : left (.int .u64 (x : Int)) = true) : cntF (fun z => left z && !z.sameKey (.int .u64 (x : Int))) l = cntF left l + 1 := by
  induction l with
  | nil => obtain ⟨p, hp, _⟩ := hx; simp at hp
  | cons q l ih =>
    rw [List.pairwise_cons] at hd
    by_cases hq : q.num = x
    · have h1 : cntF (fun z => left z && !z.sameKey (.int .u64 (x : Int))) l = cntF left l := cntF_miss (fun p hp e => hd.1 p hp (by omega))
      have s1 : (Lit.int .u64 (q.num : Int)).sameKey (.int .u64 (x : Int)) = true := by rw [hq]; exact WideAt.sameKey_self trivial
      unfold cntF at h1 ⊢
      rw [List.filter_cons_of_pos (by simp [s1]), List.filter_cons_of_neg (by simp [hq, hl]), List.length_cons, h1]
    · obtain ⟨p, hp, he⟩ := hx
      have hp2 : p ∈ l := by
        rcases List.mem_cons.1 hp with rfl | hp
        · exact absurd he hq
        · exact hp
      have h1 := ih hd.2 ⟨p, hp2, he⟩
      have s1 : (Lit.int .u64 (q.num : Int)).sameKey (.int .u64 (x : Int)) = false := by
        apply sameKey_ne
        intro e
        injection e with _ e
        omega
      unfold cntF at h1 ⊢
      cases hlq : left (.int .u64 (q.num : Int)) with
      | true =>
        rw [List.filter_cons_of_neg (by simp [s1, hlq]), List.filter_cons_of_neg (by simp [hlq]), h1]
      | false =>
        rw [List.filter_cons_of_pos (by simp [hlq]), List.filter_cons_of_pos (by simp [hlq]), List.length_cons, List.length_cons, h1]

theorem cntF_le (left : Lit → Bool) (l : List Pk) : cntF left l ≤ l.length := List.length_filter_le _ _

set_option maxRecDepth 100000 in
set_option maxHeartbeats 8000000 in
theorem lossOnce_walk (p : Option Addr) (cap : Nat) (xs : List Act1) (w : World) (hA : ActsAt w p xs) (hl : xs.length ≤ maxLen) :
    Calls Try.prog 3 #[.slice p xs.length cap] w fun e w' => e = .returned (.bool true) ∧ Below w.heap.size w w' := by
  obtain ⟨N, hN⟩ : ∃ N, xs.length = N := ⟨_, rfl⟩
  rw [hN] at hl ⊢
  unfold maxLen at hl
  have HN := Lib.hid hN
  have HA := Lib.hid hA
  clear hN hA
  go_enter Try.func3, Try.ntmps3
  go_wp2_with fail
  refine (awake_any _).mono ?_
  rintro e w0 ⟨rfl, hb0⟩
  have h0 := Owns.start w0
  obtain ⟨w1, hw1⟩ : ∃ w1, w0.alloc (.cells #[.slice none 0 0, .int .u64 0, .bool false, .int .u64 0, .bool false] 29) = w1 := ⟨_, rfl⟩
  have hb1 : Below w0.heap.size w0 w1 := by rw [← hw1]; exact (Below.refl _ _).alloc (Nat.le_refl _) _
  obtain ⟨B, hB⟩ : ∃ B, w0.heap.size = B := ⟨_, rfl⟩
  rw [hw1, hB] at h0
  rw [hB] at hb1
  have hBl : w.heap.size ≤ B := by rw [← hB]; exact hb0.size
  have H0 := Lib.hid h0
  have Hb0 := Lib.hid hb0
  have Hb1 := Lib.hid hb1
  clear h0 hb0 hb1
  have hw2 : MapIs (w1.alloc (.map #[] 0)) (B + 1) 0 (fun _ => 0) := by
    have e : w1.heap.size = B + 1 := by rw [← hw1, ← hB]; simp
    rw [← e]
    exact MapIs.made w1
  have hew : w1.heap.size = B + 1 := by rw [← hw1, ← hB]; simp
  have H0m := Lib.hid hw2
  have H0a := Lib.hid (H0.out.next ((Below.refl _ w1).alloc (Nat.le_refl _) (.map #[] 0)))
  have H0b := Lib.hid (Hb1.out.alloc H0.out.bw (.map #[] 0))
  have hmm := @run_makeMap Try.prog
  clear hw2
  go_wp2_with fail
  go_loopg [5] N (fun gk i wr => ∃ j : Nat, ∃ S : Lg, ∃ v : Value, ∃ n : Nat, ∃ M : Nat → Int, j ≤ N ∧ N - j ≤ gk ∧ i = .int .i64 j ∧ Inv S ∧ Owns B B 29 [] v S wr ∧ Below B w0 wr ∧ MapIs wr (B + 1) n M ∧ Know S M ∧ n ≤ 1000 * j)
  case atStart => exact ⟨0, S0, _, 0, fun _ => 0, by omega, by omega, rfl, Inv.start, H0a.out, H0b.out, H0m.out, Know.start, by omega⟩
  case round =>
    obtain ⟨j, S, v, n, M, hj, hgk, rfl, hI, hO, hbw, hM, hK, hnj⟩ := hrel
    have HO := Lib.hid hO
    have Hbw := Lib.hid hbw
    have HI := Lib.hid hI
    clear hO hbw hI
    have HM := Lib.hid hM
    have HK := Lib.hid hK
    clear hM hK
    by_cases hlt : j < N
    · by_cases h200 : j < 200
      · have hjl : j < xs.length := by rw [HN.out]; exact hlt
        obtain ⟨a, ha⟩ : ∃ a, xs[j] = a := ⟨_, rfl⟩
        have ha2 : xs[j]? = some a := by rw [List.getElem?_eq_getElem hjl, ha]
        obtain ⟨g, o, rfl, hg, hc⟩ := HA.out (by omega)
        have hbB : Below w.heap.size w wr := Hb0.out.trans (Hbw.out.mono hBl)
        have hact := (hc j a ha2).below hg hbB rfl
        have hrb : ∀ x, a.lp = some x → a.rs.length ≤ 100 → 0 < a.rs.length → x.block ≠ B := by
          intro x hx h1 h2
          obtain ⟨g2, o2, e2, hg2, _⟩ := (hc j a ha2).rg h2
          rw [hx] at e2
          injection e2 with e2
          subst e2
          exact Nat.ne_of_lt (Nat.lt_of_lt_of_le hg2 hBl)
        have Hact := Lib.hid hact
        have Hrb := Lib.hid hrb
        have q0 := hact.c0
        have q1 := hact.c1
        have q2 := hact.c2
        have q3 := hact.c3
        have q4 := hact.c4
        have q5 := hact.c5
        obtain ⟨L, hL⟩ : ∃ L, a.rs.length = L := ⟨_, rfl⟩
        rw [hL] at q5
        have HL := Lib.hid hL
        obtain ⟨K, hK⟩ : ∃ K, a.kind = K := ⟨_, rfl⟩
        rw [hK] at q0
        clear hc ha ha2 hact hrb hL hbB hK
        have hba : Below wr.heap.size wr (wr.alloc (.cells #[.int .i64 K, .int .u64 (a.num : Int), .int .u64 (a.time : Int), .int .u64 (a.size : Int), .bool a.asks, .slice a.lp L a.lcap] 33)) := (Below.refl _ _).alloc (Nat.le_refl _) _
        have hbx0 := blk.new wr 33 [.int .i64 K, .int .u64 (a.num : Int), .int .u64 (a.time : Int), .int .u64 (a.size : Int), .bool a.asks, .slice a.lp L a.lcap]
        obtain ⟨wx, hwx⟩ : ∃ wx, (wr.alloc (.cells #[.int .i64 K, .int .u64 (a.num : Int), .int .u64 (a.time : Int), .int .u64 (a.size : Int), .bool a.asks, .slice a.lp L a.lcap] 33)).alloc (.cells #[] 38) = wx := ⟨_, rfl⟩
        have hbe : Below wr.heap.size wr wx := by rw [← hwx]; exact hba.alloc hba.size _
        have hxw : blk wx wr.heap.size 33 [.int .i64 K, .int .u64 (a.num : Int), .int .u64 (a.time : Int), .int .u64 (a.size : Int), .bool a.asks, .slice a.lp L a.lcap] := by rw [← hwx]; exact hbx0.alloc _
        have Hba := Lib.hid hbe
        have HOa := Lib.hid (HO.out.next hbe)
        have HMa := Lib.hid (HM.out.below hbe)
        have Hxw := Lib.hid hxw
        have x0 := hxw.cell (k := 0) rfl
        have x1 := hxw.cell (k := 1) rfl
        have x2 := hxw.cell (k := 2) rfl
        have x3 := hxw.cell (k := 3) rfl
        have x4 := hxw.cell (k := 4) rfl
        have x5 := hxw.cell (k := 5) rfl
        clear hba hbx0 hbe hxw
        by_cases h100 : 100 < L
        · go_wp2_with fail
          go_ret
          exact ⟨rfl, (Hb0.out.trans (Hbw.out.mono hBl)).alloc (Nat.le_trans hBl HO.out.bw) _⟩
        · have d100 : decide ((100 : Int) < (L : Int)) = false := by rw [decide_eq_false_iff_not]; omega
          go_upto_block 2 with (fail)
          go_cut [7] (fun s7 wy => OnceStep B wr n M s7 wy)
          case first =>
            by_cases k0 : K = 0
            · subst k0
              have hs := Sent_any B B 29 [] v S _ a.num a.time a.size false HOa.out Hact.out.n1 HI.out.lnb HI.out.len1
              have hs' := hs.mono (R' := fun e w' => ∃ v', e = .returned (.int .i64 (sentF S (pkOf a false)).2) ∧ Owns B B 29 [] v' (sentF S (pkOf a false)).1 w' ∧ blk w' wr.heap.size 33 [.int .i64 0, .int .u64 (a.num : Int), .int .u64 (a.time : Int), .int .u64 (a.size : Int), .bool a.asks, .slice a.lp L a.lcap] ∧ MapIs w' (B + 1) n M ∧ Below B wr w') (fun e w' ⟨h1, v', h2⟩ => by
                refine ⟨v', h1, h2.owns HOa.out, Hxw.out.only h2.2.2.1 ?_, HMa.out.only h2.2.2.1 ?_, (Hba.out.mono HO.out.bw).trans (h2.below HOa.out)⟩
                · rintro (h3 | h3)
                  · have := HO.out.led.lt
                    omega
                  · have := (HO.out.own.lt _ h3).2
                    omega
                · rintro (h3 | h3)
                  · omega
                  · exact HM.out.ne_own HO.out.own h3)
              by_cases hc0 : (sentF S (pkOf a false)).2 = 0
              · rw [hc0] at hs'
                obtain ⟨hM0, hKn⟩ := HK.out.sent HI.out (pkOf a false) hc0
                have HKn := Lib.hid hKn
                have HM0 := Lib.hid hM0
                have HS := Lib.hid hs'
                clear hs hs' hc0 hKn hM0
                go_wp2_with fail
                refine HS.out.mono ?_
                rintro e w3 ⟨v3, rfl, hO3, hx3, hm3, hb3⟩
                have y1 := hx3.cell (k := 1) rfl
                have hlk := hm3.look (x := a.num) Hact.out.n1
                have e0 : M a.num = 0 := HM0.out
                rw [e0] at hlk
                obtain ⟨w4, hpu, hm4, hon4⟩ := hm3.put (x := a.num) Hact.out.n1 (c := 1) (by decide) (by unfold maxLen; omega)
                have hO4 : Owns B B 29 [] v3 (sentF S (pkOf a false)).1 w4 := hO3.only hon4 (by omega) (fun k hk e => hm3.ne_own hO3.own (by rw [hk, e]))
                have hs4 : OnceStep B wr n M (.slice (some ⟨wr.heap.size + 1, 0, none⟩) 0 0) w4 :=
                  ⟨_, v3, [], _, n + 1, hO4, HI.out.sent _, .inl ⟨rfl, _, _, rfl⟩, hm4, HKn.out, by simp, by simp, Nat.le_refl _, hb3.trans (hon4.below hO3.bw (fun k hk => by omega))⟩
                have H4 := Lib.hid hs4
                clear hO3 hx3 hm3 hb3 hm4 hon4 hO4 hs4 e0
                go_wp2_with fail
                go_meet
                exact H4.out
              · obtain ⟨c, hc⟩ : ∃ c, (sentF S (pkOf a false)).2 = c := ⟨_, rfl⟩
                rw [hc] at hs' hc0
                have ec : (c == 0) = false := by rw [beq_eq_false_iff_ne]; exact hc0
                have hSn := HK.out.sent_no (pkOf a false) (by rw [hc]; exact hc0)
                rw [hSn] at hs'
                have HS := Lib.hid hs'
                clear hs hs' hc hc0 hSn
                go_wp2_with fail
                refine HS.out.mono ?_
                rintro e w3 ⟨v3, rfl, hO3, hx3, hm3, hb3⟩
                have hs4 : OnceStep B wr n M (.slice (some ⟨wr.heap.size + 1, 0, none⟩) 0 0) w3 :=
                  ⟨S, v3, [], M, n, hO3, HI.out, .inl ⟨rfl, _, _, rfl⟩, hm3, HK.out.nil, by simp, by simp, Nat.le_succ n, hb3⟩
                have H4 := Lib.hid hs4
                clear hO3 hx3 hm3 hb3 hs4
                go_wp2_with fail
                go_meet
                exact H4.out
            · have e0 : (K == 0) = false := by rw [beq_eq_false_iff_ne]; exact k0
              by_cases k1 : K = 1
              · subst k1
                have hs := Acked_any B B 29 [] v S _ a.lp a.lcap a.rs HOa.out HI.out.len1 HI.out.bnb HI.out.lnb (Hact.out.rg.below Hba.out) (by rw [HL.out]; omega) (fun h0 x hx => Hrb.out x hx (by rw [HL.out]; omega) h0)
                have hs' := hs.mono (R' := fun e w' => ∃ vg c, e = .returned (.tuple #[vg, .int .i64 c]) ∧ OnceStep B wr n M vg w') (fun e w' h2 => by
                  obtain ⟨vg, c, v', h1, g1, g3, g4, g2⟩ := h2.owns HOa.out
                  obtain ⟨k1, k2, k3⟩ := HK.out.ack HI.out a.rs
                  exact ⟨vg, c, h1, _, v', _, M, n, g1, HI.out.ack _, (.inr ⟨_, g3⟩), map_ack h2 HOa.out HMa.out, k1, k2, k3, Nat.le_succ n, (Hba.out.mono HO.out.bw).trans g2⟩)
                rw [HL.out] at hs'
                have HS := Lib.hid hs'
                clear hs hs' e0 k0
                go_wp2_with fail
                refine HS.out.mono ?_
                rintro e w3 ⟨vg, c, rfl, h2⟩
                have H2 := Lib.hid h2
                clear h2
                go_wp2_with fail
                go_meet
                exact H2.out
              · have e1 : (K == 1) = false := by rw [beq_eq_false_iff_ne]; exact k1
                by_cases k2 : K = 2
                · subst k2
                  have hs := Lost_any B B 29 [] v S _ a.time a.num HOa.out HI.out.len1 HI.out.bnb Hact.out.n2
                  have hs' := hs.mono (R' := fun e w' => ∃ vg, e = .returned vg ∧ OnceStep B wr n M vg w') (fun e w' h2 => by
                    obtain ⟨k1, k2, k3⟩ := HK.out.split HI.out (lostP S.bi S.bn a.time a.num)
                    obtain ⟨vg, v', h1, g1, g3, _, g2⟩ := h2.owns HOa.out
                    exact ⟨vg, h1, _, v', _, M, n, g1, HI.out.filter _, (.inr ⟨_, g3⟩), map_told h2 HOa.out HMa.out, k1, k2, k3, Nat.le_succ n, (Hba.out.mono HO.out.bw).trans g2⟩)
                  have HS := Lib.hid hs'
                  clear hs hs' e0 k0 e1 k1
                  go_wp2_with fail
                  refine HS.out.mono ?_
                  rintro e w3 ⟨vg, rfl, h2⟩
                  have H2 := Lib.hid h2
                  clear h2
                  go_wp2_with fail
                  go_meet
                  exact H2.out
                · have e2 : (K == 2) = false := by rw [beq_eq_false_iff_ne]; exact k2
                  by_cases k3 : K = 3
                  · subst k3
                    have hs := Clear_any B B 29 [] v S _ HOa.out HI.out.len1
                    have hs' := hs.mono (R' := fun e w' => ∃ vg, e = .returned vg ∧ OnceStep B wr n M vg w') (fun e w' h2 => by
                      obtain ⟨k1, k2, k3⟩ := HK.out.split HI.out (fun _ => true)
                      obtain ⟨vg, v', h1, g1, g3, _, g2⟩ := h2.owns HOa.out
                      exact ⟨vg, h1, _, v', _, M, n, g1, HI.out.filter _, (.inr ⟨_, g3⟩), map_told h2 HOa.out HMa.out, k1, k2, k3, Nat.le_succ n, (Hba.out.mono HO.out.bw).trans g2⟩)
                    have HS := Lib.hid hs'
                    clear hs hs' e0 k0 e1 k1 e2 k2
                    go_wp2_with fail
                    refine HS.out.mono ?_
                    rintro e w3 ⟨vg, rfl, h2⟩
                    have H2 := Lib.hid h2
                    clear h2
                    go_wp2_with fail
                    go_meet
                    exact H2.out
                  · have e3 : (K == 3) = false := by rw [beq_eq_false_iff_ne]; exact k3
                    have hs : OnceStep B wr n M (.slice (some ⟨wr.heap.size + 1, 0, none⟩) 0 0) wx := ⟨S, v, [], M, n, HOa.out, HI.out, .inl ⟨rfl, _, _, rfl⟩, HMa.out, HK.out.nil, by simp, by simp, Nat.le_succ n, Hba.out.mono HO.out.bw⟩
                    have HS := Lib.hid hs
                    clear hs k0 k1 k2 k3
                    go_wp2_with fail
                    go_meet
                    exact HS.out
          case rest =>
            obtain ⟨S', v', told, M', n', hO', hI', htd, hm', hk1, hk2, hk3, hn', hb⟩ := hcut
            obtain ⟨pt, ct, rfl, hcells⟩ := htd.shape
            obtain ⟨tn, htn⟩ : ∃ n, told.length = n := ⟨_, rfl⟩
            rw [htn] at hk3 ⊢
            have hne2 : ∀ (i : Nat) (q : Pk), told[i]? = some q → q.num < 2 ^ 64 := by
              intro i q hq
              have h1 := hk2 q (List.mem_of_getElem? hq)
              have h2 := hk1.2.1 q.num (by rw [h1.1]; decide)
              have := hI'.ln
              omega
            have hptb := htd.ne hm'
            have Hne2 := Lib.hid hne2
            have Hcells := Lib.hid hcells
            have Hn := Lib.hid htn
            have HO' := Lib.hid hO'
            have HI' := Lib.hid hI'
            have Hm' := Lib.hid hm'
            have Hk1 := Lib.hid hk1
            have Hk2 := Lib.hid hk2
            have Hptb := Lib.hid hptb
            have Hb' := Lib.hid (Hbw.out.trans hb)
            clear hne2 hcells htn hO' hI' hm' hk1 hk2 hptb hb htd
            go_wp2_with fail
            go_loopw [79] (fun i wz => ∃ k : Nat, k ≤ tn ∧ i = .int .i64 k ∧ MapIs wz (B + 1) (n' + k) (told2 M' (told.take k)) ∧ Only (fun b => b = B + 1) wc wz) (fun i _ => tn - (intOf i).toNat)
            case atStart => exact ⟨0, by omega, rfl, Hm'.out, Only.refl _ _⟩
            case round =>
              obtain ⟨k, hk, rfl, hmz, hoz⟩ := hrel
              by_cases hlt2 : k < tn
              · have hkl : k < told.length := by rw [Hn.out]; exact hlt2
                obtain ⟨q, hq⟩ : ∃ q, told[k] = q := ⟨_, rfl⟩
                have hq2 : told[k]? = some q := by rw [List.getElem?_eq_getElem hkl, hq]
                obtain ⟨g1, hpe, hg1, z0, z1, z2, z3, z4⟩ := Hcells.out k q hq2
                have hgb : g1 ≠ B + 1 := Hptb.out (by omega) _ hpe
                subst hpe
                have hqn := Hne2.out k q hq2
                have hM1 : told2 M' (told.take k) q.num = 1 := told2_next (Hk2.out q (List.mem_of_getElem? hq2)).1 Hk1.out.2.2.2 hq2
                have hMn : (fun y => if y = q.num then (2 : Int) else told2 M' (told.take k) y) = told2 M' (told.take (k + 1)) := told2_snoc hq2
                have e0 := (hoz.cell (p := ⟨g1, k * 5, none⟩) hg1 hgb).trans z0
                have e1 := (hoz.cell (p := ⟨g1, k * 5 + 1, none⟩) hg1 hgb).trans z1
                have e2 := (hoz.cell (p := ⟨g1, k * 5 + 2, none⟩) hg1 hgb).trans z2
                have e3 := (hoz.cell (p := ⟨g1, k * 5 + 3, none⟩) hg1 hgb).trans z3
                have e4 := (hoz.cell (p := ⟨g1, k * 5 + 4, none⟩) hg1 hgb).trans z4
                have hon := hoz.alloc (.cells #[.int .u64 (q.num : Int), .int .u64 (q.time : Int), .int .u64 (q.size : Int), .bool q.asks, .slice q.fa q.fl q.fc] 38)
                have hmb := hmz.below ((Below.refl _ wr).alloc (Nat.le_refl _) (.cells #[.int .u64 (q.num : Int), .int .u64 (q.time : Int), .int .u64 (q.size : Int), .bool q.asks, .slice q.fa q.fl q.fc] 38))
                have hlk := hmb.look hqn
                rw [hM1] at hlk
                obtain ⟨w4, hpu, hm4, hon4⟩ := hmb.put hqn (c := 2) (by decide) (by unfold maxLen; omega)
                rw [hMn] at hm4
                have Hm4 := Lib.hid hm4
                have Hon4 := Lib.hid (hon.trans hon4)
                clear hmz hoz hq hq2 z0 z1 z2 z3 z4 hM1 hMn hmb hm4 hon4 hon
                go_wp2_with fail
                go_roundw
                case rel => exact ⟨k + 1, by omega, by go_num, Hm4.out, Hon4.out⟩
                case measure => simp [intOf]; omega
              · obtain rfl : k = tn := by omega
                rw [List.take_of_length_le (by rw [Hn.out]; exact Nat.le_refl _)] at hmz
                have hO5 : Owns B B 29 [] v' S' wr := HO'.out.only hoz (by omega) (fun k hk e => Hm'.out.ne_own HO'.out.own (by rw [hk, e]))
                have hK5 : Know S' (told2 M' told) := Know.told Hk1.out
                have hb5 : Below B w0 wr := Hb'.out.trans (hoz.below HO'.out.bw (fun k hk => by omega))
                have HM5 := Lib.hid (hmz.mono (show n' + k ≤ 1000 * (j + 1) by omega))
                have HO5 := Lib.hid hO5
                have HK5 := Lib.hid hK5
                have Hb5 := Lib.hid hb5
                clear hO5 hK5 hb5 hmz hoz
                go_wp2_with fail
                go_roundg (N - (j + 1))
                case measure => omega
                case rel => exact ⟨j + 1, S', v', 1000 * (j + 1), _, by omega, by omega, by go_num, HI'.out, HO5.out, Hb5.out, HM5.out, HK5.out, by omega⟩
      · obtain ⟨wr_, rfl⟩ : ∃ w, w = wr := ⟨_, rfl⟩
        obtain ⟨D, hmD, hmat⟩ := HM.out
        have hHM := HM.out
        have Hmat := Lib.hid hmat
        have hI2 := HI.out
        have hbR := HM.out.lt
        go_wp2_with (at_range; refine wpList_range_own _ rfl _ 30 rfl 25 3 law25 Try.underlying30 _ (B + 1) n D rfl hmD ?_)
        intro w2 hrg2 hg2 hs2
        have hbel2 : Below wr_.heap.size wr_ w2 := ⟨hg2.os, hg2.tape, hg2.output, hg2.size, fun k hk => hg2.block k hk (by simp)⟩
        have hhas : ∀ p ∈ S.op, Maps.has D (.int .u64 (p.num : Int)) = true := by
          intro p hp
          cases hh : Maps.has D (.int .u64 (p.num : Int)) with
          | true => rfl
          | false =>
            have h1 := atKey_of_not_has hh (.lit (.int .i64 0))
            have hb : p.num < 2 ^ 64 := by have := (HI.out.le p hp).1; have := HI.out.ln; omega
            rw [Hmat.out p.num hb, (HK.out.1 p.num).2 (.inl ⟨p, hp, rfl⟩)] at h1
            exact absurd h1 (by simp)
        have Hrg2 := Lib.hid hrg2
        have Hbel2 := Lib.hid hbel2
        have Hhas := Lib.hid hhas
        clear hrg2 hg2 hbel2 hhas hmat hmD hHM hI2
        obtain ⟨R, hR⟩ : ∃ R, wr_.heap.size = R := ⟨_, rfl⟩
        rw [hR] at Hrg2 Hbel2
        go_wp2_with fail
        rw [hR]
        have HR := Lib.hid hR
        clear hR
        go_loopw [10, 12] (fun o _ wz => ∃ (left : Lit → Bool) (cnt : Nat), wz.ranges Try.prog 25 (plainElem Try.prog 3) (B + 1) R n D left cnt ∧ o = .int .i64 (cntF left S.op : Nat) ∧ Below R wr_ wz) (fun _ _ wz => wz.rangeLeft (B + 1) R)
        case atStart => exact ⟨_, _, Hrg2.out, by rw [cntF_start Hhas.out]; rfl, Hbel2.out⟩
        case round =>
          obtain ⟨left, cnt, hrg, rfl, hbz⟩ := hrel
          have hfr := trivial
          go_wp2_with (at_next; go_loud (refine wpList_next_ranges_ii _ rfl _ rfl 25 3 .u64 .i64 law25 Try.underlying25 Try.underlying3 (B + 1) R n _ _ _ rfl hrg ?_ ?_))
          · intro _ hl0
            rw [cntF_end hl0]
            have hbz2 : Below wr_.heap.size wr_ wr := by rw [HR.out]; exact hbz
            have hO3 := HO.out.next hbz2
            have hm3 : MapIs wr (B + 1) n M := ⟨D, hrg.owns, Hmat.out⟩
            have hb3 : Below B w0 wr := Hbw.out.trans (hbz2.mono HO.out.bw)
            have hop := (Open_any B B 29 [] v S wr hO3 HI.out.len1).mono (R' := fun e w' => ∃ vo, e = .returned vo ∧ Td vo S.op w' ∧ MapIs w' (B + 1) n M ∧ Below B w0 w') (fun e w' ⟨vo, h1, h2, h3⟩ => ⟨vo, h1, .inr ⟨_, h2⟩, hm3.below h3, hb3.trans (h3.mono hO3.bw)⟩)
            have HOp := Lib.hid hop
            clear hop hO3 hm3 hb3 hbz2 hbz hfr hrg hl0
            go_wp2_with fail
            refine HOp.out.mono ?_
            rintro e w5 ⟨vo, rfl, htd, hm5, hb5⟩
            obtain ⟨pt, ct, rfl, hcells⟩ := htd.shape
            obtain ⟨m, hm⟩ : ∃ m, S.op.length = m := ⟨_, rfl⟩
            have hml : m ≤ 500 := by rw [← hm]; exact HI.out.len
            rw [hm]
            have Hcells := Lib.hid hcells
            have Hm := Lib.hid hm
            have Hm5 := Lib.hid hm5
            have Hb5 := Lib.hid hb5
            clear hcells hm hm5 hb5 htd HOp
            go_wp2_with fail
            go_loopw [105] (fun i wq => ∃ k : Nat, k ≤ m ∧ i = .int .i64 k ∧ Below w5.heap.size w5 wq) (fun i _ => m - (intOf i).toNat)
            case atStart => exact ⟨0, by omega, rfl, Below.refl _ _⟩
            case round =>
              obtain ⟨k, hk, rfl, hbq⟩ := hrel
              by_cases hlt3 : k < m
              · have hkl : k < S.op.length := by rw [Hm.out]; exact hlt3
                obtain ⟨q, hq⟩ : ∃ q, S.op[k] = q := ⟨_, rfl⟩
                have hq2 : S.op[k]? = some q := by rw [List.getElem?_eq_getElem hkl, hq]
                have hqm : q ∈ S.op := List.mem_of_getElem? hq2
                have hqb : q.num < 2 ^ 64 := by have := (HI.out.le q hqm).1; have := HI.out.ln; omega
                obtain ⟨g1, hpe, hg1, z0, z1, z2, z3, z4⟩ := Hcells.out k q hq2
                subst hpe
                have hmq := Hm5.out.below (hbq.alloc hbq.size (.cells #[.int .u64 (q.num : Int), .int .u64 (q.time : Int), .int .u64 (q.size : Int), .bool q.asks, .slice q.fa q.fl q.fc] 38))
                have hM1 : M q.num = 1 := (HK.out.1 q.num).2 (.inl ⟨q, hqm, rfl⟩)
                have hlk : ∀ nq, _ := fun nq => MapIs.look (w := ((wr.alloc (.cells #[.int .u64 (q.num : Int), .int .u64 (q.time : Int), .int .u64 (q.size : Int), .bool q.asks, .slice q.fa q.fl q.fc] 38)).drewN nq)) hmq hqb
                rw [hM1] at hlk
                have e0 := (hbq.cell (p := ⟨g1, k * 5, none⟩) hg1).trans z0
                have e1 := (hbq.cell (p := ⟨g1, k * 5 + 1, none⟩) hg1).trans z1
                have e2 := (hbq.cell (p := ⟨g1, k * 5 + 2, none⟩) hg1).trans z2
                have e3 := (hbq.cell (p := ⟨g1, k * 5 + 3, none⟩) hg1).trans z3
                have e4 := (hbq.cell (p := ⟨g1, k * 5 + 4, none⟩) hg1).trans z4
                have hg1r : g1 < wr.heap.size := Nat.lt_of_lt_of_le hg1 hbq.size
                have hbn : ∀ nq, Below w5.heap.size w5 ((wr.alloc (.cells #[.int .u64 (q.num : Int), .int .u64 (q.time : Int), .int .u64 (q.size : Int), .bool q.asks, .slice q.fa q.fl q.fc] 38)).drewN nq) := fun nq => below_drewN (hbq.alloc hbq.size _) nq
                have Hbn := Lib.hid hbn
                rcases Nat.eq_zero_or_pos k with hk0 | hk0
                · subst hk0
                  clear hbn hbq hq hq2 hqm z0 z1 z2 z3 z4 hmq hM1
                  go_wp2_with fail
                  go_quiet (fail)
                  go_wp2_with fail
                  go_roundw
                  case rel => exact ⟨1, by omega, rfl, Hbn.out _⟩
                  case measure => simp [intOf]; omega
                · obtain ⟨k', rfl⟩ : ∃ k', k = k' + 1 := ⟨k - 1, by omega⟩
                  have hkl' : k' < S.op.length := by omega
                  obtain ⟨q', hq'⟩ : ∃ q, S.op[k'] = q := ⟨_, rfl⟩
                  have hq2' : S.op[k']? = some q' := by rw [List.getElem?_eq_getElem hkl', hq']
                  obtain ⟨g2, hpe2, hg2, y0, _⟩ := Hcells.out k' q' hq2'
                  injection hpe2 with hpe2
                  injection hpe2 with hpe2 _ _
                  subst hpe2
                  have f0 := (hbq.cell (p := ⟨g1, k' * 5, none⟩) hg1).trans y0
                  have hlt4 : q'.num < q.num := by
                    have := List.pairwise_iff_getElem.1 HI.out.up k' (k' + 1) hkl' hkl (by omega)
                    rw [hq, hq'] at this
                    exact this
                  have hki : ((k' + 1 : Nat) : Int) - 1 = (k' : Int) := by omega
                  have d1 : decide ((0 : Int) < ((k' + 1 : Nat) : Int)) = true := by rw [decide_eq_true_iff]; omega
                  have d2 : decide ((q.num : Int) ≤ (q'.num : Int)) = false := by rw [decide_eq_false_iff_not]; omega
                  clear hbn hbq hq hq2 hqm z0 z1 z2 z3 z4 hmq hM1 hq' hq2' y0
                  go_wp2_with fail
                  go_quiet (fail)
                  go_wp2_with fail
                  go_roundw
                  case rel => exact ⟨k' + 1 + 1, by omega, by go_num, Hbn.out _⟩
                  case measure => simp [intOf]; omega
              · have Hbq := Lib.hid (Hb0.out.trans ((Hb5.out.mono hBl).trans (hbq.mono (Nat.le_trans hBl (by rw [← hB]; exact Hb5.out.size)))))
                clear hbq
                go_wp2_with fail
                go_ret
                exact ⟨by simp, Hbq.out⟩
          · intro x c w4 cnt1 hwx hwc hlx hat hrg1 hlt5 hg4 hs4 hen
            obtain ⟨xn, rfl, hxb⟩ := nat_of_u64 hwx
            have hMc : M xn = c := by
              have h1 := hat (.lit (.int .i64 0))
              rw [Hmat.out xn hxb] at h1
              simpa using h1
            have hcl := cntF_le left S.op
            have hcl2 := HI.out.len
            have hfr4 : Below R wr_ w4 := hbz.grown hg4 (by have := hbz.size; rw [HR.out] at this; exact this) (fun k hk => by injection hk with hk; omega)
            have Hrg1 := Lib.hid hrg1
            have Hfr4 := Lib.hid hfr4
            have Hlt5 := Lib.hid hlt5
            have Hrg := Lib.hid hrg
            by_cases hc1 : c = 1
            · subst hc1
              have hin := (HK.out.1 xn).1 hMc
              have hhit := cntF_hit (left := left) (HI.out.up.imp (fun hlt => Nat.ne_of_lt hlt)) (hin.resolve_right (by simp)) hlx
              have Hhit := Lib.hid hhit
              obtain ⟨cn, hcn⟩ : ∃ cn, cntF left S.op = cn := ⟨_, rfl⟩
              rw [hcn] at hcl ⊢
              have Hcn := Lib.hid hcn
              clear hhit hin hMc hat hrg1 hfr4 hlt5 hrg hfr hbz hlx hcn hg4
              go_wp2_with fail
              go_roundw
              case rel => exact ⟨_, cnt1, Hrg1.out, by rw [Hhit.out, Hcn.out]; go_num, Hfr4.out⟩
              case measure => rw [Hrg1.out.left_eq, Hrg.out.left_eq]; exact Hlt5.out
            · have hmiss := cntF_miss (left := left) (l := S.op) (x := (xn : Int)) (fun p hp e => hc1 (by rw [← hMc]; exact (HK.out.1 xn).2 (.inl ⟨p, hp, by omega⟩)))
              have Hmiss := Lib.hid hmiss
              have ec : (c == 1) = false := by rw [beq_eq_false_iff_ne]; exact hc1
              clear hmiss hMc hat hrg1 hfr4 hlt5 hrg hfr hbz hlx hc1 hg4
              go_wp2_with fail
              go_roundw
              case rel => exact ⟨_, cnt1, Hrg1.out, by rw [Hmiss.out], Hfr4.out⟩
              case measure => rw [Hrg1.out.left_eq, Hrg.out.left_eq]; exact Hlt5.out
    · obtain ⟨wr_, rfl⟩ : ∃ w, w = wr := ⟨_, rfl⟩
      obtain ⟨D, hmD, hmat⟩ := HM.out
      have hHM := HM.out
      have Hmat := Lib.hid hmat
      have hI2 := HI.out
      have hbR := HM.out.lt
      go_wp2_with (at_range; refine wpList_range_own _ rfl _ 30 rfl 25 3 law25 Try.underlying30 _ (B + 1) n D rfl hmD ?_)
      intro w2 hrg2 hg2 hs2
      have hbel2 : Below wr_.heap.size wr_ w2 := ⟨hg2.os, hg2.tape, hg2.output, hg2.size, fun k hk => hg2.block k hk (by simp)⟩
      have hhas : ∀ p ∈ S.op, Maps.has D (.int .u64 (p.num : Int)) = true := by
        intro p hp
        cases hh : Maps.has D (.int .u64 (p.num : Int)) with
        | true => rfl
        | false =>
          have h1 := atKey_of_not_has hh (.lit (.int .i64 0))
          have hb : p.num < 2 ^ 64 := by have := (HI.out.le p hp).1; have := HI.out.ln; omega
          rw [Hmat.out p.num hb, (HK.out.1 p.num).2 (.inl ⟨p, hp, rfl⟩)] at h1
          exact absurd h1 (by simp)
      have Hrg2 := Lib.hid hrg2
      have Hbel2 := Lib.hid hbel2
      have Hhas := Lib.hid hhas
      clear hrg2 hg2 hbel2 hhas hmat hmD hHM hI2
      obtain ⟨R, hR⟩ : ∃ R, wr_.heap.size = R := ⟨_, rfl⟩
      rw [hR] at Hrg2 Hbel2
      go_wp2_with fail
      rw [hR]
      have HR := Lib.hid hR
      clear hR
      go_loopw [10, 12] (fun o _ wz => ∃ (left : Lit → Bool) (cnt : Nat), wz.ranges Try.prog 25 (plainElem Try.prog 3) (B + 1) R n D left cnt ∧ o = .int .i64 (cntF left S.op : Nat) ∧ Below R wr_ wz) (fun _ _ wz => wz.rangeLeft (B + 1) R)
      case atStart => exact ⟨_, _, Hrg2.out, by rw [cntF_start Hhas.out]; rfl, Hbel2.out⟩
      case round =>
        obtain ⟨left, cnt, hrg, rfl, hbz⟩ := hrel
        have hfr := trivial
        go_wp2_with (at_next; go_loud (refine wpList_next_ranges_ii _ rfl _ rfl 25 3 .u64 .i64 law25 Try.underlying25 Try.underlying3 (B + 1) R n _ _ _ rfl hrg ?_ ?_))
        · intro _ hl0
          rw [cntF_end hl0]
          have hbz2 : Below wr_.heap.size wr_ wr := by rw [HR.out]; exact hbz
          have hO3 := HO.out.next hbz2
          have hm3 : MapIs wr (B + 1) n M := ⟨D, hrg.owns, Hmat.out⟩
          have hb3 : Below B w0 wr := Hbw.out.trans (hbz2.mono HO.out.bw)
          have hop := (Open_any B B 29 [] v S wr hO3 HI.out.len1).mono (R' := fun e w' => ∃ vo, e = .returned vo ∧ Td vo S.op w' ∧ MapIs w' (B + 1) n M ∧ Below B w0 w') (fun e w' ⟨vo, h1, h2, h3⟩ => ⟨vo, h1, .inr ⟨_, h2⟩, hm3.below h3, hb3.trans (h3.mono hO3.bw)⟩)
          have HOp := Lib.hid hop
          clear hop hO3 hm3 hb3 hbz2 hbz hfr hrg hl0
          go_wp2_with fail
          refine HOp.out.mono ?_
          rintro e w5 ⟨vo, rfl, htd, hm5, hb5⟩
          obtain ⟨pt, ct, rfl, hcells⟩ := htd.shape
          obtain ⟨m, hm⟩ : ∃ m, S.op.length = m := ⟨_, rfl⟩
          have hml : m ≤ 500 := by rw [← hm]; exact HI.out.len
          rw [hm]
          have Hcells := Lib.hid hcells
          have Hm := Lib.hid hm
          have Hm5 := Lib.hid hm5
          have Hb5 := Lib.hid hb5
          clear hcells hm hm5 hb5 htd HOp
          go_wp2_with fail
          go_loopw [105] (fun i wq => ∃ k : Nat, k ≤ m ∧ i = .int .i64 k ∧ Below w5.heap.size w5 wq) (fun i _ => m - (intOf i).toNat)
          case atStart => exact ⟨0, by omega, rfl, Below.refl _ _⟩
          case round =>
            obtain ⟨k, hk, rfl, hbq⟩ := hrel
            by_cases hlt3 : k < m
            · have hkl : k < S.op.length := by rw [Hm.out]; exact hlt3
              obtain ⟨q, hq⟩ : ∃ q, S.op[k] = q := ⟨_, rfl⟩
              have hq2 : S.op[k]? = some q := by rw [List.getElem?_eq_getElem hkl, hq]
              have hqm : q ∈ S.op := List.mem_of_getElem? hq2
              have hqb : q.num < 2 ^ 64 := by have := (HI.out.le q hqm).1; have := HI.out.ln; omega
              obtain ⟨g1, hpe, hg1, z0, z1, z2, z3, z4⟩ := Hcells.out k q hq2
              subst hpe
              have hmq := Hm5.out.below (hbq.alloc hbq.size (.cells #[.int .u64 (q.num : Int), .int .u64 (q.time : Int), .int .u64 (q.size : Int), .bool q.asks, .slice q.fa q.fl q.fc] 38))
              have hM1 : M q.num = 1 := (HK.out.1 q.num).2 (.inl ⟨q, hqm, rfl⟩)
              have hlk : ∀ nq, _ := fun nq => MapIs.look (w := ((wr.alloc (.cells #[.int .u64 (q.num : Int), .int .u64 (q.time : Int), .int .u64 (q.size : Int), .bool q.asks, .slice q.fa q.fl q.fc] 38)).drewN nq)) hmq hqb
              rw [hM1] at hlk
              have e0 := (hbq.cell (p := ⟨g1, k * 5, none⟩) hg1).trans z0
              have e1 := (hbq.cell (p := ⟨g1, k * 5 + 1, none⟩) hg1).trans z1
              have e2 := (hbq.cell (p := ⟨g1, k * 5 + 2, none⟩) hg1).trans z2
              have e3 := (hbq.cell (p := ⟨g1, k * 5 + 3, none⟩) hg1).trans z3
              have e4 := (hbq.cell (p := ⟨g1, k * 5 + 4, none⟩) hg1).trans z4
              have hg1r : g1 < wr.heap.size := Nat.lt_of_lt_of_le hg1 hbq.size
              have hbn : ∀ nq, Below w5.heap.size w5 ((wr.alloc (.cells #[.int .u64 (q.num : Int), .int .u64 (q.time : Int), .int .u64 (q.size : Int), .bool q.asks, .slice q.fa q.fl q.fc] 38)).drewN nq) := fun nq => below_drewN (hbq.alloc hbq.size _) nq
              have Hbn := Lib.hid hbn
              rcases Nat.eq_zero_or_pos k with hk0 | hk0
              · subst hk0
                clear hbn hbq hq hq2 hqm z0 z1 z2 z3 z4 hmq hM1
                go_wp2_with fail
                go_quiet (fail)
                go_wp2_with fail
                go_roundw
                case rel => exact ⟨1, by omega, rfl, Hbn.out _⟩
                case measure => simp [intOf]; omega
              · obtain ⟨k', rfl⟩ : ∃ k', k = k' + 1 := ⟨k - 1, by omega⟩
                have hkl' : k' < S.op.length := by omega
                obtain ⟨q', hq'⟩ : ∃ q, S.op[k'] = q := ⟨_, rfl⟩
                have hq2' : S.op[k']? = some q' := by rw [List.getElem?_eq_getElem hkl', hq']
                obtain ⟨g2, hpe2, hg2, y0, _⟩ := Hcells.out k' q' hq2'
                injection hpe2 with hpe2
                injection hpe2 with hpe2 _ _
                subst hpe2
                have f0 := (hbq.cell (p := ⟨g1, k' * 5, none⟩) hg1).trans y0
                have hlt4 : q'.num < q.num := by
                  have := List.pairwise_iff_getElem.1 HI.out.up k' (k' + 1) hkl' hkl (by omega)
                  rw [hq, hq'] at this
                  exact this
                have hki : ((k' + 1 : Nat) : Int) - 1 = (k' : Int) := by omega
                have d1 : decide ((0 : Int) < ((k' + 1 : Nat) : Int)) = true := by rw [decide_eq_true_iff]; omega
                have d2 : decide ((q.num : Int) ≤ (q'.num : Int)) = false := by rw [decide_eq_false_iff_not]; omega
                clear hbn hbq hq hq2 hqm z0 z1 z2 z3 z4 hmq hM1 hq' hq2' y0
                go_wp2_with fail
                go_quiet (fail)
                go_wp2_with fail
                go_roundw
                case rel => exact ⟨k' + 1 + 1, by omega, by go_num, Hbn.out _⟩
                case measure => simp [intOf]; omega
            · have Hbq := Lib.hid (Hb0.out.trans ((Hb5.out.mono hBl).trans (hbq.mono (Nat.le_trans hBl (by rw [← hB]; exact Hb5.out.size)))))
              clear hbq
              go_wp2_with fail
              go_ret
              exact ⟨by simp, Hbq.out⟩
        · intro x c w4 cnt1 hwx hwc hlx hat hrg1 hlt5 hg4 hs4 hen
          obtain ⟨xn, rfl, hxb⟩ := nat_of_u64 hwx
          have hMc : M xn = c := by
            have h1 := hat (.lit (.int .i64 0))
            rw [Hmat.out xn hxb] at h1
            simpa using h1
          have hcl := cntF_le left S.op
          have hcl2 := HI.out.len
          have hfr4 : Below R wr_ w4 := hbz.grown hg4 (by have := hbz.size; rw [HR.out] at this; exact this) (fun k hk => by injection hk with hk; omega)
          have Hrg1 := Lib.hid hrg1
          have Hfr4 := Lib.hid hfr4
          have Hlt5 := Lib.hid hlt5
          have Hrg := Lib.hid hrg
          by_cases hc1 : c = 1
          · subst hc1
            have hin := (HK.out.1 xn).1 hMc
            have hhit := cntF_hit (left := left) (HI.out.up.imp (fun hlt => Nat.ne_of_lt hlt)) (hin.resolve_right (by simp)) hlx
            have Hhit := Lib.hid hhit
            obtain ⟨cn, hcn⟩ : ∃ cn, cntF left S.op = cn := ⟨_, rfl⟩
            rw [hcn] at hcl ⊢
            have Hcn := Lib.hid hcn
            clear hhit hin hMc hat hrg1 hfr4 hlt5 hrg hfr hbz hlx hcn hg4
            go_wp2_with fail
            go_roundw
            case rel => exact ⟨_, cnt1, Hrg1.out, by rw [Hhit.out, Hcn.out]; go_num, Hfr4.out⟩
            case measure => rw [Hrg1.out.left_eq, Hrg.out.left_eq]; exact Hlt5.out
          · have hmiss := cntF_miss (left := left) (l := S.op) (x := (xn : Int)) (fun p hp e => hc1 (by rw [← hMc]; exact (HK.out.1 xn).2 (.inl ⟨p, hp, by omega⟩)))
            have Hmiss := Lib.hid hmiss
            have ec : (c == 1) = false := by rw [beq_eq_false_iff_ne]; exact hc1
            clear hmiss hMc hat hrg1 hfr4 hlt5 hrg hfr hbz hlx hc1 hg4
            go_wp2_with fail
            go_roundw
            case rel => exact ⟨_, cnt1, Hrg1.out, by rw [Hmiss.out], Hfr4.out⟩
            case measure => rw [Hrg1.out.left_eq, Hrg.out.left_eq]; exact Hlt5.out

end Go.Proofs.Ytaoeamkkbopioaa
