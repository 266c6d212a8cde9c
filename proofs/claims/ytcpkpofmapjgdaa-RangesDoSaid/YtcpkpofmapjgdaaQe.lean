/- ranges: the law RangesDo, walked. Printed by wip/tools. -/
import Derived.Test.YtcpkpofmapjgdaaQd
namespace Go.Proofs.Ytcpkpofmapjgdaa
open Go.ChangeShapes Go.WideShapes Go.RowKit
set_option linter.unusedVariables false

section
variable {P : Program} {ops : Array Oper} {Q : Exit → Act → World → Prop} {md : Region.Mode} {S : World → Prop}
/-- Take number i first; its slot is given, so that the state stays written out. -/
theorem wpAnyH_takeD {i : Nat} {oi : Oper} {v : Value} {fuel : Nat} {listed : Array Bool} {a : Act} {w : World} (d : Option Nat) (hi : ops[i]? = some oi) (hd : oi.dst = d)
    (hs : Region.noSelect ops = true) (hf : Region.free md ops listed i = true) (hr : (Region.ready md ops listed).contains i = true)
    (hQ : ∀ c a w, Q (.panic c) (a.put oi.dst v) w → Q (.panic c) a w) (hy : YieldsIf P ops S oi v a) (hS : S w)
    (h : wpAnyH P md ops Q S fuel (listed.setIfInBounds i true) (a.put d v) w) : wpAnyH P md ops Q S (fuel + 1) listed a w := by
  subst hd
  exact wpAnyH_take hi hs hf hr hQ hy hS h
end

/-- The program's set and the document's, both under way. -/
structure Dw (w0 : World) (b c : Nat) (v vr : Value) (L Lr : List Rg) (x : World) : Prop where
  s : St w0 b v L x
  r : RIs x c w0.heap.size vr Lr
  ne : b ≠ c
  apart : ∀ k, v.ownBlock = some k → vr.ownBlock ≠ some k
def DwL (w0 : World) (b c : Nat) (L Lr : List Rg) (x : World) : Prop := ∃ v vr, Dw w0 b c v vr L Lr x

theorem Dw.next {w0 x y : World} {b c : Nat} {v vr : Value} {L Lr : List Rg} (h : Dw w0 b c v vr L Lr x) (hb : Below x.heap.size x y) : Dw w0 b c v vr L Lr y :=
  ⟨h.s.next hb, h.r.next hb, h.ne, h.apart⟩
theorem Dw.drew {w0 x : World} {b c : Nat} {v vr : Value} {L Lr : List Rg} (h : Dw w0 b c v vr L Lr x) : Dw w0 b c v vr L Lr x.drew := h.next (Below.drew2 (Below.refl _ _))
theorem Dw.drewN {w0 x : World} {b c : Nat} {v vr : Value} {L Lr : List Rg} (h : Dw w0 b c v vr L Lr x) (n : Nat) : Dw w0 b c v vr L Lr (x.drewN n) := h.next ⟨rfl, rfl, rfl, Nat.le_refl _, fun _ _ => rfl⟩
theorem DwL.drew {w0 x : World} {b c : Nat} {L Lr : List Rg} (h : DwL w0 b c L Lr x) : DwL w0 b c L Lr x.drew := by
  obtain ⟨v, vr, h⟩ := h
  exact ⟨v, vr, h.drew⟩
theorem Dw.sto {w0 x y : World} {b c : Nat} {v vr v' : Value} {L Lr L' : List Rg} (h : Dw w0 b c v vr L Lr x) (hs : St w0 b v' L' y) (hto : SetTo b w0.heap.size v x v' L' y) : Dw w0 b c v' vr L' Lr y := by
  have hO := hto.2.1
  have hcs : v.ownBlock ≠ some c := own_ne h.s.is.own h.r.at_ (by decide)
  have hbt : vr.ownBlock ≠ some b := own_ne h.r.own h.s.is.at_ (by decide)
  refine ⟨hs, ⟨h.r.at_.only hO ?_, own_only h.r.own hO ?_, Nat.le_trans h.r.bw hO.size, h.r.bb⟩, h.ne, ?_⟩
  · rintro (e | e)
    · exact h.ne e.symm
    · exact hcs e
  · rintro k hk (e | e)
    · subst e; exact hbt hk
    · exact h.apart k e hk
  · intro k h1 h2
    rcases hto.2.2 with e | e
    · rw [e] at h1; exact h.apart k h1 h2
    · have := e k h1
      have := (own_base_le h.r.own k h2).2
      omega
theorem Dw.rto {w0 x y : World} {b c : Nat} {v vr v' : Value} {L Lr L' : List Rg} (h : Dw w0 b c v vr L Lr x) (hr : RIs y c w0.heap.size v' L') (hO : Only (fun k => k = c) x y) (hv : v' = vr ∨ ∀ k, v'.ownBlock = some k → x.heap.size ≤ k) : Dw w0 b c v v' L L' y := by
  have hbv : v.ownBlock ≠ some c := own_ne h.s.is.own h.r.at_ (by decide)
  refine ⟨⟨⟨h.s.is.at_.only hO h.ne, own_only h.s.is.own hO (fun k hk e => hbv (by rw [← e]; exact hk)), Nat.le_trans h.s.is.bw hO.size, h.s.is.bb⟩, h.s.bel.trans (hO.below h.s.bel.size (fun k e => by rw [e]; exact h.r.bb)), h.s.ok, h.s.len⟩, hr, h.ne, ?_⟩
  intro k h1 h2
  rcases hv with rfl | hv
  · exact h.apart k h1 h2
  · have := hv k h2
    have := (own_base_le h.s.is.own k h1).2
    omega
theorem Dw.start (w0 : World) : Dw w0 w0.heap.size (w0.heap.size + 1) (.slice none 0 0) (.slice none 0 0) [] [] ((w0.alloc (.cells #[.slice none 0 0] 27)).alloc (.cells #[.slice none 0 0] 30)) := by
  have h1 := St.start w0
  have hs : (w0.alloc (.cells #[.slice none 0 0] 27)).heap.size = w0.heap.size + 1 := by simp
  have hb : Below (w0.alloc (.cells #[.slice none 0 0] 27)).heap.size (w0.alloc (.cells #[.slice none 0 0] 27)) ((w0.alloc (.cells #[.slice none 0 0] 27)).alloc (.cells #[.slice none 0 0] 30)) := (Below.refl _ _).alloc (Nat.le_refl _) _
  have h3 := h1.next hb
  have h4 := blk.new (w0.alloc (.cells #[.slice none 0 0] 27)) 30 [.slice none 0 0]
  rw [hs] at h4
  exact ⟨h3, ⟨h4, ⟨rfl, .inl ⟨rfl, rfl⟩⟩, h3.is.bw, by omega⟩, by omega, fun k hk => by cases hk⟩

section
variable {w0 x : World} {b c : Nat} {L Lr : List Rg}
theorem DwL.add (h : DwL w0 b c L Lr x) (low high : Nat) (hl : low < 18446744073709551616) (hh : high < 18446744073709551616) :
    Calls Try.prog 11 #[.pointer (some ⟨b, 0, none⟩), .int .u64 (low : Int), .int .u64 (high : Int)] x fun e w' => e = .returned (.int .i64 ((addE L low high : Nat) : Int)) ∧ DwL w0 b c (addR L low high) Lr w' ∧ Below w0.heap.size w0 w' := by
  obtain ⟨v, vr, h⟩ := h
  refine (h.s.add low high hl hh).mono ?_
  rintro e w' ⟨rfl, v', hst, hto⟩
  exact ⟨rfl, ⟨v', vr, h.sto hst hto⟩, hst.bel⟩
theorem DwL.radd (h : DwL w0 b c L Lr x) (hOk : OkR Lr) (hlen : Lr.length ≤ 200) (low high : Nat) (hl : low < 18446744073709551616) (hh : high < 18446744073709551616) :
    Calls Try.prog 12 #[.pointer (some ⟨c, 0, none⟩), .int .u64 (low : Int), .int .u64 (high : Int)] x fun e w' => e = .returned (.int .i64 ((addE Lr low high : Nat) : Int)) ∧ DwL w0 b c L (addR Lr low high) w' ∧ Below w0.heap.size w0 w' := by
  obtain ⟨v, vr, h⟩ := h
  refine (radd_ok c _ vr Lr x low high h.r hlen hOk hl hh).mono ?_
  rintro e w' ⟨rfl, v', h1, h2, h3⟩
  have h4 := h.rto h1 h2 h3
  exact ⟨rfl, ⟨v, v', h4⟩, h4.s.bel⟩
theorem DwL.drop (h : DwL w0 b c L Lr x) (below : Nat) :
    Calls Try.prog 13 #[.pointer (some ⟨b, 0, none⟩), .int .u64 (below : Int)] x fun e w' => e = .returned (.tuple #[]) ∧ DwL w0 b c (dropR L below) Lr w' ∧ Below w0.heap.size w0 w' := by
  obtain ⟨v, vr, h⟩ := h
  refine (h.s.drop below).mono ?_
  rintro e w' ⟨rfl, v', hst, hto⟩
  exact ⟨rfl, ⟨v', vr, h.sto hst hto⟩, hst.bel⟩
theorem DwL.rdrop (h : DwL w0 b c L Lr x) (hOk : OkR Lr) (hlen : Lr.length ≤ 200) (below : Nat) :
    Calls Try.prog 14 #[.pointer (some ⟨c, 0, none⟩), .int .u64 (below : Int)] x fun e w' => e = .returned (.tuple #[]) ∧ DwL w0 b c L (dropR Lr below) w' ∧ Below w0.heap.size w0 w' := by
  obtain ⟨v, vr, h⟩ := h
  refine (rdrop_ok c _ vr Lr x below h.r (by omega) hOk).mono ?_
  rintro e w' ⟨rfl, v', h1, h2, h3⟩
  have h4 := h.rto h1 h2 (.inr h3)
  exact ⟨rfl, ⟨v, v', h4⟩, h4.s.bel⟩
end
theorem RV.of_own {w : World} {B n : Nat} {u : Value} {L : List Rg} (h : w.ownsRow B 45 2 u n (rgs L)) : ∃ p cap, u = .slice p n cap ∧ RV w p L := by
  obtain ⟨p, cap, rfl, _⟩ := own_shape h
  exact ⟨p, cap, rfl, RV.of_row h⟩

/-- What the calls that only ask find and leave. -/
abbrev Ask (w0 : World) (b c : Nat) (v : Value) (pr : Option Addr) (N cr : Nat) (L : List Rg) (x : World) : Prop :=
  x.cell? ⟨c, 0, none⟩ = some (.slice pr N cr) ∧ Dw w0 b c v (.slice pr N cr) L L x
theorem Ask.of {w0 x : World} {b c : Nat} {v : Value} {pr : Option Addr} {N cr : Nat} {L : List Rg} (h : Dw w0 b c v (.slice pr N cr) L L x) : Ask w0 b c v pr N cr L x := ⟨h.r.at_.cell rfl, h⟩
theorem Ask.next {w0 x y : World} {b c : Nat} {v : Value} {pr : Option Addr} {N cr : Nat} {L : List Rg} (h : Ask w0 b c v pr N cr L x) (hb : Below x.heap.size x y) : Ask w0 b c v pr N cr L y := Ask.of (h.2.next hb)

section
variable {w0 x : World} {b c : Nat} {v : Value} {pr : Option Addr} {N cr : Nat} {L : List Rg}
theorem Ask.ranges (h : Ask w0 b c v pr N cr L x) (hN : L.length = N) :
    Calls Try.prog 16 #[.pointer (some ⟨b, 0, none⟩)] x fun e w' => ∃ p cap, e = .returned (.slice p N cap) ∧ RV w' p L ∧ Ask w0 b c v pr N cr L w' := by
  refine h.2.s.ranges.mono ?_
  rintro e w' ⟨p, cap, rfl, hrow, hb, -⟩
  exact ⟨p, cap, by rw [hN], RV.of_row hrow, h.next hb⟩
theorem Ask.same1 (h : Ask w0 b c v pr N cr L x) (hN : L.length = N) {p : Option Addr} {cap : Nat} (hp : RV x p L) :
    Calls Try.prog 15 #[.slice p N cap, .slice pr N cr] x fun e w' => e = .returned (.bool true) ∧ Ask w0 b c v pr N cr L w' := by
  have hl := h.2.s.len
  have ho := h.2.r.own
  rw [hN] at ho
  have := same_ok p pr N N cap cr L L x hp (RV.of_row ho) hN hN (by omega) (by omega)
  rw [show decide (L = L) = true from decide_eq_true rfl] at this
  exact this.mono (fun e w' hh => ⟨hh.1, h.next hh.2⟩)
theorem Ask.top (h : Ask w0 b c v pr N cr L x) (hN : L.length = N) {many : Int} {T : Nat} (hm : -9223372036854775808 ≤ many ∧ many < 9223372036854775808) (hT : topN many N = T) :
    Calls Try.prog 17 #[.pointer (some ⟨b, 0, none⟩), .int .i64 many] x fun e w' => ∃ p cap, e = .returned (.slice p T cap) ∧ RV w' p (L.take T) ∧ Ask w0 b c v pr N cr L w' := by
  refine (h.2.s.top many hm).mono ?_
  rintro e w' ⟨p, cap, rfl, hrow, hb, -⟩
  rw [hN, hT] at hrow ⊢
  exact ⟨p, cap, rfl, RV.of_row hrow, h.next hb⟩
theorem Ask.rtop (h : Ask w0 b c v pr N cr L x) (hN : L.length = N) {many : Int} {T : Nat} (hm : -9223372036854775808 ≤ many ∧ many < 9223372036854775808) (hT : topN many N = T) {pt : Option Addr} (hp : RV x pt (L.take T)) :
    Calls Try.prog 18 #[.pointer (some ⟨c, 0, none⟩), .int .i64 many] x fun e w' => ∃ p cap, e = .returned (.slice p T cap) ∧ RV w' p (L.take T) ∧ RV w' pt (L.take T) ∧ Ask w0 b c v pr N cr L w' := by
  refine (rtop_ok c _ _ L x many h.2.r (by have := h.2.s.len; omega) hm).mono ?_
  rintro e w' ⟨u, rfl, hrow, hb⟩
  rw [hN, hT] at hrow
  obtain ⟨p, cap, rfl, hrv⟩ := RV.of_own hrow
  exact ⟨p, cap, rfl, hrv, hp.below hb, h.next hb⟩
theorem Ask.same2 (h : Ask w0 b c v pr N cr L x) (hN : L.length = N) {T : Nat} (hT : T ≤ N) {p q : Option Addr} {cp cq : Nat} (hp : RV x p (L.take T)) (hq : RV x q (L.take T)) :
    Calls Try.prog 15 #[.slice p T cp, .slice q T cq] x fun e w' => e = .returned (.bool true) ∧ Ask w0 b c v pr N cr L w' := by
  have hl := h.2.s.len
  have := same_ok p q T T cp cq (L.take T) (L.take T) x hp hq (by rw [List.length_take]; omega) (by rw [List.length_take]; omega) (by omega) (by omega)
  rw [show decide (L.take T = L.take T) = true from decide_eq_true rfl] at this
  exact this.mono (fun e w' hh => ⟨hh.1, h.next hh.2⟩)
theorem Ask.has (h : Ask w0 b c v pr N cr L x) {n : Nat} {r : Bool} (hr : coversR L n n = r) :
    Calls Try.prog 19 #[.pointer (some ⟨b, 0, none⟩), .int .u64 (n : Int)] x fun e w' => e = .returned (.bool r) ∧ Ask w0 b c v pr N cr L w' := by
  subst hr
  exact (h.2.s.has n).mono (fun e w' hh => ⟨hh.1, h.next hh.2.1⟩)
theorem Ask.covers (h : Ask w0 b c v pr N cr L x) {n m : Nat} {r : Bool} (hr : coversR L n m = r) :
    Calls Try.prog 21 #[.pointer (some ⟨b, 0, none⟩), .int .u64 (n : Int), .int .u64 (m : Int)] x fun e w' => e = .returned (.bool r) ∧ Ask w0 b c v pr N cr L w' := by
  subst hr
  exact (h.2.s.covers n m).mono (fun e w' hh => ⟨hh.1, h.next hh.2.1⟩)
theorem Ask.rcovers (h : Ask w0 b c v pr N cr L x) {n m : Nat} {r : Bool} (hr : coversR L n m = r) :
    Calls Try.prog 20 #[.pointer (some ⟨c, 0, none⟩), .int .u64 (n : Int), .int .u64 (m : Int)] x fun e w' => e = .returned (.bool r) ∧ Ask w0 b c v pr N cr L w' := by
  subst hr
  exact (rcovers_ok c _ _ L x n m h.2.r (by have := h.2.s.len; omega) h.2.s.ok).mono (fun e w' hh => ⟨hh.1, h.next hh.2⟩)
theorem Ask.count (h : Ask w0 b c v pr N cr L x) {C : Nat} (hC : countR L = C) :
    Calls Try.prog 22 #[.pointer (some ⟨b, 0, none⟩)] x fun e w' => e = .returned (.int .u64 (C : Int)) ∧ Ask w0 b c v pr N cr L w' := by
  subst hC
  exact h.2.s.count.mono (fun e w' hh => ⟨hh.1, h.next hh.2.1⟩)
theorem Ask.rcount (h : Ask w0 b c v pr N cr L x) {C : Nat} (hC : countR L = C) :
    Calls Try.prog 23 #[.pointer (some ⟨c, 0, none⟩)] x fun e w' => e = .returned (.int .u64 (C : Int)) ∧ Ask w0 b c v pr N cr L w' := by
  subst hC
  exact (rcount_ok c _ _ L x h.2.r (by have := h.2.s.len; omega) h.2.s.ok).mono (fun e w' hh => ⟨hh.1, h.next hh.2⟩)
theorem Ask.least (h : Ask w0 b c v pr N cr L x) {a : Nat} {is : Bool} (ha : leastR L = (a, is)) :
    Calls Try.prog 24 #[.pointer (some ⟨b, 0, none⟩)] x fun e w' => e = .returned (.tuple #[.int .u64 (a : Int), .bool is]) ∧ Ask w0 b c v pr N cr L w' := by
  have := h.2.s.least
  rw [ha] at this
  exact this.mono (fun e w' hh => ⟨hh.1, h.next hh.2.1⟩)
theorem Ask.most (h : Ask w0 b c v pr N cr L x) {a : Nat} {is : Bool} (ha : mostR L = (a, is)) :
    Calls Try.prog 25 #[.pointer (some ⟨b, 0, none⟩)] x fun e w' => e = .returned (.tuple #[.int .u64 (a : Int), .bool is]) ∧ Ask w0 b c v pr N cr L w' := by
  have := h.2.s.most
  rw [ha] at this
  exact this.mono (fun e w' hh => ⟨hh.1, h.next hh.2.1⟩)
end

/-- The cells of an act. -/
abbrev ActC (g o j : Nat) (K : Int) (lo hi : Nat) (w0 x : World) : Prop :=
  ((x.cell? ⟨g, o + j * 3, none⟩ = some (.int .i64 K) ∧ x.cell? ⟨g, o + j * 3 + 1, none⟩ = some (.int .u64 (lo : Int))) ∧ x.cell? ⟨g, o + j * 3 + 2, none⟩ = some (.int .u64 (hi : Int))) ∧ Below w0.heap.size w0 x

set_option maxRecDepth 100000 in
set_option maxHeartbeats 8000000 in
theorem do_walk (p : Option Addr) (cap : Nat) (xs : List Act1) (n m : Nat) (many : Int) (w : World) (hA : ActsAt w p xs) (hl : xs.length ≤ maxLen) (hn64 : n < 2 ^ 64) (hm64 : m < 2 ^ 64) (hm : -9223372036854775808 ≤ many ∧ many < 9223372036854775808) :
    Calls Try.prog 3 #[.slice p xs.length cap, .int .u64 (n : Int), .int .u64 (m : Int), .int .i64 many] w fun e w' => e = .returned (.bool true) ∧ Below w.heap.size w w' := by
  obtain ⟨N, hN⟩ : ∃ N, xs.length = N := ⟨_, rfl⟩
  rw [hN] at hl ⊢
  have hl2 : N ≤ 9223372036854775807 := hl
  have HN := Lib.hid hN
  have HA := Lib.hid hA
  clear hN hA hl
  go_enter Try.func3, Try.ntmps3
  go_wp2_with fail
  refine (awake_ok w).mono ?_
  rintro e w0 ⟨rfl, hb0⟩
  have hst := Dw.start w0
  obtain ⟨b, hb⟩ : ∃ b, w0.heap.size = b := ⟨_, rfl⟩
  obtain ⟨c, hc⟩ : ∃ c, b + 1 = c := ⟨_, rfl⟩
  obtain ⟨w1, hw1⟩ : ∃ w1, (w0.alloc (.cells #[.slice none 0 0] 27)).alloc (.cells #[.slice none 0 0] 30) = w1 := ⟨_, rfl⟩
  rw [hw1, hb, hc] at hst
  have HM := Lib.hid hm
  clear hm hn64 hm64
  have HA0 : Hid (ActsAt w0 p xs) := Lib.hid (fun h => by
    obtain ⟨g, o, hp, hg, hc⟩ := HA.out h
    exact ⟨g, o, hp, Nat.lt_of_lt_of_le hg hb0.size, fun i r hr => ⟨⟨(hb0.cell (p := ⟨g, o + i * 3, none⟩) hg).trans (hc i r hr).1.1, (hb0.cell (p := ⟨g, o + i * 3 + 1, none⟩) hg).trans (hc i r hr).1.2.1, (hb0.cell (p := ⟨g, o + i * 3 + 2, none⟩) hg).trans (hc i r hr).1.2.2⟩, (hc i r hr).2⟩⟩)
  have HST := Lib.hid hst
  have HB0 := Lib.hid hb0
  clear hst hb0 HA
  go_wp2_with (rw [hw1, hb, hc])
  clear hw1
  go_loopw [11] (fun v7 W => ∃ (j : Nat) (v vr : Value) (L : List Rg), j ≤ N ∧ j ≤ 400 ∧ v7 = .int .i64 j ∧ Dw w0 b c v vr L L W) (fun v7 _ => 400 - (intOf v7).toNat)
  case atStart => exact ⟨0, _, _, [], by omega, by omega, rfl, HST.out⟩
  case round =>
    obtain ⟨j, v, vr, L, hj, hj190, rfl, hst⟩ := hrel
    have HS := Lib.hid hst
    clear hst
    by_cases hlt : j < N
    · by_cases h190 : j < 400
      · obtain ⟨⟨K, lo, hi⟩, hr⟩ : ∃ r, xs[j]? = some r := ⟨_, List.getElem?_eq_getElem (by rw [HN.out]; exact hlt)⟩
        obtain ⟨g, o, rfl, hg, hc⟩ := HA0.out (by rw [HN.out]; omega)
        obtain ⟨hc1, hr1, hr2⟩ := hc j _ hr
        simp only at hr1 hr2 hc1
        have HCc := Lib.hid (fun x (h : Below w0.heap.size w0 x) => (⟨⟨⟨(h.cell (p := ⟨g, o + j * 3, none⟩) hg).trans hc1.1, (h.cell (p := ⟨g, o + j * 3 + 1, none⟩) hg).trans hc1.2.1⟩, (h.cell (p := ⟨g, o + j * 3 + 2, none⟩) hg).trans hc1.2.2⟩, h⟩ : ActC g o j K lo hi w0 x))
        obtain ⟨⟨⟨q0, q1⟩, q2⟩, -⟩ := HCc.out wr HS.out.s.bel
        clear hr hc hc1
        go_upto_block 2 with (fail)
        go_cut [] (fun wx => ∃ L', DwL w0 b c L' L' wx)
        case first =>
          by_cases k0 : K = 0
          · subst k0
            have H1 := Lib.hid (fun x (h : DwL w0 b c L L x) => h.add lo hi hr1 hr2)
            have H2 := Lib.hid (fun x (h : DwL w0 b c (addR L lo hi) L x) => h.radd HS.out.s.ok HS.out.s.len lo hi hr1 hr2)
            obtain ⟨E, hE⟩ : ∃ E, addE L lo hi = E := ⟨_, rfl⟩
            rw [hE] at H1 H2
            obtain ⟨L', hL'⟩ : ∃ L', addR L lo hi = L' := ⟨_, rfl⟩
            rw [hL'] at H1 H2
            have HD : Hid (DwL w0 b c L L wr.drew) := Lib.hid ⟨_, _, HS.out.drew⟩
            have HCd := Lib.hid (HCc.out wr.drew HS.out.drew.s.bel)
            clear hE hL'
            go_wp2_with fail
            go_region_held (fun w' => ((w'.cell? ⟨g, o + j * 3, none⟩ = some (.int .i64 0) ∧ w'.cell? ⟨g, o + j * 3 + 1, none⟩ = some (.int .u64 (lo : Int))) ∧ w'.cell? ⟨g, o + j * 3 + 2, none⟩ = some (.int .u64 (hi : Int))) ∧ Below w0.heap.size w0 w')
              (first | with_reducible assumption | exact HCd.out | (refine HCc.out _ ?_; with_reducible assumption))
              (first | (go_at_call 11; refine (H1.out _ (by first | with_reducible assumption | exact HD.out)).mono ?_; rintro e y1 ⟨rfl, hy1, hb1⟩) | (go_at_call 12; refine (H2.out _ (by with_reducible assumption)).mono ?_; rintro e y2 ⟨rfl, hy2, hb2⟩))
            all_goals
              have HY2 := Lib.hid hy2
              clear hy2 hy1 hb1 hb2
              go_wp2_with fail
              go_meet
              exact ⟨_, HY2.out⟩
          · have e0 : (K == 0) = false := by rw [beq_eq_false_iff_ne]; exact k0
            by_cases k1 : K = 1
            · subst k1
              have hd1 := (show DwL w0 b c L L wr from ⟨_, _, HS.out⟩).drop lo
              have H1 := Lib.hid hd1
              clear hd1
              go_wp2_with fail
              refine H1.out.mono ?_
              rintro e x2 ⟨rfl, hy1, hb1⟩
              obtain ⟨⟨⟨q0, q1⟩, q2⟩, -⟩ := HCc.out x2 hb1
              have hd2 := hy1.rdrop HS.out.s.ok HS.out.s.len lo
              have H2 := Lib.hid hd2
              clear hd2 hy1 hb1 H1
              go_wp2_with fail
              refine H2.out.mono ?_
              rintro e x3 ⟨rfl, hy2, -⟩
              have HY2 := Lib.hid hy2
              clear hy2 H2
              go_wp2_with fail
              go_meet
              exact ⟨_, HY2.out⟩
            · have e1 : (K == 1) = false := by rw [beq_eq_false_iff_ne]; exact k1
              go_wp2_with fail
              go_meet
              exact ⟨L, _, _, HS.out⟩
        case rest =>
          obtain ⟨L', v', vr', hdw⟩ := hcut
          obtain ⟨pr, cr, rfl, _⟩ := own_shape hdw.r.own
          obtain ⟨M, hML⟩ : ∃ M, L'.length = M := ⟨_, rfl⟩
          rw [hML] at hdw
          have hM2 : M ≤ 200 := by rw [← hML]; exact hdw.s.len
          obtain ⟨T, hT⟩ : ∃ T, topN many M = T := ⟨_, rfl⟩
          have hTM : T ≤ M := by rw [← hT]; unfold topN; omega
          obtain ⟨c1, hc1⟩ : ∃ r, coversR L' n n = r := ⟨_, rfl⟩
          obtain ⟨c2, hc2⟩ : ∃ r, coversR L' n m = r := ⟨_, rfl⟩
          obtain ⟨C, hC⟩ : ∃ r, countR L' = r := ⟨_, rfl⟩
          have HAsk := Lib.hid (Ask.of hdw)
          have HAskd := Lib.hid (Ask.of hdw.drew)
          have HML := Lib.hid hML
          have HT := Lib.hid hT
          have Hc1 := Lib.hid hc1
          have Hc2 := Lib.hid hc2
          have HCn := Lib.hid hC
          clear hdw hML hT hc1 hc2 hC
          go_wp2_with fail
          refine wp_region_held_drew (S := (fun w' => w'.cell? ⟨c, 0, none⟩ = some (.slice pr M cr) ∧ Dw w0 b c v' (.slice pr M cr) L' L' w')) (by kernel_rfl) (HAskd.out) (fun hHeld => ?_)
          refine wpAnyH_takeD (i := 1) (v := ?_) (some 77) rfl rfl (by kernel_rfl) (by kernel_rfl) (by kernel_rfl) (fun _ _ _ h => h) (Or.inl ⟨by kernel_rfl, ?_⟩) (by assumption) ?_
          rotate_left
          · (intro w hSw; (try dsimp only at hSw); go_simp); all_goals with_reducible rfl
          try simp only [Act.put, List.setIfInBounds_toArray, List.set_cons_zero, List.set_cons_succ]
          refine wpAnyH_takeD (i := 2) (v := ?_) (some 78) rfl rfl (by kernel_rfl) (by kernel_rfl) (by kernel_rfl) (fun _ _ _ h => h) (Or.inl ⟨by kernel_rfl, ?_⟩) (by assumption) ?_
          rotate_left
          · (intro w hSw; (try dsimp only at hSw); go_simp); all_goals with_reducible rfl
          try simp only [Act.put, List.setIfInBounds_toArray, List.set_cons_zero, List.set_cons_succ]
          refine wpAnyH_takeD (i := 3) (v := ?_) (some 79) rfl rfl (by kernel_rfl) (by kernel_rfl) (by kernel_rfl) (fun _ _ _ h => h) (Or.inl ⟨by kernel_rfl, ?_⟩) (by assumption) ?_
          rotate_left
          · (intro w hSw; (try dsimp only at hSw); go_simp); all_goals with_reducible rfl
          try simp only [Act.put, List.setIfInBounds_toArray, List.set_cons_zero, List.set_cons_succ]
          refine wpAnyH_takeD (i := 4) (v := ?_) (some 80) rfl rfl (by kernel_rfl) (by kernel_rfl) (by kernel_rfl) (fun _ _ _ h => h) (Or.inl ⟨by kernel_rfl, ?_⟩) (by assumption) ?_
          rotate_left
          · (intro w hSw; (try dsimp only at hSw); go_simp); all_goals with_reducible rfl
          try simp only [Act.put, List.setIfInBounds_toArray, List.set_cons_zero, List.set_cons_succ]
          refine wpAnyH_ready (rs := [0]) (by kernel_rfl) (by simp) ?_
          refine AllReadyH.cons rfl (fun K hK => ?_) AllReadyH.nil
          go_simp
          go_wp2_with (go_at_call 16; refine (Ask.ranges hHeld HML.out).mono ?_; rintro e y1 ⟨p1, ca1, rfl, hr1, hy1⟩)
          refine hK.out _ _ (hy1) (fun hNew => ?_)
          clear hHeld hK K
          have hHeld := hNew
          clear hNew
          refine wpAnyH_ready (rs := [5]) (by kernel_rfl) (by simp) ?_
          refine AllReadyH.cons rfl (fun K hK => ?_) AllReadyH.nil
          go_simp
          go_wp2_with (go_at_call 15; refine (Ask.same1 hHeld HML.out hr1).mono ?_; rintro e y2 ⟨rfl, hy2⟩)
          refine hK.out _ _ (hy2) (fun hNew => ?_)
          clear hHeld hK K
          have hHeld := hNew
          clear hNew
          refine wpAnyH_takeD (i := 6) (v := ?_) (some 82) rfl rfl (by kernel_rfl) (by kernel_rfl) (by kernel_rfl) (fun _ _ _ h => h) (Or.inl ⟨by kernel_rfl, ?_⟩) (by assumption) ?_
          rotate_left
          · (intro w hSw; (try dsimp only at hSw); go_simp); all_goals with_reducible rfl
          try simp only [Act.put, List.setIfInBounds_toArray, List.set_cons_zero, List.set_cons_succ]
          refine wpAnyH_takeD (i := 7) (v := ?_) (some 83) rfl rfl (by kernel_rfl) (by kernel_rfl) (by kernel_rfl) (fun _ _ _ h => h) (Or.inl ⟨by kernel_rfl, ?_⟩) (by assumption) ?_
          rotate_left
          · (intro w hSw; (try dsimp only at hSw); go_simp); all_goals with_reducible rfl
          try simp only [Act.put, List.setIfInBounds_toArray, List.set_cons_zero, List.set_cons_succ]
          refine wpAnyH_takeD (i := 8) (v := ?_) (some 84) rfl rfl (by kernel_rfl) (by kernel_rfl) (by kernel_rfl) (fun _ _ _ h => h) (Or.inl ⟨by kernel_rfl, ?_⟩) (by assumption) ?_
          rotate_left
          · (intro w hSw; (try dsimp only at hSw); go_simp); all_goals with_reducible rfl
          try simp only [Act.put, List.setIfInBounds_toArray, List.set_cons_zero, List.set_cons_succ]
          refine wpAnyH_takeD (i := 10) (v := ?_) (some 86) rfl rfl (by kernel_rfl) (by kernel_rfl) (by kernel_rfl) (fun _ _ _ h => h) (Or.inl ⟨by kernel_rfl, ?_⟩) (by assumption) ?_
          rotate_left
          · (intro w hSw; (try dsimp only at hSw); go_simp); all_goals with_reducible rfl
          try simp only [Act.put, List.setIfInBounds_toArray, List.set_cons_zero, List.set_cons_succ]
          refine wpAnyH_takeD (i := 11) (v := ?_) (some 87) rfl rfl (by kernel_rfl) (by kernel_rfl) (by kernel_rfl) (fun _ _ _ h => h) (Or.inl ⟨by kernel_rfl, ?_⟩) (by assumption) ?_
          rotate_left
          · (intro w hSw; (try dsimp only at hSw); go_simp); all_goals with_reducible rfl
          try simp only [Act.put, List.setIfInBounds_toArray, List.set_cons_zero, List.set_cons_succ]
          refine wpAnyH_ready (rs := [9]) (by kernel_rfl) (by simp) ?_
          refine AllReadyH.cons rfl (fun K hK => ?_) AllReadyH.nil
          go_simp
          go_wp2_with (go_at_call 17; refine (Ask.top hHeld HML.out HM.out HT.out).mono ?_; rintro e y3 ⟨p3, ca3, rfl, hr3, hy3⟩)
          refine hK.out _ _ (hy3) (fun hNew => ?_)
          clear hHeld hK K
          have hHeld := hNew
          clear hNew
          refine wpAnyH_ready (rs := [12]) (by kernel_rfl) (by simp) ?_
          refine AllReadyH.cons rfl (fun K hK => ?_) AllReadyH.nil
          go_simp
          go_wp2_with (go_at_call 18; refine (Ask.rtop hHeld HML.out HM.out HT.out hr3).mono ?_; rintro e y4 ⟨p4, ca4, rfl, hr4, hr34, hy4⟩)
          refine hK.out _ _ (hy4) (fun hNew => ?_)
          clear hHeld hK K
          have hHeld := hNew
          clear hNew
          refine wpAnyH_ready (rs := [13]) (by kernel_rfl) (by simp) ?_
          refine AllReadyH.cons rfl (fun K hK => ?_) AllReadyH.nil
          go_simp
          go_wp2_with (go_at_call 15; refine (Ask.same2 hHeld HML.out hTM hr34 hr4).mono ?_; rintro e y5 ⟨rfl, hy5⟩)
          refine hK.out _ _ (hy5) (fun hNew => ?_)
          clear hHeld hK K
          have hHeld := hNew
          clear hNew
          refine wpAnyH_takeD (i := 14) (v := ?_) (some 90) rfl rfl (by kernel_rfl) (by kernel_rfl) (by kernel_rfl) (fun _ _ _ h => h) (Or.inl ⟨by kernel_rfl, ?_⟩) (by assumption) ?_
          rotate_left
          · (intro w hSw; (try dsimp only at hSw); go_simp); all_goals with_reducible rfl
          try simp only [Act.put, List.setIfInBounds_toArray, List.set_cons_zero, List.set_cons_succ]
          refine wpAnyH_takeD (i := 15) (v := ?_) (some 91) rfl rfl (by kernel_rfl) (by kernel_rfl) (by kernel_rfl) (fun _ _ _ h => h) (Or.inl ⟨by kernel_rfl, ?_⟩) (by assumption) ?_
          rotate_left
          · (intro w hSw; (try dsimp only at hSw); go_simp); all_goals with_reducible rfl
          try simp only [Act.put, List.setIfInBounds_toArray, List.set_cons_zero, List.set_cons_succ]
          refine wpAnyH_takeD (i := 16) (v := ?_) (some 92) rfl rfl (by kernel_rfl) (by kernel_rfl) (by kernel_rfl) (fun _ _ _ h => h) (Or.inl ⟨by kernel_rfl, ?_⟩) (by assumption) ?_
          rotate_left
          · (intro w hSw; (try dsimp only at hSw); go_simp); all_goals with_reducible rfl
          try simp only [Act.put, List.setIfInBounds_toArray, List.set_cons_zero, List.set_cons_succ]
          refine wpAnyH_takeD (i := 17) (v := ?_) (some 93) rfl rfl (by kernel_rfl) (by kernel_rfl) (by kernel_rfl) (fun _ _ _ h => h) (Or.inl ⟨by kernel_rfl, ?_⟩) (by assumption) ?_
          rotate_left
          · (intro w hSw; (try dsimp only at hSw); go_simp); all_goals with_reducible rfl
          try simp only [Act.put, List.setIfInBounds_toArray, List.set_cons_zero, List.set_cons_succ]
          refine wpAnyH_takeD (i := 19) (v := ?_) (some 95) rfl rfl (by kernel_rfl) (by kernel_rfl) (by kernel_rfl) (fun _ _ _ h => h) (Or.inl ⟨by kernel_rfl, ?_⟩) (by assumption) ?_
          rotate_left
          · (intro w hSw; (try dsimp only at hSw); go_simp); all_goals with_reducible rfl
          try simp only [Act.put, List.setIfInBounds_toArray, List.set_cons_zero, List.set_cons_succ]
          refine wpAnyH_takeD (i := 20) (v := ?_) (some 96) rfl rfl (by kernel_rfl) (by kernel_rfl) (by kernel_rfl) (fun _ _ _ h => h) (Or.inl ⟨by kernel_rfl, ?_⟩) (by assumption) ?_
          rotate_left
          · (intro w hSw; (try dsimp only at hSw); go_simp); all_goals with_reducible rfl
          try simp only [Act.put, List.setIfInBounds_toArray, List.set_cons_zero, List.set_cons_succ]
          refine wpAnyH_takeD (i := 21) (v := ?_) (some 97) rfl rfl (by kernel_rfl) (by kernel_rfl) (by kernel_rfl) (fun _ _ _ h => h) (Or.inl ⟨by kernel_rfl, ?_⟩) (by assumption) ?_
          rotate_left
          · (intro w hSw; (try dsimp only at hSw); go_simp); all_goals with_reducible rfl
          try simp only [Act.put, List.setIfInBounds_toArray, List.set_cons_zero, List.set_cons_succ]
          refine wpAnyH_ready (rs := [18]) (by kernel_rfl) (by simp) ?_
          refine AllReadyH.cons rfl (fun K hK => ?_) AllReadyH.nil
          go_simp
          go_wp2_with (go_at_call 19; refine (Ask.has hHeld Hc1.out).mono ?_; rintro e y6 ⟨rfl, hy6⟩)
          refine hK.out _ _ (hy6) (fun hNew => ?_)
          clear hHeld hK K
          have hHeld := hNew
          clear hNew
          refine wpAnyH_ready (rs := [22]) (by kernel_rfl) (by simp) ?_
          refine AllReadyH.cons rfl (fun K hK => ?_) AllReadyH.nil
          go_simp
          go_wp2_with (go_at_call 20; refine (Ask.rcovers hHeld Hc1.out).mono ?_; rintro e y7 ⟨rfl, hy7⟩)
          refine hK.out _ _ (hy7) (fun hNew => ?_)
          clear hHeld hK K
          have hHeld := hNew
          clear hNew
          refine wpAnyH_takeD (i := 23) (v := ?_) (some 99) rfl rfl (by kernel_rfl) (by kernel_rfl) (by kernel_rfl) (fun _ _ _ h => h) (Or.inl ⟨by kernel_rfl, ?_⟩) (by assumption) ?_
          rotate_left
          · (intro w hSw; (try dsimp only at hSw); go_simp); all_goals with_reducible rfl
          try simp only [Act.put, List.setIfInBounds_toArray, List.set_cons_zero, List.set_cons_succ]
          refine wpAnyH_takeD (i := 24) (v := ?_) (some 100) rfl rfl (by kernel_rfl) (by kernel_rfl) (by kernel_rfl) (fun _ _ _ h => h) (Or.inl ⟨by kernel_rfl, ?_⟩) (by assumption) ?_
          rotate_left
          · (intro w hSw; (try dsimp only at hSw); go_simp); all_goals with_reducible rfl
          try simp only [Act.put, List.setIfInBounds_toArray, List.set_cons_zero, List.set_cons_succ]
          refine wpAnyH_takeD (i := 25) (v := ?_) (some 101) rfl rfl (by kernel_rfl) (by kernel_rfl) (by kernel_rfl) (fun _ _ _ h => h) (Or.inl ⟨by kernel_rfl, ?_⟩) (by assumption) ?_
          rotate_left
          · (intro w hSw; (try dsimp only at hSw); go_simp); all_goals with_reducible rfl
          try simp only [Act.put, List.setIfInBounds_toArray, List.set_cons_zero, List.set_cons_succ]
          refine wpAnyH_takeD (i := 26) (v := ?_) (some 102) rfl rfl (by kernel_rfl) (by kernel_rfl) (by kernel_rfl) (fun _ _ _ h => h) (Or.inl ⟨by kernel_rfl, ?_⟩) (by assumption) ?_
          rotate_left
          · (intro w hSw; (try dsimp only at hSw); go_simp); all_goals with_reducible rfl
          try simp only [Act.put, List.setIfInBounds_toArray, List.set_cons_zero, List.set_cons_succ]
          refine wpAnyH_takeD (i := 27) (v := ?_) (some 103) rfl rfl (by kernel_rfl) (by kernel_rfl) (by kernel_rfl) (fun _ _ _ h => h) (Or.inl ⟨by kernel_rfl, ?_⟩) (by assumption) ?_
          rotate_left
          · (intro w hSw; (try dsimp only at hSw); go_simp); all_goals with_reducible rfl
          try simp only [Act.put, List.setIfInBounds_toArray, List.set_cons_zero, List.set_cons_succ]
          refine wpAnyH_takeD (i := 29) (v := ?_) (some 105) rfl rfl (by kernel_rfl) (by kernel_rfl) (by kernel_rfl) (fun _ _ _ h => h) (Or.inl ⟨by kernel_rfl, ?_⟩) (by assumption) ?_
          rotate_left
          · (intro w hSw; (try dsimp only at hSw); go_simp); all_goals with_reducible rfl
          try simp only [Act.put, List.setIfInBounds_toArray, List.set_cons_zero, List.set_cons_succ]
          refine wpAnyH_takeD (i := 30) (v := ?_) (some 106) rfl rfl (by kernel_rfl) (by kernel_rfl) (by kernel_rfl) (fun _ _ _ h => h) (Or.inl ⟨by kernel_rfl, ?_⟩) (by assumption) ?_
          rotate_left
          · (intro w hSw; (try dsimp only at hSw); go_simp); all_goals with_reducible rfl
          try simp only [Act.put, List.setIfInBounds_toArray, List.set_cons_zero, List.set_cons_succ]
          refine wpAnyH_takeD (i := 31) (v := ?_) (some 107) rfl rfl (by kernel_rfl) (by kernel_rfl) (by kernel_rfl) (fun _ _ _ h => h) (Or.inl ⟨by kernel_rfl, ?_⟩) (by assumption) ?_
          rotate_left
          · (intro w hSw; (try dsimp only at hSw); go_simp); all_goals with_reducible rfl
          try simp only [Act.put, List.setIfInBounds_toArray, List.set_cons_zero, List.set_cons_succ]
          refine wpAnyH_ready (rs := [28]) (by kernel_rfl) (by simp) ?_
          refine AllReadyH.cons rfl (fun K hK => ?_) AllReadyH.nil
          go_simp
          go_wp2_with (go_at_call 21; refine (Ask.covers hHeld Hc2.out).mono ?_; rintro e y8 ⟨rfl, hy8⟩)
          refine hK.out _ _ (hy8) (fun hNew => ?_)
          clear hHeld hK K
          have hHeld := hNew
          clear hNew
          refine wpAnyH_ready (rs := [32]) (by kernel_rfl) (by simp) ?_
          refine AllReadyH.cons rfl (fun K hK => ?_) AllReadyH.nil
          go_simp
          go_wp2_with (go_at_call 20; refine (Ask.rcovers hHeld Hc2.out).mono ?_; rintro e y9 ⟨rfl, hy9⟩)
          refine hK.out _ _ (hy9) (fun hNew => ?_)
          clear hHeld hK K
          have hHeld := hNew
          clear hNew
          refine wpAnyH_takeD (i := 33) (v := ?_) (some 109) rfl rfl (by kernel_rfl) (by kernel_rfl) (by kernel_rfl) (fun _ _ _ h => h) (Or.inl ⟨by kernel_rfl, ?_⟩) (by assumption) ?_
          rotate_left
          · (intro w hSw; (try dsimp only at hSw); go_simp); all_goals with_reducible rfl
          try simp only [Act.put, List.setIfInBounds_toArray, List.set_cons_zero, List.set_cons_succ]
          refine wpAnyH_takeD (i := 34) (v := ?_) (some 110) rfl rfl (by kernel_rfl) (by kernel_rfl) (by kernel_rfl) (fun _ _ _ h => h) (Or.inl ⟨by kernel_rfl, ?_⟩) (by assumption) ?_
          rotate_left
          · (intro w hSw; (try dsimp only at hSw); go_simp); all_goals with_reducible rfl
          try simp only [Act.put, List.setIfInBounds_toArray, List.set_cons_zero, List.set_cons_succ]
          refine wpAnyH_takeD (i := 35) (v := ?_) (some 111) rfl rfl (by kernel_rfl) (by kernel_rfl) (by kernel_rfl) (fun _ _ _ h => h) (Or.inl ⟨by kernel_rfl, ?_⟩) (by assumption) ?_
          rotate_left
          · (intro w hSw; (try dsimp only at hSw); go_simp); all_goals with_reducible rfl
          try simp only [Act.put, List.setIfInBounds_toArray, List.set_cons_zero, List.set_cons_succ]
          refine wpAnyH_takeD (i := 37) (v := ?_) (some 113) rfl rfl (by kernel_rfl) (by kernel_rfl) (by kernel_rfl) (fun _ _ _ h => h) (Or.inl ⟨by kernel_rfl, ?_⟩) (by assumption) ?_
          rotate_left
          · (intro w hSw; (try dsimp only at hSw); go_simp); all_goals with_reducible rfl
          try simp only [Act.put, List.setIfInBounds_toArray, List.set_cons_zero, List.set_cons_succ]
          refine wpAnyH_ready (rs := [36]) (by kernel_rfl) (by simp) ?_
          refine AllReadyH.cons rfl (fun K hK => ?_) AllReadyH.nil
          go_simp
          go_wp2_with (go_at_call 22; refine (Ask.count hHeld HCn.out).mono ?_; rintro e y10 ⟨rfl, hy10⟩)
          refine hK.out _ _ (hy10) (fun hNew => ?_)
          clear hHeld hK K
          have hHeld := hNew
          clear hNew
          refine wpAnyH_ready (rs := [38]) (by kernel_rfl) (by simp) ?_
          refine AllReadyH.cons rfl (fun K hK => ?_) AllReadyH.nil
          go_simp
          go_wp2_with (go_at_call 23; refine (Ask.rcount hHeld HCn.out).mono ?_; rintro e y11 ⟨rfl, hy11⟩)
          refine hK.out _ _ (hy11) (fun hNew => ?_)
          clear hHeld hK K
          have hHeld := hNew
          clear hNew
          refine wpAnyH_takeD (i := 39) (v := ?_) (some 115) rfl rfl (by kernel_rfl) (by kernel_rfl) (by kernel_rfl) (fun _ _ _ h => h) (Or.inl ⟨by kernel_rfl, ?_⟩) (by assumption) ?_
          rotate_left
          · (intro w hSw; (try dsimp only at hSw); go_simp); all_goals with_reducible rfl
          try simp only [Act.put, List.setIfInBounds_toArray, List.set_cons_zero, List.set_cons_succ]
          refine wpAnyH_takeD (i := 40) (v := ?_) (some 116) rfl rfl (by kernel_rfl) (by kernel_rfl) (by kernel_rfl) (fun _ _ _ h => h) (Or.inl ⟨by kernel_rfl, ?_⟩) (by assumption) ?_
          rotate_left
          · (intro w hSw; (try dsimp only at hSw); go_simp); all_goals with_reducible rfl
          try simp only [Act.put, List.setIfInBounds_toArray, List.set_cons_zero, List.set_cons_succ]
          refine wpAnyH_done (by kernel_rfl) ?_ _
          have HY := Lib.hid hy11
          clear hr1 hr2 hy1 hy2 hr3 hy3 hr4 hr34 hy4 hy5 hy6 hy7 hy8 hy9 hy10 hy11 hHeld HAsk HAskd q0 q1 q2 HCc HT Hc1 Hc2 HCn
          rcases Nat.eq_zero_or_pos M with h0 | h0
          · subst h0
            have hnil : L' = [] := List.eq_nil_of_length_eq_zero HML.out
            have s1 := HY.out.least (show leastR L' = (0, false) by rw [hnil]; rfl)
            have S1 := Lib.hid s1
            have HNil := Lib.hid hnil
            clear s1 hnil
            go_wp2_with fail
            refine S1.out.mono ?_
            rintro e z1 ⟨rfl, hz1⟩
            have s2 := Ask.most hz1 (show mostR L' = (0, false) by rw [HNil.out]; rfl)
            have S2 := Lib.hid s2
            clear s2 hz1 S1
            go_wp2_with fail
            refine S2.out.mono ?_
            rintro e z2 ⟨rfl, hz2⟩
            have e0 := hz2.1
            have HZ := Lib.hid hz2.2
            clear hz2 S2
            go_wp2_with fail
            go_quiet (fail)
            go_wp2_with fail
            go_roundw
            case rel => exact ⟨j + 1, v', _, L', by omega, by omega, by go_num, HZ.out.drewN _⟩
            case measure => simp [intOf]; omega
          · obtain ⟨M', hM'⟩ : ∃ M', M' + 1 = M := ⟨M - 1, by omega⟩
            obtain ⟨⟨a, a2⟩, hla⟩ : ∃ q, L'[M']? = some q := ⟨_, List.getElem?_eq_getElem (by rw [HML.out]; omega)⟩
            obtain ⟨⟨t1, t⟩, hfi⟩ : ∃ q, L'[0]? = some q := ⟨_, List.getElem?_eq_getElem (by rw [HML.out]; omega)⟩
            have hle : leastR L' = (a, true) := by
              unfold leastR
              rw [List.getLast?_eq_getElem?, HML.out, show M - 1 = M' by omega, hla]
            have hmo : mostR L' = (t, true) := by
              cases hL : L' with
              | nil => rw [hL] at hfi; simp at hfi
              | cons q l =>
                rw [hL] at hfi
                simp at hfi
                rw [hfi]
                rfl
            have s1 := HY.out.least hle
            have S1 := Lib.hid s1
            have HMo := Lib.hid hmo
            have HLa := Lib.hid hla
            have HFi := Lib.hid hfi
            clear s1 hle hmo hla hfi
            go_wp2_with fail
            refine S1.out.mono ?_
            rintro e z1 ⟨rfl, hz1⟩
            have s2 := Ask.most hz1 HMo.out
            have S2 := Lib.hid s2
            clear s2 hz1 S1
            go_wp2_with fail
            refine S2.out.mono ?_
            rintro e z2 ⟨rfl, hz2⟩
            have e0 := hz2.1
            have HZ := Lib.hid hz2.2
            have ho := hz2.2.r.own
            obtain ⟨gr, cap1, hv, hgB, hg1, k0, -⟩ := rg_cells ho M' _ HLa.out
            injection hv with hv1 hv2 hv3
            subst hv1
            obtain ⟨gr2, cap2, hv, -, -, -, k1⟩ := rg_cells ho 0 _ HFi.out
            injection hv with hv1 hv4 hv5
            injection hv1 with hv1
            injection hv1 with hv1
            subst hv1
            simp only [Nat.zero_mul, Nat.zero_add] at k0 k1
            have d1 : decide (0 < M) = true := decide_eq_true h0
            have d2 : decide ((0 : Int) < (M : Int)) = true := decide_eq_true (by omega)
            have e1 : IntKind.i64.wrap ((M : Int) - 1) = (M' : Int) := by rw [show (M : Int) - 1 = (M' : Int) by omega]; exact IntWalk.i64_in _ (by omega)
            have hM'lt : M' < M := by omega
            clear hz2 S2 ho hv2 hv3 hv4 hv5 hM' hg1 hgB
            go_wp2_with fail
            go_quiet (fail)
            go_wp2_with fail
            go_roundw
            case rel => exact ⟨j + 1, v', _, L', by omega, by omega, by go_num, HZ.out.drewN _⟩
            case measure => simp [intOf]; omega
      · have hj5 : ¬ (j : Int) < 400 := by omega
        have HF := Lib.hid (HB0.out.trans (HS.out.s.bel.mono HB0.out.size))
        go_wp2_with fail
        go_ret
        exact ⟨rfl, HF.out⟩
    · have hj5 : ¬ (j : Int) < (N : Int) := by omega
      have HF := Lib.hid (HB0.out.trans (HS.out.s.bel.mono HB0.out.size))
      go_wp2_with fail
      go_ret
      exact ⟨rfl, HF.out⟩

end Go.Proofs.Ytcpkpofmapjgdaa
