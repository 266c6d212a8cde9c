/- space: the walk of SpaceTakes. -/
import Derived.Test.YtmnmpmiocgfalaaSr
namespace Go.Proofs.Ytmnmpmiocgfalaa
open Go.ChangeShapes Go.WideShapes Go.RowKit
set_option linter.unusedVariables false
set_option linter.unusedSimpArgs false

/-- Two spaces: one that sends, one to which it comes. -/
structure TakS (w : World) (a b P : Nat) (v u : Value) (sa sb : Sp) (y : World) : Prop where
  sa : SpIs a a v (.slice none 0 0) sa y
  sb : SpIs b b (.slice none 0 0) u sb y
  ne : a ≠ b
  ping : blk y P 43 pingF.vals
  bel : Below w.heap.size w y
  la : w.heap.size ≤ a ∧ w.heap.size ≤ b
section
variable {w y z : World} {a b P : Nat} {v u v' u' : Value} {sa sb sa' sb' : Sp}
theorem TakS.next (h : TakS w a b P v u sa sb y) (hb : Below y.heap.size y z) : TakS w a b P v u sa sb z :=
  ⟨h.sa.next hb, h.sb.next hb, h.ne, h.ping.below hb h.ping.lt, h.bel.trans (hb.mono h.bel.size), h.la⟩
theorem TakS.toA (h : TakS w a b P v u sa sb y) (ht : SpTo a a v (.slice none 0 0) y sa' v' (.slice none 0 0) z) : TakS w a b P v' u sa' sb z := by
  refine ⟨ht.is, h.sb.only ht.on ?_ ?_ ?_, h.ne, h.ping.only ht.on ?_, h.bel.trans ((ht.below h.sa).mono h.la.1), h.la⟩
  · rintro (e | e | e)
    · exact h.ne e.symm
    · exact own_ne h.sa.led.own h.sb.led.led (by decide) e
    · cases e
  · intro k hk; cases hk
  · rintro k hk (e | e | e)
    · exact own_ne h.sb.set h.sa.led.led (by decide) (by rw [hk, e])
    · exact own_ne2 h.sb.set h.sa.led.own (by decide) k hk e
    · cases e
  · rintro (e | e | e)
    · exact blk_ne h.sa.led.led h.ping (by decide) e
    · exact own_ne h.sa.led.own h.ping (by decide) e
    · cases e
theorem TakS.toB (h : TakS w a b P v u sa sb y) (ht : SpTo b b (.slice none 0 0) u y sb' (.slice none 0 0) u' z) : TakS w a b P v u' sa sb' z := by
  refine ⟨h.sa.only ht.on ?_ ?_ ?_, ht.is, h.ne, h.ping.only ht.on ?_, h.bel.trans ((ht.below h.sb).mono h.la.2), h.la⟩
  · rintro (e | e | e)
    · exact h.ne e
    · cases e
    · exact own_ne h.sb.set h.sa.led.led (by decide) e
  · rintro k hk (e | e | e)
    · exact own_ne h.sa.led.own h.sb.led.led (by decide) (by rw [hk, e])
    · cases e
    · exact own_ne2 h.sa.led.own h.sb.set (by decide) k hk e
  · intro k hk; cases hk
  · rintro (e | e | e)
    · exact blk_ne h.sb.led.led h.ping (by decide) e
    · cases e
    · exact own_ne h.sb.set h.ping (by decide) e
theorem TakS.froff (h : TakS w a b P v u sa sb y) : FrsOff (fun k => k = b ∨ (Value.slice none 0 0).ownBlock = some k ∨ u.ownBlock = some k) (some ⟨P, 0, none⟩) [pingF] := by
  intro _ g o e
  injection e with e
  injection e with e
  subst e
  rintro (e | e | e)
  · exact blk_ne h.sb.led.led h.ping (by decide) e
  · cases e
  · exact own_ne h.sb.set h.ping (by decide) e
theorem TakS.sent {j : Nat} (h : TakS w a b P v u sa sb y) (hA : AllL j sa) (hj : j < 100) : Calls Try.prog 16 #[.pointer (some ⟨a, 0, none⟩), .int .u64 (j : Int), .int .u64 10, .slice (some ⟨P, 0, none⟩) 1 1] y fun e z =>
    e = .returned (.tuple #[.int .u64 (j : Int), .int .i64 0]) ∧ ∃ v' sa', AllL (j + 1) sa' ∧ TakS w a b P v' u sa' sb z := by
  refine (Sent_sp a a v (.slice none 0 0) sa y j 10 (some ⟨P, 0, none⟩) 1 [pingF] h.sa hA.fine (one_frs h.ping) ping_fit (by decide)).mono ?_
  rintro e z ⟨fa, fc, v', h1, h2, -⟩
  obtain ⟨s', e1, e2⟩ := hA.step hj fa [pingF].length fc
  rw [ping_asks, e1] at h1 h2
  exact ⟨h1, v', s', e2, h.toA h2⟩
theorem TakS.got {X : List Bool} {j : Nat} (h : TakS w a b P v u sa sb y) (hB : ArrL X j sb) (hx : X[j]? = some true) (hj : j < 100) : Calls Try.prog 11 #[.pointer (some ⟨b, 0, none⟩), .int .u64 (j : Int), .int .u64 (j : Int), .slice (some ⟨P, 0, none⟩) 1 1] y fun e z =>
    e = .returned (.int .i64 0) ∧ ∃ u' sb', ArrL X (j + 1) sb' ∧ sb'.must = true ∧ TakS w a b P v u' sa sb' z := by
  refine (Got_sp b b (.slice none 0 0) u sb y j j (some ⟨P, 0, none⟩) 1 [pingF] h.sb (one_frs h.ping) h.froff ping_fit (by decide) (by omega) (by omega)).mono ?_
  rintro e z ⟨h1, u', h2⟩
  obtain ⟨s', e1, e2, e3⟩ := hB.step h.sb.ok hx hj j
  rw [ping_asks, e1] at h1 h2
  exact ⟨h1, u', s', e2, e3, h.toB h2⟩
end
def TakW (w : World) (a b P : Nat) (X : List Bool) (j : Nat) (y : World) : Prop := ∃ v u sa sb, AllL j sa ∧ ArrL X j sb ∧ TakS w a b P v u sa sb y
/-- In the midst of a round: the packet was sent. -/
def TakM (w : World) (a b P : Nat) (X : List Bool) (j : Nat) (y : World) : Prop := ∃ v u sa sb, AllL (j + 1) sa ∧ ArrL X j sb ∧ TakS w a b P v u sa sb y
def TakN (w : World) (a b P : Nat) (X : List Bool) (j : Nat) (y : World) : Prop := ∃ v u sa sb, AllL j sa ∧ ArrL X j sb ∧ sb.must = true ∧ TakS w a b P v u sa sb y
theorem TakW.bel {w y : World} {a b P : Nat} {X : List Bool} {j : Nat} (h : TakW w a b P X j y) : Below w.heap.size w y := by obtain ⟨_, _, _, _, _, _, h⟩ := h; exact h.bel
theorem TakM.bel {w y : World} {a b P : Nat} {X : List Bool} {j : Nat} (h : TakM w a b P X j y) : Below w.heap.size w y := by obtain ⟨_, _, _, _, _, _, h⟩ := h; exact h.bel
theorem TakM.skip {w y : World} {a b P : Nat} {X : List Bool} {j : Nat} (h : TakM w a b P X j y) (hx : X[j]? = some false) : TakW w a b P X (j + 1) y := by
  obtain ⟨v, u, sa, sb, h1, h2, h3⟩ := h
  exact ⟨v, u, sa, sb, h1, h2.skip hx, h3⟩
theorem TakW.sent {w y : World} {a b P : Nat} {X : List Bool} {j : Nat} (h : TakW w a b P X j y) (hj : j < 100) : Calls Try.prog 16 #[.pointer (some ⟨a, 0, none⟩), .int .u64 (j : Int), .int .u64 10, .slice (some ⟨P, 0, none⟩) 1 1] y fun e z =>
    e = .returned (.tuple #[.int .u64 (j : Int), .int .i64 0]) ∧ TakM w a b P X j z := by
  obtain ⟨v, u, sa, sb, h1, h2, h3⟩ := h
  refine (h3.sent h1 hj).mono ?_
  rintro e z ⟨rfl, v', sa', h4, h5⟩
  exact ⟨rfl, v', u, sa', sb, h4, h2, h5⟩
theorem TakM.got {w y : World} {a b P : Nat} {X : List Bool} {j : Nat} (h : TakM w a b P X j y) (hx : X[j]? = some true) (hj : j < 100) : Calls Try.prog 11 #[.pointer (some ⟨b, 0, none⟩), .int .u64 (j : Int), .int .u64 (j : Int), .slice (some ⟨P, 0, none⟩) 1 1] y fun e z =>
    e = .returned (.int .i64 0) ∧ TakN w a b P X (j + 1) z := by
  obtain ⟨v, u, sa, sb, h1, h2, h3⟩ := h
  refine (h3.got h2 hx hj).mono ?_
  rintro e z ⟨rfl, u', sb', h4, h5, h6⟩
  exact ⟨rfl, v, u', sa, sb', h1, h4, h5, h6⟩
theorem TakN.must {w y : World} {a b P : Nat} {X : List Bool} {j : Nat} (h : TakN w a b P X j y) : Calls Try.prog 15 #[.pointer (some ⟨b, 0, none⟩)] y fun e z => e = .returned (.bool true) ∧ TakW w a b P X j z := by
  obtain ⟨v, u, sa, sb, h1, h2, h3, h4⟩ := h
  refine (Must_any h4.sb).mono ?_
  rintro e z ⟨rfl, rfl⟩
  exact ⟨by rw [h3], v, u, sa, sb, h1, h2, h4⟩

/-- The acknowledgement, told. -/
structure TakX (w : World) (a b P : Nat) (X : List Bool) (j : Nat) (n : Nat) (L : List Rg) (p : Option Addr) (c : Nat) (v : Value) (sa : Sp) (y : World) : Prop where
  t : ∃ u sb, TakS w a b P v u sa sb y
  xl : ∃ Bx, y.ownsRow Bx 47 2 (.slice p n c) n (rgs L)
def ackFV (t : Int) (p : Option Addr) (n c : Nat) : Value := .agg #[.int .u64 2, .int .u64 t, .int .u64 0, .int .u64 0, .bool false, .string ⟨#[]⟩, .string ⟨#[]⟩, .slice p n c]
/-- Whatever the acknowledgement tells: it takes this off. -/
def TakP (X : List Bool) (j n : Nat) (L : List Rg) (sa : Sp) : Prop :=
  L.length = n ∧ n ≤ 32 ∧ ackE sa.L L = 0 ∧ (∀ p ∈ ackT sa.L L, p.num < j ∧ X[p.num]? = some true) ∧ (n < 32 → (ackT sa.L L).length = cntB X j) ∧ ackE (ackS sa.L L) L = 0 ∧ ackT (ackS sa.L L) L = [] ∧ (ackT sa.L L).length ≤ 1000
theorem TakW.ack {w y : World} {a b P : Nat} {X : List Bool} {j : Nat} (h : TakW w a b P X j y) (hjX : j ≤ X.length) : Calls Try.prog 12 #[.pointer (some ⟨b, 0, none⟩), .int .u64 200] y fun e z =>
    (cntB X j = 0 ∧ e = .returned (.tuple #[.agg #[.int .u64 0, .int .u64 0, .int .u64 0, .int .u64 0, .bool false, .string ⟨#[]⟩, .string ⟨#[]⟩, .slice none 0 0], .bool false]) ∧ Below w.heap.size w z) ∨
    ∃ t p n c L v sa, e = .returned (.tuple #[ackFV (t : Nat) p n c, .bool true]) ∧ TakP X j n L sa ∧ TakX w a b P X j n L p c v sa z := by
  obtain ⟨v, u, sa, sb, h1, h2, h3⟩ := h
  refine (Ack_sp b b (.slice none 0 0) u sb y 200 h3.sb (by decide)).mono ?_
  rintro e z (⟨h4, h5, h6⟩ | ⟨h4, p, c, h5, h6, h7⟩)
  · exact .inl ⟨arr_none h2 hjX h4, h5, h3.bel.trans (h6.mono h3.bel.size)⟩
  · have hne : sb.R ≠ [] := by intro e; rw [e] at h4; cases h4
    obtain ⟨t1, t2, t3, t4, t5⟩ := takes h1 h2 h3.sb.ok hjX 32 hne
    have e32 : sb.R.take 32 = sb.R.take (min 32 sb.R.length) := by
      rcases Nat.le_total 32 sb.R.length with h | h
      · rw [Nat.min_eq_left h]
      · rw [Nat.min_eq_right h, List.take_of_length_le h, List.take_of_length_le (Nat.le_refl _)]
    rw [e32] at t1 t2 t3 t4 t5
    refine .inr ⟨_, p, _, c, _, v, sa, h5, ⟨by rw [List.length_take]; omega, Nat.min_le_left _ _, t1, t2, fun h => t3 (by omega), t4, t5, ?_⟩, ⟨_, _, h3.toB h7⟩, ⟨_, h6⟩⟩
    unfold ackT
    split
    · exact Nat.zero_le _
    · exact Nat.le_trans (List.length_filter_le _ _) h3.sa.inv.len1
theorem TakX.next {w y z : World} {a b P : Nat} {X : List Bool} {j n : Nat} {L : List Rg} {p : Option Addr} {c : Nat} {v : Value} {sa : Sp} (h : TakX w a b P X j n L p c v sa y) (hb : Below y.heap.size y z) : TakX w a b P X j n L p c v sa z := by
  obtain ⟨⟨u, sb, h1⟩, ⟨Bx, h2⟩⟩ := h
  exact ⟨⟨u, sb, h1.next hb⟩, ⟨Bx, own_below h2 hb⟩⟩
theorem TakX.take {w y : World} {a b P F : Nat} {X : List Bool} {j n : Nat} {L : List Rg} {p : Option Addr} {c t : Nat} {v : Value} {sa : Sp} {l : List Value} (h : TakX w a b P X j n L p c v sa y) (hL : L.length = n) (hn : n ≤ 32) (hE : ackE sa.L L = 0) (hF : blk y F 43 l) :
    Calls Try.prog 17 #[.pointer (some ⟨a, 0, none⟩), ackFV (t : Int) p n c, .int .u64 300] y fun e z =>
      ∃ pg cg q is, e = .returned (.tuple #[.slice pg (ackT sa.L L).length cg, .int .u64 q, .bool is, .int .i64 0]) ∧ (∃ B, z.ownsRow B 57 5 (.slice pg (ackT sa.L L).length cg) (ackT sa.L L).length (pks (ackT sa.L L))) ∧
        blk z F 43 l ∧ Below w.heap.size w z ∧ ∃ v' sa', sa'.L = ackS sa.L L ∧ TakX w a b P X j n L p c v' sa' z := by
  obtain ⟨⟨u, sb, h1⟩, ⟨Bx, h2⟩⟩ := h
  subst hL
  refine (Take_sp a a v (.slice none 0 0) sa y ⟨2, t, 0, 0, false, ⟨#[]⟩, ⟨#[]⟩, p, L, c⟩ 300 h1.sa (RgAt.of_row h2) (by show L.length ≤ 1000; omega) ?_ (by decide)).mono ?_
  · intro h0 x hx
    have hx : p = some x := hx
    have h0 : 0 < L.length := h0
    obtain ⟨g, cap1, hv, _⟩ := own_view h2 h0
    injection hv with hv _ _
    rw [hx] at hv
    injection hv with hv
    subst hv
    have hown : (Value.slice p L.length c).ownBlock = some g := by rw [hx]; rfl
    rintro (e | e | e)
    · exact own_ne h2 h1.sa.led.led (by decide) (by rw [hown, show g = a from e])
    · exact own_ne2 h2 h1.sa.led.own (by decide) g hown e
    · cases e
  · rintro e z (⟨h0, -⟩ | ⟨-, h0, -⟩ | ⟨-, -, pg, cg, v', h6, h7, h8, -⟩)
    · exact absurd (.inl rfl) h0
    · exact absurd hE h0
    · have hT := h1.toA h8
      refine ⟨pg, cg, _, _, h6, ⟨_, h7⟩, hF.only h8.on ?_, hT.bel, v', _, rfl, ⟨u, sb, hT⟩, ⟨Bx, own_only h2 h8.on ?_⟩⟩
      · rintro (e | e | e)
        · exact blk_ne h1.sa.led.led hF (by decide) e
        · exact own_ne h1.sa.led.own hF (by decide) e
        · cases e
      · rintro k hk (e | e | e)
        · exact own_ne h2 h1.sa.led.led (by decide) (by rw [hk, e])
        · exact own_ne2 h2 h1.sa.led.own (by decide) k hk e
        · cases e

end Go.Proofs.Ytmnmpmiocgfalaa
