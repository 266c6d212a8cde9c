/- space: the reference's space in memory; New, Largest, ago, LastAsk, Sent. -/
import Derived.Test.YtmnmpmiocgfalaaTk
import Derived.Test.YtmnmpmiocgfalaaVd
import Derived.Test.YtmnmpmiocgfalaaVf
namespace Go.Proofs.Ytmnmpmiocgfalaa
open Go.ChangeShapes Go.WideShapes Go.RowKit
set_option linter.unusedVariables false
set_option linter.unusedSimpArgs false

def Sp.crx (s : Sp) (bl : Nat) : Crx := ⟨.int .u64 (s.next : Int), .pointer (some ⟨bl, 0, none⟩), .int .u64 (s.when : Int), .bool s.must⟩
/-- A reference's space that lies in block b, its ledger in block bl; v is its packets' slice, u its ranges'. -/
structure RsIs (B b bl : Nat) (v u : Value) (s : Sp) (w : World) : Prop where
  at_ : blk w b 74 ((s.crx bl).at u)
  led : ROwns B bl v s.L w
  set : w.ownsRow B 47 2 u s.R.length (rgs s.R)
  inv : Inv s.L
  ok : OkR s.R
  len : s.R.length ≤ 200
  wh : s.when < 2 ^ 64
  bb : B ≤ b
theorem RsIs.ris {B b bl : Nat} {v u : Value} {s : Sp} {w : World} (h : RsIs B b bl v u s w) : RIs (s.crx bl) w b B u s.R := ⟨h.at_, h.set, h.led.bw, h.bb⟩
theorem RsIs.lt {B b bl : Nat} {v u : Value} {s : Sp} {w : World} (h : RsIs B b bl v u s w) : b < w.heap.size := h.at_.lt
theorem RsIs.next {B b bl : Nat} {v u : Value} {s : Sp} {w w' : World} (h : RsIs B b bl v u s w) (hb : Below w.heap.size w w') : RsIs B b bl v u s w' :=
  ⟨h.at_.below hb h.lt, h.led.next hb, own_below h.set hb, h.inv, h.ok, h.len, h.wh, h.bb⟩
theorem RsIs.only {P : Nat → Prop} {B b bl : Nat} {v u : Value} {s : Sp} {w w' : World} (h : RsIs B b bl v u s w) (ho : Only P w w') (h0 : ¬ P b) (h1 : ¬ P bl) (hv : ∀ k, v.ownBlock = some k → ¬ P k) (hu : ∀ k, u.ownBlock = some k → ¬ P k) : RsIs B b bl v u s w' :=
  ⟨h.at_.only ho h0, h.led.only ho h1 hv, own_only h.set ho hu, h.inv, h.ok, h.len, h.wh, h.bb⟩
theorem RsIs.ne {B b bl : Nat} {v u : Value} {s : Sp} {w : World} (h : RsIs B b bl v u s w) : b ≠ bl := by
  intro e
  subst e
  have h1 := h.at_
  have h2 := h.led.led
  unfold blk at h1 h2
  rw [h1] at h2
  injection h2 with h2
  injection h2 with h3 h4 h5
  exact absurd h4 (by decide)

/-- What it has come to. -/
structure RsTo (B b bl : Nat) (v u : Value) (w : World) (s' : Sp) (v' u' : Value) (w' : World) : Prop where
  is : RsIs B b bl v' u' s' w'
  on : Only (fun k => k = b ∨ k = bl ∨ v.ownBlock = some k) w w'
  fv : v'.ownBlock = v.ownBlock ∨ ∀ k, v'.ownBlock = some k → w.heap.size ≤ k
  fu : u'.ownBlock = u.ownBlock ∨ ∀ k, u'.ownBlock = some k → w.heap.size ≤ k
theorem RsTo.same {B b bl : Nat} {v u : Value} {s : Sp} {w w' : World} (h : RsIs B b bl v u s w) (hb : Below w.heap.size w w') : RsTo B b bl v u w s v u w' := ⟨h.next hb, Only.ofBelow hb, .inl rfl, .inl rfl⟩
theorem RsTo.below {B b bl : Nat} {v u v' u' : Value} {s s' : Sp} {w w' : World} (ht : RsTo B b bl v u w s' v' u' w') (h : RsIs B b bl v u s w) : Below B w w' := by
  refine ht.on.below h.led.bw ?_
  rintro k (rfl | rfl | hk)
  · exact h.bb
  · exact h.led.bb
  · exact (h.led.own.lt k hk).1
theorem RsTo.then {B b bl : Nat} {v u v' u' : Value} {s' : Sp} {w w1 w' : World} (c : RsTo B b bl v u w s' v' u' w1) (hb : Below w1.heap.size w1 w') : RsTo B b bl v u w s' v' u' w' :=
  ⟨c.is.next hb, c.on.trans (Only.ofBelow hb), c.fv, c.fu⟩
theorem RsTo.ahead {B b bl : Nat} {v u v' u' : Value} {s' : Sp} {w w1 w' : World} (hb : Below w.heap.size w w1) (c : RsTo B b bl v u w1 s' v' u' w') : RsTo B b bl v u w s' v' u' w' := by
  refine ⟨c.is, (Only.ofBelow hb).trans c.on, ?_, ?_⟩
  · rcases c.fv with e | e
    · exact .inl e
    · exact .inr (fun k hk => Nat.le_trans hb.size (e k hk))
  · rcases c.fu with e | e
    · exact .inl e
    · exact .inr (fun k hk => Nat.le_trans hb.size (e k hk))
/-- A ledger's call. -/
theorem RsIs.came {B b bl : Nat} {v v' u : Value} {s : Sp} {w w' : World} {S' : Lg} (h : RsIs B b bl v u s w) (hc : RCame B bl v w S' v' w') (hi : Inv S') : RsTo B b bl v u w { s with L := S' } v' u w' := by
  have hv := own_ne h.led.own h.at_ (by decide)
  refine ⟨⟨h.at_.only hc.2.1 ?_, hc.1, own_only h.set hc.2.1 ?_, hi, h.ok, h.len, h.wh, h.bb⟩, hc.2.1.mono (fun k hk => by rcases hk with hk | hk; exact .inr (.inl hk); exact .inr (.inr hk)), hc.2.2, .inl rfl⟩
  · rintro (e | e)
    · exact h.ne e
    · exact hv e
  · rintro k hk (rfl | e)
    · exact own_ne h.set h.led.led (by decide) hk
    · exact own_ne2 h.set h.led.own (by decide) k hk e
/-- The space's block is written, with some words behind the ledger. -/
theorem RsTo.cells {B b bl : Nat} {v u v1 u1 u2 : Value} {s1 s2 : Sp} {w w1 : World} (i : Nat) (x : Value) (h : RsTo B b bl v u w s1 v1 u1 w1) (hL : s2.L = s1.L) (hR : s2.R = s1.R) (hu : u2 = u1) (hc : ((s1.crx bl).at u1).set i x = (s2.crx bl).at u2) (hw : s2.when < 2 ^ 64) : RsTo B b bl v u w s2 v1 u2 (w1.setCell ⟨b, i, none⟩ x) := by
  subst hu
  have k := h.is
  have hO : Only (fun k => k = b) w1 (w1.setCell ⟨b, i, none⟩ x) := (Only.refl (fun k => k = b) w1).setCell (p := ⟨b, i, none⟩) (.inl rfl) _
  have hb2 : blk (w1.setCell ⟨b, i, none⟩ x) b 74 ((s2.crx bl).at u2) := by rw [← hc]; exact blk.set k.at_ i x
  refine ⟨⟨hb2, by rw [hL]; exact k.led.only hO (fun e => k.ne e.symm) (fun q hq e => own_ne k.led.own k.at_ (by decide) (by rw [hq, e])), by rw [hR]; exact own_only k.set hO (fun q hq e => own_ne k.set k.at_ (by decide) (by rw [hq, e])), by rw [hL]; exact k.inv, by rw [hR]; exact k.ok, by rw [hR]; exact k.len, hw, k.bb⟩, h.on.setCell (p := ⟨b, i, none⟩) (.inl (.inl rfl)) _, h.fv, h.fu⟩

set_option maxRecDepth 100000 in
theorem rNew15 (w : World) (B : Nat) (hB : B ≤ w.heap.size) : Calls Try.prog 23 #[] w fun e w' => e = .returned (.pointer (some ⟨w.heap.size + 1, 0, none⟩)) ∧ RsIs B (w.heap.size + 1) w.heap.size (.slice none 0 0) (.slice none 0 0) Sp0 w' ∧ Below w.heap.size w w' := by
  have HB := Lib.hid hB
  clear hB
  go_enter Try.func23, Try.ntmps23
  go_wp2_with fail
  refine (rNew_any w).mono ?_
  rintro e w1 ⟨rfl, hw1⟩
  have hs1 : w1.heap.size = w.heap.size + 1 := by rw [hw1, World.size_alloc]
  have hk1 : blk w1 w.heap.size 80 [.slice none 0 0, .int .i64 (-1), .int .i64 (-1)] := by rw [hw1]; exact blk.new w _ _
  have hb1 : Below w.heap.size w w1 := by rw [hw1]; exact (Below.refl _ _).alloc (Nat.le_refl _) _
  have HS1 := Lib.hid hs1
  have HK1 := Lib.hid hk1
  have HB1 := Lib.hid hb1
  clear hw1 hs1 hk1 hb1
  go_wp2_with fail
  go_ret
  have hnew := blk.new w1 74 [.int .u64 0, .pointer (some ⟨w.heap.size, 0, none⟩), .slice none 0 0, .int .u64 0, .bool false]
  rw [HS1.out] at hnew
  refine ⟨by rw [← HS1.out]; rfl, ⟨hnew, ⟨HK1.out.alloc _, World.ownsRow_nil _ _ _ _, ?_, HB.out⟩, World.ownsRow_nil _ _ _ _, Inv.start, trivial, by decide, by decide, Nat.le_succ_of_le HB.out⟩, HB1.out.alloc HB1.out.size _⟩
  rw [World.size_alloc, HS1.out]
  have := HB.out
  omega

theorem ago_any (a b : Nat) (w : World) (ha : a < 2 ^ 64) (hb : b < 2 ^ 64) : Calls Try.prog 64 #[.int .u64 (a : Int), .int .u64 (b : Int)] w fun e w' => e = .returned (.int .u64 (sinceF a b : Int)) ∧ w = w' := by
  unfold sinceF
  by_cases h : b < a
  · go_enter Try.func64, Try.ntmps64
    go_wp2_with fail
    go_ret
    refine ⟨?_, rfl⟩
    rw [show b - a = 0 by omega]
    rfl
  · have e : IntKind.u64.wrap ((b : Int) - (a : Int)) = ((b - a : Nat) : Int) := u64_sub b a (by omega) hb
    go_enter Try.func64, Try.ntmps64
    go_wp2_with fail
    go_ret
    exact ⟨rfl, rfl⟩

section
variable {B b bl : Nat} {v u : Value} {s : Sp} {w : World}

set_option maxRecDepth 100000 in
theorem rLargest_any (h : RsIs B b bl v u s w) : Calls Try.prog 35 #[.pointer (some ⟨b, 0, none⟩)] w fun e w' => e = .returned (.int .i64 (sg (mostR s.R).2 (mostR s.R).1)) ∧ Below w.heap.size w w' := by
  have hb := h.lt
  obtain ⟨p, cap, hu, hpn⟩ := own_shape h.set
  have c2 : w.cell? ⟨b, 2, none⟩ = some u := h.at_.cell (k := 2) rfl
  have hset := h.set
  have hok := h.ok
  clear h
  subst hu
  generalize s.R = R at *
  cases R with
  | nil =>
    simp only [List.length_nil] at c2
    clear hset hok hpn
    go_enter Try.func35, Try.ntmps35
    go_wp2_with fail
    go_ret
    exact ⟨rfl, Below.refl _ _⟩
  | cons r R =>
    obtain ⟨g, cap2, hv, hgB, hg, k0, k1⟩ := rg_cells hset 0 r rfl
    injection hv with hv1 hv2 hv3
    subst hv1
    have hr := (OkB.below hok r (by simp)).2
    have hN : ((R.length + 1 : Nat) : Int) ≠ 0 := by omega
    obtain ⟨r1, r2⟩ := r
    simp only at k1 hr
    obtain ⟨N, hNe⟩ : ∃ N, (((r1, r2) :: R).length : Nat) = N := ⟨_, rfl⟩
    have hN0 : ((N : Int) == 0) = false := by rw [beq_eq_false_iff_ne, ← hNe]; exact hN
    have hN1 : 0 < N := by rw [← hNe]; exact Nat.succ_pos _
    rw [hNe] at c2
    have e1 : IntKind.i64.wrap (r2 : Int) = (r2 : Int) := IntWalk.i64_in _ (by omega)
    simp only [Nat.zero_mul, Nat.zero_add] at k0 k1
    clear hset hok hpn hv2 hv3 hN hNe
    go_enter Try.func35, Try.ntmps35
    go_wp2_with fail
    go_ret
    exact ⟨rfl, Below.refl _ _⟩
end

end Go.Proofs.Ytmnmpmiocgfalaa
