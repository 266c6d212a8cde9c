/- space: the law's own first look at the program ('awake') answers true. -/
import Derived.Test.YtmnmpmiocgfalaaSm
namespace Go.Proofs.Ytmnmpmiocgfalaa
open Go.ChangeShapes Go.WideShapes Go.RowKit
set_option linter.unusedVariables false
set_option linter.unusedSimpArgs false

def pingF : Frm := ⟨1, 0, 0, 0, false, ⟨#[]⟩, ⟨#[]⟩, none, [], 0⟩
theorem ping_fit : ∀ f ∈ [pingF], f.fit := by
  intro f hf
  rw [List.mem_singleton] at hf
  subst hf
  exact ⟨by decide, by decide, by decide, by decide, by decide, by decide, by decide⟩
theorem ping_asks : [pingF].any asksF = true := rfl
theorem none_asks : ([] : List Frm).any asksF = false := rfl
def A1 : Sp := ⟨S0, 0, [(0, 0)], 5, false⟩
def A2 : Sp := ⟨S0, 0, [(2, 2), (0, 0)], 6, true⟩
def A3 : Sp := ⟨S0, 0, [(2, 2), (0, 0)], 6, false⟩
def A4 (fa : Option Addr) (fc : Nat) : Sp := ⟨⟨[⟨0, 10, 100, true, fa, 1, fc⟩], 0, true, 0, false⟩, 1, [(2, 2), (0, 0)], 6, false⟩
def A5 (fa : Option Addr) (fc : Nat) : Sp := ⟨⟨[⟨0, 10, 100, true, fa, 1, fc⟩], 1, true, 0, false⟩, 2, [(2, 2), (0, 0)], 6, false⟩
def A6 : Sp := ⟨⟨[], 1, true, 0, true⟩, 2, [(2, 2), (0, 0)], 6, false⟩
theorem aw1 : gotSp Sp0 0 5 false = (A1, 0) := rfl
theorem aw2 : gotSp A1 2 6 true = (A2, 0) := rfl
theorem aw3 : gotSp A2 2 7 true = (A2, 22) := rfl
theorem aw4 (fa : Option Addr) (fc : Nat) : sentSp A3 10 100 true fa 1 fc = (A4 fa fc, 0, 0) := rfl
theorem aw5 (fa fa' : Option Addr) (fc fc' : Nat) : sentSp (A4 fa fc) 20 50 false fa' 0 fc' = (A5 fa fc, 1, 0) := rfl
theorem aw6 (fa : Option Addr) (fc : Nat) : ackS (A5 fa fc).L [(0, 0)] = A6.L := rfl
theorem aw7 (fa : Option Addr) (fc : Nat) : ackT (A5 fa fc).L [(0, 0)] = [⟨0, 10, 100, true, fa, 1, fc⟩] := rfl
theorem aw8 (fa : Option Addr) (fc : Nat) : ackE (A5 fa fc).L [(0, 0)] = 0 := rfl

/-- The space and the ping while awake looks. -/
structure AwS (w0 : World) (b P : Nat) (v u : Value) (s : Sp) (y : World) : Prop where
  sp : SpIs w0.heap.size b v u s y
  ping : blk y P 43 pingF.vals
  bel : Below w0.heap.size w0 y
section
variable {w0 y z : World} {b P X : Nat} {v u v' u' : Value} {s s' : Sp}
theorem AwS.next (h : AwS w0 b P v u s y) (hb : Below y.heap.size y z) : AwS w0 b P v u s z := ⟨h.sp.next hb, h.ping.below hb h.ping.lt, h.bel.trans (hb.mono h.bel.size)⟩
theorem blk_ne {w : World} {b P : Nat} {T T' : TypeId} {l l' : List Value} (h1 : blk w b T l) (h2 : blk w P T' l') (hT : T ≠ T') : P ≠ b := by
  rintro rfl
  unfold blk at h1 h2
  rw [h1] at h2
  injection h2 with h2
  injection h2 with _ h2 _
  exact hT h2
theorem AwS.off (h : AwS w0 b P v u s y) : ¬ (P = b ∨ v.ownBlock = some P ∨ u.ownBlock = some P) := by
  rintro (e | e | e)
  · exact blk_ne h.sp.led.led h.ping (by decide) e
  · exact own_ne h.sp.led.own h.ping (by decide) e
  · exact own_ne h.sp.set h.ping (by decide) e
theorem AwS.to (h : AwS w0 b P v u s y) (ht : SpTo w0.heap.size b v u y s' v' u' z) : AwS w0 b P v' u' s' z := ⟨ht.is, h.ping.only ht.on h.off, h.bel.trans (ht.below h.sp)⟩
theorem AwS.frs (h : AwS w0 b P v u s y) : FrsAt y (some ⟨P, 0, none⟩) [pingF] := by
  intro _
  refine ⟨P, 0, rfl, h.ping.lt, fun i f hf j x hx => ?_⟩
  have hi : i = 0 := by
    have := (List.getElem?_eq_some_iff.1 hf).1
    simp at this
    omega
  subst hi
  simp at hf
  subst hf
  rw [show 0 + 0 * 8 + j = j by omega]
  exact h.ping.cell hx
theorem AwS.froff (h : AwS w0 b P v u s y) : FrsOff (fun k => k = b ∨ v.ownBlock = some k ∨ u.ownBlock = some k) (some ⟨P, 0, none⟩) [pingF] := by
  intro _ g o e
  injection e with e
  injection e with e
  subst e
  exact h.off
theorem AwS.got0 (h : AwS w0 b P v u Sp0 y) : Calls Try.prog 11 #[.pointer (some ⟨b, 0, none⟩), .int .u64 0, .int .u64 5, .slice none 0 0] y fun e z => e = .returned (.int .i64 0) ∧ ∃ u', AwS w0 b P v u' A1 z := by
  refine (Got_sp w0.heap.size b v u Sp0 y 0 5 none 0 [] h.sp (fun h => by cases h) (fun h => by cases h) (fun f hf => by cases hf) (by decide) (by decide) (by decide)).mono ?_
  rintro e z ⟨h1, u', h2⟩
  rw [none_asks, aw1] at h1 h2
  exact ⟨h1, u', h.to h2⟩
theorem AwS.got1 (h : AwS w0 b P v u A1 y) : Calls Try.prog 11 #[.pointer (some ⟨b, 0, none⟩), .int .u64 2, .int .u64 6, .slice (some ⟨P, 0, none⟩) 1 1] y fun e z => e = .returned (.int .i64 0) ∧ ∃ u', AwS w0 b P v u' A2 z := by
  refine (Got_sp w0.heap.size b v u A1 y 2 6 (some ⟨P, 0, none⟩) 1 [pingF] h.sp h.frs h.froff ping_fit (by decide) (by decide) (by decide)).mono ?_
  rintro e z ⟨h1, u', h2⟩
  rw [ping_asks, aw2] at h1 h2
  exact ⟨h1, u', h.to h2⟩
theorem AwS.got2 (h : AwS w0 b P v u A2 y) : Calls Try.prog 11 #[.pointer (some ⟨b, 0, none⟩), .int .u64 2, .int .u64 7, .slice (some ⟨P, 0, none⟩) 1 1] y fun e z => e = .returned (.int .i64 22) ∧ ∃ u', AwS w0 b P v u' A2 z := by
  refine (Got_sp w0.heap.size b v u A2 y 2 7 (some ⟨P, 0, none⟩) 1 [pingF] h.sp h.frs h.froff ping_fit (by decide) (by decide) (by decide)).mono ?_
  rintro e z ⟨h1, u', h2⟩
  rw [ping_asks, aw3] at h1 h2
  exact ⟨h1, u', h.to h2⟩
theorem AwS.ack0 (h : AwS w0 b P v u Sp0 y) : Calls Try.prog 12 #[.pointer (some ⟨b, 0, none⟩), .int .u64 1] y fun e z =>
    e = .returned (.tuple #[.agg #[.int .u64 0, .int .u64 0, .int .u64 0, .int .u64 0, .bool false, .string ⟨#[]⟩, .string ⟨#[]⟩, .slice none 0 0], .bool false]) ∧ AwS w0 b P v u Sp0 z := by
  refine (Ack_sp w0.heap.size b v u Sp0 y 1 h.sp (by decide)).mono ?_
  rintro e z (⟨-, h1, h2⟩ | ⟨h0, -⟩)
  · exact ⟨h1, h.next h2⟩
  · cases h0
/-- .. and the acknowledgement. -/
structure AwX (w0 : World) (b P : Nat) (v u : Value) (p : Option Addr) (c : Nat) (s : Sp) (y : World) : Prop where
  aw : AwS w0 b P v u s y
  xl : ∃ Bx, y.ownsRow Bx 47 2 (.slice p 2 c) 2 (rgs [(2, 2), (0, 0)])
  xu : ∀ k, (Value.slice p 2 c).ownBlock = some k → u.ownBlock ≠ some k
theorem AwS.ack1 (h : AwS w0 b P v u A2 y) : Calls Try.prog 12 #[.pointer (some ⟨b, 0, none⟩), .int .u64 10] y fun e z =>
    ∃ p c, e = .returned (.tuple #[.agg #[.int .u64 2, .int .u64 4, .int .u64 0, .int .u64 0, .bool false, .string ⟨#[]⟩, .string ⟨#[]⟩, .slice p 2 c], .bool true]) ∧ AwX w0 b P v u p c A3 z := by
  refine (Ack_sp w0.heap.size b v u A2 y 10 h.sp (by decide)).mono ?_
  rintro e z (⟨h0, -⟩ | ⟨-, p, c, h1, h2, h3⟩)
  · cases h0
  · refine ⟨p, c, h1, h.to h3, ⟨_, h2⟩, fun k hk e => ?_⟩
    have g1 := (h2.lt k hk).1
    have g2 := (h.sp.set.lt k e).2
    omega
def xvals (p : Option Addr) (c : Nat) : List Value := [.int .u64 2, .int .u64 4, .int .u64 0, .int .u64 0, .bool false, .string ⟨#[]⟩, .string ⟨#[]⟩, .slice p 2 c]
/-- .. that lies in block X. -/
structure AwY (w0 : World) (b P X : Nat) (v u : Value) (p : Option Addr) (c : Nat) (s : Sp) (y : World) : Prop where
  aw : AwS w0 b P v u s y
  xl : ∃ Bx, y.ownsRow Bx 47 2 (.slice p 2 c) 2 (rgs [(2, 2), (0, 0)])
  xu : ∀ k, (Value.slice p 2 c).ownBlock = some k → u.ownBlock ≠ some k
  xb : blk y X 43 (xvals p c)
theorem AwX.box {p : Option Addr} {c : Nat} (h : AwX w0 b P v u p c s y) : AwY w0 b P y.heap.size v u p c s (y.alloc (.cells #[.int .u64 2, .int .u64 4, .int .u64 0, .int .u64 0, .bool false, .string ⟨#[]⟩, .string ⟨#[]⟩, .slice p 2 c] 43)) := by
  obtain ⟨Bx, hx⟩ := h.xl
  exact ⟨h.aw.next ((Below.refl _ _).alloc (Nat.le_refl _) _), ⟨Bx, own_below hx ((Below.refl _ _).alloc (Nat.le_refl _) _)⟩, h.xu, blk.new y _ _⟩
theorem AwY.next {p : Option Addr} {c : Nat} (h : AwY w0 b P X v u p c s y) (hb : Below y.heap.size y z) : AwY w0 b P X v u p c s z := by
  obtain ⟨Bx, hx⟩ := h.xl
  exact ⟨h.aw.next hb, ⟨Bx, own_below hx hb⟩, h.xu, h.xb.below hb h.xb.lt⟩
theorem AwY.to {p : Option Addr} {c : Nat} (h : AwY w0 b P X v u p c s y) (ht : SpTo w0.heap.size b v u y s' v' u z) : AwY w0 b P X v' u p c s' z := by
  obtain ⟨Bx, hx⟩ := h.xl
  refine ⟨h.aw.to ht, ⟨Bx, own_only hx ht.on ?_⟩, h.xu, h.xb.only ht.on (by
    rintro (e | e | e)
    · exact blk_ne h.aw.sp.led.led h.xb (by decide) e
    · exact own_ne h.aw.sp.led.own h.xb (by decide) e
    · exact own_ne h.aw.sp.set h.xb (by decide) e)⟩
  rintro k hk (e | e | e)
  · exact own_ne hx h.aw.sp.led.led (by decide) (by rw [hk, e])
  · exact own_ne2 hx h.aw.sp.led.own (by decide) k hk e
  · exact h.xu k hk e
theorem AwY.sent1 {p : Option Addr} {c : Nat} (h : AwY w0 b P X v u p c A3 y) : Calls Try.prog 16 #[.pointer (some ⟨b, 0, none⟩), .int .u64 10, .int .u64 100, .slice (some ⟨P, 0, none⟩) 1 1] y fun e z => e = .returned (.tuple #[.int .u64 0, .int .i64 0]) ∧ ∃ fa fc v', AwY w0 b P X v' u p c (A4 fa fc) z := by
  refine (Sent_sp w0.heap.size b v u A3 y 10 100 (some ⟨P, 0, none⟩) 1 [pingF] h.aw.sp rfl h.aw.frs ping_fit (by decide)).mono ?_
  rintro e z ⟨fa, fc, v', h1, h2, -⟩
  rw [ping_asks] at h1 h2
  exact ⟨h1, fa, fc, v', h.to h2⟩
theorem AwY.sent2 {p : Option Addr} {c : Nat} {fa : Option Addr} {fc : Nat} (h : AwY w0 b P X v u p c (A4 fa fc) y) : Calls Try.prog 16 #[.pointer (some ⟨b, 0, none⟩), .int .u64 20, .int .u64 50, .slice none 0 0] y fun e z => e = .returned (.tuple #[.int .u64 1, .int .i64 0]) ∧ ∃ v', AwY w0 b P X v' u p c (A5 fa fc) z := by
  refine (Sent_sp w0.heap.size b v u (A4 fa fc) y 20 50 none 0 [] h.aw.sp rfl (fun h => by cases h) (fun f hf => by cases hf) (by decide)).mono ?_
  rintro e z ⟨fa', fc', v', h1, h2, -⟩
  rw [none_asks] at h1 h2
  exact ⟨h1, v', h.to h2⟩
theorem AwY.take1 {p : Option Addr} {c : Nat} {fa : Option Addr} {fc g : Nat} (h : AwY w0 b P X v u p c (A5 fa fc) y) (hg : blk y g 47 [.int .u64 0, .int .u64 0]) (hgu : u.ownBlock ≠ some g) :
    Calls Try.prog 17 #[.pointer (some ⟨b, 0, none⟩), .agg #[.int .u64 2, .int .u64 0, .int .u64 0, .int .u64 0, .bool false, .string ⟨#[]⟩, .string ⟨#[]⟩, .slice (some ⟨g, 0, none⟩) 1 1], .int .u64 25] y fun e z =>
      ∃ pg cg, e = .returned (.tuple #[.slice pg 1 cg, .int .u64 15, .bool true, .int .i64 0]) ∧ ∃ v', AwY w0 b P X v' u p c A6 z := by
  have hr : RgAt y (some ⟨g, 0, none⟩) [(0, 0)] := by
    intro _
    refine ⟨g, 0, rfl, hg.lt, fun i r hr => ?_⟩
    have hi : i = 0 := by
      have := (List.getElem?_eq_some_iff.1 hr).1
      simp at this
      omega
    subst hi
    simp at hr
    subst hr
    exact ⟨hg.cell rfl, hg.cell rfl⟩
  refine (Take_sp w0.heap.size b v u (A5 fa fc) y ⟨2, 0, 0, 0, false, ⟨#[]⟩, ⟨#[]⟩, some ⟨g, 0, none⟩, [(0, 0)], 1⟩ 25 h.aw.sp hr (show 1 ≤ 1000 by decide) ?_ (by decide)).mono ?_
  · intro _ a ha
    injection ha with ha
    subst ha
    rintro (e | e | e)
    · exact blk_ne h.aw.sp.led.led hg (by decide) e
    · exact own_ne h.aw.sp.led.own hg (by decide) e
    · exact hgu e
  · rintro e z (⟨h0, -⟩ | ⟨-, h0, -⟩ | ⟨-, -, pg, cg, v', h1, h2, h3, -⟩)
    · exact absurd (.inl rfl) h0
    · exact absurd (aw8 fa fc) h0
    · exact ⟨pg, cg, h1, v', h.to h3⟩
theorem AwY.take2 {p : Option Addr} {c : Nat} (h : AwY w0 b P X v u p c A6 y) :
    Calls Try.prog 17 #[.pointer (some ⟨b, 0, none⟩), .agg #[.int .u64 1, .int .u64 0, .int .u64 0, .int .u64 0, .bool false, .string ⟨#[]⟩, .string ⟨#[]⟩, .slice none 0 0], .int .u64 25] y fun e z =>
      e = .returned (.tuple #[.slice none 0 0, .int .u64 0, .bool false, .int .i64 1]) ∧ AwY w0 b P X v u p c A6 z := by
  refine (Take_sp w0.heap.size b v u A6 y pingF 25 h.aw.sp (fun h => by cases h) (by decide) (fun h => by cases h) (by decide)).mono ?_
  rintro e z (⟨-, h1, h2⟩ | ⟨h0, -⟩ | ⟨h0, -⟩)
  · exact ⟨h1, h.next h2⟩
  · exact absurd h0 (by decide)
  · exact absurd h0 (by decide)
end

end Go.Proofs.Ytmnmpmiocgfalaa
