/- space: a map of bools that the call makes; what stands in SpaceRises. -/
import Derived.Test.YtmnmpmiocgfalaaSu
import Derived.Test.YtmnmpmiocgfalaaSr
import Derived.Maps.Views
import Derived.Maps.OwnOps
namespace Go.Proofs.Ytmnmpmiocgfalaa
open Go.ChangeShapes Go.WideShapes Go.RowKit Go.Maps
set_option linter.unusedVariables false
set_option linter.unusedSimpArgs false

set_option maxRecDepth 100000 in
theorem Try.lawU : Keyed Try.prog 25 := int_keyed Try.underlying25
theorem Try.zeroB (w : World) : (zeroValue 4).run Try.prog w = .ok (.bool false) w := by kernel_rfl

/-- Block b is a map of at most n entries; of number x it holds M x (false: none). -/
def BMap (w : World) (b n : Nat) (M : Nat → Bool) : Prop :=
  ∃ D : DataW Unit, w.ownsMap Try.prog 25 (plainElem Try.prog 4) b n D ∧ ∀ x : Nat, x < 2 ^ 64 → D.atKey (.int .u64 (x : Int)) (.lit (.bool false)) = .lit (.bool (M x))
theorem u64_wf {x : Nat} (h : x < 2 ^ 64) : (Lit.int .u64 (x : Int)).wf = true := WalkArith.wf_u64 (by omega)
theorem BMap.made (w : World) : BMap (w.alloc (.map #[] 0)) w.heap.size 0 (fun _ => false) := ⟨_, World.ownsMap_made _ _ _ _, fun x _ => rfl⟩
theorem BMap.lt {w : World} {b n : Nat} {M : Nat → Bool} (h : BMap w b n M) : b < w.heap.size := by obtain ⟨D, h1, _⟩ := h; exact h1.lt
theorem BMap.same {w w' : World} {b n : Nat} {M : Nat → Bool} (h : BMap w b n M) (hb : w'.heap[b]? = w.heap[b]?) : BMap w' b n M := by
  obtain ⟨D, ⟨es, clock, h1, h2⟩, h3⟩ := h
  exact ⟨D, ⟨es, clock, by rw [hb]; exact h1, h2⟩, h3⟩
theorem BMap.below {w w' : World} {b n : Nat} {M : Nat → Bool} (h : BMap w b n M) (hb : Below w.heap.size w w') : BMap w' b n M := h.same (hb.block b h.lt)
theorem BMap.only {S : Nat → Prop} {w w' : World} {b n : Nat} {M : Nat → Bool} (h : BMap w b n M) (ho : Only S w w') (hs : ¬ S b) : BMap w' b n M := h.same (ho.block b h.lt hs)
theorem BMap.ne_own {w : World} {b n : Nat} {M : Nat → Bool} (h : BMap w b n M) {base : Nat} {e : TypeId} {size : Nat} {v : Value} {m : Nat} {xs : List Value} (ho : w.ownsRow base e size v m xs) : v.ownBlock ≠ some b := by
  obtain ⟨D, ⟨es, clock, h1, _⟩, _⟩ := h
  rcases ho.2 with ⟨rfl, _⟩ | ⟨g, cap, cur, rfl, _, hh, _⟩
  · simp [Value.ownBlock]
  · simp only [Value.ownBlock]
    intro he
    injection he with he
    subst he
    rw [h1] at hh
    simp at hh
theorem BMap.ne_blk {w : World} {b n : Nat} {M : Nat → Bool} (h : BMap w b n M) {g : Nat} {T : TypeId} {L : List Value} (hb : blk w g T L) : g ≠ b := by
  obtain ⟨D, ⟨es, clock, h1, _⟩, _⟩ := h
  rintro rfl
  unfold blk at hb
  rw [h1] at hb
  simp at hb
set_option maxRecDepth 100000 in
theorem BMap.look {w : World} {b n : Nat} {M : Nat → Bool} (h : BMap w b n M) {x : Nat} (hx : x < 2 ^ 64) :
    (Instr.lookup 35 (.map (some b)) (.int .u64 (x : Int)) false).run Try.prog w = .ok (.bool (M x)) w := by
  obtain ⟨D, h1, h2⟩ := h
  obtain ⟨v, ps, hrun, hv⟩ := h1.lookup Try.lawU Try.underlying35 (Try.zeroB w) (plainElem_bool Try.underlying4 false) (keyOf_int_mk Try.underlying25 (u64_wf hx))
  rw [h2 x hx] at hv
  rw [hrun]
  unfold plainElem at hv
  rw [Try.underlying4] at hv
  cases v <;> simp at hv
  rw [hv.1]
set_option maxRecDepth 100000 in
theorem BMap.put {w : World} {b n : Nat} {M : Nat → Bool} (h : BMap w b n M) {x : Nat} (hx : x < 2 ^ 64) (c : Bool) (hn : n < 1000000) :
    ∃ w', (Instr.mapUpdate 35 (.map (some b)) (.int .u64 (x : Int)) (.bool c)).run Try.prog w = .ok () w' ∧ BMap w' b (n + 1) (fun y => if y = x then c else M y) ∧ Only (fun k => k = b) w w' := by
  obtain ⟨D, h1, h2⟩ := h
  obtain ⟨w', hrun, h3, h4⟩ := h1.update Try.lawU Try.underlying35 (by unfold maxLen; omega) (keyOf_int_mk Try.underlying25 (u64_wf hx)) (plainElem_bool Try.underlying4 c)
  refine ⟨w', hrun, ⟨_, h3, fun y hy => ?_⟩, (Only.refl _ _).grown h4 (fun k hk => .inl (by injection hk with hk; exact hk.symm))⟩
  show _ = DataW.lit (Lit.bool (if y = x then c else M y))
  by_cases hxy : y = x
  · subst hxy
    rw [if_pos rfl]
    exact atKey_put_same (k := .int .u64 (y : Int)) h1.isMap trivial _ _
  · rw [if_neg hxy, atKey_put_other (by
      intro e
      injection e with _ e
      omega)]
    exact h2 y hy

/-- A space, an act in its box, a map of what came. -/
structure RisS (w : World) (b mb X n : Nat) (a : Act1) (v u : Value) (s : Sp) (M : Nat → Bool) (y : World) : Prop where
  sp : SpIs b b v u s y
  fine : s.fine
  map : BMap y mb n M
  cov : ∀ x, x < 2 ^ 64 → M x = coversR s.R x x
  box : blk y X 38 a.vals
  bel : Below w.heap.size w y
  la : w.heap.size ≤ b ∧ w.heap.size ≤ mb
section
variable {w y z : World} {b mb X n : Nat} {a : Act1} {v u v' u' : Value} {s s' : Sp} {M : Nat → Bool}
theorem RisS.next (h : RisS w b mb X n a v u s M y) (hb : Below y.heap.size y z) : RisS w b mb X n a v u s M z :=
  ⟨h.sp.next hb, h.fine, h.map.below hb, h.cov, h.box.below hb h.box.lt, h.bel.trans (hb.mono h.bel.size), h.la⟩
theorem RisS.off (h : RisS w b mb X n a v u s M y) : ¬ (mb = b ∨ v.ownBlock = some mb ∨ u.ownBlock = some mb) := by
  rintro (e | e | e)
  · exact h.map.ne_blk h.sp.led.led e.symm
  · exact h.map.ne_own h.sp.led.own e
  · exact h.map.ne_own h.sp.set e
theorem RisS.to (h : RisS w b mb X n a v u s M y) (ht : SpTo b b v u y s' v' u' z) (hf : s'.fine) (hc : ∀ x, x < 2 ^ 64 → M x = coversR s'.R x x) : RisS w b mb X n a v' u' s' M z :=
  ⟨ht.is, hf, h.map.only ht.on h.off, hc, h.box.only ht.on (by
    rintro (e | e | e)
    · exact blk_ne h.sp.led.led h.box (by decide) e
    · exact own_ne h.sp.led.own h.box (by decide) e
    · exact own_ne h.sp.set h.box (by decide) e), h.bel.trans ((ht.below h.sp).mono h.la.1), h.la⟩
/-- The same without the map's word: between Got and the map's turn. -/
theorem RisS.put (h : RisS w b mb X n a v u s M y) (ht : SpTo b b v u y s' v' u' z) (hf : s'.fine) {x : Nat} (hx : x < 2 ^ 64) (c : Bool) (hn : n < 1000000) (hc : ∀ k, k < 2 ^ 64 → (if k = x then c else M k) = coversR s'.R k k) :
    ∃ z', (Instr.mapUpdate 35 (.map (some mb)) (.int .u64 (x : Int)) (.bool c)).run Try.prog z = .ok () z' ∧ RisS w b mb X (n + 1) a v' u' s' (fun k => if k = x then c else M k) z' := by
  have hm := h.map.only ht.on h.off
  obtain ⟨z', h1, h2, h3⟩ := hm.put hx c hn
  have hbx := h.box.only ht.on (by
    rintro (e | e | e)
    · exact blk_ne h.sp.led.led h.box (by decide) e
    · exact own_ne h.sp.led.own h.box (by decide) e
    · exact own_ne h.sp.set h.box (by decide) e)
  refine ⟨z', h1, ht.is.only h3 (fun e => hm.ne_blk ht.is.led.led e) (fun k hk e => hm.ne_own ht.is.led.own (by rw [hk, e])) (fun k hk e => hm.ne_own ht.is.set (by rw [hk, e])), hf, h2, hc, hbx.only h3 (fun e => hm.ne_blk hbx e), ?_, h.la⟩
  exact (h.bel.trans ((ht.below h.sp).mono h.la.1)).trans (h3.below (h.bel.trans ((ht.below h.sp).mono h.la.1)).size (fun k hk => by rw [hk]; exact h.la.2))
/-- Frames that came in lie in no block of the call's own. -/
theorem came_off {w0 : World} {B : Nat} {v u : Value} {s : Sp} {y : World} {p : Option Addr} {fs : List Frm} (h : SpIs b b v u s y) (hb : w0.heap.size ≤ b) (hold : 0 < fs.length → ∀ g o, p = some ⟨g, o, none⟩ → g < w0.heap.size) :
    FrsOff (fun k => k = b ∨ v.ownBlock = some k ∨ u.ownBlock = some k) p fs := by
  intro h0 g o e
  have hg := hold h0 g o e
  rintro (e | e | e)
  · omega
  · have := (h.led.own.lt g e).1; omega
  · have := (h.set.lt g e).1; omega
end
theorem fine_sent {s : Sp} (h : s.fine) (now size : Nat) (asks : Bool) (fa : Option Addr) (fl fc : Nat) : (sentSp s now size asks fa fl fc).1.fine ∧ (sentSp s now size asks fa fl fc).1.R = s.R ∧
    (((sentSp s now size asks fa fl fc).2.2 = 0 ∧ (sentSp s now size asks fa fl fc).2.1 = s.next ∧ (sentSp s now size asks fa fl fc).1.next = s.next + 1) ∨ ((sentSp s now size asks fa fl fc).2.2 ≠ 0 ∧ (sentSp s now size asks fa fl fc).1.next = s.next)) := by
  unfold sentSp
  generalize hr : (if asks = true then sentF s.L ⟨s.next, now, size, true, fa, fl, fc⟩ else skipF s.L s.next) = r
  simp only
  split
  · rename_i h0
    refine ⟨?_, rfl, .inl ⟨rfl, rfl, rfl⟩⟩
    show s.next + 1 = _
    have : ∀ (r : Lg × Int), (r = if asks = true then sentF s.L ⟨s.next, now, size, true, fa, fl, fc⟩ else skipF s.L s.next) → r.2 = 0 → r.1.li = true ∧ r.1.ln = s.next := by
      intro r hr h0
      cases asks
      · rw [if_neg (by simp)] at hr
        unfold skipF at hr
        split at hr
        · rw [hr] at h0; exact absurd (show (3 : Int) = 0 from h0) (by decide)
        · rw [hr]; exact ⟨rfl, rfl⟩
      · rw [if_pos rfl] at hr
        unfold sentF at hr
        split at hr
        · rw [hr] at h0; exact absurd (show (3 : Int) = 0 from h0) (by decide)
        · split at hr
          · rw [hr] at h0; exact absurd (show (4 : Int) = 0 from h0) (by decide)
          · rw [hr]; exact ⟨rfl, rfl⟩
    obtain ⟨e1, e2⟩ := this _ hr.symm h0
    rw [if_pos e1, e2]
  · rename_i h0
    exact ⟨h, rfl, .inr ⟨h0, rfl⟩⟩
theorem covers_add {L : List Rg} (h : OkR L) (hn : L.length ≤ 200) (x : Nat) (hE : addE L x x = 0) (k : Nat) : coversR (addR L x x) k k = (if k = x then true else coversR L k k) := by
  have hR : addR L x x = putR L x x := by unfold addR; rw [if_pos hE]
  have hx : x ≤ 4611686018427387903 := by
    unfold addE at hE
    split at hE
    · cases hE
    · omega
  have hp := put_spec L _ x x h (Nat.le_refl _) (by omega)
  have hok := (addR_ok h hn x x).1
  rw [Bool.eq_iff_iff, has_iff hok, hR, hp.2 k]
  by_cases e : k = x
  · rw [if_pos e]; simp [e]
  · rw [if_neg e, has_iff h]
    constructor
    · rintro (h1 | h1)
      · omega
      · exact h1
    · exact .inr

end Go.Proofs.Ytmnmpmiocgfalaa
