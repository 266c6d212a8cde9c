/- space: both spaces side by side in memory; the contracts of each act's two calls. -/
import Derived.Test.YtmnmpmiocgfalaaVm
import Derived.Test.YtmnmpmiocgfalaaVi
namespace Go.Proofs.Ytmnmpmiocgfalaa
open Go.ChangeShapes Go.WideShapes Go.RowKit
set_option linter.unusedVariables false
set_option linter.unusedSimpArgs false

/-- Both spaces, the frames of some packets, the act's box. -/
structure JM (w0 : World) (B b bl ax : Nat) (L : List Value) (s sr : Sp) (rows : List Row) (v u vr ur : Value) (w : World) : Prop where
  p : SpIs B B v u s w
  r : RsIs B b bl vr ur sr w
  fr : ∀ x ∈ rows, x.ok B w0 w
  dis : ∀ k, u.ownBlock = some k → ur.ownBlock ≠ some k
  x : blk w ax 38 L
  below : Below B w0 w
  b0 : w0.heap.size ≤ B

section
variable {w0 : World} {B b bl ax : Nat} {L : List Value} {s sr : Sp} {rows : List Row} {v u vr ur : Value} {w : World}
theorem JM.next (h : JM w0 B b bl ax L s sr rows v u vr ur w) {w' : World} (hb : Below w.heap.size w w') : JM w0 B b bl ax L s sr rows v u vr ur w' :=
  ⟨h.p.next hb, h.r.next hb, fun x hx => (h.fr x hx).next hb, h.dis, h.x.below hb h.x.lt, h.below.trans (hb.mono h.p.led.bw), h.b0⟩
theorem JM.drew (h : JM w0 B b bl ax L s sr rows v u vr ur w) : JM w0 B b bl ax L s sr rows v u vr ur w.drew := h.next (Below.refl _ _).drew
theorem JM.turn (h : JM w0 B b bl ax L s sr rows v u vr ur w) {rows' : List Row} (hr : ∀ x ∈ rows', x.ok B w0 w) : JM w0 B b bl ax L s sr rows' v u vr ur w :=
  ⟨h.p, h.r, hr, h.dis, h.x, h.below, h.b0⟩
/-- What lies in no block of the program's space. -/
theorem JM.offP (h : JM w0 B b bl ax L s sr rows v u vr ur w) {x : Nat} {T : TypeId} {l : List Value} (hx : blk w x T l) (h1 : T ≠ 34) (h2 : T ≠ 57) (h3 : T ≠ 47) : ¬ (x = B ∨ v.ownBlock = some x ∨ u.ownBlock = some x) := by
  rintro (e | e | e)
  · exact blk_ne h.p.led.led hx (fun e => h1 e.symm) e
  · exact own_ne h.p.led.own hx h2 e
  · exact own_ne h.p.set hx h3 e
theorem JM.offR (h : JM w0 B b bl ax L s sr rows v u vr ur w) {x : Nat} {T : TypeId} {l : List Value} (hx : blk w x T l) (h1 : T ≠ 74) (h2 : T ≠ 103) (h3 : T ≠ 80) : ¬ (x = b ∨ x = bl ∨ vr.ownBlock = some x) := by
  rintro (e | e | e)
  · exact blk_ne h.r.at_ hx (fun e => h1 e.symm) e
  · exact blk_ne h.r.led.led hx (fun e => h3 e.symm) e
  · exact own_ne h.r.led.own hx h2 e
theorem JM.prog (h : JM w0 B b bl ax L s sr rows v u vr ur w) {s' : Sp} {v' u' : Value} {w' : World} (ht : SpTo B B v u w s' v' u' w') : JM w0 B b bl ax L s' sr rows v' u' vr ur w' := by
  refine ⟨ht.is, h.r.only ht.on (h.offP h.r.at_ (by decide) (by decide) (by decide)) (h.offP h.r.led.led (by decide) (by decide) (by decide)) ?_ ?_, fun x hx => (h.fr x hx).only ht.on ?_, ?_, h.x.only ht.on (h.offP h.x (by decide) (by decide) (by decide)), h.below.trans (ht.below h.p), h.b0⟩
  · rintro k hk (e | e | e)
    · exact own_ne h.r.led.own h.p.led.led (by decide) (by rw [hk, e])
    · exact own_ne2 h.r.led.own h.p.led.own (by decide) k hk e
    · exact own_ne2 h.r.led.own h.p.set (by decide) k hk e
  · rintro k hk (e | e | e)
    · exact own_ne h.r.set h.p.led.led (by decide) (by rw [hk, e])
    · exact own_ne2 h.r.set h.p.led.own (by decide) k hk e
    · exact h.dis k e hk
  · rintro k hk (e | e | e)
    · exact own_ne (h.fr x hx).own h.p.led.led (by decide) (by rw [hk, e])
    · exact own_ne2 (h.fr x hx).own h.p.led.own (by decide) k hk e
    · exact own_ne2 (h.fr x hx).own h.p.set (by decide) k hk e
  · intro k hk e
    rcases ht.fu with h1 | h1
    · exact h.dis k (by rw [← h1]; exact hk) e
    · have := h1 k hk
      have := (h.r.set.lt k e).2
      omega
theorem JM.ref (h : JM w0 B b bl ax L s sr rows v u vr ur w) {s' : Sp} {v' u' : Value} {w' : World} (ht : RsTo B b bl vr ur w s' v' u' w') : JM w0 B b bl ax L s s' rows v u v' u' w' := by
  refine ⟨h.p.only ht.on (h.offR h.p.led.led (by decide) (by decide) (by decide)) ?_ ?_, ht.is, fun x hx => (h.fr x hx).only ht.on ?_, ?_, h.x.only ht.on (h.offR h.x (by decide) (by decide) (by decide)), h.below.trans (ht.below h.r), h.b0⟩
  · rintro k hk (e | e | e)
    · exact own_ne h.p.led.own h.r.at_ (by decide) (by rw [hk, e])
    · exact own_ne h.p.led.own h.r.led.led (by decide) (by rw [hk, e])
    · exact own_ne2 h.p.led.own h.r.led.own (by decide) k hk e
  · rintro k hk (e | e | e)
    · exact own_ne h.p.set h.r.at_ (by decide) (by rw [hk, e])
    · exact own_ne h.p.set h.r.led.led (by decide) (by rw [hk, e])
    · exact own_ne2 h.p.set h.r.led.own (by decide) k hk e
  · rintro k hk (e | e | e)
    · exact own_ne (h.fr x hx).own h.r.at_ (by decide) (by rw [hk, e])
    · exact own_ne (h.fr x hx).own h.r.led.led (by decide) (by rw [hk, e])
    · exact own_ne2 (h.fr x hx).own h.r.led.own (by decide) k hk e
  · intro k hk e
    rcases ht.fu with h1 | h1
    · exact h.dis k hk (by rw [← h1]; exact e)
    · have := h1 k e
      have := (h.p.set.lt k hk).2
      omega
/-- What the program told stays as it is when the reference goes on. -/
theorem JM.told (h : JM w0 B b bl ax L s sr rows v u vr ur w) {s' : Sp} {v' u' : Value} {w' : World} (ht : RsTo B b bl vr ur w s' v' u' w') {base n : Nat} {T : TypeId} {sz : Nat} {vg : Value} {xs : List Value} (hg : w.ownsRow base T sz vg n xs)
    (h1 : T ≠ 74) (h2 : T ≠ 103) (h3 : T ≠ 80) : w'.ownsRow base T sz vg n xs :=
  own_only hg ht.on (by
    rintro k hk (e | e | e)
    · exact own_ne hg h.r.at_ (fun e => h1 e.symm) (by rw [hk, e])
    · exact own_ne hg h.r.led.led (fun e => h3 e.symm) (by rw [hk, e])
    · exact own_ne2 hg h.r.led.own h2 k hk e)
end

/-- Both tell the same. -/
def DW (w0 : World) (B b bl ax : Nat) (L : List Value) (w : World) : Prop :=
  ∃ s rows v u vr ur, JM w0 B b bl ax L s (twin s rows) rows v u vr ur w ∧ s.L.op = rows.map Row.p ∧ s.fine
/-- The program's call has been; the reference's is to come: F tells what it comes to. -/
def MW (w0 : World) (B b bl ax : Nat) (L : List Value) (F : World → List Row → Sp → Sp → List Row → Prop) (w : World) : Prop :=
  ∃ s rows s' rows' rowsA v u vr ur, JM w0 B b bl ax L s' (twin s rows) rowsA v u vr ur w ∧ (∀ x ∈ rows', x ∈ rowsA) ∧ (∀ x ∈ rows, x ∈ rowsA) ∧ s'.L.op = rows'.map Row.p ∧ s'.fine ∧ s.L.op = rows.map Row.p ∧ s.fine ∧ F w rows s s' rows'

section
variable {w0 : World} {B b bl ax : Nat} {L : List Value} {w : World}
theorem DW.next (h : DW w0 B b bl ax L w) {w' : World} (hb : Below w.heap.size w w') : DW w0 B b bl ax L w' := by
  obtain ⟨s, rows, v, u, vr, ur, h1, h2⟩ := h
  exact ⟨s, rows, v, u, vr, ur, h1.next hb, h2⟩
theorem DW.x (h : DW w0 B b bl ax L w) : blk w ax 38 L := by
  obtain ⟨s, rows, v, u, vr, ur, h1, h2⟩ := h
  exact h1.x
theorem MW.x {F : World → List Row → Sp → Sp → List Row → Prop} (h : MW w0 B b bl ax L F w) : blk w ax 38 L := by
  obtain ⟨s, rows, s', rows', rowsA, v, u, vr, ur, h1, h2⟩ := h
  exact h1.x
theorem MW.next {F : World → List Row → Sp → Sp → List Row → Prop} (h : MW w0 B b bl ax L F w) {w' : World} (hb : Below w.heap.size w w') (hF : ∀ rows s s' rows', F w rows s s' rows' → F w' rows s s' rows') : MW w0 B b bl ax L F w' := by
  obtain ⟨s, rows, s', rows', rowsA, v, u, vr, ur, h1, h2, h3, h4, h5, h6, h7, h8⟩ := h
  exact ⟨s, rows, s', rows', rowsA, v, u, vr, ur, h1.next hb, h2, h3, h4, h5, h6, h7, hF _ _ _ _ h8⟩

/-! ### Sent -/
def FSent (a : Act1) (n : Nat) (c : Int) : World → List Row → Sp → Sp → List Row → Prop := fun _ rows s s' rows' =>
  sentSp (twin s rows) a.now a.size (a.fs.any asksF) a.fp a.fs.length a.fcap = (twin s' rows', n, c)
theorem DW.sent (h : DW w0 B b bl ax L w) {a : Act1} (hc : a.came w0) (hfit : ∀ f ∈ a.fs, f.fit) (hl : a.fs.length ≤ 10) :
    Calls Try.prog 16 #[.pointer (some ⟨B, 0, none⟩), .int .u64 (a.now : Int), .int .u64 (a.size : Int), .slice a.fp a.fs.length a.fcap] w fun e z => ∃ (n : Nat) (c : Int), e = .returned (.tuple #[.int .u64 (n : Int), .int .i64 c]) ∧ MW w0 B b bl ax L (FSent a n c) z := by
  obtain ⟨s, rows, v, u, vr, ur, h1, hop, hfine⟩ := h
  refine (Sent_sp B B v u s w a.now a.size a.fp a.fcap a.fs h1.p hfine (hc.frs.below (h1.below.mono h1.b0)) hfit (by omega)).mono ?_
  rintro e z ⟨fa, fc, v', rfl, ht, hfr⟩
  obtain ⟨rows', hr, hop', htw⟩ := twin_sent hop a.now a.size (a.fs.any asksF) fa a.fp a.fs.length fc a.fcap a.fs
  have hm := h1.prog ht
  refine ⟨_, _, rfl, s, rows, _, rows', rows', v', u, vr, ur, hm.turn ?_, fun x hx => hx, ?_, hop', sent_fine hfine _ _ _ _ _ _, hop, hfine, htw⟩
  · rcases hr with rfl | ⟨h2, h3, rfl⟩
    · exact hm.fr
    · intro x hx
      rw [List.mem_append] at hx
      rcases hx with hx | hx
      · exact hm.fr x hx
      · rw [List.mem_singleton] at hx
        subst hx
        exact ⟨own_base (hfr h2 h3) h1.p.led.bw, hc.frs, rfl, by show a.fs.length ≤ 1000; omega, fun f hf => (hc.all f hf).rg, fun f hf => (hfit f hf).l⟩
  · rcases hr with rfl | ⟨h2, h3, rfl⟩
    · exact fun x hx => hx
    · exact fun x hx => List.mem_append_left _ hx
theorem MW.sent {a : Act1} {n : Nat} {c : Int} (h : MW w0 B b bl ax L (FSent a n c) w) (hc : a.came w0) (hfit : ∀ f ∈ a.fs, f.fit) (hl : a.fs.length ≤ 10) :
    Calls Try.prog 24 #[.pointer (some ⟨b, 0, none⟩), .int .u64 (a.now : Int), .int .u64 (a.size : Int), .slice a.fp a.fs.length a.fcap] w fun e z => e = .returned (.tuple #[.int .u64 (n : Int), .int .i64 c]) ∧ DW w0 B b bl ax L z := by
  obtain ⟨s, rows, s', rows', rowsA, v, u, vr, ur, h1, h2, h3, h4, h5, h6, h7, h8⟩ := h
  have hb := h1.below.mono h1.b0
  refine (rSent15 B b bl vr ur (twin s rows) w a.now a.size a.fp a.fcap a.fs h1.r h7 (hc.frs.below hb) hfit (fun f hf => (hc.all f hf).rg.below hb) (by omega)).mono ?_
  rintro e z ⟨v', rfl, ht⟩
  unfold FSent at h8
  rw [h8] at ht ⊢
  have hm := h1.ref ht
  exact ⟨rfl, s', rows', v, u, v', ur, hm.turn (fun x hx => hm.fr x (h2 x hx)), h4, h5⟩

/-! ### Got -/
def FGot (a : Act1) (c : Int) : World → List Row → Sp → Sp → List Row → Prop := fun _ rows s s' rows' =>
  gotSp (twin s rows) a.num a.now (a.fs.any asksF) = (twin s' rows', c)
theorem DW.got (h : DW w0 B b bl ax L w) {a : Act1} (hc : a.came w0) (hfit : ∀ f ∈ a.fs, f.fit) (hl : a.fs.length ≤ 10) :
    Calls Try.prog 11 #[.pointer (some ⟨B, 0, none⟩), .int .u64 (a.num : Int), .int .u64 (a.now : Int), .slice a.fp a.fs.length a.fcap] w fun e z => ∃ c : Int, e = .returned (.int .i64 c) ∧ MW w0 B b bl ax L (FGot a c) z := by
  obtain ⟨s, rows, v, u, vr, ur, h1, hop, hfine⟩ := h
  refine (Got_sp B B v u s w a.num a.now a.fp a.fcap a.fs h1.p (hc.frs.below (h1.below.mono h1.b0)) (came_off (B := 0) h1.p h1.b0 hc.old) hfit (by omega) hc.n1 hc.n2).mono ?_
  rintro e z ⟨rfl, u', ht⟩
  obtain ⟨htw, hL, hN⟩ := twin_got s rows a.num a.now (a.fs.any asksF)
  have hm := h1.prog ht
  refine ⟨_, rfl, s, rows, _, rows, rows, v, u', vr, ur, hm, fun x hx => hx, fun x hx => hx, by rw [hL]; exact hop, ?_, hop, hfine, htw⟩
  unfold Sp.fine at hfine ⊢
  rw [hL, hN]
  exact hfine
theorem MW.got {a : Act1} {c : Int} (h : MW w0 B b bl ax L (FGot a c) w) (hc : a.came w0) (hfit : ∀ f ∈ a.fs, f.fit) (hl : a.fs.length ≤ 10) :
    Calls Try.prog 25 #[.pointer (some ⟨b, 0, none⟩), .int .u64 (a.num : Int), .int .u64 (a.now : Int), .slice a.fp a.fs.length a.fcap] w fun e z => e = .returned (.int .i64 c) ∧ DW w0 B b bl ax L z := by
  obtain ⟨s, rows, s', rows', rowsA, v, u, vr, ur, h1, h2, h3, h4, h5, h6, h7, h8⟩ := h
  refine (rGot15 B b bl vr ur (twin s rows) w a.num a.now a.fp a.fcap a.fs h1.r (fun y hy => ?_) hfit (by omega) hc.n1 hc.n2).mono ?_
  · have hb := (h1.below.trans hy).mono h1.b0
    exact ⟨hc.frs.below hb, fun f hf => (hc.all f hf).rg.below hb⟩
  · rintro e z ⟨rfl, u', ht⟩
    unfold FGot at h8
    rw [h8] at ht ⊢
    have hm := h1.ref ht
    exact ⟨rfl, s', rows', v, u, vr, u', hm.turn (fun x hx => hm.fr x (h2 x hx)), h4, h5⟩

/-! ### Ack -/
def FAck (B now k t : Nat) (q : Option Addr) (n c : Nat) (is : Bool) : World → List Row → Sp → Sp → List Row → Prop := fun w rows s s' rows' =>
  rows' = rows ∧ ((s.R = [] ∧ s' = s ∧ k = 0 ∧ t = 0 ∧ n = 0 ∧ is = false) ∨
    (0 < s.R.length ∧ s' = { s with must := false } ∧ k = 2 ∧ t = sinceF s.when now ∧ n = min 32 s.R.length ∧ is = true ∧ w.ownsRow B 47 2 (.slice q n c) n (rgs (s.R.take n))))
theorem DW.ack (h : DW w0 B b bl ax L w) {a : Act1} (hc : a.came w0) :
    Calls Try.prog 12 #[.pointer (some ⟨B, 0, none⟩), .int .u64 (a.now : Int)] w fun e z => ∃ (k t : Nat) (q : Option Addr) (n c : Nat) (is : Bool), e = .returned (.tuple #[.agg #[.int .u64 (k : Int), .int .u64 (t : Int), .int .u64 0, .int .u64 0, .bool false, .string ⟨#[]⟩, .string ⟨#[]⟩, .slice q n c], .bool is]) ∧ MW w0 B b bl ax L (FAck B a.now k t q n c is) z := by
  obtain ⟨s, rows, v, u, vr, ur, h1, hop, hfine⟩ := h
  refine (Ack_sp B B v u s w a.now h1.p hc.n2).mono ?_
  rintro e z (⟨h2, rfl, h3⟩ | ⟨h2, q, c, rfl, h3, ht⟩)
  · exact ⟨0, 0, none, 0, 0, false, rfl, s, rows, s, rows, rows, v, u, vr, ur, h1.next h3, fun x hx => hx, fun x hx => hx, hop, hfine, hop, hfine, rfl, .inl ⟨h2, rfl, rfl, rfl, rfl, rfl⟩⟩
  · exact ⟨2, sinceF s.when a.now, q, min 32 s.R.length, c, true, rfl, s, rows, _, rows, rows, v, u, vr, ur, h1.prog ht, fun x hx => hx, fun x hx => hx, hop, hfine, hop, hfine, rfl, .inr ⟨h2, rfl, rfl, rfl, rfl, rfl, own_base h3 h1.p.led.bw⟩⟩
theorem FAck.next {B now k t : Nat} {q : Option Addr} {n c : Nat} {is : Bool} {w w' : World} (hb : Below w.heap.size w w') (rows : List Row) (s s' : Sp) (rows' : List Row) (h : FAck B now k t q n c is w rows s s' rows') : FAck B now k t q n c is w' rows s s' rows' := by
  obtain ⟨h1, h2 | ⟨g1, g2, g3, g4, g5, g6, g7⟩⟩ := h
  · exact ⟨h1, .inl h2⟩
  · exact ⟨h1, .inr ⟨g1, g2, g3, g4, g5, g6, own_below g7 hb⟩⟩
/-- Both acknowledgements tell the same ranges. -/
def SameR (q q2 : Option Addr) (n : Nat) (w : World) : Prop := ∃ rs : List (Nat × Nat), rs.length = n ∧ n ≤ 1000 ∧ RgAt w q rs ∧ RgAt w q2 rs
theorem SameR.next {q q2 : Option Addr} {n : Nat} {w' : World} (h : SameR q q2 n w) (hb : Below w.heap.size w w') : SameR q q2 n w' := by
  obtain ⟨rs, h1, h2, h3, h4⟩ := h
  exact ⟨rs, h1, h2, h3.below hb, h4.below hb⟩
theorem SameR.same {q q2 : Option Addr} {n : Nat} (h : SameR q q2 n w) (k t c c2 : Nat) :
    Calls Try.prog 27 #[.agg #[.int .u64 (k : Int), .int .u64 (t : Int), .int .u64 0, .int .u64 0, .bool false, .string ⟨#[]⟩, .string ⟨#[]⟩, .slice q n c], .agg #[.int .u64 (k : Int), .int .u64 (t : Int), .int .u64 0, .int .u64 0, .bool false, .string ⟨#[]⟩, .string ⟨#[]⟩, .slice q2 n c2]] w fun e w' => e = .returned (.bool true) ∧ Below w.heap.size w w' := by
  obtain ⟨rs, rfl, h2, h3, h4⟩ := h
  exact same03 ⟨k, t, 0, 0, false, ⟨#[]⟩, ⟨#[]⟩, q, rs, c⟩ q2 c2 w h3 h4 (by show rs.length ≤ 1000000; omega)
theorem MW.ack {a : Act1} {k t : Nat} {q : Option Addr} {n c : Nat} {is : Bool} (h : MW w0 B b bl ax L (FAck B a.now k t q n c is) w) (hc : a.came w0) :
    Calls Try.prog 26 #[.pointer (some ⟨b, 0, none⟩), .int .u64 (a.now : Int)] w fun e z => ∃ (q2 : Option Addr) (c2 : Nat), e = .returned (.tuple #[.agg #[.int .u64 (k : Int), .int .u64 (t : Int), .int .u64 0, .int .u64 0, .bool false, .string ⟨#[]⟩, .string ⟨#[]⟩, .slice q2 n c2], .bool is]) ∧ DW w0 B b bl ax L z ∧ SameR q q2 n z ∧ ∀ x l, blk w x 43 l → blk z x 43 l := by
  obtain ⟨s, rows, s', rows', rowsA, v, u, vr, ur, h1, h2, h3, h4, h5, h6, h7, h8, h9⟩ := h
  subst h8
  refine (rAck15 B b bl vr ur (twin s rows') w a.now h1.r hc.n2).mono ?_
  rintro e z (⟨g2, rfl, g3⟩ | ⟨g2, q2, c2, rfl, g3, ht⟩)
  · rcases h9 with ⟨k1, rfl, rfl, rfl, rfl, rfl⟩ | ⟨k1, -⟩
    · refine ⟨none, 0, rfl, ⟨_, rows', v, u, vr, ur, (h1.next g3).turn (fun x hx => (h1.next g3).fr x (h2 x hx)), h4, h5⟩, ⟨[], rfl, by omega, ?_, ?_⟩, fun x l hx => hx.below g3 hx.lt⟩
      · intro h0; exact absurd h0 (by decide)
      · intro h0; exact absurd h0 (by decide)
    · have : s.R = [] := g2
      rw [this] at k1
      exact absurd k1 (by decide)
  · rcases h9 with ⟨k1, -⟩ | ⟨k1, rfl, rfl, rfl, rfl, rfl, k7⟩
    · have : 0 < s.R.length := g2
      rw [k1] at this
      exact absurd this (by decide)
    · have hm := h1.ref ht
      refine ⟨q2, c2, rfl, ⟨_, rows', v, u, vr, ur, hm.turn (fun x hx => hm.fr x (h2 x hx)), h4, h5⟩, ⟨s.R.take (min 32 s.R.length), ?_, by omega, ?_, ?_⟩, fun x l hx => hx.only ht.on (h1.offR hx (by decide) (by decide) (by decide))⟩
      · rw [List.length_take]; omega
      · exact RgAt.of_row (h1.told ht k7 (by decide) (by decide) (by decide))
      · exact RgAt.of_row g3

/-! ### Lost -/
def FLost (B now size : Nat) (vg : Value) : World → List Row → Sp → Sp → List Row → Prop := fun w rows s s' rows' =>
  rows' = rows.filter (fun x => !lostP s.L.bi s.L.bn now size x.p) ∧ s' = { s with L := { s.L with op := s.L.op.filter (fun p => !lostP s.L.bi s.L.bn now size p) } } ∧
    w.ownsRow B 57 5 vg (rows.filter (fun x => lostP s.L.bi s.L.bn now size x.p)).length (pks ((rows.filter (fun x => lostP s.L.bi s.L.bn now size x.p)).map Row.p))
theorem DW.lost (h : DW w0 B b bl ax L w) {a : Act1} (hc : a.came w0) :
    Calls Try.prog 20 #[.pointer (some ⟨B, 0, none⟩), .int .u64 (a.now : Int), .int .u64 (a.size : Int)] w fun e z => ∃ vg, e = .returned vg ∧ MW w0 B b bl ax L (FLost B a.now a.size vg) z := by
  obtain ⟨s, rows, v, u, vr, ur, h1, hop, hfine⟩ := h
  refine (Lost_any B B _ _ v s.L w a.now a.size h1.p.led h1.p.inv.len1 h1.p.inv.bnb hc.n2).mono ?_
  rintro e z ⟨vg, v', rfl, h7, h8, h9⟩
  obtain ⟨t1, t2, t3, t4⟩ := twin_lost hop a.now a.size
  have ht := h1.p.came h8 (h1.p.inv.filter _)
  rw [t2, List.length_map] at h7
  exact ⟨vg, rfl, s, rows, _, rows.filter (fun x => !lostP s.L.bi s.L.bn a.now a.size x.p), rows, v', u, vr, ur, h1.prog ht, fun x hx => (List.mem_filter.1 hx).1, fun x hx => hx, t4, hfine, hop, hfine, rfl, rfl, own_base h7 h1.p.led.bw⟩
theorem MW.lost {a : Act1} {vg : Value} (h : MW w0 B b bl ax L (FLost B a.now a.size vg) w) (hc : a.came w0) :
    Calls Try.prog 30 #[.pointer (some ⟨bl, 0, none⟩), .int .u64 (a.now : Int), .int .u64 (a.size : Int)] w fun e z => ∃ vq, e = .returned vq ∧ DW w0 B b bl ax L z ∧
      Calls Try.prog 29 #[vg, vq] z fun e z' => e = .returned (.bool true) ∧ Below z.heap.size z z' := by
  obtain ⟨s, rows, s', rows', rowsA, v, u, vr, ur, h1, h2, h3, h4, h5, h6, h7, rfl, rfl, h10⟩ := h
  obtain ⟨t1, t2, t3, t4⟩ := twin_lost h6 a.now a.size
  refine (rLost_any B bl vr (twin s rows).L w a.now a.size h1.r.led h1.r.inv hc.n2).mono ?_
  rintro e z ⟨vq, rfl, v', g1, g2, g3⟩
  have e1 : (twin s rows).L.bi = s.L.bi := rfl
  have e2 : (twin s rows).L.bn = s.L.bn := rfl
  rw [e1, e2] at g1 g2
  rw [t1, List.length_map] at g1
  rw [t3] at g2
  have ht := h1.r.came g2 (by rw [← t3]; exact h1.r.inv.filter _)
  have hm := h1.ref ht
  refine ⟨vq, rfl, ⟨_, _, v, u, v', ur, hm.turn (fun x hx => hm.fr x (h2 x hx)), h4, h5⟩, ?_⟩
  refine same15 _ B _ _ vg vq w0 z (h1.told ht h10 (by decide) (by decide) (by decide)) g1 (fun x hx => hm.fr x (h3 x (List.mem_filter.1 hx).1)) (hm.below.mono hm.b0) ?_
  have := h1.r.inv.len1
  have hl : (twin s rows).L.op.length = rows.length := by show (rows.map Row.r).length = _; rw [List.length_map]
  exact Nat.le_trans (List.length_filter_le _ _) (by omega)

/-! ### Take -/
def FTake (B now kind : Nat) (rs : List (Nat × Nat)) (pg : Option Addr) (n cg t : Nat) (is : Bool) (c : Int) : World → List Row → Sp → Sp → List Row → Prop := fun w rows s s' rows' =>
  (¬ (kind = 2 ∨ kind = 3) ∧ rows' = rows ∧ s' = s ∧ pg = none ∧ n = 0 ∧ cg = 0 ∧ t = 0 ∧ is = false ∧ c = 1) ∨
  ((kind = 2 ∨ kind = 3) ∧ ackE s.L rs ≠ 0 ∧ rows' = rows ∧ s' = s ∧ pg = none ∧ n = 0 ∧ cg = 0 ∧ t = 0 ∧ is = false ∧ c = ackE s.L rs) ∨
  ((kind = 2 ∨ kind = 3) ∧ ackE s.L rs = 0 ∧ rows' = rows.filter (fun x => !ackP rs x.p) ∧ s' = { s with L := ackS s.L rs } ∧ c = 0 ∧ n = (rows.filter (fun x => ackP rs x.p)).length ∧
    tF ((rows.filter (fun x => ackP rs x.p)).map Row.p) (bestN 0 rs) now = (t, is) ∧ w.ownsRow B 57 5 (.slice pg n cg) n (pks ((rows.filter (fun x => ackP rs x.p)).map Row.p)))
theorem rg_off {f : Frm} (hr : RgAt w0 f.lp f.rs) (P : Nat → Prop) (hP : ∀ k, P k → B ≤ k) (hb : w0.heap.size ≤ B) : 0 < f.rs.length → ∀ a, f.lp = some a → ¬ P a.block := by
  intro h0 a e hp
  obtain ⟨g, o, e2, hg, -⟩ := hr h0
  rw [e2] at e
  injection e with e
  subst e
  have := hP g hp
  omega
theorem DW.take (h : DW w0 B b bl ax L w) {a : Act1} {f : Frm} (hc : a.came w0) (hf : f.came w0) (hl : f.rs.length ≤ 1000) :
    Calls Try.prog 17 #[.pointer (some ⟨B, 0, none⟩), frmV f, .int .u64 (a.now : Int)] w fun e z => ∃ (pg : Option Addr) (n cg t : Nat) (is : Bool) (c : Int), e = .returned (.tuple #[.slice pg n cg, .int .u64 (t : Int), .bool is, .int .i64 c]) ∧ MW w0 B b bl ax L (FTake B a.now f.kind f.rs pg n cg t is c) z := by
  obtain ⟨s, rows, v, u, vr, ur, h1, hop, hfine⟩ := h
  refine (Take_sp B B v u s w f a.now h1.p (hf.rg.below (h1.below.mono h1.b0)) hl (rg_off (B := B) hf.rg (fun k => k = B ∨ v.ownBlock = some k ∨ u.ownBlock = some k) ?_ h1.b0) hc.n2).mono ?_
  · rintro k (e | e | e)
    · omega
    · exact (h1.p.led.own.lt k e).1
    · exact (h1.p.set.lt k e).1
  rintro e z (⟨h2, rfl, h3⟩ | ⟨h2, h3, rfl, h4⟩ | ⟨h2, h3, pg, cg, v', rfl, h4, ht, h5⟩)
  · exact ⟨none, 0, 0, 0, false, 1, rfl, s, rows, s, rows, rows, v, u, vr, ur, h1.next h3, fun x hx => hx, fun x hx => hx, hop, hfine, hop, hfine, .inl ⟨h2, rfl, rfl, rfl, rfl, rfl, rfl, rfl, rfl⟩⟩
  · exact ⟨none, 0, 0, 0, false, ackE s.L f.rs, rfl, s, rows, s, rows, rows, v, u, vr, ur, h1.next h4, fun x hx => hx, fun x hx => hx, hop, hfine, hop, hfine, .inr (.inl ⟨h2, h3, rfl, rfl, rfl, rfl, rfl, rfl, rfl, rfl⟩)⟩
  · obtain ⟨k1, k2, k3, k4, k5, k6⟩ := twin_ack hop h3
    rw [k3] at h4 ⊢
    have hl : ((rows.filter (fun x => ackP f.rs x.p)).map Row.p).length = (rows.filter (fun x => ackP f.rs x.p)).length := List.length_map _
    rw [hl] at h4 ⊢
    refine ⟨pg, _, cg, _, _, 0, rfl, s, rows, _, rows.filter (fun x => !ackP f.rs x.p), rows, v', u, vr, ur, h1.prog ht, fun x hx => (List.mem_filter.1 hx).1, fun x hx => hx, k2, ?_, hop, hfine, .inr (.inr ⟨h2, h3, rfl, rfl, rfl, rfl, rfl, own_base h4 h1.p.led.bw⟩)⟩
    unfold Sp.fine at hfine ⊢
    simp only [k5, k6]
    exact hfine
theorem MW.take {a : Act1} {f : Frm} {pg : Option Addr} {n cg t : Nat} {is : Bool} {c : Int} (h : MW w0 B b bl ax L (FTake B a.now f.kind f.rs pg n cg t is c) w) (hc : a.came w0) (hf : f.came w0) (hl : f.rs.length ≤ 1000) :
    Calls Try.prog 28 #[.pointer (some ⟨b, 0, none⟩), frmV f, .int .u64 (a.now : Int)] w fun e z => ∃ (pq : Option Addr) (cq : Nat), e = .returned (.tuple #[.slice pq n cq, .int .u64 (t : Int), .bool is, .int .i64 c]) ∧ DW w0 B b bl ax L z ∧
      Calls Try.prog 29 #[.slice pg n cg, .slice pq n cq] z fun e z' => e = .returned (.bool true) ∧ Below z.heap.size z z' := by
  obtain ⟨s, rows, s', rows', rowsA, v, u, vr, ur, h1, h2, h3, h4, h5, h6, h7, h8⟩ := h
  refine (rTake15 B b bl vr ur (twin s rows) w f a.now h1.r (fun y hy => hf.rg.below ((h1.below.trans hy).mono h1.b0)) hl (rg_off (B := B) hf.rg (fun k => k = bl) (fun k e => by rw [e]; exact h1.r.led.bb) h1.b0) hc.n2).mono ?_
  have hsn : ∀ z : World, Below w0.heap.size w0 z → Calls Try.prog 29 #[.slice none 0 0, .slice none 0 0] z fun e z' => e = .returned (.bool true) ∧ Below z.heap.size z z' := fun z hz =>
    same15 [] 0 0 0 (.slice none 0 0) (.slice none 0 0) w0 z (World.ownsRow_nil _ _ _ _) (World.ownsRow_nil _ _ _ _) (fun x hx => by cases hx) hz (by decide)
  have eA : ackE (twin s rows).L f.rs = ackE s.L f.rs := rfl
  rintro e z (⟨g1, rfl, g3⟩ | ⟨g1, g2, rfl, v', ht⟩ | ⟨g1, g2, pq, cq, v', rfl, g4, ht⟩)
  · rcases h8 with ⟨k1, rfl, rfl, rfl, rfl, rfl, rfl, rfl, rfl⟩ | ⟨k1, -⟩ | ⟨k1, -⟩
    · have hm := h1.next g3
      exact ⟨none, 0, rfl, ⟨_, rows', v, u, vr, ur, hm.turn (fun x hx => hm.fr x (h2 x hx)), h4, h5⟩, hsn z (hm.below.mono hm.b0)⟩
    · exact absurd k1 g1
    · exact absurd k1 g1
  · rcases h8 with ⟨k1, -⟩ | ⟨k1, k2, rfl, rfl, rfl, rfl, rfl, rfl, rfl, rfl⟩ | ⟨k1, k2, -⟩
    · exact absurd g1 k1
    · have hm := h1.ref ht
      exact ⟨none, 0, rfl, ⟨_, rows', v, u, v', ur, hm.turn (fun x hx => hm.fr x (h2 x hx)), h4, h5⟩, hsn z (hm.below.mono hm.b0)⟩
    · rw [eA] at g2
      exact absurd k2 g2
  · rcases h8 with ⟨k1, -⟩ | ⟨k1, k2, -⟩ | ⟨k1, k2, rfl, rfl, rfl, rfl, k6, k7⟩
    · exact absurd g1 k1
    · rw [eA] at g2
      exact absurd g2 k2
    · obtain ⟨q1, q2, q3, q4, q5, q6⟩ := twin_ack h6 k2
      have ht2 : RsTo B b bl vr ur w (twin { s with L := ackS s.L f.rs } (rows.filter (fun x => !ackP f.rs x.p))) v' ur z := by
        have := ht
        rw [q1] at this
        exact this
      have hm := h1.ref ht2
      rw [q4] at g4 ⊢
      have hl2 : ((rows.filter (fun x => ackP f.rs x.p)).map Row.r).length = (rows.filter (fun x => ackP f.rs x.p)).length := List.length_map _
      rw [hl2] at g4 ⊢
      rw [tF_r, k6]
      refine ⟨pq, cq, rfl, ⟨_, _, v, u, v', ur, hm.turn (fun x hx => hm.fr x (h2 x hx)), h4, h5⟩, ?_⟩
      refine same15 _ B _ _ _ _ w0 z (h1.told ht2 k7 (by decide) (by decide) (by decide)) g4 (fun x hx => hm.fr x (h3 x (List.mem_filter.1 hx).1)) (hm.below.mono hm.b0) ?_
      have := h1.r.inv.len1
      have hl : (twin s rows).L.op.length = rows.length := by show (rows.map Row.r).length = _; rw [List.length_map]
      exact Nat.le_trans (List.length_filter_le _ _) (by omega)
theorem FTake.next {now kind : Nat} {rs : List (Nat × Nat)} {pg : Option Addr} {n cg t : Nat} {is : Bool} {c : Int} {w' : World} (hb : Below w.heap.size w w') (rows : List Row) (s s' : Sp) (rows' : List Row) (h : FTake B now kind rs pg n cg t is c w rows s s' rows') : FTake B now kind rs pg n cg t is c w' rows s s' rows' := by
  rcases h with h | h | ⟨h1, h2, h3, h4, h5, h6, h7, h8⟩
  · exact .inl h
  · exact .inr (.inl h)
  · exact .inr (.inr ⟨h1, h2, h3, h4, h5, h6, h7, own_below h8 hb⟩)

/-! ### What can be read behind each call -/
theorem DW.frm (h : DW w0 B b bl ax L w) {a : Act1} {f : Frm} {g o : Nat} (hc : a.came w0) (hf : a.fs[0]? = some f) (hp : a.fp = some ⟨g, o, none⟩) : cells8 w g o f ∧ g < w.heap.size := by
  obtain ⟨s, rows, v, u, vr, ur, h1, -⟩ := h
  obtain ⟨g3, o3, e3, hg3, hc3⟩ := (hc.frs.below (h1.below.mono h1.b0)).cells hf
  rw [hp] at e3
  injection e3 with e3
  injection e3 with e4 e5
  subst e4
  subst e5
  rw [Nat.zero_mul, Nat.add_zero] at hc3
  exact ⟨hc3, hg3⟩
theorem MW.frm {F : World → List Row → Sp → Sp → List Row → Prop} (h : MW w0 B b bl ax L F w) {a : Act1} {f : Frm} {g o : Nat} (hc : a.came w0) (hf : a.fs[0]? = some f) (hp : a.fp = some ⟨g, o, none⟩) : cells8 w g o f ∧ g < w.heap.size := by
  obtain ⟨s, rows, s', rows', rowsA, v, u, vr, ur, h1, -⟩ := h
  obtain ⟨g3, o3, e3, hg3, hc3⟩ := (hc.frs.below (h1.below.mono h1.b0)).cells hf
  rw [hp] at e3
  injection e3 with e3
  injection e3 with e4 e5
  subst e4
  subst e5
  rw [Nat.zero_mul, Nat.add_zero] at hc3
  exact ⟨hc3, hg3⟩
theorem DW.lp (h : DW w0 B b bl ax L w) : w.cell? ⟨b, 1, none⟩ = some (.pointer (some ⟨bl, 0, none⟩)) := by
  obtain ⟨s, rows, v, u, vr, ur, h1, -⟩ := h
  exact h1.r.at_.cell (k := 1) rfl
theorem MW.lp {F : World → List Row → Sp → Sp → List Row → Prop} (h : MW w0 B b bl ax L F w) : w.cell? ⟨b, 1, none⟩ = some (.pointer (some ⟨bl, 0, none⟩)) := by
  obtain ⟨s, rows, s', rows', rowsA, v, u, vr, ur, h1, -⟩ := h
  exact h1.r.at_.cell (k := 1) rfl
end

end Go.Proofs.Ytmnmpmiocgfalaa
