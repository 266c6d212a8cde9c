/- space: the law's same: packets of both sides that tell the same. -/
import Derived.Test.YtmnmpmiocgfalaaVh
import Derived.Test.YtmnmpmiocgfalaaVc
import Derived.Deep.RegionHeld3
import Derived.Deep.RegionHeldLaw
namespace Go.Proofs.Ytmnmpmiocgfalaa
open Go.ChangeShapes Go.WideShapes Go.RowKit
set_option linter.unusedVariables false
set_option linter.unusedSimpArgs false

theorem FrsAt.of_row {w : World} {B n cap : Nat} {p : Option Addr} {fs : List Frm} (h : w.ownsRow B 43 8 (.slice p n cap) n (frs fs)) : FrsAt w p fs := by
  intro h0
  have hl := h.1
  rw [frs_length] at hl
  obtain ⟨g, cap1, hv, _, hg, hc, _⟩ := own_view h (by omega)
  injection hv with hv _ _
  refine ⟨g, 0, hv, hg, fun i f hf j v hj => ?_⟩
  have hj8 : j < 8 := (List.getElem?_eq_some_iff.1 hj).1
  have := hc (i * 8 + j) v (by rw [frs_get, show (i * 8 + j) / 8 = i by omega, show (i * 8 + j) % 8 = j by omega, hf]; exact hj)
  rw [Nat.zero_add]
  exact this

/-- Row x's frames, on both sides: the program's own, the reference's as they came in. -/
structure Row.ok (B : Nat) (w0 w : World) (x : Row) : Prop where
  own : w.ownsRow B 43 8 (.slice x.p.fa x.p.fl x.p.fc) x.p.fl (frs x.fs)
  inp : FrsAt w0 x.ra x.fs
  len : x.fs.length = x.p.fl
  few : x.fs.length ≤ 1000
  rg : ∀ f ∈ x.fs, RgAt w0 f.lp f.rs
  fit : ∀ f ∈ x.fs, f.rs.length ≤ 1000
theorem Row.ok.next {B : Nat} {w0 w w' : World} {x : Row} (h : x.ok B w0 w) (hb : Below w.heap.size w w') : x.ok B w0 w' := ⟨own_below h.own hb, h.inp, h.len, h.few, h.rg, h.fit⟩
theorem Row.ok.only {P : Nat → Prop} {B : Nat} {w0 w w' : World} {x : Row} (h : x.ok B w0 w) (ho : Only P w w') (hp : ∀ k, (Value.slice x.p.fa x.p.fl x.p.fc).ownBlock = some k → ¬ P k) : x.ok B w0 w' := ⟨own_only h.own ho hp, h.inp, h.len, h.few, h.rg, h.fit⟩

def cells8 (w : World) (g o : Nat) (f : Frm) : Prop :=
  w.cell? ⟨g, o, none⟩ = some (.int .u64 (f.kind : Int)) ∧ w.cell? ⟨g, o + 1, none⟩ = some (.int .u64 (f.a : Int)) ∧ w.cell? ⟨g, o + 2, none⟩ = some (.int .u64 (f.b : Int)) ∧ w.cell? ⟨g, o + 3, none⟩ = some (.int .u64 (f.c : Int)) ∧
  w.cell? ⟨g, o + 4, none⟩ = some (.bool f.fin) ∧ w.cell? ⟨g, o + 5, none⟩ = some (.string f.data) ∧ w.cell? ⟨g, o + 6, none⟩ = some (.string f.more) ∧ w.cell? ⟨g, o + 7, none⟩ = some (.slice f.lp f.rs.length f.lc)
theorem FrsAt.cells {w : World} {p : Option Addr} {fs : List Frm} (h : FrsAt w p fs) {i : Nat} {f : Frm} (hf : fs[i]? = some f) : ∃ g o, p = some ⟨g, o, none⟩ ∧ g < w.heap.size ∧ cells8 w g (o + i * 8) f := by
  obtain ⟨g, o, hp, hg, hc⟩ := h (by have := (List.getElem?_eq_some_iff.1 hf).1; omega)
  exact ⟨g, o, hp, hg, hc i f hf 0 _ rfl, hc i f hf 1 _ rfl, hc i f hf 2 _ rfl, hc i f hf 3 _ rfl, hc i f hf 4 _ rfl, hc i f hf 5 _ rfl, hc i f hf 6 _ rfl, hc i f hf 7 _ rfl⟩

theorem cells8.below {w w' : World} {g o : Nat} {f : Frm} (h : cells8 w g o f) (hg : g < w.heap.size) (hb : Below w.heap.size w w') : cells8 w' g o f := by
  obtain ⟨h0, h1, h2, h3, h4, h5, h6, h7⟩ := h
  exact ⟨(hb.cell (p := ⟨g, o, none⟩) hg).trans h0, (hb.cell (p := ⟨g, o + 1, none⟩) hg).trans h1, (hb.cell (p := ⟨g, o + 2, none⟩) hg).trans h2, (hb.cell (p := ⟨g, o + 3, none⟩) hg).trans h3,
    (hb.cell (p := ⟨g, o + 4, none⟩) hg).trans h4, (hb.cell (p := ⟨g, o + 5, none⟩) hg).trans h5, (hb.cell (p := ⟨g, o + 6, none⟩) hg).trans h6, (hb.cell (p := ⟨g, o + 7, none⟩) hg).trans h7⟩
set_option maxRecDepth 100000 in
set_option maxHeartbeats 2000000 in
theorem sameAll (fs : List Frm) (p1 p2 : Option Addr) (k1 k2 : Nat) (w : World) (h1 : FrsAt w p1 fs) (h2 : FrsAt w p2 fs) (hr : ∀ f ∈ fs, RgAt w f.lp f.rs) (hl : ∀ f ∈ fs, f.rs.length ≤ 1000) (hn : fs.length ≤ 1000) :
    Calls Try.prog 67 #[.slice p1 fs.length k1, .slice p2 fs.length k2] w fun e w' => e = .returned (.bool true) ∧ Below w.heap.size w w' := by
  obtain ⟨N, hN⟩ : ∃ N, fs.length = N := ⟨_, rfl⟩
  rw [hN] at hn ⊢
  have HN := Lib.hid hN
  have H1 := Lib.hid h1
  have H2 := Lib.hid h2
  have HR := Lib.hid hr
  have HL := Lib.hid hl
  clear hN h1 h2 hr hl
  go_enter Try.func67, Try.ntmps67
  go_wp2_with fail
  go_loopw [5] (fun i wr => ∃ j : Nat, j ≤ N ∧ i = .int .i64 j ∧ Below w.heap.size w wr) (fun i _ => N - (intOf i).toNat)
  case atStart => exact ⟨0, by omega, rfl, Below.refl _ _⟩
  case round =>
    obtain ⟨j, hj, rfl, hbw⟩ := hrel
    by_cases hlt : j < N
    · have hjl : j < fs.length := by rw [HN.out]; exact hlt
      obtain ⟨f, hq⟩ : ∃ f, fs[j]? = some f := ⟨_, List.getElem?_eq_getElem hjl⟩
      have hmem := List.mem_of_getElem? hq
      obtain ⟨g1, o1, rfl, hg1, hc1⟩ := (H1.out.below hbw).cells hq
      obtain ⟨g2, o2, rfl, hg2, hc2⟩ := (H2.out.below hbw).cells hq
      have hS := fun W (hb : Below wr.heap.size wr W) => same03 f f.lp f.lc W (((HR.out f hmem).below hbw).below hb) (((HR.out f hmem).below hbw).below hb) (by have := HL.out f hmem; omega)
      have hcf := fun W (hb : Below wr.heap.size wr W) => And.intro (hc1.below hg1 hb) (hc2.below hg2 hb)
      obtain ⟨k, a, b, c, fin, data, more, lp, rs, lc⟩ := f
      unfold frmV at hS
      unfold cells8 at hcf
      simp only at hS hcf
      obtain ⟨M, hM⟩ : ∃ M, rs.length = M := ⟨_, rfl⟩
      rw [hM] at hS hcf
      have HS := Lib.hid hS
      have HB := Lib.hid hbw
      have HC := Lib.hid (hcf wr (Below.refl _ _))
      have HCF := Lib.hid hcf
      clear hS hcf hbw hmem hq hjl hM
      clear hc1 hc2
      have hs1 : g1 < wr.heap.size := hg1
      go_wp2_with fail
      go_region_held3 (fun w' => (w'.cell? ⟨g1, o1 + j * 8, none⟩ = some (.int .u64 (k : Int)) ∧ w'.cell? ⟨g1, o1 + j * 8 + 1, none⟩ = some (.int .u64 (a : Int)) ∧ w'.cell? ⟨g1, o1 + j * 8 + 2, none⟩ = some (.int .u64 (b : Int)) ∧ w'.cell? ⟨g1, o1 + j * 8 + 3, none⟩ = some (.int .u64 (c : Int)) ∧ w'.cell? ⟨g1, o1 + j * 8 + 4, none⟩ = some (.bool fin) ∧ w'.cell? ⟨g1, o1 + j * 8 + 5, none⟩ = some (.string data) ∧ w'.cell? ⟨g1, o1 + j * 8 + 6, none⟩ = some (.string more) ∧ w'.cell? ⟨g1, o1 + j * 8 + 7, none⟩ = some (.slice lp M lc)) ∧ (w'.cell? ⟨g2, o2 + j * 8, none⟩ = some (.int .u64 (k : Int)) ∧ w'.cell? ⟨g2, o2 + j * 8 + 1, none⟩ = some (.int .u64 (a : Int)) ∧ w'.cell? ⟨g2, o2 + j * 8 + 2, none⟩ = some (.int .u64 (b : Int)) ∧ w'.cell? ⟨g2, o2 + j * 8 + 3, none⟩ = some (.int .u64 (c : Int)) ∧ w'.cell? ⟨g2, o2 + j * 8 + 4, none⟩ = some (.bool fin) ∧ w'.cell? ⟨g2, o2 + j * 8 + 5, none⟩ = some (.string data) ∧ w'.cell? ⟨g2, o2 + j * 8 + 6, none⟩ = some (.string more) ∧ w'.cell? ⟨g2, o2 + j * 8 + 7, none⟩ = some (.slice lp M lc)))
        (first | exact HC.out | exact HC2.out) (first | (go_at_call 27; refine (HS.out _ (Below.refl _ _).drew).mono ?_; rintro e w2 ⟨rfl, hb2⟩; have HC2 := Lib.hid (HCF.out _ ((Below.refl _ _).drew.trans hb2))))
      have HB2 := Lib.hid (HB.out.trans (((Below.refl _ _).drew.trans hb2).mono HB.out.size))
      clear hb2
      go_wp2_with fail
      go_roundw
      case rel => exact ⟨j + 1, by omega, by go_num, HB2.out⟩
      case measure => simp [intOf]; omega
    · obtain rfl : j = N := by omega
      have Hbw := Lib.hid hbw
      clear hbw
      go_wp2_with fail
      go_ret
      exact ⟨rfl, Hbw.out⟩

set_option maxRecDepth 100000 in
set_option maxHeartbeats 4000000 in
theorem same15 (rows : List Row) (B B1 B2 : Nat) (vg vr : Value) (w0 w : World) (hg : w.ownsRow B1 57 5 vg rows.length (pks (rows.map Row.p))) (hr : w.ownsRow B2 103 5 vr rows.length (pks (rows.map Row.r)))
    (hok : ∀ x ∈ rows, x.ok B w0 w) (hb0 : Below w0.heap.size w0 w) (hl : rows.length ≤ 1000) :
    Calls Try.prog 29 #[vg, vr] w fun e w' => e = .returned (.bool true) ∧ Below w.heap.size w w' := by
  obtain ⟨N, hN⟩ : ∃ N, rows.length = N := ⟨_, rfl⟩
  obtain ⟨pa, ca, rfl, -⟩ := own_shape hg
  obtain ⟨qa, cb, rfl, -⟩ := own_shape hr
  rw [hN] at hg hr hl ⊢
  have HN := Lib.hid hN
  have H1 := Lib.hid hg
  have H2 := Lib.hid hr
  have HOK := Lib.hid hok
  have HB0 := Lib.hid hb0
  clear hN hg hr hok hb0
  go_enter Try.func29, Try.ntmps29
  go_wp2_with fail
  go_loopw [13] (fun i wr => ∃ j : Nat, j ≤ N ∧ i = .int .i64 j ∧ Below w.heap.size w wr) (fun i _ => N - (intOf i).toNat)
  case atStart => exact ⟨0, by omega, rfl, Below.refl _ _⟩
  case round =>
    obtain ⟨j, hj, rfl, hbw⟩ := hrel
    by_cases hlt : j < N
    · have hjl : j < rows.length := by rw [HN.out]; exact hlt
      obtain ⟨x, hq⟩ : ∃ x, rows[j]? = some x := ⟨_, List.getElem?_eq_getElem hjl⟩
      have hx := HOK.out x (List.mem_of_getElem? hq)
      obtain ⟨g1, cap1, hv, hgB, hg1, k0, k1, k2, k3, k4⟩ := pk_cells (own_below H1.out hbw) j x.p (by rw [List.getElem?_map, hq]; rfl)
      injection hv with hv1 hv2 hv3
      subst hv1
      obtain ⟨g2, cap2, hv, hgB2, hg2, m0, m1, m2, m3, m4⟩ := rpk_cells (own_below H2.out hbw) j x.r (by rw [List.getElem?_map, hq]; rfl)
      injection hv with hv4 hv5 hv6
      subst hv4
      have hS := fun W (hb : Below wr.heap.size wr W) => sameAll x.fs x.p.fa x.ra x.p.fc x.rc W ((FrsAt.of_row (by have := hx.own; rw [← hx.len] at this; exact this) : FrsAt w x.p.fa x.fs).below (hbw.trans (hb.mono hbw.size))) (hx.inp.below (HB0.out.trans ((hbw.trans (hb.mono hbw.size)).mono HB0.out.size))) (fun f hf => (hx.rg f hf).below (HB0.out.trans ((hbw.trans (hb.mono hbw.size)).mono HB0.out.size))) hx.fit hx.few
      have hlen := hx.len
      have hcf : ∀ W, Below wr.heap.size wr W → (W.cell? ⟨g1, j * 5, none⟩ = some (.int .u64 (x.p.num : Int)) ∧ W.cell? ⟨g1, j * 5 + 1, none⟩ = some (.int .u64 (x.p.time : Int)) ∧ W.cell? ⟨g1, j * 5 + 2, none⟩ = some (.int .u64 (x.p.size : Int)) ∧ W.cell? ⟨g1, j * 5 + 3, none⟩ = some (.bool x.p.asks) ∧ W.cell? ⟨g1, j * 5 + 4, none⟩ = some (.slice x.p.fa x.p.fl x.p.fc)) ∧
          (W.cell? ⟨g2, j * 5, none⟩ = some (.int .u64 (x.r.num : Int)) ∧ W.cell? ⟨g2, j * 5 + 1, none⟩ = some (.int .u64 (x.r.time : Int)) ∧ W.cell? ⟨g2, j * 5 + 2, none⟩ = some (.int .u64 (x.r.size : Int)) ∧ W.cell? ⟨g2, j * 5 + 3, none⟩ = some (.bool x.r.asks) ∧ W.cell? ⟨g2, j * 5 + 4, none⟩ = some (.slice x.r.fa x.r.fl x.r.fc)) := fun W hb =>
        ⟨⟨(hb.cell (p := ⟨g1, j * 5, none⟩) hg1).trans k0, (hb.cell (p := ⟨g1, j * 5 + 1, none⟩) hg1).trans k1, (hb.cell (p := ⟨g1, j * 5 + 2, none⟩) hg1).trans k2, (hb.cell (p := ⟨g1, j * 5 + 3, none⟩) hg1).trans k3, (hb.cell (p := ⟨g1, j * 5 + 4, none⟩) hg1).trans k4⟩,
          (hb.cell (p := ⟨g2, j * 5, none⟩) hg2).trans m0, (hb.cell (p := ⟨g2, j * 5 + 1, none⟩) hg2).trans m1, (hb.cell (p := ⟨g2, j * 5 + 2, none⟩) hg2).trans m2, (hb.cell (p := ⟨g2, j * 5 + 3, none⟩) hg2).trans m3, (hb.cell (p := ⟨g2, j * 5 + 4, none⟩) hg2).trans m4⟩
      obtain ⟨⟨num, time, size, asks, fa, fl, fc⟩, ra, rc, fs⟩ := x
      unfold Row.r at hcf
      simp only at hS hcf hlen
      rw [hlen] at hS
      have HS := Lib.hid hS
      have HB := Lib.hid hbw
      have HC := Lib.hid (hcf wr (Below.refl _ _))
      have HCF := Lib.hid hcf
      clear hS hcf hx hq hbw hlen k0 k1 k2 k3 k4 m0 m1 m2 m3 m4 hv2 hv3 hv5 hv6
      go_wp2_with fail
      go_region_held3 (fun w' => (w'.cell? ⟨g1, j * 5, none⟩ = some (.int .u64 (num : Int)) ∧ w'.cell? ⟨g1, j * 5 + 1, none⟩ = some (.int .u64 (time : Int)) ∧ w'.cell? ⟨g1, j * 5 + 2, none⟩ = some (.int .u64 (size : Int)) ∧ w'.cell? ⟨g1, j * 5 + 3, none⟩ = some (.bool asks) ∧ w'.cell? ⟨g1, j * 5 + 4, none⟩ = some (.slice fa fl fc)) ∧
          (w'.cell? ⟨g2, j * 5, none⟩ = some (.int .u64 (num : Int)) ∧ w'.cell? ⟨g2, j * 5 + 1, none⟩ = some (.int .u64 (time : Int)) ∧ w'.cell? ⟨g2, j * 5 + 2, none⟩ = some (.int .u64 (size : Int)) ∧ w'.cell? ⟨g2, j * 5 + 3, none⟩ = some (.bool asks) ∧ w'.cell? ⟨g2, j * 5 + 4, none⟩ = some (.slice ra fl rc)))
        (first | exact HC.out | exact HC2.out) (first | (go_at_call 67; refine (HS.out _ (Below.refl _ _).drew).mono ?_; rintro e w2 ⟨rfl, hb2⟩; have HC2 := Lib.hid (HCF.out _ ((Below.refl _ _).drew.trans hb2))))
      have HB2 := Lib.hid (HB.out.trans (((Below.refl _ _).drew.trans hb2).mono HB.out.size))
      clear hb2
      go_wp2_with fail
      go_roundw
      case rel => exact ⟨j + 1, by omega, by go_num, HB2.out⟩
      case measure => simp [intOf]; omega
    · obtain rfl : j = N := by omega
      have Hbw := Lib.hid hbw
      clear hbw
      go_wp2_with fail
      go_ret
      exact ⟨rfl, Hbw.out⟩

end Go.Proofs.Ytmnmpmiocgfalaa
