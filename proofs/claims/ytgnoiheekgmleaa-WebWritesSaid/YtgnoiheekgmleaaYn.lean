/- fields: the reference's add. -/
import Derived.Test.YtgnoiheekgmleaaYm
import Derived.Deep.DeepCutAuto
namespace Go.Proofs.Ytgnoiheekgmleaa
open Go.ChangeShapes Go.WideShapes Go.RowKit
set_option linter.unusedVariables false
set_option linter.unusedSimpArgs false

def wSum (L : List Fl) : Nat := (L.map weigh).sum
theorem wSum_snoc (L : List Fl) (f : Fl) : wSum (L ++ [f]) = wSum L + weigh f := by
  unfold wSum
  rw [List.map_append, List.sum_append]
  simp
theorem wSum_take : ∀ (L : List Fl) (j : Nat), wSum (L.take j) ≤ wSum L
  | [], j => by simp
  | f :: L, 0 => by simp [wSum]
  | f :: L, j + 1 => by
    have := wSum_take L j
    unfold wSum at this ⊢
    simp only [List.take_succ_cons, List.map_cons, List.sum_cons]
    omega
/-- A table's size is what its fields weigh. -/
def SzOk (S : Tbl) : Prop := S.size = wSum S.l

/-- Block b is this table of the reference; what came lies behind v. -/
def TbR (w : World) (B b : Nat) (v : Value) (S : Tbl) : Prop := blk w b 73 [v, .int .i64 (S.most : Int)] ∧ w.ownsRow B 84 2 v S.l.length (flc S.l)
theorem TbR.below {w w' : World} {B b : Nat} {v : Value} {S : Tbl} (h : TbR w B b v S) (hb : Below w.heap.size w w') : TbR w' B b v S := ⟨h.1.below hb h.1.lt, own_below h.2 hb⟩
theorem TbR.fv {w : World} {B b : Nat} {p : Option Addr} {n cap : Nat} {S : Tbl} (h : TbR w B b (.slice p n cap) S) : FV w p S.l := by
  intro hl
  obtain ⟨g, cap', hv, hb, hg, hc, _⟩ := own_view h.2 hl
  injection hv with hv1 hv2 hv3
  refine ⟨g, 0, hv1, hg, fun i f hf => ?_⟩
  obtain ⟨h1, h2⟩ := flc_at S.l i f hf
  rw [Nat.zero_add]
  exact ⟨hc _ _ h1, hc _ _ h2⟩
/-- The table behind a call: nothing else was written but it. -/
def RTo (w w' : World) (B b : Nat) (S : Tbl) : Prop := ∃ v', TbR w' B b v' S ∧ Only (fun k => k = b) w w'
theorem RTo.same {w w' : World} {B b : Nat} {v : Value} {S : Tbl} (h : TbR w B b v S) (hb : Below w.heap.size w w') : RTo w w' B b S := ⟨v, h.below hb, Only.ofBelow hb⟩
theorem RTo.further {w w1 w' : World} {B b : Nat} {S : Tbl} (h : RTo w w1 B b S) (hb : Below w1.heap.size w1 w') : RTo w w' B b S := by
  obtain ⟨v', h1, h2⟩ := h
  exact ⟨v', h1.below hb, h2.then (S' := fun _ => False) (Only.ofBelow hb) (fun _ => False.elim)⟩

theorem Radd_end {w w6 : World} {B b : Nat} {v v6 : Value} {S : Tbl} {f : Fl} (h : TbR w B b v S) (hB : B ≤ w.heap.size) (hb6 : Below w.heap.size w w6) (ho : w6.ownsRow w.heap.size 84 2 v6 (S.l.length + 1) (flc S.l ++ [.string f.1, .string f.2])) :
    RTo w (w6.setCell ⟨b, 0, none⟩ v6) B b ⟨S.l ++ [f], S.most, S.size + weigh f⟩ := by
  have hk := h.1.below hb6 h.1.lt
  have hne := own_ne ho hk (by decide)
  refine ⟨v6, ⟨?_, ?_⟩, Only.setCell (S := fun k => k = b) (p := ⟨b, 0, none⟩) (Only.ofBelow hb6) (.inl rfl) _⟩
  · exact hk.set 0 v6
  · have := own_base (ownsRow_setCell_other ho (a := ⟨b, 0, none⟩) hne v6) hB
    show World.ownsRow _ B _ 2 v6 (S.l ++ [f]).length (flc (S.l ++ [f]))
    rw [List.length_append, List.length_singleton, flc_append]
    exact this

theorem flc_one (L : List Fl) : ∀ u ∈ flc L, u.oneCell' = true := by
  intro u hu
  unfold flc at hu
  obtain ⟨f, _, hf⟩ := List.mem_flatMap.1 hu
  simp at hf
  rcases hf with rfl | rfl <;> rfl
theorem own_none {w : World} {B : Nat} {e : TypeId} {size n cap : Nat} {p : Option Addr} {m : Nat} {xs : List Value} (h : w.ownsRow B e size (.slice p m cap) n xs) : p = none → cap = 0 := by
  intro hp
  subst hp
  rcases h.2 with ⟨e1, _⟩ | ⟨g, c, cur, e1, _⟩
  · injection e1
  · injection e1 with e2
    cases e2
theorem two_src {w : World} {g : Nat} {a b : Value} (h0 : w.cell? ⟨g, 0, none⟩ = some a) (h1 : w.cell? ⟨g, 1, none⟩ = some b) : ∀ j u, [a, b][j]? = some u → w.cell? ((⟨g, 0, none⟩ : Addr).add j) = some u := by
  intro j u hu
  rw [add_zero]
  match j with
  | 0 => simp at hu; subst hu; exact h0
  | 1 => simp at hu; subst hu; exact h1
  | j + 2 => simp at hu

set_option maxRecDepth 100000 in
set_option maxHeartbeats 8000000 in
theorem Radd_any (B b : Nat) (v : Value) (S : Tbl) (f : Fl) (w : World) (h : TbR w B b v S) (hok : S.Ok) (hsz : SzOk S) (hB : B ≤ w.heap.size) (h1 : f.1.size ≤ 1000000) (h2 : f.2.size ≤ 1000000) :
    Calls Try.prog 52 #[.pointer (some ⟨b, 0, none⟩), f.v] w fun e w' => e = .returned (.bool (addF S f).2) ∧ RTo w w' B b (addF S f).1 := by
  obtain ⟨p, cap, rfl, hpn⟩ := own_shape h.2
  obtain ⟨N, hN⟩ : ∃ N, S.l.length = N := ⟨_, rfl⟩
  have hNb : N ≤ 10000 := by have := hok.2.1; have := hok.2.2; omega
  have hmb : S.most ≤ 65536 := hok.1
  have hsb := hok.2.1
  have hbx := blk.new w 84 [.string f.1, .string f.2]
  have hbb : Below w.heap.size w (w.alloc (.cells [.string f.1, .string f.2].toArray 84)) := (Below.refl _ _).alloc (Nat.le_refl _) _
  have h' := h.below hbb
  have c0 := h'.1.cell (k := 0) rfl
  have c1 := h'.1.cell (k := 1) rfl
  have cf := h'.1.free 0
  have q0 := hbx.cell (k := 0) rfl
  have q1 := hbx.cell (k := 1) rfl
  obtain ⟨W, hW⟩ : ∃ W, w.alloc (.cells [.string f.1, .string f.2].toArray 84) = W := ⟨_, rfl⟩
  rw [hW] at q0 q1 c0 c1 cf hbb h'
  have hWt : w.alloc (.cells #[.string f.1, .string f.2] 84) = W := hW
  have hbl : b < W.heap.size := h'.1.lt
  have hgl : w.heap.size < W.heap.size := World.block_lt_of_cell? _ _ q0
  have HFV := Lib.hid (TbR.fv h')
  have H := Lib.hid h
  have H' := Lib.hid h'
  have HBB := Lib.hid hbb
  have HSZ := Lib.hid hsz
  have HN := Lib.hid hN
  obtain ⟨most, hM⟩ : ∃ m, S.most = m := ⟨_, rfl⟩
  rw [hM] at c1 hmb
  have HM := Lib.hid hM
  obtain ⟨n0, v0⟩ := f
  unfold Fl.v
  simp only at q0 q1 hWt h1 h2 ⊢
  rw [hN] at c0
  obtain ⟨R, hR⟩ : ∃ R, addF S (n0, v0) = R := ⟨_, rfl⟩
  rw [hR]
  have HR := Lib.hid hR
  clear h h' hbb hbx hW hsz hok hpn hM hR hN
  have hw1 : IntKind.i64.wrap ((n0.size : Int) + (v0.size : Int)) = (n0.size : Int) + (v0.size : Int) := IntWalk.i64_in _ (by omega)
  go_enter Try.func52, Try.ntmps52
  go_wp2_with fail
  go_loopw [5, 6] (fun nv iv wr => ∃ j : Nat, j ≤ N ∧ iv = .int .i64 j ∧ nv = .int .i64 ((n0.size + v0.size + 32 + wSum (S.l.take j) : Nat) : Int) ∧ wSum (S.l.take j) ≤ 65536 ∧ Below W.heap.size W wr) (fun _ iv _ => N - (intOf iv).toNat)
  case atStart => exact ⟨0, by omega, rfl, by simp [wSum], by simp [wSum], Below.refl _ _⟩
  case round =>
    obtain ⟨j, hj, rfl, rfl, hws, hbw⟩ := hrel
    have HBW := Lib.hid hbw
    have r0 := (hbw.cell (p := ⟨b, 0, none⟩) hbl).trans c0
    have r1 := (hbw.cell (p := ⟨b, 1, none⟩) hbl).trans c1
    have rf := (hbw.frozen (p := ⟨b, 0, none⟩) hbl).trans cf
    have r2 := (hbw.cell (p := ⟨w.heap.size, 0, none⟩) hgl).trans q0
    have r3 := (hbw.cell (p := ⟨w.heap.size, 1, none⟩) hgl).trans q1
    by_cases hlt : j < N
    · have hjl : j < S.l.length := by rw [HN.out]; exact hlt
      obtain ⟨q, hq⟩ : ∃ q, S.l[j]? = some q := ⟨_, List.getElem?_eq_getElem hjl⟩
      obtain ⟨g, o, rfl, hg, hc⟩ := (HFV.out.below hbw) (by omega)
      obtain ⟨k1, k2⟩ := hc j q hq
      have hsn := wSum_snoc (S.l.take j) q
      rw [← take_fl S.l j q hq] at hsn
      have htk := wSum_take S.l (j + 1)
      have hszz := HSZ.out
      unfold SzOk at hszz
      rw [← hszz] at htk
      have hq2 : wSum (S.l.take (j + 1)) ≤ 65536 := by omega
      obtain ⟨qn, qv⟩ := q
      unfold weigh at hsn
      simp only at k1 k2 hsn
      generalize wSum (S.l.take j) = sm at *
      have HSN := Lib.hid hsn
      have hqs : qn.size + qv.size + 32 ≤ 65536 := by omega
      obtain ⟨nn, hnn⟩ : ∃ x, n0.size + v0.size + 32 + sm = x := ⟨_, rfl⟩
      obtain ⟨n2, hn2⟩ : ∃ x, nn + (qn.size + qv.size + 32) = x := ⟨_, rfl⟩
      have hw3 : IntKind.i64.wrap ((qn.size : Int) + (qv.size : Int)) = (qn.size : Int) + (qv.size : Int) := IntWalk.i64_in _ (by omega)
      have hw4 : IntKind.i64.wrap ((qn.size : Int) + (qv.size : Int) + 32) = (qn.size : Int) + (qv.size : Int) + 32 := IntWalk.i64_in _ (by omega)
      have hw5 : IntKind.i64.wrap ((nn : Int) + ((qn.size : Int) + (qv.size : Int) + 32)) = (n2 : Int) := by rw [IntWalk.i64_in _ (by omega)]; omega
      have HN2 : Hid (n0.size + v0.size + 32 + (sm + (qn.size + qv.size + 32)) = n2) := Lib.hid (by omega)
      have HQ2 := Lib.hid hq2
      rw [hnn]
      clear hc hq hjl hbw hsn htk hszz hq2 hnn hn2
      go_wp2_with fail
      go_quiet (fail)
      go_wp2_with fail
      go_roundw
      case rel => exact ⟨j + 1, by omega, by go_num, by rw [HSN.out, HN2.out], HQ2.out, below_drewN HBW.out _⟩
      case measure => simp [intOf]; omega
    · have hjN : j = N := by omega
      subst hjN
      have htk : S.l.take j = S.l := by rw [← HN.out, List.take_length]
      have hszz := HSZ.out
      unfold SzOk at hszz
      rw [htk, ← hszz] at hws ⊢
      obtain ⟨nn, hnn⟩ : ∃ x, n0.size + v0.size + 32 + S.size = x := ⟨_, rfl⟩
      rw [hnn]
      have hRR := HR.out
      unfold addF weigh at hRR
      rw [HM.out, show S.size + ((n0, v0).1.size + (n0, v0).2.size + 32) = nn by rw [← hnn]; simp only; omega] at hRR
      by_cases hr : most < nn
      · rw [if_pos hr] at hRR
        have d1 : decide ((most : Int) < (nn : Int)) = true := by rw [decide_eq_true_iff]; omega
        have d1N : decide (most < nn) = true := decide_eq_true hr
        have HRR := Lib.hid hRR
        have HE := Lib.hid (HBB.out.trans (HBW.out.mono HBB.out.size))
        clear hRR hbw htk hszz hnn
        go_wp2_with fail
        go_ret
        rw [← HRR.out]
        exact ⟨rfl, RTo.same H.out HE.out⟩
      · rw [if_neg hr] at hRR
        have d1 : decide ((most : Int) < (nn : Int)) = false := by rw [decide_eq_false_iff_not]; omega
        have d1N : decide (most < nn) = false := decide_eq_false hr
        have HRR : Hid (R = (⟨S.l ++ [(n0, v0)], S.most, S.size + weigh (n0, v0)⟩, true)) := Lib.hid (by rw [← hRR, HM.out]; unfold weigh; simp only; rw [← hnn]; congr 2; omega)
        have HE := Lib.hid (HBB.out.trans (HBW.out.mono HBB.out.size))
        have HT := Lib.hid ((H.out.below HE.out))
        clear hRR hbw htk hszz hnn hr
        obtain ⟨i0, hi0, hz0, hz1, hz2⟩ := info_parts Try.infoR
        go_wp2_with fail
        have hblr : b < wr.heap.size := Nat.lt_of_lt_of_le hbl HBW.out.size
        have hglr : w.heap.size < wr.heap.size := Nat.lt_of_lt_of_le hgl HBW.out.size
        have HB1 : Hid (∀ o, Below wr.heap.size wr (wr.drew.alloc o)) := Lib.hid (fun o => ((Below.refl _ _).drew).alloc (Nat.le_refl _) o)
        have HB2 : Hid (∀ o o2, Below wr.heap.size wr ((wr.drew.alloc o).alloc o2)) := Lib.hid (fun o o2 => (HB1.out o).alloc (HB1.out o).size o2)
        have he1 : OwnR wr.heap.size (wr.drew.alloc (.cells #[] 84)) (.slice (some ⟨wr.heap.size, 0, none⟩) 0 0) [] := OwnR.empty wr.heap.size wr.drew (Nat.le_refl _)
        have HE1 : Hid (World.ownsRow (wr.drew.alloc (.cells #[] 84)) wr.heap.size 84 2 (.slice (some ⟨wr.heap.size, 0, none⟩) 0 0) 0 []) := Lib.hid he1
        have HE2 : Hid (∀ o, World.ownsRow ((wr.drew.alloc (.cells #[] 84)).alloc o) wr.heap.size 84 2 (.slice (some ⟨wr.heap.size, 0, none⟩) 0 0) 0 []) := Lib.hid (fun o => he1.below ((Below.refl _ _).alloc (Nat.le_refl _) o))
        have HE3 : Hid (∀ o, World.ownsRow ((wr.drew.alloc o).alloc (.cells #[] 84)) wr.heap.size 84 2 (.slice (some ⟨wr.heap.size + 1, 0, none⟩) 0 0) 0 []) := Lib.hid (fun o => by
          have := OwnR.empty wr.heap.size (wr.drew.alloc o) (HB1.out o).size
          rw [show (wr.drew.alloc o).heap.size = wr.heap.size + 1 by show (wr.drew.alloc o).heap.size = wr.drew.heap.size + 1; simp] at this
          exact this)
        have HELB : Hid (blk ((wr.drew.alloc (.cells #[] 84)).alloc (.cells #[.string n0, .string v0] 84)) (wr.heap.size + 1) 84 [.string n0, .string v0]) := Lib.hid (by
          have := blk.new (wr.drew.alloc (.cells #[] 84)) 84 [.string n0, .string v0]
          rw [show (wr.drew.alloc (.cells #[] 84)).heap.size = wr.heap.size + 1 by show (wr.drew.alloc _).heap.size = wr.drew.heap.size + 1; simp] at this
          exact this)
        have HELC : Hid (blk ((wr.drew.alloc (.cells #[.string n0, .string v0] 84)).alloc (.cells #[] 84)) wr.heap.size 84 [.string n0, .string v0]) := Lib.hid ((blk.new wr.drew 84 [.string n0, .string v0]).alloc _)
        have HLEN : Hid ((flc S.l).length = j * 2) := Lib.hid (by rw [flc_length, HN.out])
        have HONE : Hid (∀ u ∈ flc S.l, u.oneCell' = true) := Lib.hid (flc_one S.l)
        have HP0 : Hid (p = none → cap = 0) := Lib.hid (own_none H.out.2)
        have HSRC : Hid (∀ x, Below wr.heap.size wr x → (0 < j → ∃ A, p = some A ∧ ∀ k u, (flc S.l)[k]? = some u → x.cell? (A.add k) = some u)) := Lib.hid (fun x hb hj0 => by
          obtain ⟨g, cap', hv, _, hg, hc, _⟩ := own_view HT.out.2 (by rw [HN.out]; exact hj0)
          injection hv with hv1 _ _
          exact ⟨_, hv1, fun k u hk => by rw [add_zero]; exact (hb.cell (p := ⟨g, k, none⟩) hg).trans (hc k u hk)⟩)
        have hj6 : 0 + j ≤ 1000000 := by omega
        have hj6' : 0 + j ≤ 1000000 := by omega
        have hj6'' : 0 + j + 1 ≤ 1000000 := by omega
        clear he1
        go_region_law (first | (refine step_append_src _ rfl (.tmp 53) (.tmp 57) 36 rfl wr.heap.size 84 i0 _ 2 32 Try.underlying36 hi0 hz0 hz1 hz2 rfl (by decide) _ 0 [] (by first | exact HE1.out | exact HE2.out _ | exact HE3.out _) p j cap (flc S.l) HLEN.out (HSRC.out _ (by first | exact HB1.out _ | exact HB2.out _ _)) HP0.out HONE.out hj6 (by decide) (by first | exact (HB1.out _).size | exact (HB2.out _ _).size) (by simp [Act.eval]) (by simp [Act.eval]) ?_; intro v4 w4 ho4 hon4 hat4 hz4; have B4 := Lib.hid (Below.trans (by first | exact HB1.out _ | exact HB2.out _ _) (hon4.below (B := wr.heap.size) (by first | exact (HB1.out _).size | exact (HB2.out _ _).size) (fun k hk => by simp [Value.ownBlock] at hk; omega))); have Ho4 := Lib.hid ho4; have f4 := (B4.out.cell (p := ⟨b, 0, none⟩) hblr).trans r0; have g4 := (B4.out.frozen (p := ⟨b, 0, none⟩) hblr).trans rf; have p4 := (B4.out.cell (p := ⟨w.heap.size, 0, none⟩) hglr).trans r2; have s4 := (B4.out.cell (p := ⟨w.heap.size, 1, none⟩) hglr).trans r3; (first | (have e4 := (hon4.cell (p := ⟨wr.heap.size + 1, 0, none⟩) (HELB.out.lt) (by simp [Value.ownBlock])).trans (HELB.out.cell (k := 0) rfl); have e5 := (hon4.cell (p := ⟨wr.heap.size + 1, 1, none⟩) (HELB.out.lt) (by simp [Value.ownBlock])).trans (HELB.out.cell (k := 1) rfl)) | (have e4 := (hon4.cell (p := ⟨wr.heap.size, 0, none⟩) (HELC.out.lt) (by simp [Value.ownBlock])).trans (HELC.out.cell (k := 0) rfl); have e5 := (hon4.cell (p := ⟨wr.heap.size, 1, none⟩) (HELC.out.lt) (by simp [Value.ownBlock])).trans (HELC.out.cell (k := 1) rfl)) | skip); clear ho4 hon4 hat4 hz4) | (refine step_append_new w4 _ rfl (.tmp 58) (.tmp 60) 36 rfl wr.heap.size 84 i0 _ 2 32 Try.underlying36 hi0 hz0 hz1 hz2 rfl (by decide) v4 (0 + j) ([] ++ flc S.l) Ho4.out [.string n0, .string v0] _ rfl rfl (by intro u hu; simp at hu; rcases hu with rfl | rfl <;> rfl) hj6' (by decide) B4.out.size rfl (by simp [Act.eval]) (by simp [Act.eval]) ?_; intro v6 w6 ho6 hon6 hat6; have B6 := Lib.hid (B4.out.trans (hon6.below (B := wr.heap.size) B4.out.size (fun k hk => (World.ownsRow.lt Ho4.out k hk).1))); obtain ⟨p6, cap6, hv6, _⟩ := own_shape ho6; subst hv6; have Ho6 := Lib.hid ho6; have f6 := (B6.out.cell (p := ⟨b, 0, none⟩) hblr).trans r0; have g6 := (B6.out.frozen (p := ⟨b, 0, none⟩) hblr).trans rf; clear ho6 hon6 hat6) | (refine step_append_src w4 rfl (.tmp 58) (.tmp 60) 36 rfl wr.heap.size 84 i0 _ 2 32 Try.underlying36 hi0 hz0 hz1 hz2 rfl (by decide) v4 (0 + j) ([] ++ flc S.l) Ho4.out (some ⟨wr.heap.size + 1, 0, none⟩) 1 1 [.string n0, .string v0] rfl (fun _ => ⟨_, rfl, two_src e4 e5⟩) (fun h => by cases h) (by intro u hu; simp at hu; rcases hu with rfl | rfl <;> rfl) hj6'' (by decide) B4.out.size (by simp [Act.eval]) (by simp [Act.eval]) ?_; intro v6 w6 ho6 hon6 hat6 _; have B6 := Lib.hid (B4.out.trans (hon6.below (B := wr.heap.size) B4.out.size (fun k hk => (World.ownsRow.lt Ho4.out k hk).1))); obtain ⟨p6, cap6, hv6, _⟩ := own_shape ho6; subst hv6; have Ho6 := Lib.hid ho6; have f6 := (B6.out.cell (p := ⟨b, 0, none⟩) hblr).trans r0; have g6 := (B6.out.frozen (p := ⟨b, 0, none⟩) hblr).trans rf; clear ho6 hon6 hat6) | (refine step_append_src w4 rfl (.tmp 58) (.tmp 60) 36 rfl wr.heap.size 84 i0 _ 2 32 Try.underlying36 hi0 hz0 hz1 hz2 rfl (by decide) v4 (0 + j) ([] ++ flc S.l) Ho4.out (some ⟨wr.heap.size, 0, none⟩) 1 1 [.string n0, .string v0] rfl (fun _ => ⟨_, rfl, two_src e4 e5⟩) (fun h => by cases h) (by intro u hu; simp at hu; rcases hu with rfl | rfl <;> rfl) hj6'' (by decide) B4.out.size (by simp [Act.eval]) (by simp [Act.eval]) ?_; intro v6 w6 ho6 hon6 hat6 _; have B6 := Lib.hid (B4.out.trans (hon6.below (B := wr.heap.size) B4.out.size (fun k hk => (World.ownsRow.lt Ho4.out k hk).1))); obtain ⟨p6, cap6, hv6, _⟩ := own_shape ho6; subst hv6; have Ho6 := Lib.hid ho6; have f6 := (B6.out.cell (p := ⟨b, 0, none⟩) hblr).trans r0; have g6 := (B6.out.frozen (p := ⟨b, 0, none⟩) hblr).trans rf; clear ho6 hon6 hat6))
        all_goals
          go_wp2_with fail
          go_ret
          rw [HRR.out]
          refine ⟨rfl, Radd_end (f := (n0, v0)) H.out hB (HE.out.trans (B6.out.mono HE.out.size)) ?_⟩
          have h7 := own_base Ho6.out HE.out.size
          rw [Nat.zero_add, List.nil_append] at h7
          rw [HN.out]
          exact h7

end Go.Proofs.Ytgnoiheekgmleaa
