/- Contract of huff's lay: the table. -/
import Derived.Test.YtgnoiheekgmleaaHa
import Derived.RegionTactic
import Derived.ChangeAlike
import Derived.BigRegion
namespace Go.Proofs.Ytgnoiheekgmleaa
open Go.ChangeShapes Go.WideShapes Go.RowKit
set_option linter.unusedVariables false

/-- Since w0 nothing below B has turned; block b holds just these cells. -/
def Blk (B : Nat) (w0 w : World) (b : Nat) (C : Array Value) (t : TypeId) : Prop := Below B w0 w ∧ w.heap[b]? = some (.cells C t (0, 0))

theorem Blk.cell {B : Nat} {w0 w : World} {b : Nat} {C : Array Value} {t : TypeId} (h : Blk B w0 w b C t) (i : Nat) : w.cell? ⟨b, i, none⟩ = C[i]? := by
  unfold World.cell?
  rw [h.2]
  simp
theorem Blk.free {B : Nat} {w0 w : World} {b : Nat} {C : Array Value} {t : TypeId} (h : Blk B w0 w b C t) (i : Nat) : w.frozen? ⟨b, i, none⟩ = false := by
  unfold World.frozen?
  rw [h.2]
  simp
theorem Blk.set {B : Nat} {w0 w : World} {b : Nat} {C : Array Value} {t : TypeId} (h : Blk B w0 w b C t) (hB : B ≤ b) (i : Nat) (v : Value) : Blk B w0 (w.setCell ⟨b, i, none⟩ v) b (C.setIfInBounds i v) t :=
  ⟨h.1.setCell hB _, heap_setCell_same w b i C t v h.2⟩
theorem Blk.drew {B : Nat} {w0 w : World} {b : Nat} {C : Array Value} {t : TypeId} (h : Blk B w0 w b C t) : Blk B w0 w.drew b C t := ⟨h.1.drew, h.2⟩
theorem Blk.lt {B : Nat} {w0 w : World} {b : Nat} {C : Array Value} {t : TypeId} (h : Blk B w0 w b C t) : b < w.heap.size := by
  rcases Nat.lt_or_ge b w.heap.size with h1 | h1
  · exact h1
  · have := h.2
    rw [Array.getElem?_eq_none h1] at this
    simp at this
theorem Blk.next {B : Nat} {w0 w w' : World} {b : Nat} {C : Array Value} {t : TypeId} (h : Blk B w0 w b C t) (h2 : Below w.heap.size w w') (hB : B ≤ w.heap.size) : Blk B w0 w' b C t :=
  ⟨h.1.trans (h2.mono hB), by rw [h2.block b h.lt]; exact h.2⟩

/-- The table's cells. -/
def cellsL (t : Tab) : List Value :=
  t.codes.map (fun (x : Nat) => Value.int .u16 (x : Int)) ++ (t.first.map (fun (x : Nat) => Value.int .u16 (x : Int)) ++ (t.from_.map (fun (x : Nat) => Value.int .i64 (x : Int)) ++ t.order.map (fun (x : Nat) => Value.int .i64 (x : Int))))
def cellsOf (t : Tab) : Array Value := (cellsL t).toArray

def Tab.ok (t : Tab) : Prop := t.codes.length = 257 ∧ t.first.length = 14 ∧ t.from_.length = 14 ∧ t.order.length = 257

theorem cells_codes (t : Tab) (h : t.ok) (i : Nat) (hi : i < 257) : (cellsOf t)[i]? = some (.int .u16 (t.codes.getD i 0 : Nat)) := by
  obtain ⟨h1, h2, h3, h4⟩ := h
  unfold cellsOf cellsL
  rw [List.getElem?_toArray, List.getElem?_append_left (by simp; omega), List.getElem?_map, List.getD_eq_getElem?_getD, List.getElem?_eq_getElem (by omega)]
  rfl
theorem cells_first (t : Tab) (h : t.ok) (i : Nat) (hi : i < 14) : (cellsOf t)[257 + i]? = some (.int .u16 (t.first.getD i 0 : Nat)) := by
  obtain ⟨h1, h2, h3, h4⟩ := h
  unfold cellsOf cellsL
  rw [List.getElem?_toArray, List.getElem?_append_right (by simp; omega), List.getElem?_append_left (by simp; omega), List.getElem?_map, List.getD_eq_getElem?_getD]
  rw [show 257 + i - (List.map (fun (x : Nat) => Value.int .u16 (x : Int)) t.codes).length = i by simp; omega, List.getElem?_eq_getElem (by omega)]
  rfl
theorem cells_from (t : Tab) (h : t.ok) (i : Nat) (hi : i < 14) : (cellsOf t)[271 + i]? = some (.int .i64 (t.from_.getD i 0 : Nat)) := by
  obtain ⟨h1, h2, h3, h4⟩ := h
  unfold cellsOf cellsL
  rw [List.getElem?_toArray, List.getElem?_append_right (by simp; omega), List.getElem?_append_right (by simp; omega), List.getElem?_append_left (by simp; omega), List.getElem?_map, List.getD_eq_getElem?_getD]
  rw [show 271 + i - (List.map (fun (x : Nat) => Value.int .u16 (x : Int)) t.codes).length - (List.map (fun (x : Nat) => Value.int .u16 (x : Int)) t.first).length = i by simp; omega, List.getElem?_eq_getElem (by omega)]
  rfl
theorem cells_order (t : Tab) (h : t.ok) (i : Nat) (hi : i < 257) : (cellsOf t)[285 + i]? = some (.int .i64 (t.order.getD i 0 : Nat)) := by
  obtain ⟨h1, h2, h3, h4⟩ := h
  unfold cellsOf cellsL
  rw [List.getElem?_toArray, List.getElem?_append_right (by simp; omega), List.getElem?_append_right (by simp; omega), List.getElem?_append_right (by simp; omega), List.getElem?_map, List.getD_eq_getElem?_getD]
  rw [show 285 + i - (List.map (fun (x : Nat) => Value.int .u16 (x : Int)) t.codes).length - (List.map (fun (x : Nat) => Value.int .u16 (x : Int)) t.first).length - (List.map (fun (x : Nat) => Value.int .i64 (x : Int)) t.from_).length = i by simp; omega, List.getElem?_eq_getElem (by omega)]
  rfl

theorem set_codes (t : Tab) (h : t.ok) (i v : Nat) (hi : i < 257) : (cellsOf t).setIfInBounds i (.int .u16 (v : Int)) = cellsOf { t with codes := t.codes.set i v } := by
  obtain ⟨h1, h2, h3, h4⟩ := h
  unfold cellsOf cellsL
  rw [List.setIfInBounds_toArray, List.set_append_left _ _ (by simp; omega), List.map_set]
theorem set_first (t : Tab) (h : t.ok) (i v : Nat) (hi : i < 14) : (cellsOf t).setIfInBounds (257 + i) (.int .u16 (v : Int)) = cellsOf { t with first := t.first.set i v } := by
  obtain ⟨h1, h2, h3, h4⟩ := h
  unfold cellsOf cellsL
  rw [List.setIfInBounds_toArray, List.set_append_right _ _ (by simp; omega)]
  rw [show 257 + i - (List.map (fun (x : Nat) => Value.int .u16 (x : Int)) t.codes).length = i by simp; omega]
  rw [List.set_append_left _ _ (by simp; omega), List.map_set]
theorem set_from (t : Tab) (h : t.ok) (i v : Nat) (hi : i < 14) : (cellsOf t).setIfInBounds (271 + i) (.int .i64 (v : Int)) = cellsOf { t with from_ := t.from_.set i v } := by
  obtain ⟨h1, h2, h3, h4⟩ := h
  unfold cellsOf cellsL
  rw [List.setIfInBounds_toArray, List.set_append_right _ _ (by simp; omega), List.set_append_right _ _ (by simp; omega)]
  rw [show 271 + i - (List.map (fun (x : Nat) => Value.int .u16 (x : Int)) t.codes).length - (List.map (fun (x : Nat) => Value.int .u16 (x : Int)) t.first).length = i by simp; omega]
  rw [List.set_append_left _ _ (by simp; omega), List.map_set]
theorem set_order (t : Tab) (h : t.ok) (i v : Nat) (hi : i < 257) : (cellsOf t).setIfInBounds (285 + i) (.int .i64 (v : Int)) = cellsOf { t with order := t.order.set i v } := by
  obtain ⟨h1, h2, h3, h4⟩ := h
  unfold cellsOf cellsL
  rw [List.setIfInBounds_toArray, List.set_append_right _ _ (by simp; omega), List.set_append_right _ _ (by simp; omega), List.set_append_right _ _ (by simp; omega)]
  rw [show 285 + i - (List.map (fun (x : Nat) => Value.int .u16 (x : Int)) t.codes).length - (List.map (fun (x : Nat) => Value.int .u16 (x : Int)) t.first).length - (List.map (fun (x : Nat) => Value.int .i64 (x : Int)) t.from_).length = i by simp; omega]
  rw [List.map_set]

theorem step_ok (b : Nat) (t : Tab) (s : Nat) (h : t.ok) : (tabStep b t s).ok := by
  unfold tabStep
  cases hlen s == b
  · exact h
  · obtain ⟨h1, h2, h3, h4⟩ := h
    exact ⟨by simp [h1], h2, h3, by simp [h4]⟩
theorem open_ok (b : Nat) (t : Tab) (h : t.ok) : (tabOpen b t).ok := by
  obtain ⟨h1, h2, h3, h4⟩ := h
  exact ⟨h1, by simp [tabOpen, h2], by simp [tabOpen, h3], h4⟩
theorem in_ok (b : Nat) (t : Tab) (h : t.ok) : ∀ k, (tabIn b t k).ok
  | 0 => h
  | k + 1 => step_ok _ _ _ (in_ok b t h k)
theorem out_ok : ∀ b, (tabOut b).ok
  | 0 => ⟨List.length_replicate, List.length_replicate, List.length_replicate, List.length_replicate⟩
  | b + 1 => in_ok _ _ (open_ok _ _ (out_ok b)) _

/-- Places and codes only grow. -/
theorem step_le (b : Nat) (t : Tab) (s : Nat) : t.n ≤ (tabStep b t s).n ∧ t.code ≤ (tabStep b t s).code := by
  unfold tabStep
  cases hlen s == b
  · exact ⟨Nat.le_refl _, Nat.le_refl _⟩
  · exact ⟨Nat.le_succ _, Nat.le_succ _⟩
theorem in_le (b : Nat) (t : Tab) (k : Nat) : ∀ d, (tabIn b t k).n ≤ (tabIn b t (k + d)).n ∧ (tabIn b t k).code ≤ (tabIn b t (k + d)).code
  | 0 => ⟨Nat.le_refl _, Nat.le_refl _⟩
  | d + 1 => by
    have h1 := in_le b t k d
    have h2 := step_le b (tabIn b t (k + d)) (k + d)
    exact ⟨Nat.le_trans h1.1 h2.1, Nat.le_trans h1.2 h2.2⟩
theorem out_bounds : ∀ b, b < 13 → (tabOut b).n ≤ 257 ∧ (tabOut b).code ≤ 4000 := by decide +kernel
theorem in_bounds (b k : Nat) (hb : b < 12) (hk : k ≤ 257) : (tabIn (b + 1) (tabOpen (b + 1) (tabOut b)) k).n ≤ 257 ∧ (tabIn (b + 1) (tabOpen (b + 1) (tabOut b)) k).code ≤ 4000 := by
  have h1 := in_le (b + 1) (tabOpen (b + 1) (tabOut b)) k (257 - k)
  rw [show k + (257 - k) = 257 by omega] at h1
  have h2 := out_bounds (b + 1) (by omega)
  rw [tabOut] at h2
  omega

theorem open_cells (T : Tab) (h : T.ok) (q : Nat) (hq : q < 14) : ((cellsOf T).setIfInBounds (257 + q) (.int .u16 ((T.code * 2 : Nat) : Int))).setIfInBounds (271 + q) (.int .i64 (T.n : Int)) = cellsOf (tabOpen q T) := by
  have h2 : Tab.ok { T with first := T.first.set q (T.code * 2) } := ⟨h.1, by rw [List.length_set]; exact h.2.1, h.2.2.1, h.2.2.2⟩
  rw [set_first T h q _ hq, set_from { T with first := T.first.set q (T.code * 2) } h2 q _ hq]
  rfl
theorem step_cells (T : Tab) (h : T.ok) (q k : Nat) (hk : k < 257) (hn : T.n < 257) (hl : hlen k = q) : ((cellsOf T).setIfInBounds k (.int .u16 (T.code : Int))).setIfInBounds (285 + T.n) (.int .i64 (k : Int)) = cellsOf (tabStep q T k) := by
  have h2 : Tab.ok { T with codes := T.codes.set k T.code } := ⟨by rw [List.length_set]; exact h.1, h.2.1, h.2.2.1, h.2.2.2⟩
  rw [set_codes T h k _ hk, set_order { T with codes := T.codes.set k T.code } h2 T.n _ hn]
  have e : (hlen k == q) = true := by rw [beq_iff_eq]; exact hl
  unfold tabStep
  rw [e]
  rfl
theorem step_yes (T : Tab) (q k : Nat) (hl : hlen k = q) : (tabStep q T k).n = T.n + 1 ∧ (tabStep q T k).code = T.code + 1 := by
  have e : (hlen k == q) = true := by rw [beq_iff_eq]; exact hl
  unfold tabStep
  rw [e]
  exact ⟨rfl, rfl⟩
theorem step_no (T : Tab) (q k : Nat) (hl : hlen k ≠ q) : tabStep q T k = T := by
  have e : (hlen k == q) = false := by rw [beq_eq_false_iff_ne]; exact hl
  unfold tabStep
  rw [e]
  rfl
theorem end_cells (T : Tab) (h : T.ok) : (cellsOf T).setIfInBounds 284 (.int .i64 (T.n : Int)) = cellsOf { T with from_ := T.from_.set 13 T.n } := set_from T h 13 T.n (by omega)

theorem heap_alloc_last (w : World) (o : Obj) : (w.alloc o).heap[w.heap.size]? = some o := by
  show (w.heap.push o)[w.heap.size]? = _
  simp

theorem zero_tab (w : World) : (zeroValue 141).run Try.prog w = .ok (.agg (cellsOf (tabOut 0))) w := by kernel_rfl

/-- The table when it is laid. -/
def tabF : Tab := { tabOut 12 with from_ := (tabOut 12).from_.set 13 257 }

set_option maxRecDepth 100000 in
theorem lay_any (w : World) :
    Calls Try.prog 86 #[] w fun e w' => e = .returned (.pointer (some ⟨w.heap.size, 0, none⟩)) ∧ Blk w.heap.size w w' w.heap.size (cellsOf tabF) 141 := by
  have hz := zero_tab
  obtain ⟨T0, hT0⟩ : ∃ T0, tabOut 0 = T0 := ⟨_, rfl⟩
  rw [hT0] at hz
  go_enter Try.func86, Try.ntmps86
  go_wp2_with fail
  go_loopw [2, 3, 4] (fun nv cv iv wr => ∃ b : Nat, ∃ T : Tab, b ≤ 12 ∧ tabOut b = T ∧ nv = .int .i64 (T.n : Int) ∧ cv = .int .u16 (T.code : Int) ∧ iv = .int .i64 ((b + 1 : Nat) : Int) ∧ Blk w.heap.size w wr w.heap.size (cellsOf T) 141) (fun _ _ i _ => 13 - (intOf i).toNat)
  case atStart => exact ⟨0, T0, by omega, hT0, by rw [← hT0]; rfl, by rw [← hT0]; rfl, rfl, (Below.refl _ _).alloc (Nat.le_refl _) _, heap_alloc_last _ _⟩
  case round =>
    obtain ⟨b, T, hb, hT, rfl, rfl, rfl, hblk⟩ := hrel
    have hbd := out_bounds b (by omega)
    have hok := out_ok b
    rw [hT] at hbd hok
    obtain ⟨n, hn⟩ : ∃ n, T.n = n := ⟨_, rfl⟩
    obtain ⟨c, hc⟩ : ∃ c, T.code = c := ⟨_, rfl⟩
    obtain ⟨q, hq⟩ : ∃ q, b + 1 = q := ⟨_, rfl⟩
    rw [hn, hc] at hbd
    rw [hn, hc, hq]
    by_cases hlt : b < 12
    · have hc1 : wr.cell? ⟨w.heap.size, 257 + q, none⟩ = some (.int .u16 (T.first.getD q 0 : Nat)) := by rw [hblk.cell, cells_first T hok q (by omega)]
      have hc2 : wr.cell? ⟨w.heap.size, 271 + q, none⟩ = some (.int .i64 (T.from_.getD q 0 : Nat)) := by rw [hblk.cell, cells_from T hok q (by omega)]
      have hf1 : wr.frozen? ⟨w.heap.size, 257 + q, none⟩ = false := hblk.free _
      have hf2 : wr.frozen? ⟨w.heap.size, 271 + q, none⟩ = false := hblk.free _
      have Hblk := Lib.hid hblk
      have HT := Lib.hid hT
      have Hok := Lib.hid hok
      have Hn := Lib.hid hn
      have Hc := Lib.hid hc
      have Hq := Lib.hid hq
      have hd9 : decide ((q : Int) ≤ 12) = true := by rw [decide_eq_true_eq]; omega
      have hq13 : q ≤ 12 := by omega
      clear hblk hT hok hn hc hq
      go_wp2_with fail
      go_region
      have hblk2 := ((Hblk.out.set (Nat.le_refl _) (257 + q) (.int .u16 ((c : Int) * 2))).set (Nat.le_refl _) (271 + q) (.int .i64 (n : Int))).drew
      have hcells : ((cellsOf T).setIfInBounds (257 + q) (.int .u16 ((c : Int) * 2))).setIfInBounds (271 + q) (.int .i64 (n : Int)) = cellsOf (tabOpen q T) := by
        have := open_cells T Hok.out q (by omega)
        rw [Hn.out, Hc.out] at this
        rw [show (c : Int) * 2 = ((c * 2 : Nat) : Int) by omega]
        exact this
      rw [hcells] at hblk2
      obtain ⟨W, hW⟩ : ∃ W, W = ((wr.setCell ⟨w.heap.size, 257 + q, none⟩ (.int .u16 ((c : Int) * 2))).setCell ⟨w.heap.size, 271 + q, none⟩ (.int .i64 (n : Int))).drew := ⟨_, rfl⟩
      rw [← hW] at hblk2 ⊢
      have hT1n : (tabOpen q T).n = n := Hn.out
      have hT1c : (tabOpen q T).code = c * 2 := by rw [tabOpen, Hc.out]
      have hT1ok : (tabOpen q T).ok := open_ok q T Hok.out
      have hbds : ∀ k, k ≤ 257 → (tabIn q (tabOpen q T) k).n ≤ 257 ∧ (tabIn q (tabOpen q T) k).code ≤ 4000 := by
        intro k hk
        have := in_bounds b k hlt hk
        rw [HT.out, Hq.out] at this
        exact this
      have hnext : tabOut q = tabIn q (tabOpen q T) 257 := by rw [← Hq.out, tabOut, HT.out]
      generalize tabOpen q T = T1 at *
      have Hblk2 := Lib.hid hblk2
      have HT1n := Lib.hid hT1n
      have HT1c := Lib.hid hT1c
      have HT1ok := Lib.hid hT1ok
      have Hbds := Lib.hid hbds
      have Hnext := Lib.hid hnext
      clear hblk2 hT1n hT1c hT1ok hbds hnext hcells hW hc1 hc2 hf1 hf2
      go_wp2_with fail
      go_loopw [2, 3, 26] (fun nv cv iv wr => ∃ k : Nat, ∃ U : Tab, k ≤ 257 ∧ tabIn q T1 k = U ∧ nv = .int .i64 (U.n : Int) ∧ cv = .int .u16 (U.code : Int) ∧ iv = .int .i64 (k : Int) ∧ Blk w.heap.size w wr w.heap.size (cellsOf U) 141) (fun _ _ i _ => 257 - (intOf i).toNat)
      case atStart => exact ⟨0, T1, by omega, rfl, by rw [HT1n.out], by rw [HT1c.out]; go_num, rfl, Hblk2.out⟩
      case round =>
        obtain ⟨k, U, hk, hU, rfl, rfl, rfl, hblk⟩ := hrel
        obtain ⟨m, hm⟩ : ∃ m, U.n = m := ⟨_, rfl⟩
        obtain ⟨d, hd⟩ : ∃ d, U.code = d := ⟨_, rfl⟩
        have hb1 := Hbds.out k hk
        rw [hU, hm, hd] at hb1
        rw [hm, hd]
        have hUok := in_ok q T1 HT1ok.out k
        rw [hU] at hUok
        by_cases hkl : k < 257
        · have hstep : tabIn q T1 (k + 1) = tabStep q U k := by rw [tabIn, hU]
          by_cases hl : hlen k = q
          · have hys := step_yes U q k hl
            have hml : m < 257 := by
              have h2 := Hbds.out (k + 1) (by omega)
              rw [hstep, hys.1, hm] at h2
              omega
            have hsc := step_cells U hUok q k hkl (by omega) hl
            rw [hm, hd] at hsc
            have hc1 : wr.cell? ⟨w.heap.size, k, none⟩ = some (.int .u16 (U.codes.getD k 0 : Nat)) := by rw [hblk.cell, cells_codes U hUok k hkl]
            have hc2 : wr.cell? ⟨w.heap.size, 285 + m, none⟩ = some (.int .i64 (U.order.getD m 0 : Nat)) := by rw [hblk.cell, cells_order U hUok m hml]
            have hf1 : wr.frozen? ⟨w.heap.size, k, none⟩ = false := hblk.free _
            have hf2 : wr.frozen? ⟨w.heap.size, 285 + m, none⟩ = false := hblk.free _
            have hne : ¬ k = 285 + m := by omega
            have hbeq : ((q : Int) == (q : Int)) = true := by simp
            have HL := Lib.hid hl
            have Hys := Lib.hid hys
            have Hsc := Lib.hid hsc
            have Hst := Lib.hid hstep
            have Hblk := Lib.hid hblk
            have Hm := Lib.hid hm
            have Hd := Lib.hid hd
            clear hU hm hd hblk hl hys hsc hstep hUok
            go_wp2_with fail
            refine (length_any k _ hkl).mono ?_
            rintro e w' ⟨rfl, rfl⟩
            rw [HL.out]
            go_wp2_with fail
            go_region
            have hblk3 := ((Hblk.out.set (Nat.le_refl _) k (.int .u16 (d : Int))).set (Nat.le_refl _) (285 + m) (.int .i64 (k : Int))).drew
            rw [Hsc.out] at hblk3
            obtain ⟨V, hV⟩ : ∃ V, V = ((wr.setCell ⟨w.heap.size, k, none⟩ (.int .u16 (d : Int))).setCell ⟨w.heap.size, 285 + m, none⟩ (.int .i64 (k : Int))).drew := ⟨_, rfl⟩
            rw [← hV] at hblk3 ⊢
            have Hblk3 := Lib.hid hblk3
            clear hblk3 hV hc1 hc2 hf1 hf2
            go_wp2_with fail
            go_roundw
            case rel => exact ⟨k + 1, _, by omega, Hst.out, by rw [Hys.out.1, Hm.out]; go_num, by rw [Hys.out.2, Hd.out]; go_num, by go_num, Hblk3.out⟩
            case measure => simp [intOf]; omega
          · have hbeq : ((hlen k : Int) == (q : Int)) = false := by rw [beq_eq_false_iff_ne]; omega
            have hsn := step_no U q k hl
            rw [hsn] at hstep
            have Hst := Lib.hid hstep
            have Hblk := Lib.hid hblk
            have Hm := Lib.hid hm
            have Hd := Lib.hid hd
            clear hU hm hd hblk hl hstep hUok hsn
            go_wp2_with fail
            refine (length_any k _ hkl).mono ?_
            rintro e w' ⟨rfl, rfl⟩
            go_wp2_with fail
            go_roundw
            case rel => exact ⟨k + 1, U, by omega, Hst.out, by rw [Hm.out], by rw [Hd.out], by go_num, Hblk.out⟩
            case measure => simp [intOf]; omega
        · obtain rfl : k = 257 := by omega
          rw [← Hnext.out] at hU
          have HU := Lib.hid hU
          have Hblk := Lib.hid hblk
          have Hm := Lib.hid hm
          have Hd := Lib.hid hd
          clear hU hm hd hblk hUok
          go_wp2_with fail
          go_roundw
          case rel => exact ⟨q, U, by omega, HU.out, by rw [Hm.out], by rw [Hd.out], by go_num, Hblk.out⟩
          case measure => have := Hq.out; simp [intOf]; omega
    · obtain rfl : b = 12 := by omega
      obtain rfl : q = 13 := hq.symm
      have hc2 : wr.cell? ⟨w.heap.size, 284, none⟩ = some (.int .i64 (T.from_.getD 13 0 : Nat)) := by rw [hblk.cell]; exact cells_from T hok 13 (by omega)
      have hf2 : wr.frozen? ⟨w.heap.size, 284, none⟩ = false := hblk.free _
      have hblk2 := hblk.set (Nat.le_refl _) 284 (.int .i64 (n : Int))
      have htab : ({ T with from_ := T.from_.set 13 T.n } : Tab) = tabF := by rw [← hT, tab_n]; rfl
      rw [← hn, end_cells T hok, htab, hn] at hblk2
      have Hblk2 := Lib.hid hblk2
      have Hn := Lib.hid hn
      clear hblk hblk2 hT hok hn hc hq
      go_wp2_with fail
      go_ret
      exact ⟨rfl, Hblk2.out⟩

end Go.Proofs.Ytgnoiheekgmleaa
