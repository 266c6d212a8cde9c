/- The law HeadMarks, walked. -/
import Derived.Test.YtngnfijpfghodaaD2
import Derived.Deep.RegionHeld
import Derived.Deep.DeepCutAuto
import Derived.Deep.CutBlock
namespace Go.Proofs.Ytngnfijpfghodaa
open Go.ChangeShapes Go.WideShapes Go.RowKit
set_option linter.unusedVariables false

theorem mark_long (y m : Nat) (hy : y < 256) (h1 : 192 ≤ y) (h2 : y / 4 % 4 = 0) (hm : m = 64 ∨ m = 8 ∨ m = 4) : (y ^^^ m) < 256 ∧ 128 ≤ (y ^^^ m) ∧ okFirst (y ^^^ m) = false ∧ bits BinOp.xor IntKind.u8 (y : Int) (m : Int) = ((y ^^^ m : Nat) : Int) := by
  have H : ∀ y : Fin 256, 192 ≤ y.val → y.val / 4 % 4 = 0 → ((y.val ^^^ 64) < 256 ∧ 128 ≤ (y.val ^^^ 64) ∧ okFirst (y.val ^^^ 64) = false ∧ bits BinOp.xor IntKind.u8 (y.val : Int) 64 = ((y.val ^^^ 64 : Nat) : Int)) ∧ ((y.val ^^^ 8) < 256 ∧ 128 ≤ (y.val ^^^ 8) ∧ okFirst (y.val ^^^ 8) = false ∧ bits BinOp.xor IntKind.u8 (y.val : Int) 8 = ((y.val ^^^ 8 : Nat) : Int)) ∧ ((y.val ^^^ 4) < 256 ∧ 128 ≤ (y.val ^^^ 4) ∧ okFirst (y.val ^^^ 4) = false ∧ bits BinOp.xor IntKind.u8 (y.val : Int) 4 = ((y.val ^^^ 4 : Nat) : Int)) := by decide +kernel
  have h := H ⟨y, hy⟩ h1 h2
  rcases hm with rfl | rfl | rfl
  · exact h.1
  · exact h.2.1
  · exact h.2.2

theorem mark_short (y m : Nat) (hy : y < 128) (h1 : 64 ≤ y) (h2 : y / 8 % 4 = 0) (hm : m = 64 ∨ m = 16 ∨ m = 8) : (y ^^^ m) < 128 ∧ (decide ((y ^^^ m) / 64 % 2 = 1) && decide ((y ^^^ m) / 8 % 4 = 0)) = false ∧ bits BinOp.xor IntKind.u8 (y : Int) (m : Int) = ((y ^^^ m : Nat) : Int) := by
  have H : ∀ y : Fin 128, 64 ≤ y.val → y.val / 8 % 4 = 0 → ((y.val ^^^ 64) < 128 ∧ (decide ((y.val ^^^ 64) / 64 % 2 = 1) && decide ((y.val ^^^ 64) / 8 % 4 = 0)) = false ∧ bits BinOp.xor IntKind.u8 (y.val : Int) 64 = ((y.val ^^^ 64 : Nat) : Int)) ∧ ((y.val ^^^ 16) < 128 ∧ (decide ((y.val ^^^ 16) / 64 % 2 = 1) && decide ((y.val ^^^ 16) / 8 % 4 = 0)) = false ∧ bits BinOp.xor IntKind.u8 (y.val : Int) 16 = ((y.val ^^^ 16 : Nat) : Int)) ∧ ((y.val ^^^ 8) < 128 ∧ (decide ((y.val ^^^ 8) / 64 % 2 = 1) && decide ((y.val ^^^ 8) / 8 % 4 = 0)) = false ∧ bits BinOp.xor IntKind.u8 (y.val : Int) 8 = ((y.val ^^^ 8 : Nat) : Int)) := by decide +kernel
  have h := H ⟨y, hy⟩ h1 h2
  rcases hm with rfl | rfl | rfl
  · exact h.1
  · exact h.2.1
  · exact h.2.2

/-- The bytes of a slice. -/
def BytesAt (w : World) (g : Nat) (l : List UInt8) : Prop := ∀ j (h : j < l.length), w.cell? ⟨g, j, none⟩ = some (.int .u8 (l[j].toNat : Int))

theorem BytesAt.below {w w' : World} {g n : Nat} {l : List UInt8} (h : BytesAt w g l) (hg : g < n) (hb : Below n w w') : BytesAt w' g l := fun j hj => (hb.cell (p := ⟨g, j, none⟩) hg).trans (h j hj)

theorem region_keep {w x x' : World} {g L cap b n : Nat} {l : List UInt8} {s ds : ByteArray} (hL : l.length = L) (hs : txt l = s) (hbl : Below n x x')
    (h : Below w.heap.size w x ∧ BytesAt x g l ∧ g < x.heap.size ∧ (convert 44 9 (.slice (some ⟨g, 0, none⟩) L cap)).run Try.prog x = .ok (.string s) x ∧ x.cell? ⟨b, 1, none⟩ = some (.string ds)) (hn : n = x.heap.size) :
    Below w.heap.size w x' ∧ BytesAt x' g l ∧ g < x'.heap.size ∧ (convert 44 9 (.slice (some ⟨g, 0, none⟩) L cap)).run Try.prog x' = .ok (.string s) x' ∧ x'.cell? ⟨b, 1, none⟩ = some (.string ds) := by
  subst hn
  obtain ⟨h1, h2, h3, _, h5⟩ := h
  have hl := World.block_lt_of_cell? _ _ h5
  refine ⟨h1.trans (hbl.mono h1.size), h2.below h3 hbl, Nat.lt_of_lt_of_le h3 hbl.size, ?_, (hbl.cell (p := ⟨b, 1, none⟩) hl).trans h5⟩
  rw [← hs]
  exact conv_str l L cap g x' hL (h2.below h3 hbl)

theorem region_alloc {w x : World} {g L cap b : Nat} {l : List UInt8} {s ds : ByteArray} {o : Obj} (hL : l.length = L) (hs : txt l = s)
    (h : Below w.heap.size w x ∧ BytesAt x g l ∧ g < x.heap.size ∧ (convert 44 9 (.slice (some ⟨g, 0, none⟩) L cap)).run Try.prog x = .ok (.string s) x ∧ x.cell? ⟨b, 1, none⟩ = some (.string ds)) :
    Below w.heap.size w (x.alloc o) ∧ BytesAt (x.alloc o) g l ∧ g < (x.alloc o).heap.size ∧ (convert 44 9 (.slice (some ⟨g, 0, none⟩) L cap)).run Try.prog (x.alloc o) = .ok (.string s) (x.alloc o) ∧ (x.alloc o).cell? ⟨b, 1, none⟩ = some (.string ds) :=
  region_keep hL hs ((Below.refl _ _).alloc (Nat.le_refl _) _) h rfl

theorem region_allocD {w x : World} {g L cap b : Nat} {l : List UInt8} {s ds : ByteArray} {o : Obj} (hL : l.length = L) (hs : txt l = s)
    (h : Below w.heap.size w x.drew ∧ BytesAt x.drew g l ∧ g < x.drew.heap.size ∧ (convert 44 9 (.slice (some ⟨g, 0, none⟩) L cap)).run Try.prog x.drew = .ok (.string s) x.drew ∧ x.drew.cell? ⟨b, 1, none⟩ = some (.string ds)) :
    Below w.heap.size w (x.alloc o).drew ∧ BytesAt (x.alloc o).drew g l ∧ g < (x.alloc o).drew.heap.size ∧ (convert 44 9 (.slice (some ⟨g, 0, none⟩) L cap)).run Try.prog (x.alloc o).drew = .ok (.string s) (x.alloc o).drew ∧ (x.alloc o).drew.cell? ⟨b, 1, none⟩ = some (.string ds) :=
  region_alloc hL hs h

theorem region_put {w x : World} {g L cap : Nat} {l : List UInt8} {s ds : ByteArray} {o : Obj} {v0 v1 v2 v3 v4 v5 v6 : Value} (hL : l.length = L) (hs : txt l = s) (hwg : w.heap.size < g)
    (h : Below w.heap.size w x ∧ BytesAt x g l ∧ g < x.heap.size ∧ (convert 44 9 (.slice (some ⟨g, 0, none⟩) L cap)).run Try.prog x = .ok (.string s) x ∧ x.cell? ⟨w.heap.size, 1, none⟩ = some (.string ds)) :
    Below w.heap.size w (put7 (x.alloc o) x.heap.size v0 v1 v2 v3 v4 v5 v6) ∧ BytesAt (put7 (x.alloc o) x.heap.size v0 v1 v2 v3 v4 v5 v6) g l ∧ g < (put7 (x.alloc o) x.heap.size v0 v1 v2 v3 v4 v5 v6).heap.size ∧
      (convert 44 9 (.slice (some ⟨g, 0, none⟩) L cap)).run Try.prog (put7 (x.alloc o) x.heap.size v0 v1 v2 v3 v4 v5 v6) = .ok (.string s) (put7 (x.alloc o) x.heap.size v0 v1 v2 v3 v4 v5 v6) ∧ (put7 (x.alloc o) x.heap.size v0 v1 v2 v3 v4 v5 v6).cell? ⟨w.heap.size, 1, none⟩ = some (.string ds) :=
  region_keep hL hs (below_put7 ((Below.refl _ _).alloc (Nat.le_refl _) _) x.heap.size (Nat.le_refl _) v0 v1 v2 v3 v4 v5 v6) h rfl

theorem region_put2 {w x : World} {g L cap p : Nat} {l : List UInt8} {s ds : ByteArray} {v0 v1 v2 v3 v4 v5 v6 : Value} (hL : l.length = L) (hs : txt l = s) (hwg : w.heap.size < g) (hp : g < p)
    (h : Below w.heap.size w x ∧ BytesAt x g l ∧ g < x.heap.size ∧ (convert 44 9 (.slice (some ⟨g, 0, none⟩) L cap)).run Try.prog x = .ok (.string s) x ∧ x.cell? ⟨w.heap.size, 1, none⟩ = some (.string ds)) :
    Below w.heap.size w (((((((x.setCell ⟨p, 0, none⟩ v0).setCell ⟨p, 1, none⟩ v1).setCell ⟨p, 2, none⟩ v2).setCell ⟨p, 3, none⟩ v3).setCell ⟨p, 4, none⟩ v4).setCell ⟨p, 5, none⟩ v5).setCell ⟨p, 6, none⟩ v6) ∧ BytesAt (((((((x.setCell ⟨p, 0, none⟩ v0).setCell ⟨p, 1, none⟩ v1).setCell ⟨p, 2, none⟩ v2).setCell ⟨p, 3, none⟩ v3).setCell ⟨p, 4, none⟩ v4).setCell ⟨p, 5, none⟩ v5).setCell ⟨p, 6, none⟩ v6) g l ∧ g < (((((((x.setCell ⟨p, 0, none⟩ v0).setCell ⟨p, 1, none⟩ v1).setCell ⟨p, 2, none⟩ v2).setCell ⟨p, 3, none⟩ v3).setCell ⟨p, 4, none⟩ v4).setCell ⟨p, 5, none⟩ v5).setCell ⟨p, 6, none⟩ v6).heap.size ∧
      (convert 44 9 (.slice (some ⟨g, 0, none⟩) L cap)).run Try.prog (((((((x.setCell ⟨p, 0, none⟩ v0).setCell ⟨p, 1, none⟩ v1).setCell ⟨p, 2, none⟩ v2).setCell ⟨p, 3, none⟩ v3).setCell ⟨p, 4, none⟩ v4).setCell ⟨p, 5, none⟩ v5).setCell ⟨p, 6, none⟩ v6) = .ok (.string s) (((((((x.setCell ⟨p, 0, none⟩ v0).setCell ⟨p, 1, none⟩ v1).setCell ⟨p, 2, none⟩ v2).setCell ⟨p, 3, none⟩ v3).setCell ⟨p, 4, none⟩ v4).setCell ⟨p, 5, none⟩ v5).setCell ⟨p, 6, none⟩ v6) ∧ (((((((x.setCell ⟨p, 0, none⟩ v0).setCell ⟨p, 1, none⟩ v1).setCell ⟨p, 2, none⟩ v2).setCell ⟨p, 3, none⟩ v3).setCell ⟨p, 4, none⟩ v4).setCell ⟨p, 5, none⟩ v5).setCell ⟨p, 6, none⟩ v6).cell? ⟨w.heap.size, 1, none⟩ = some (.string ds) := by
  obtain ⟨h1, h2, h3, h4, h5⟩ := h
  have hb : Below p x (put7 x p v0 v1 v2 v3 v4 v5 v6) := below_put7 (Below.refl _ _) p (Nat.le_refl _) v0 v1 v2 v3 v4 v5 v6
  have hB := h2.below hp hb
  have hsz := h1.size
  refine ⟨h1.trans ((below_put7 (Below.refl _ _) p (Nat.le_refl _) v0 v1 v2 v3 v4 v5 v6).mono (by omega)), hB, Nat.lt_of_lt_of_le h3 hb.size, ?_, (hb.cell (p := ⟨w.heap.size, 1, none⟩) (by show w.heap.size < p; omega)).trans h5⟩
  rw [← hs]
  exact conv_str l L cap g _ hL hB

theorem alloc_after {W x : World} {T : TypeId} (b : Below (W.alloc (.cells zeroH.toArray T)).heap.size (W.alloc (.cells zeroH.toArray T)) x) : blk x W.heap.size T zeroH := (blk.new W T zeroH).below b (by simp)
theorem alloc_afterD {W x : World} {T : TypeId} (b : Below (W.alloc (.cells zeroH.toArray T)).drew.heap.size (W.alloc (.cells zeroH.toArray T)).drew x) : blk x W.heap.size T zeroH := ((blk.new W T zeroH).drew).below b (by show W.heap.size < (W.alloc _).heap.size; simp)

theorem BytesAt.store {w : World} {g : Nat} {y z : UInt8} {t : List UInt8} (h : BytesAt w g (y :: t)) : BytesAt (w.setCell ⟨g, 0, none⟩ (.int .u8 (z.toNat : Int))) g (z :: t) := by
  intro j hj
  cases j with
  | zero => exact World.cell?_setCell_same _ _ _ (h 0 (by simp))
  | succ j =>
    rw [World.cell?_setCell_other _ _ _ _ (by simp)]
    exact h (j + 1) hj

set_option maxRecDepth 100000 in
set_option maxHeartbeats 1000000 in
theorem marks_far (ty : Int) (ds ss : ByteArray) (num : Nat) (bytes size : Int) (spin : Bool) (s : ByteArray) (a : Int) (w : World) (h : (2048 : Int) < (ds.size : Int) ∨ (2048 : Int) < (ss.size : Int) ∨ (2048 : Int) < (s.size : Int)) :
    Calls Try.prog 6 #[.agg #[.int .i64 ty, .string ds, .string ss, .int .u64 (num : Int), .int .i64 bytes, .int .i64 size, .bool spin], .string s, .int .u8 a] w fun e w' => e = .returned (.bool true) ∧ Below w.heap.size w w' := by
  by_cases h1 : (2048 : Int) < (ds.size : Int)
  · have d1 : decide ((2048 : Int) < (ds.size : Int)) = true := by simpa using h1
    clear h h1
    go_enter Try.func6, Try.ntmps6
    go_wp2_with fail
    refine (awake_any _).mono ?_
    rintro e w1 ⟨rfl, b1⟩
    obtain ⟨B1, G1⟩ := box_below (L := [_, _, _, _, _, _, _]) b1
    obtain ⟨c0, c1, c2, c3, c4, c5, c6⟩ := hd_cells G1
    have HB := Lib.hid B1
    clear b1 B1 G1
    go_wp2_with fail
    go_ret
    exact ⟨rfl, HB.out⟩
  have d1 : decide ((2048 : Int) < (ds.size : Int)) = false := by simpa using h1
  by_cases h2 : (2048 : Int) < (ss.size : Int)
  · have d2 : decide ((2048 : Int) < (ss.size : Int)) = true := by simpa using h2
    clear h h1 h2
    go_enter Try.func6, Try.ntmps6
    go_wp2_with fail
    refine (awake_any _).mono ?_
    rintro e w1 ⟨rfl, b1⟩
    obtain ⟨B1, G1⟩ := box_below (L := [_, _, _, _, _, _, _]) b1
    obtain ⟨c0, c1, c2, c3, c4, c5, c6⟩ := hd_cells G1
    have HB := Lib.hid B1
    clear b1 B1 G1
    go_wp2_with fail
    go_ret
    exact ⟨rfl, HB.out⟩
  have d2 : decide ((2048 : Int) < (ss.size : Int)) = false := by simpa using h2
  have h3 : (2048 : Int) < (s.size : Int) := by rcases h with h | h | h; exact absurd h h1; exact absurd h h2; exact h
  have d3 : decide ((2048 : Int) < (s.size : Int)) = true := by simpa using h3
  clear h h1 h2 h3
  go_enter Try.func6, Try.ntmps6
  go_wp2_with fail
  refine (awake_any _).mono ?_
  rintro e w1 ⟨rfl, b1⟩
  obtain ⟨B1, G1⟩ := box_below (L := [_, _, _, _, _, _, _]) b1
  obtain ⟨c0, c1, c2, c3, c4, c5, c6⟩ := hd_cells G1
  have HB := Lib.hid B1
  clear b1 B1 G1
  go_wp2_with fail
  go_ret
  exact ⟨rfl, HB.out⟩

theorem marks_end {w wb : World} {g Z : Nat} {y z : UInt8} {t : List UInt8} {T : TypeId} {L : List Value} (HBY : BytesAt wb g (y :: t)) (hg : g < wb.heap.size) (G4 : blk wb w.heap.size T L) (B4 : Below w.heap.size w wb) (hwg : w.heap.size < g) (hz : z.toNat = Z) (o : Obj) :
    BytesAt ((wb.setCell ⟨g, 0, none⟩ (.int .u8 (Z : Int))).alloc o).drew g (z :: t) ∧ g < ((wb.setCell ⟨g, 0, none⟩ (.int .u8 (Z : Int))).alloc o).drew.heap.size ∧
      blk ((wb.setCell ⟨g, 0, none⟩ (.int .u8 (Z : Int))).alloc o).drew w.heap.size T L ∧ Below w.heap.size w ((wb.setCell ⟨g, 0, none⟩ (.int .u8 (Z : Int))).alloc o).drew := by
  subst hz
  have hs : (wb.setCell ⟨g, 0, none⟩ (.int .u8 (z.toNat : Int))).heap.size = wb.heap.size := by simp [World.setCell]
  have h1 : BytesAt (wb.setCell ⟨g, 0, none⟩ (.int .u8 (z.toNat : Int))) g (z :: t) := HBY.store
  have h2 := h1.below (by rw [hs]; exact hg) (((Below.refl _ (wb.setCell ⟨g, 0, none⟩ (.int .u8 (z.toNat : Int)))).alloc (Nat.le_refl _) o).drew)
  refine ⟨h2, ?_, ?_, ?_⟩
  · show g < ((wb.setCell ⟨g, 0, none⟩ (.int .u8 (z.toNat : Int))).alloc o).heap.size
    simp [hs]; omega
  · exact ((blk.set_other G4 (by show g ≠ w.heap.size; omega) _).alloc o).drew
  · exact ((B4.setCell (p := ⟨g, 0, none⟩) (by show w.heap.size ≤ g; omega) _).alloc (by rw [hs]; exact B4.size) o).drew

set_option maxRecDepth 100000 in
set_option maxHeartbeats 4000000 in
theorem marks_near (ty : Int) (dst src sl : List UInt8) (num : Nat) (bytes size : Int) (spin : Bool) (a : Nat) (ha : a < 256) (w : World) (h1 : dst.length ≤ 2048) (h2 : src.length ≤ 2048) (h3 : sl.length ≤ 2048) :
    Calls Try.prog 6 #[.agg #[.int .i64 ty, .string (txt dst), .string (txt src), .int .u64 (num : Int), .int .i64 bytes, .int .i64 size, .bool spin], .string (txt sl), .int .u8 (a : Int)] w fun e w' => e = .returned (.bool true) ∧ Below w.heap.size w w' := by
  have hW := fun w => Write_any ⟨ty, dst, src, num, bytes, (sl.length : Int), spin⟩ w
  have d1 : decide ((2048 : Int) < ((txt dst).size : Int)) = false := by rw [txt_size, decide_eq_false_iff_not]; omega
  have d2 : decide ((2048 : Int) < ((txt src).size : Int)) = false := by rw [txt_size, decide_eq_false_iff_not]; omega
  have d3 : decide ((2048 : Int) < (sl.length : Int)) = false := by rw [decide_eq_false_iff_not]; omega
  have hss := txt_size sl
  unfold writeF at hW
  cases hm : mayF ⟨ty, dst, src, num, bytes, (sl.length : Int), spin⟩
  · rw [hm] at hW
    rw [if_neg (by simp), show txt [] = ⟨#[]⟩ from rfl] at hW
    simp only at hW
    unfold Hd.v at hW
    simp only at hW
    obtain ⟨SL, hSL⟩ : ∃ n, sl.length = n := ⟨_, rfl⟩
    rw [hSL] at hW hss d3 h3
    generalize txt dst = ds at *
    generalize txt src = ss at *
    generalize txt sl = s at *
    have HW := Lib.hid hW
    clear hW hm h1 h2 hSL
    go_enter Try.func6, Try.ntmps6
    go_wp2_with fail
    refine (awake_any _).mono ?_
    rintro e w1 ⟨rfl, b1⟩
    obtain ⟨B1, G1⟩ := box_below (L := [_, _, _, _, _, _, _]) b1
    obtain ⟨c0, c1, c2, c3, c4, c5, c6⟩ := hd_cells G1
    have hf := fun k => G1.free k
    have G2 := Lib.hid (G1.set 5 (.int .i64 (SL : Int)))
    have B2 := Lib.hid (B1.setCell (p := ⟨w.heap.size, 5, none⟩) (Nat.le_refl _) (.int .i64 (SL : Int)))
    clear b1 B1 G1
    go_wp2_with fail
    refine (HW.out _).mono ?_
    rintro e w3 ⟨rfl, bb⟩
    have B3 := Lib.hid (B2.out.trans (bb.mono B2.out.size))
    have G3 : blk w3 w.heap.size 24 [.int .i64 ty, .string ds, .string ss, .int .u64 (num : Int), .int .i64 bytes, .int .i64 (SL : Int), .bool spin] := G2.out.below bb G2.out.lt
    clear c0 c1 c2 c3 c4 c5 c6 hf bb B2 G2
    clear G3
    go_wp2_with fail
    go_ret
    exact ⟨rfl, B3.out⟩
  · rw [hm] at hW
    rw [if_pos rfl] at hW
    simp only at hW
    obtain ⟨m1, m2, m3, m4, m5, m6, m7, m8, m9, m10⟩ := may_facts _ hm
    simp only at m1 m2 m5 m6
    have hwlen := bytes_len _ hm
    -- the first byte, and what becomes of it
    obtain ⟨r, hr⟩ : ∃ r, a % 3 = r := ⟨_, rfl⟩
    have hr3 : r = 0 ∨ r = 1 ∨ r = 2 := by omega
    have hat : ((a : Int)).tmod 3 = (r : Int) := by rw [Int.tmod_eq_emod_of_nonneg (by omega), ← hr]; omega
    obtain ⟨y, tl, Y, hyt, hyY, hmark⟩ : ∃ (y : UInt8) (tl : List UInt8) (Y : Nat), bytesF ⟨ty, dst, src, num, bytes, (sl.length : Int), spin⟩ = y :: tl ∧ y.toNat = Y ∧
        ∀ M : Nat, ((ty = 3 ∧ (M = 64 ∨ M = 16 ∨ M = 8)) ∨ (ty ≠ 3 ∧ (M = 64 ∨ M = 8 ∨ M = 4))) → ∃ z : UInt8, bits BinOp.xor IntKind.u8 (Y : Int) (M : Int) = (z.toNat : Int) ∧ readF (z :: (tl ++ sl)) (dst.length : Int) (-1) = (Hd.zero, [], 2) := by
      by_cases h9 : ty = 3
      · obtain ⟨y, tl, e1, e2⟩ := short_first _ hm h9
        simp only at e2
        refine ⟨y, tl, _, e1, rfl, ?_⟩
        intro M hM
        have hM2 : M = 64 ∨ M = 16 ∨ M = 8 := by rcases hM with hM | hM; exact hM.2; exact absurd h9 hM.1
        have hq : y.toNat < 128 ∧ 64 ≤ y.toNat ∧ y.toNat / 8 % 4 = 0 := by rw [e2]; split <;> omega
        obtain ⟨q1, q2, q3⟩ := mark_short y.toNat M hq.1 hq.2.1 hq.2.2 hM2
        have e3 : (UInt8.ofNat (y.toNat ^^^ M)).toNat = y.toNat ^^^ M := by simp only [UInt8.toNat_ofNat']; omega
        exact ⟨UInt8.ofNat (y.toNat ^^^ M), by rw [e3]; exact q3, read_mark_short _ _ _ _ (by omega) (by rw [e3]; exact q1) (by rw [e3]; exact q2)⟩
      · obtain ⟨y, tl0, e1, e2⟩ := pre_first ⟨ty, dst, src, num, bytes, (sl.length : Int), spin⟩
        obtain ⟨tn, htn⟩ := Int.eq_ofNat_of_zero_le (show 0 ≤ ty by omega)
        obtain ⟨bn, hbn⟩ := Int.eq_ofNat_of_zero_le (show 0 ≤ bytes by omega)
        have hf := first_nat tn bn (by omega) (by omega) (by omega)
        simp only at e2
        rw [← htn, ← hbn, ← e2] at hf
        refine ⟨y, tl0 ++ be bytes.toNat num, _, by rw [bytesF_long _ h9, e1]; rfl, rfl, ?_⟩
        intro M hM
        have hM2 : M = 64 ∨ M = 8 ∨ M = 4 := by rcases hM with hM | hM; exact absurd hM.1 h9; exact hM.2
        have hq : y.toNat < 256 ∧ 192 ≤ y.toNat ∧ y.toNat / 4 % 4 = 0 := by
          refine ⟨UInt8.toNat_lt _, ?_, ?_⟩ <;> rw [hf]
          · omega
          · have : tn = 0 ∨ tn = 2 := by omega
            rcases this with rfl | rfl <;> omega
        obtain ⟨q1, q2, q3, q4⟩ := mark_long y.toNat M hq.1 hq.2.1 hq.2.2 hM2
        have e3 : (UInt8.ofNat (y.toNat ^^^ M)).toNat = y.toNat ^^^ M := by simp only [UInt8.toNat_ofNat']; omega
        exact ⟨UInt8.ofNat (y.toNat ^^^ M), by rw [e3]; exact q4, read_mark_long _ _ _ _ (by omega) (by rw [e3]; exact q2) (by rw [e3]; exact q3)⟩
    rw [hyt] at hW hwlen
    obtain ⟨L, hL⟩ : ∃ L, (y :: (tl ++ sl)).length = L := ⟨_, rfl⟩
    have hL0 : 0 < L := by rw [← hL]; simp
    have hLb : L ≤ 5000 := by
      rw [← hL]
      simp only [List.length_cons, List.length_append] at hwlen ⊢
      omega
    have c1 := txt_append (y :: tl) sl
    rw [List.cons_append] at c1
    have z1 := txt_size (y :: (tl ++ sl))
    rw [hL] at z1
    have zw : (txt (y :: tl)).size ≤ 100 := by rw [txt_size]; exact hwlen
    have hcb := fun w => conv_bytes (y :: (tl ++ sl)) L w hL
    unfold Hd.v at hW
    simp only at hW
    obtain ⟨SL, hSL⟩ : ∃ n, sl.length = n := ⟨_, rfl⟩
    rw [hSL] at hW hss d3 h3
    have hdl := txt_size dst
    obtain ⟨DL, hDL⟩ : ∃ n, dst.length = n := ⟨_, rfl⟩
    rw [hDL] at hdl hmark m2
    generalize txt dst = ds at *
    generalize txt src = ss at *
    generalize txt sl = s at *
    generalize txt (y :: tl) = ws at *
    generalize txt (y :: (tl ++ sl)) = t1 at *
    have HW := Lib.hid hW
    have HMK := Lib.hid hmark
    have HLL := Lib.hid hL
    have HyY := Lib.hid hyY
    have HM1 := Lib.hid m1
    clear hW hm h1 h2 hSL m1 m3 m4 m5 m6 m7 m8 m9 m10 hwlen hyt hr hmark hL hDL hyY
    go_enter Try.func6, Try.ntmps6
    go_wp2_with fail
    refine (awake_any _).mono ?_
    rintro e w1 ⟨rfl, b1⟩
    obtain ⟨B1, G1⟩ := box_below (L := [_, _, _, _, _, _, _]) b1
    obtain ⟨c0, c1, c2, c3, c4, c5, c6⟩ := hd_cells G1
    have hf := fun k => G1.free k
    have G2 := Lib.hid (G1.set 5 (.int .i64 (SL : Int)))
    have B2 := Lib.hid (B1.setCell (p := ⟨w.heap.size, 5, none⟩) (Nat.le_refl _) (.int .i64 (SL : Int)))
    clear b1 B1 G1
    go_wp2_with fail
    refine (HW.out _).mono ?_
    rintro e w3 ⟨rfl, bb⟩
    have B3 := Lib.hid (B2.out.trans (bb.mono B2.out.size))
    have G3 : blk w3 w.heap.size 24 [.int .i64 ty, .string ds, .string ss, .int .u64 (num : Int), .int .i64 bytes, .int .i64 (SL : Int), .bool spin] := G2.out.below bb G2.out.lt
    clear c0 c1 c2 c3 c4 c5 c6 hf bb B2 G2
    obtain ⟨wb, cap, hc1, hc2, hc3, hc4, hc5⟩ := hcb w3
    have G4 := Lib.hid (G3.below hc3 G3.lt)
    have B4 := Lib.hid (B3.out.trans (hc3.mono B3.out.size))
    have hby : BytesAt wb w3.heap.size (y :: (tl ++ sl)) := hc4
    have HBY := Lib.hid hby
    have hb0 : wb.cell? ⟨w3.heap.size, 0, none⟩ = some (.int .u8 (Y : Int)) := by rw [← HyY.out]; exact hc4 0 (by simp)
    have hfr : wb.frozen? ⟨w3.heap.size, 0, none⟩ = false := hc5 0 (by simp)
    have hgl : w3.heap.size < wb.heap.size := by omega
    have hhl : w.heap.size ≤ w3.heap.size := B3.out.size
    obtain ⟨g, hg⟩ : ∃ g, w3.heap.size = g := ⟨_, rfl⟩
    have hwg : w.heap.size < g := by rw [← hg]; exact G3.lt
    rw [hg] at hc1 hb0 hfr hgl HBY
    have Hg := Lib.hid hg
    obtain ⟨c0, c1', c2, c3, c4, c5, c6⟩ := hd_cells G4.out
    clear hcb hc2 hc3 hc4 hc5 hby G3 B3
    go_upto_if 46 with (fail)
    go_cut [] (fun wx => ∃ z : UInt8, readF (z :: (tl ++ sl)) (DL : Int) (-1) = (Hd.zero, [], 2) ∧ BytesAt wx g (z :: (tl ++ sl)) ∧ g < wx.heap.size ∧ blk wx w.heap.size 24 [.int .i64 ty, .string ds, .string ss, .int .u64 (num : Int), .int .i64 bytes, .int .i64 (SL : Int), .bool spin] ∧ Below w.heap.size w wx)
    case first =>
      by_cases h9 : ty = 3
      · have h9b : (ty == 3) = true := by simpa using h9
        rcases hr3 with rfl | rfl | rfl
        case inl =>
          obtain ⟨z, hz1, hz2⟩ := HMK.out 64 (.inl ⟨h9, by decide⟩)
          have hz1' : bits BinOp.xor IntKind.u8 (Y : Int) 64 = (z.toNat : Int) := hz1
          generalize hzz : z.toNat = Z at hz1 hz1'
          have HZ2 := Lib.hid hz2
          have HZZ := Lib.hid hzz
          clear hz1 hz2 hzz h9
          go_wp2_with fail
          go_region
          all_goals
            go_wp2_with fail
            go_meet
            exact ⟨z, HZ2.out, marks_end HBY.out hgl G4.out B4.out hwg HZZ.out _⟩
        case inr.inl =>
          obtain ⟨z, hz1, hz2⟩ := HMK.out 16 (.inl ⟨h9, by decide⟩)
          have hz1' : bits BinOp.xor IntKind.u8 (Y : Int) 16 = (z.toNat : Int) := hz1
          generalize hzz : z.toNat = Z at hz1 hz1'
          have HZ2 := Lib.hid hz2
          have HZZ := Lib.hid hzz
          clear hz1 hz2 hzz h9
          go_wp2_with fail
          go_region
          all_goals
            go_wp2_with fail
            go_meet
            exact ⟨z, HZ2.out, marks_end HBY.out hgl G4.out B4.out hwg HZZ.out _⟩
        case inr.inr =>
          obtain ⟨z, hz1, hz2⟩ := HMK.out 8 (.inl ⟨h9, by decide⟩)
          have hz1' : bits BinOp.xor IntKind.u8 (Y : Int) 8 = (z.toNat : Int) := hz1
          generalize hzz : z.toNat = Z at hz1 hz1'
          have HZ2 := Lib.hid hz2
          have HZZ := Lib.hid hzz
          clear hz1 hz2 hzz h9
          go_wp2_with fail
          go_region
          all_goals
            go_wp2_with fail
            go_meet
            exact ⟨z, HZ2.out, marks_end HBY.out hgl G4.out B4.out hwg HZZ.out _⟩
      · have h9b : (ty == 3) = false := by simpa using h9
        rcases hr3 with rfl | rfl | rfl
        case inl =>
          obtain ⟨z, hz1, hz2⟩ := HMK.out 64 (.inr ⟨h9, by decide⟩)
          have hz1' : bits BinOp.xor IntKind.u8 (Y : Int) 64 = (z.toNat : Int) := hz1
          generalize hzz : z.toNat = Z at hz1 hz1'
          have HZ2 := Lib.hid hz2
          have HZZ := Lib.hid hzz
          clear hz1 hz2 hzz h9
          go_wp2_with fail
          go_region
          all_goals
            go_wp2_with fail
            go_meet
            exact ⟨z, HZ2.out, marks_end HBY.out hgl G4.out B4.out hwg HZZ.out _⟩
        case inr.inl =>
          obtain ⟨z, hz1, hz2⟩ := HMK.out 8 (.inr ⟨h9, by decide⟩)
          have hz1' : bits BinOp.xor IntKind.u8 (Y : Int) 8 = (z.toNat : Int) := hz1
          generalize hzz : z.toNat = Z at hz1 hz1'
          have HZ2 := Lib.hid hz2
          have HZZ := Lib.hid hzz
          clear hz1 hz2 hzz h9
          go_wp2_with fail
          go_region
          all_goals
            go_wp2_with fail
            go_meet
            exact ⟨z, HZ2.out, marks_end HBY.out hgl G4.out B4.out hwg HZZ.out _⟩
        case inr.inr =>
          obtain ⟨z, hz1, hz2⟩ := HMK.out 4 (.inr ⟨h9, by decide⟩)
          have hz1' : bits BinOp.xor IntKind.u8 (Y : Int) 4 = (z.toNat : Int) := hz1
          generalize hzz : z.toNat = Z at hz1 hz1'
          have HZ2 := Lib.hid hz2
          have HZZ := Lib.hid hzz
          clear hz1 hz2 hzz h9
          go_wp2_with fail
          go_region
          all_goals
            go_wp2_with fail
            go_meet
            exact ⟨z, HZ2.out, marks_end HBY.out hgl G4.out B4.out hwg HZZ.out _⟩
    case rest =>
      obtain ⟨z, hz, q1, q2, q3, q4⟩ := hcut
      have hlen2 : (z :: (tl ++ sl)).length = L := by have := HLL.out; simpa using this
      have hR := fun bl w hb => Read_any (z :: (tl ++ sl)) (DL : Int) (-1) bl w (by rw [hlen2]; omega) hb (by omega)
      rw [hz] at hR
      have e0 : txt [] = ⟨#[]⟩ := rfl
      unfold Hd.v Hd.zero at hR
      simp only [e0] at hR
      have hcv := conv_str (z :: (tl ++ sl)) L cap g wc.drew hlen2 q1
      obtain ⟨s9, hs9⟩ : ∃ s9, txt (z :: (tl ++ sl)) = s9 := ⟨_, rfl⟩
      rw [hs9] at hcv hR
      have HR := Lib.hid hR
      have HLN := Lib.hid hlen2
      have HS9 := Lib.hid hs9
      have hS0 : Below w.heap.size w wc.drew ∧ BytesAt wc.drew g (z :: (tl ++ sl)) ∧ g < wc.drew.heap.size ∧ (convert 44 9 (.slice (some ⟨g, 0, none⟩) L cap)).run Try.prog wc.drew = .ok (.string s9) wc.drew ∧ wc.drew.cell? ⟨w.heap.size, 1, none⟩ = some (.string ds) := ⟨q4.drew, q1, q2, hcv, q3.cell rfl⟩
      have hgd : g < wc.drew.heap.size := q2
      have hgc : g < wc.heap.size := q2
      clear hR hlen2 hs9 hz q1 q2 q3 q4 hcv c0 c1' c2 c3 c4 c5 c6 HBY G4 B4 HMK hat hb0 hfr hgl hc1 c1 z1 zw d1 d2 d3 hss HW hr3
      have hal : ∀ (W : World) (k : Nat), (W.alloc (.cells #[.int .i64 0, .string ⟨#[]⟩, .string ⟨#[]⟩, .int .u64 0, .int .i64 0, .int .i64 0, .bool false] 24)).frozen? ⟨W.heap.size, k, none⟩ = false := fun W k => (blk.new W 24 zeroH).free k
      have ha0 : ∀ (W : World), (W.alloc (.cells #[.int .i64 0, .string ⟨#[]⟩, .string ⟨#[]⟩, .int .u64 0, .int .i64 0, .int .i64 0, .bool false] 24)).cell? ⟨W.heap.size, 0, none⟩ = some (.int .i64 0) := fun W => (blk.new W 24 zeroH).cell (k := 0) rfl
      have ha1 : ∀ (W : World), (W.alloc (.cells #[.int .i64 0, .string ⟨#[]⟩, .string ⟨#[]⟩, .int .u64 0, .int .i64 0, .int .i64 0, .bool false] 24)).cell? ⟨W.heap.size, 1, none⟩ = some (.string ⟨#[]⟩) := fun W => (blk.new W 24 zeroH).cell (k := 1) rfl
      have ha2 : ∀ (W : World), (W.alloc (.cells #[.int .i64 0, .string ⟨#[]⟩, .string ⟨#[]⟩, .int .u64 0, .int .i64 0, .int .i64 0, .bool false] 24)).cell? ⟨W.heap.size, 2, none⟩ = some (.string ⟨#[]⟩) := fun W => (blk.new W 24 zeroH).cell (k := 2) rfl
      have ha3 : ∀ (W : World), (W.alloc (.cells #[.int .i64 0, .string ⟨#[]⟩, .string ⟨#[]⟩, .int .u64 0, .int .i64 0, .int .i64 0, .bool false] 24)).cell? ⟨W.heap.size, 3, none⟩ = some (.int .u64 0) := fun W => (blk.new W 24 zeroH).cell (k := 3) rfl
      have ha4 : ∀ (W : World), (W.alloc (.cells #[.int .i64 0, .string ⟨#[]⟩, .string ⟨#[]⟩, .int .u64 0, .int .i64 0, .int .i64 0, .bool false] 24)).cell? ⟨W.heap.size, 4, none⟩ = some (.int .i64 0) := fun W => (blk.new W 24 zeroH).cell (k := 4) rfl
      have ha5 : ∀ (W : World), (W.alloc (.cells #[.int .i64 0, .string ⟨#[]⟩, .string ⟨#[]⟩, .int .u64 0, .int .i64 0, .int .i64 0, .bool false] 24)).cell? ⟨W.heap.size, 5, none⟩ = some (.int .i64 0) := fun W => (blk.new W 24 zeroH).cell (k := 5) rfl
      have ha6 : ∀ (W : World), (W.alloc (.cells #[.int .i64 0, .string ⟨#[]⟩, .string ⟨#[]⟩, .int .u64 0, .int .i64 0, .int .i64 0, .bool false] 24)).cell? ⟨W.heap.size, 6, none⟩ = some (.bool false) := fun W => (blk.new W 24 zeroH).cell (k := 6) rfl
      go_wp2_with fail
      go_region_held (fun w' => Below w.heap.size w w' ∧ BytesAt w' g (z :: (tl ++ sl)) ∧ g < w'.heap.size ∧ (convert 44 9 (.slice (some ⟨g, 0, none⟩) L cap)).run Try.prog w' = .ok (.string s9) w' ∧ w'.cell? ⟨w.heap.size, 1, none⟩ = some (.string ds))
        (first | with_reducible assumption | (with_reducible apply region_keep HLN.out HS9.out; with_reducible assumption; with_reducible assumption; rfl) | (with_reducible apply region_alloc HLN.out HS9.out; with_reducible assumption) | (with_reducible refine region_put2 HLN.out HS9.out hwg ?_ ?_; (clear hal ha0 ha1 ha2 ha3 ha4 ha5 ha6; omega); with_reducible assumption) | (with_reducible apply region_allocD HLN.out HS9.out; with_reducible assumption))
        (first | (go_at_call 15; refine (ask_minus _).mono ?_; rintro e x4 ⟨bl, rfl, hbl, b4, _⟩; have q4 := b4.size; first | (have hz := alloc_afterD b4; obtain ⟨z0, z1, z2, z3, z4, z5, z6⟩ := hd_cells hz; have zf := fun k => hz.free k) | skip) | (go_at_call 16; refine (HR.out _ _ ?_).mono ?_; (first | exact hbl | exact hbl.alloc _); rintro e x5 ⟨rfl, b5⟩; first | (have hz5 := hz.below b5 hz.lt; clear z0 z1 z2 z3 z4 z5 z6 zf hz; obtain ⟨z0, z1, z2, z3, z4, z5, z6⟩ := hd_cells hz5; have zf := fun k => hz5.free k) | (have hz5 := alloc_after b5; obtain ⟨z0, z1, z2, z3, z4, z5, z6⟩ := hd_cells hz5; have zf := fun k => hz5.free k) | skip))
      all_goals go_wp2_with fail
      all_goals
        go_ret
        refine ⟨rfl, ?_⟩
        apply And.left
        with_reducible assumption

theorem marks_walk (h : Hd) (s : ByteArray) (_ : s.size ≤ maxLen) (a : Int) (wa : (Lit.int .u8 a).wf = true) (w : World) :
    Calls Try.prog 6 #[h.v, .string s, .int .u8 a] w fun e w' => e = .returned (.bool true) ∧ Below w.heap.size w w' := by
  by_cases h1 : h.dst.length ≤ 2048 ∧ h.src.length ≤ 2048 ∧ s.size ≤ 2048
  · have ba := bounds_u8 wa
    obtain ⟨m, rfl⟩ := Int.eq_ofNat_of_zero_le ba.1
    have := marks_near h.ty h.dst h.src (byt s) h.num h.bytes h.size h.spin m (by omega) w h1.1 h1.2.1 (by rw [byt_length]; exact h1.2.2)
    rw [txt_byt] at this
    exact this
  · exact marks_far h.ty (txt h.dst) (txt h.src) h.num h.bytes h.size h.spin s a w (by rw [txt_size, txt_size]; omega)

end Go.Proofs.Ytngnfijpfghodaa
