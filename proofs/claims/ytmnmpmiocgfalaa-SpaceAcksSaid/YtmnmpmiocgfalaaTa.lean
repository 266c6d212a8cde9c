/- space: the walk of SpaceAcks. Printed by tools/mkTa.py. -/
import Derived.Test.YtmnmpmiocgfalaaSz
import Derived.Deep.RegionHeld3
import Derived.Deep.CutBlock
import Derived.Deep.DeepCutAuto
namespace Go.Proofs.Ytmnmpmiocgfalaa
open Go.ChangeShapes Go.WideShapes Go.RowKit
set_option linter.unusedVariables false
set_option linter.unusedSimpArgs false

section
variable {P : Program} {ops : Array Oper} {Q : Exit → Act → World → Prop} {md : Region.Mode} {S : World → Prop}
/-- Take number i first; its slot is given, so that the state stays written out. -/
theorem wpAnyH_takeD {i : Nat} {oi : Oper} {v : Value} {fuel : Nat} {listed : Array Bool} {a : Act} {w : World} (d : Option Nat) (hi : ops[i]? = some oi) (hd : oi.dst = d)
    (hs : Region.noSelect ops = true) (hf : Region.free md ops listed i = true) (hr : (Region.ready md ops listed).contains i = true)
    (hQ : ∀ c a w, Q (.panic c) (a.put oi.dst v) w → Q (.panic c) a w) (hy : YieldsIf P ops S oi v a) (hS : S w)
    (h : wpAnyH P md ops Q S fuel (listed.setIfInBounds i true) (a.put d v) w) : wpAnyH P md ops Q S (fuel + 1) listed a w := by
  subst hd
  exact wpAnyH_take hi hs hf hr hQ hy hS h
end

def AckW (w : World) (b mb j : Nat) (y : World) : Prop := ∃ v u s M m, SpIs b b v u s y ∧ CMap y mb m M ∧ (∀ x, x < 2 ^ 64 → M x = coversR s.R x x) ∧ m = countR s.R ∧ m ≤ j ∧ Below w.heap.size w y ∧ w.heap.size ≤ b ∧ w.heap.size ≤ mb
theorem AckW.bel {w y : World} {b mb j : Nat} (h : AckW w b mb j y) : Below w.heap.size w y := by obtain ⟨_, _, _, _, _, _, _, _, _, _, h, _⟩ := h; exact h
theorem AckW.start {w w1 : World} (hb : Below w.heap.size w w1) (z : Array Value) (hz : z = #[.slice none 0 0, .int .u64 0, .bool false, .int .u64 0, .bool false, .int .u64 0, .slice none 0 0, .int .u64 0, .bool false]) :
    AckW w w1.heap.size (w1.heap.size + 1) 0 ((w1.alloc (.cells z 34)).alloc (.map #[] 0)) := by
  subst hz
  have h1 := SpIs.start w1
  have b1 : Below w.heap.size w _ := hb.alloc hb.size (.cells #[.slice none 0 0, .int .u64 0, .bool false, .int .u64 0, .bool false, .int .u64 0, .slice none 0 0, .int .u64 0, .bool false] 34)
  generalize hw2 : w1.alloc (.cells #[.slice none 0 0, .int .u64 0, .bool false, .int .u64 0, .bool false, .int .u64 0, .slice none 0 0, .int .u64 0, .bool false] 34) = w2 at *
  have s2 : w2.heap.size = w1.heap.size + 1 := by rw [← hw2]; simp
  have hm := CMap.made w2
  rw [s2] at hm
  exact ⟨_, _, _, _, 0, h1.next ((Below.refl _ _).alloc (Nat.le_refl _) _), hm, fun x _ => by simp [coversR, Sp0], rfl, Nat.le_refl _, b1.alloc b1.size _, hb.size, by have := hb.size; omega⟩

/-- An acknowledgement was told. -/
structure AckT (w : World) (b mb X m F t n : Nat) (a : Act1) (p : Option Addr) (c : Nat) (v u : Value) (s : Sp) (M : Nat → Bool) (y : World) : Prop where
  st : AckS w b mb X m a v u s M y
  must : s.must = false
  xl : ∃ Bx, y.ownsRow Bx 47 2 (.slice p n c) n (rgs (s.R.take n))
  hn : n = min 32 s.R.length
  pos : 0 < s.R.length
  box : blk y F 43 [.int .u64 2, .int .u64 (t : Int), .int .u64 0, .int .u64 0, .bool false, .string ⟨#[]⟩, .string ⟨#[]⟩, .slice p n c]
section
variable {w y z : World} {b mb X m F t n : Nat} {a : Act1} {p : Option Addr} {c : Nat} {v u : Value} {s : Sp} {M : Nat → Bool}
theorem AckT.next (h : AckT w b mb X m F t n a p c v u s M y) (hb : Below y.heap.size y z) : AckT w b mb X m F t n a p c v u s M z := by
  obtain ⟨Bx, hx⟩ := h.xl
  exact ⟨h.st.next hb, h.must, ⟨Bx, own_below hx hb⟩, h.hn, h.pos, h.box.below hb h.box.lt⟩
theorem AckT.len (h : AckT w b mb X m F t n a p c v u s M y) : (s.R.take n).length = n := by rw [List.length_take]; have := h.hn; omega
theorem AckT.rg (h : AckT w b mb X m F t n a p c v u s M y) : RgAt y p (s.R.take n) := by
  obtain ⟨Bx, hx⟩ := h.xl
  exact RgAt.of_row hx
theorem AckT.npos (h : AckT w b mb X m F t n a p c v u s M y) : 0 < n ∧ n ≤ 32 := by have := h.hn; have := h.pos; omega
theorem countR_pos {L : List Rg} (h : 0 < L.length) : 0 < countR L := by
  cases L with
  | nil => cases h
  | cons r l => simp [countR]; omega
theorem AckS.ack (h : AckS w b mb X m a v u s M y) (hnow : a.now < 2 ^ 64) : Calls Try.prog 12 #[.pointer (some ⟨b, 0, none⟩), .int .u64 (a.now : Int)] y fun e z =>
    (m = 0 ∧ e = .returned (.tuple #[.agg #[.int .u64 0, .int .u64 0, .int .u64 0, .int .u64 0, .bool false, .string ⟨#[]⟩, .string ⟨#[]⟩, .slice none 0 0], .bool false]) ∧ AckS w b mb X m a v u s M z) ∨
    (0 < m ∧ ∃ t p n c s', e = .returned (.tuple #[.agg #[.int .u64 2, .int .u64 (t : Nat), .int .u64 0, .int .u64 0, .bool false, .string ⟨#[]⟩, .string ⟨#[]⟩, .slice p n c], .bool true]) ∧ AckS w b mb X m a v u s' M z ∧ s'.must = false ∧ (∃ Bx, z.ownsRow Bx 47 2 (.slice p n c) n (rgs (s'.R.take n))) ∧ n = min 32 s'.R.length ∧ 0 < s'.R.length) := by
  refine (Ack_sp b b v u s y a.now h.sp hnow).mono ?_
  rintro e z (⟨h4, h5, h6⟩ | ⟨h4, p, c, h5, h6, h7⟩)
  · exact .inl ⟨by rw [h.cnt, h4]; rfl, h5, h.next h6⟩
  · exact .inr ⟨by rw [h.cnt]; exact countR_pos h4, _, p, _, c, _, h5, h.to h7 rfl, rfl, ⟨_, h6⟩, rfl, h4⟩
theorem AckT.largest (h : AckT w b mb X m F t n a p c v u s M y) : ∃ q : Nat, q ≤ 4611686018427387903 ∧ (∃ l, s.R.head? = some (l, q)) ∧ ∀ z, AckT w b mb X m F t n a p c v u s M z → Calls Try.prog 13 #[.pointer (some ⟨b, 0, none⟩)] z fun e z' => e = .returned (.int .i64 (q : Int)) ∧ Below z.heap.size z z' := by
  cases hR : s.R with
  | nil => have := h.pos; rw [hR] at this; cases this
  | cons r l =>
    have hml := most_lt h.st.sp.ok
    rw [hR] at hml
    refine ⟨r.2, hml, ⟨r.1, rfl⟩, fun z hz => ?_⟩
    have := Largest_any hz.st.sp
    rw [hR] at this
    exact this
theorem AckT.may (h : AckT w b mb X m F t n a p c v u s M y) : Calls Try.prog 14 #[.agg #[.int .u64 2, .int .u64 0, .int .u64 0, .int .u64 0, .bool false, .string ⟨#[]⟩, .string ⟨#[]⟩, .slice p n c]] y fun e z => e = .returned (.bool true) ∧ Below y.heap.size y z := by
  have hl := h.len
  have hp := h.npos
  have hok : okRs (s.R.take n) := by
    have h0 := okRs_of h.st.sp.ok (Nat.le_refl _)
    intro i r hr
    rw [List.getElem?_take] at hr
    split at hr
    · rename_i hi
      obtain ⟨h1, h2, h3⟩ := h0 i r hr
      refine ⟨h1, h2, fun q h4 hq => h3 q h4 ?_⟩
      rw [List.getElem?_take] at hq
      split at hq
      · exact hq
      · cases hq
    · cases hr
  have := may03_ack (s.R.take n) p c y h.rg hok (by omega) (by omega)
  rw [hl] at this
  exact this
theorem AckT.mustc (h : AckT w b mb X m F t n a p c v u s M y) : Calls Try.prog 15 #[.pointer (some ⟨b, 0, none⟩)] y fun e z => e = .returned (.bool false) ∧ y = z := by
  have := Must_any h.st.sp
  rw [h.must] at this
  exact this
/-- A range of the acknowledgement. -/
theorem AckT.range {k : Nat} (h : AckT w b mb X m F t n a p c v u s M y) (hk : k < n) : ∃ g r, p = some ⟨g, 0, none⟩ ∧ g < y.heap.size ∧ (s.R.take n)[k]? = some r ∧ y.cell? ⟨g, k * 2, none⟩ = some (.int .u64 (r.1 : Int)) ∧ y.cell? ⟨g, k * 2 + 1, none⟩ = some (.int .u64 (r.2 : Int)) ∧ r.1 ≤ r.2 ∧ r.2 ≤ 4611686018427387903 ∧ r.2 - r.1 + 1 ≤ m ∧ ∀ x, r.1 ≤ x → x ≤ r.2 → M x = true := by
  obtain ⟨Bx, hx⟩ := h.xl
  obtain ⟨r, hr⟩ : ∃ r, (s.R.take n)[k]? = some r := ⟨_, List.getElem?_eq_getElem (by rw [h.len]; exact hk)⟩
  obtain ⟨g, cap1, hv, _, hg, h1, h2⟩ := rg_cells hx k r hr
  injection hv with hv _ _
  have hmem : r ∈ s.R := List.mem_of_mem_take (List.mem_of_getElem? hr)
  have hb := OkB.below h.st.sp.ok r hmem
  refine ⟨g, r, hv, hg, hr, h1, h2, hb.1, by omega, ?_, fun x h3 h4 => ?_⟩
  · rw [h.st.cnt]
    exact count_mem hmem
  · rw [h.st.cov x (by omega), has_iff h.st.sp.ok]
    exact ⟨r, hmem, h3, h4⟩
theorem AckT.all (h : AckT w b mb X m F t n a p c v u s M y) (hn : n < 32) : countR (s.R.take n) = m := by
  rw [h.st.cnt, List.take_of_length_le (by have := h.hn; omega)]
theorem AckT.part (h : AckT w b mb X m F t n a p c v u s M y) (k : Nat) : countR ((s.R.take n).take k) ≤ m := by
  rw [h.st.cnt]
  exact Nat.le_trans (count_part _ _) (count_part _ _)
end
/-- Between Got and the map's turn. -/
def AckM (w : World) (b mb X j : Nat) (a : Act1) (v : Value) (x : Value) (y : World) : Prop :=
  (x = .bool false ∧ ∃ u s M m, m ≤ j + 1 ∧ AckS w b mb X m a v u s M y) ∨
  (x = .bool true ∧ blk y X 38 a.vals ∧ ∃ z u s M m, m ≤ j + 1 ∧ (Instr.mapUpdate 35 (.map (some mb)) (.int .u64 (a.num : Int)) (.bool true)).run Try.prog y = .ok () z ∧ AckS w b mb X m a v u s M z)
/-- What the last look holds. -/
structure AckH (w : World) (b mb X m F t n : Nat) (a : Act1) (g c : Nat) (v u : Value) (s : Sp) (M : Nat → Bool) (y : World) : Prop where
  t : AckT w b mb X m F t n a (some ⟨g, 0, none⟩) c v u s M y
theorem AckH.cells {w y : World} {b mb X m F t n q l : Nat} {a : Act1} {g c : Nat} {v u : Value} {s : Sp} {M : Nat → Bool} (h : AckH w b mb X m F t n a g c v u s M y) (hq : s.R.head? = some (l, q)) :
    (y.cell? ⟨F, 7, none⟩ = some (.slice (some ⟨g, 0, none⟩) n c) ∧ y.cell? ⟨F, 0, none⟩ = some (.int .u64 2) ∧ y.cell? ⟨g, 1, none⟩ = some (.int .u64 (q : Int))) ∧ (Builtin.len_ #[35] 3 #[.map (some mb)]).run Try.prog y = .ok (.int .i64 (m : Int)) y ∧ AckH w b mb X m F t n a g c v u s M y := by
  refine ⟨⟨h.t.box.cell (k := 7) rfl, h.t.box.cell (k := 0) rfl, ?_⟩, h.t.st.map.len _, h⟩
  obtain ⟨g', r, e, _, hr, _, h1, _⟩ := h.t.range (k := 0) h.t.npos.1
  injection e with e
  injection e with e
  subst e
  have : r = (l, q) := by
    rw [List.getElem?_take, if_pos h.t.npos.1] at hr
    cases hR : s.R with
    | nil => rw [hR] at hq; cases hq
    | cons x xs => rw [hR] at hq hr; simp at hq hr; rw [← hr, hq]
  rw [this] at h1
  simpa using h1
theorem AckH.next {w y z : World} {b mb X m F t n : Nat} {a : Act1} {g c : Nat} {v u : Value} {s : Sp} {M : Nat → Bool} (h : AckH w b mb X m F t n a g c v u s M y) (hb : Below y.heap.size y z) : AckH w b mb X m F t n a g c v u s M z := ⟨h.t.next hb⟩

set_option maxRecDepth 100000 in
set_option maxHeartbeats 16000000 in
theorem acks_walk (p : Option Addr) (cap : Nat) (xs : List Act1) (w : World) (hX : ActsAt w p xs) (hl : xs.length ≤ maxLen) :
    Calls Try.prog 3 #[.slice p xs.length cap] w fun e w' => e = .returned (.bool true) ∧ Below w.heap.size w w' := by
  unfold maxLen at hl
  have hmm := @run_makeMap Try.prog
  have HX := Lib.hid hX
  obtain ⟨N, hN⟩ : ∃ N, xs.length = N := ⟨_, rfl⟩
  rw [hN] at hl ⊢
  have HN := Lib.hid hN
  clear hX hN
  go_enter Try.func3, Try.ntmps3
  go_wp2_with fail
  refine (awake_ok w).mono ?_
  rintro e w1 ⟨rfl, hb1⟩
  have M0 := Lib.hid (AckW.start hb1 _ rfl)
  obtain ⟨b, hb⟩ : ∃ b, w1.heap.size = b := ⟨_, rfl⟩
  rw [hb] at M0
  clear hb1
  go_wp2_with fail
  clear hb hmm
  go_loopw [5, 6, 7, 8, 9, 11, 12] (fun i _ _ _ _ _ _ wr => ∃ j : Nat, j ≤ N ∧ j ≤ 100 ∧ i = .int .i64 j ∧ AckW w b (b + 1) j wr) (fun i _ _ _ _ _ _ _ => 100 - (intOf i).toNat)
  case atStart => exact ⟨0, by omega, by omega, rfl, M0.out⟩
  case round =>
    obtain ⟨j, hj, hj1, rfl, hM⟩ := hrel
    have hbel := hM.bel
    by_cases hlt : j < N ∧ j < 100
    · obtain ⟨hlt, hlt2⟩ := hlt
      have hjl : j < xs.length := by rw [HN.out]; exact hlt
      obtain ⟨a, ha⟩ : ∃ a, xs[j]? = some a := ⟨_, List.getElem?_eq_getElem hjl⟩
      obtain ⟨g, o, rfl, hg, hc⟩ := HX.out (by omega)
      obtain ⟨hcame, hcc⟩ := hc j a ha
      have cell := fun k v hv => (hbel.cell (p := ⟨g, o + j * 5 + k, none⟩) hg).trans (hcc k v hv)
      have c0 := cell 0 _ rfl
      have c1 := cell 1 _ rfl
      have c2 := cell 2 _ rfl
      have c3 := cell 3 _ rfl
      have c4 := cell 4 _ rfl
      rw [Nat.add_zero] at c0
      have hgl : g < wr.heap.size := Nat.lt_of_lt_of_le hg hbel.size
      have HL := fun y hy => Lib.hid (large_any a y w hy hcame)
      obtain ⟨big, hbig⟩ : ∃ big, largeF a = big := ⟨_, rfl⟩
      rw [hbig] at HL
      unfold Act1.v at HL
      have HBIG := Lib.hid hbig
      have HCAME := Lib.hid hcame
      obtain ⟨L, hL⟩ : ∃ L, a.fs.length = L := ⟨_, rfl⟩
      obtain ⟨K, hK⟩ : ∃ K, a.kind = K := ⟨_, rfl⟩
      rw [hL] at c4 HL
      rw [hK] at c0 HL
      have HLL := Lib.hid hL
      have HK := Lib.hid hK
      have hbx := blk.new wr 38 a.vals
      have HBX : Hid (blk (wr.alloc (.cells #[.int .i64 K, .int .u64 (a.num : Int), .int .u64 (a.now : Int), .int .u64 (a.size : Int), .slice a.fp L a.fcap] 38)) wr.heap.size 38 a.vals) := Lib.hid (by rw [← hL, ← hK]; exact hbx)
      have HM := Lib.hid hM
      have HB := Lib.hid (hbel.alloc hbel.size (.cells #[.int .i64 K, .int .u64 (a.num : Int), .int .u64 (a.now : Int), .int .u64 (a.size : Int), .slice a.fp L a.fcap] 38))
      clear hc ha hjl hcame hcc cell hbig hL hK hbx hM hbel
      go_wp2_with fail
      refine (HL _ HB.out).out.mono ?_
      rintro e w2 ⟨rfl, hb2⟩
      have HB2 := Lib.hid (HB.out.trans (hb2.mono HB.out.size))
      have hX2 := HBX.out.below hb2 HBX.out.lt
      obtain ⟨X, hXe⟩ : ∃ X, wr.heap.size = X := ⟨_, rfl⟩
      have HM2 : Hid (∃ v u s M m, m ≤ j ∧ AckS w b (b + 1) X m a v u s M w2) := Lib.hid (by
        obtain ⟨v, u, s, M, m, h1, h2, h3, h4, h5, h6, h7, h8⟩ := HM.out
        have hbb := ((Below.refl wr.heap.size wr).alloc (Nat.le_refl _) (.cells #[.int .i64 K, .int .u64 (a.num : Int), .int .u64 (a.now : Int), .int .u64 (a.size : Int), .slice a.fp L a.fcap] 38)).trans (hb2.mono (by simp))
        exact ⟨v, u, s, M, m, h5, h1.next hbb, h2.below hbb, h3, h4, by rw [← hXe]; exact hX2, HB2.out, h7, h8⟩)
      rw [hXe] at hX2
      cases big
      · obtain ⟨hfl, hfit⟩ := large_fit HBIG.out HCAME.out
        rw [HLL.out] at hfl
        have HFIT := Lib.hid hfit
        obtain ⟨v, u, s, M, m, hmj, HS⟩ := HM2.out
        have x0 : w2.cell? ⟨X, 0, none⟩ = some (.int .i64 K) := by rw [← HK.out]; exact hX2.cell (k := 0) rfl
        have x1 : w2.cell? ⟨X, 1, none⟩ = some (.int .u64 (a.num : Int)) := hX2.cell (k := 1) rfl
        have x2 : w2.cell? ⟨X, 2, none⟩ = some (.int .u64 (a.now : Int)) := hX2.cell (k := 2) rfl
        have x4 : w2.cell? ⟨X, 4, none⟩ = some (.slice a.fp L a.fcap) := by rw [← HLL.out]; exact hX2.cell (k := 4) rfl
        have hxl := hX2.lt
        have HSS := Lib.hid HS
        clear hb2 HM2 HS hfit HM HB hX2 HL c0 c1 c2 c3 c4
        go_upto_region 11 with (fail)
        go_cut [44] (fun s44 wx => AckM w b (b + 1) X j a v s44 wx)
        case first =>
          by_cases k1 : K = 1
          · subst k1
            have HG := HSS.out.got HCAME.out HFIT.out (by rw [HLL.out]; exact hfl) (by omega)
            rw [HLL.out] at HG
            have HG := Lib.hid HG
            go_wp2_with fail
            refine HG.out.mono ?_
            rintro e w4 ⟨err, rfl, (⟨herr, u4, s4, h4⟩ | ⟨rfl, hbx4, w5, u5, s5, M5, hup, h5⟩)⟩
            · have e1 : (err == 0) = false := by rw [beq_eq_false_iff_ne]; exact herr
              have H4 := Lib.hid h4
              clear herr h4 HG
              go_wp2_with fail
              go_meet
              exact .inl ⟨rfl, _, _, _, _, by omega, H4.out⟩
            · have H5 := Lib.hid (And.intro hbx4 (And.intro hup h5))
              clear hbx4 hup h5 HG
              go_wp2_with fail
              go_meet
              exact .inr ⟨rfl, H5.out.1, _, _, _, _, _, by omega, H5.out.2.1, H5.out.2.2⟩
          · have e1 : (K == 1) = false := by rw [beq_eq_false_iff_ne]; exact k1
            clear k1
            go_wp2_with fail
            go_meet
            exact .inl ⟨rfl, _, _, _, _, by omega, HSS.out⟩
        case rest =>
        have HCUT := Lib.hid hcut
        obtain ⟨cd, hcd⟩ : ∃ cd : Bool, u44 = .bool cd := by
          rcases hcut with ⟨h, _⟩ | ⟨h, _⟩
          · exact ⟨_, h⟩
          · exact ⟨_, h⟩
        subst hcd
        clear hcut x0 x1 x2 x4 HSS hxl
        go_upto_if 44 with (fail)
        go_cut [] (fun wx => ∃ u s M m, m ≤ j + 1 ∧ AckS w b (b + 1) X m a v u s M wx)
        case first =>
          rcases HCUT.out with ⟨h, u4, s4, M4, m4, hm4, h4⟩ | ⟨h, hbx4, w5, u5, s5, M5, m5, hm5, hup, h5⟩
          · injection h with h
            subst h
            have H4 := Lib.hid h4
            clear h4 HCUT
            go_wp2_with fail
            go_meet
            exact ⟨_, _, _, _, hm4, H4.out⟩
          · injection h with h
            subst h
            have y1 : wc.cell? ⟨X, 1, none⟩ = some (.int .u64 (a.num : Int)) := hbx4.cell (k := 1) rfl
            have hxl4 := hbx4.lt
            have H5 := Lib.hid h5
            clear hbx4 h5 HCUT
            go_wp2_with fail
            go_meet
            exact ⟨_, _, _, _, hm5, H5.out⟩
        case rest =>
          clear HCUT
          obtain ⟨u3, s3, M3, m3, hm3, h3⟩ := hcut
          have x2 : wc.cell? ⟨X, 2, none⟩ = some (.int .u64 (a.now : Int)) := h3.box.cell (k := 2) rfl
          have hxl := h3.box.lt
          have HA := Lib.hid (h3.ack HCAME.out.n2)
          clear h3
          go_wp2_with fail
          refine HA.out.mono ?_
          rintro e w6 (⟨h0, rfl, h6⟩ | ⟨h0, t, p, n, c, s6, rfl, h6, hmu, hxl6, hn6, hp6⟩)
          · have HA7 := h6.next ((Below.refl _ _).alloc (Nat.le_refl _) (.cells #[.int .u64 0, .int .u64 0, .int .u64 0, .int .u64 0, .bool false, .string ⟨#[]⟩, .string ⟨#[]⟩, .slice none 0 0] 43))
            have hlen := HA7.map.len 3
            subst h0
            have H7 := Lib.hid HA7
            clear h6 HA7 x2 hxl HA
            go_wp2_with fail
            go_roundw
            case rel => exact ⟨j + 1, by omega, by omega, by go_num, _, _, _, _, _, H7.out.sp, H7.out.map, H7.out.cov, H7.out.cnt, by omega, H7.out.bel, H7.out.la.1, H7.out.la.2⟩
            case measure => simp [intOf]; omega
          · have hT : AckT w b (b + 1) X m3 w6.heap.size t n a p c v u3 s6 M3 (w6.alloc (.cells #[.int .u64 2, .int .u64 (t : Int), .int .u64 0, .int .u64 0, .bool false, .string ⟨#[]⟩, .string ⟨#[]⟩, .slice p n c] 43)) := by
              obtain ⟨Bx, hx⟩ := hxl6
              have hb := (Below.refl w6.heap.size w6).alloc (Nat.le_refl _) (.cells #[.int .u64 2, .int .u64 (t : Int), .int .u64 0, .int .u64 0, .bool false, .string ⟨#[]⟩, .string ⟨#[]⟩, .slice p n c] 43)
              exact ⟨h6.next hb, hmu, ⟨Bx, own_below hx hb⟩, hn6, hp6, blk.new _ _ _⟩
            have hlen := hT.st.map.len 3
            have hgt : decide ((0 : Int) < (m3 : Int)) = true := by rw [decide_eq_true_iff]; omega
            obtain ⟨F, hF⟩ : ∃ F, w6.heap.size = F := ⟨_, rfl⟩
            rw [hF] at hT
            have f7 := hT.box.cell (k := 7) rfl
            have hFl := hT.box.lt
            have hnp := hT.npos
            have HT := Lib.hid hT
            clear h6 hmu hxl6 hn6 hp6 hT x2 hxl HA
            go_wp2_with fail
            have hm100 : m3 ≤ 100 := by omega
            go_loopw [9, 11, 12, 64] (fun acc _ _ i y => ∃ k : Nat, k ≤ n ∧ i = .int .i64 k ∧ acc = .int .u64 (countR ((s6.R.take n).take k) : Int) ∧ AckT w b (b + 1) X m3 F t n a p c v u3 s6 M3 y) (fun _ _ _ i _ => n - (intOf i).toNat)
            case atStart => exact ⟨0, by omega, rfl, rfl, HT.out⟩
            case round =>
              obtain ⟨k, hk, rfl, rfl, hT⟩ := hrel
              clear f7 hlen hgt
              by_cases hkn : k < n
              · obtain ⟨gl, ⟨r1, r2⟩, rfl, hgl2, hr, d0, d1, hr1, hr2, hrm, hMx⟩ := hT.range hkn
                simp only at d0 d1 hr1 hr2 hrm hMx
                have hct := count_take _ k _ hr
                simp only at hct
                have hpart := hT.part k
                obtain ⟨acc, hacc⟩ : ∃ acc, countR ((s6.R.take n).take k) = acc := ⟨_, rfl⟩
                obtain ⟨d, hd⟩ : ∃ d, r2 - r1 = d := ⟨_, rfl⟩
                rw [hacc] at hct hpart ⊢
                rw [hd] at hct hrm
                have e1 : IntKind.u64.wrap ((r2 : Int) - (r1 : Int)) = (d : Int) := by rw [← hd]; exact u64_sub r2 r1 hr1 (by omega)
                have e1b : (r2 : Int) - (r1 : Int) = (d : Int) := by omega
                have e2 : ¬ (100 : Int) ≤ (d : Int) := by omega
                have HTA := Lib.hid (hT.next ((Below.refl wr.heap.size wr).alloc (Nat.le_refl _) (.cells #[.int .u64 (r1 : Int), .int .u64 (r2 : Int)] 47)))
                have HLK : Hid (∀ x, r1 ≤ x → x ≤ r2 → (Instr.lookup 35 (.map (some (b + 1))) (.int .u64 (x : Int)) false).run Try.prog (wr.alloc (.cells #[.int .u64 (r1 : Int), .int .u64 (r2 : Int)] 47)) = .ok (.bool true) (wr.alloc (.cells #[.int .u64 (r1 : Int), .int .u64 (r2 : Int)] 47))) := Lib.hid (fun x h1 h2 => by
                  have := HTA.out.st.map.bmap.look (x := x) (by omega)
                  rw [hMx x h1 h2] at this
                  exact this)
                have HCT := Lib.hid hct
                have hd100 : d ≤ 100 := by omega
                have hacc100 : acc ≤ 100 := by omega
                clear hT hr hMx hct hpart hacc hd hrm
                go_wp2_with fail
                clear e1 e1b e2 d0 d1
                go_loop [12] (fun vv => ∃ x : Nat, r1 ≤ x ∧ x ≤ r2 + 1 ∧ vv = .int .u64 x) (fun vv => r2 + 1 - (intOf vv).toNat)
                case atStart => exact ⟨r1, by omega, by omega, rfl⟩
                case round =>
                  obtain ⟨x, hx1, hx2, rfl⟩ := hrel
                  by_cases hx : x ≤ r2
                  · have hlk := HLK.out x hx1 hx
                    have hxi : (x : Int) ≤ (r2 : Int) := by omega
                    go_wp2_with fail
                    go_round
                    case rel => exact ⟨x + 1, by omega, by omega, by go_num⟩
                    case measure => simp [intOf]; omega
                  · have hxi : ¬ (x : Int) ≤ (r2 : Int) := by omega
                    go_wp2_with fail
                    go_roundw
                    case rel => exact ⟨k + 1, by omega, by go_num, by rw [HCT.out]; congr 1 <;> omega, HTA.out⟩
                    case measure => simp [intOf]; omega
              · obtain rfl : k = n := by omega
                obtain ⟨q, hq, ⟨lq, hhd⟩, hLa⟩ := hT.largest
                obtain ⟨gl, r0, rfl, -⟩ := hT.range (k := 0) hnp.1
                have HLA := Lib.hid hLa
                have HHD := Lib.hid hhd
                have HA9 := Lib.hid (AckH.cells ⟨hT.next ((Below.refl _ _).drew)⟩ hhd)
                have w1q : IntKind.u64.wrap (q : Int) = (q : Int) := by rw [IntKind.wrap_u64]; omega
                have w1m : IntKind.u64.wrap (m3 : Int) = (m3 : Int) := by rw [IntKind.wrap_u64]; omega
                have hk0 : (0 : Int) < (k : Int) := by omega
                have HFIN : Hid (∀ y, AckH w b (b + 1) X m3 F t k a gl c v u3 s6 M3 y → AckW w b (b + 1) (j + 1) y) := Lib.hid (fun y hy => ⟨_, _, _, _, _, hy.t.st.sp, hy.t.st.map, hy.t.st.cov, hy.t.st.cnt, by omega, hy.t.st.bel, hy.t.st.la.1, hy.t.st.la.2⟩)
                by_cases hn32 : k < 32
                · have hall := hT.all hn32
                  rw [← List.take_of_length_le (l := s6.R.take k) (i := k) (by rw [hT.len]; exact Nat.le_refl _)] at hall
                  rw [hall]
                  have h32 : (k : Int) < 32 := by omega
                  clear hT hall hhd hLa HT
                  go_wp2_with fail
                  refine wp_region_held_drew (S := (fun w' => (w'.cell? ⟨F, 7, none⟩ = some (.slice (some ⟨gl, 0, none⟩) k c) ∧ w'.cell? ⟨F, 0, none⟩ = some (.int .u64 2) ∧ w'.cell? ⟨gl, 1, none⟩ = some (.int .u64 (q : Int))) ∧ (Builtin.len_ #[35] 3 #[.map (some (b + 1))]).run Try.prog w' = .ok (.int .i64 (m3 : Int)) w' ∧ AckH w b (b + 1) X m3 F t k a gl c v u3 s6 M3 w')) (by as_aux_lemma => kernel_rfl) (HA9.out) (fun hHeld => ?_)
                  refine wpAnyH_takeD (i := 0) (v := ?_) (some 95) rfl rfl (by as_aux_lemma => kernel_rfl) (by as_aux_lemma => kernel_rfl) (by as_aux_lemma => kernel_rfl) (fun _ _ _ h => h) (Or.inl ⟨by as_aux_lemma => kernel_rfl, ?_⟩) (by assumption) ?_
                  rotate_left
                  · (intro w hSw; (try dsimp only at hSw); go_simp); all_goals with_reducible rfl
                  try simp only [Act.put, List.setIfInBounds_toArray, List.set_cons_zero, List.set_cons_succ]
                  refine wpAnyH_takeD (i := 1) (v := ?_) (some 96) rfl rfl (by as_aux_lemma => kernel_rfl) (by as_aux_lemma => kernel_rfl) (by as_aux_lemma => kernel_rfl) (fun _ _ _ h => h) (Or.inl ⟨by as_aux_lemma => kernel_rfl, ?_⟩) (by assumption) ?_
                  rotate_left
                  · (intro w hSw; (try dsimp only at hSw); go_simp); all_goals with_reducible rfl
                  try simp only [Act.put, List.setIfInBounds_toArray, List.set_cons_zero, List.set_cons_succ]
                  refine wpAnyH_takeD (i := 2) (v := ?_) (some 97) rfl rfl (by as_aux_lemma => kernel_rfl) (by as_aux_lemma => kernel_rfl) (by as_aux_lemma => kernel_rfl) (fun _ _ _ h => h) (Or.inl ⟨by as_aux_lemma => kernel_rfl, ?_⟩) (by assumption) ?_
                  rotate_left
                  · (intro w hSw; (try dsimp only at hSw); go_simp); all_goals with_reducible rfl
                  try simp only [Act.put, List.setIfInBounds_toArray, List.set_cons_zero, List.set_cons_succ]
                  refine wpAnyH_takeD (i := 3) (v := ?_) (some 98) rfl rfl (by as_aux_lemma => kernel_rfl) (by as_aux_lemma => kernel_rfl) (by as_aux_lemma => kernel_rfl) (fun _ _ _ h => h) (Or.inl ⟨by as_aux_lemma => kernel_rfl, ?_⟩) (by assumption) ?_
                  rotate_left
                  · (intro w hSw; (try dsimp only at hSw); go_simp); all_goals with_reducible rfl
                  try simp only [Act.put, List.setIfInBounds_toArray, List.set_cons_zero, List.set_cons_succ]
                  refine wpAnyH_takeD (i := 4) (v := ?_) (some 99) rfl rfl (by as_aux_lemma => kernel_rfl) (by as_aux_lemma => kernel_rfl) (by as_aux_lemma => kernel_rfl) (fun _ _ _ h => h) (Or.inl ⟨by as_aux_lemma => kernel_rfl, ?_⟩) (by assumption) ?_
                  rotate_left
                  · (intro w hSw; (try dsimp only at hSw); go_simp); all_goals with_reducible rfl
                  try simp only [Act.put, List.setIfInBounds_toArray, List.set_cons_zero, List.set_cons_succ]
                  refine wpAnyH_takeD (i := 5) (v := ?_) (some 100) rfl rfl (by as_aux_lemma => kernel_rfl) (by as_aux_lemma => kernel_rfl) (by as_aux_lemma => kernel_rfl) (fun _ _ _ h => h) (Or.inl ⟨by as_aux_lemma => kernel_rfl, ?_⟩) (by assumption) ?_
                  rotate_left
                  · (intro w hSw; (try dsimp only at hSw); go_simp); all_goals with_reducible rfl
                  try simp only [Act.put, List.setIfInBounds_toArray, List.set_cons_zero, List.set_cons_succ]
                  refine wpAnyH_takeD (i := 6) (v := ?_) (some 101) rfl rfl (by as_aux_lemma => kernel_rfl) (by as_aux_lemma => kernel_rfl) (by as_aux_lemma => kernel_rfl) (fun _ _ _ h => h) (Or.inl ⟨by as_aux_lemma => kernel_rfl, ?_⟩) (by assumption) ?_
                  rotate_left
                  · (intro w hSw; (try dsimp only at hSw); go_simp); all_goals with_reducible rfl
                  try simp only [Act.put, List.setIfInBounds_toArray, List.set_cons_zero, List.set_cons_succ]
                  refine wpAnyH_takeD (i := 7) (v := ?_) (some 102) rfl rfl (by as_aux_lemma => kernel_rfl) (by as_aux_lemma => kernel_rfl) (by as_aux_lemma => kernel_rfl) (fun _ _ _ h => h) (Or.inl ⟨by as_aux_lemma => kernel_rfl, ?_⟩) (by assumption) ?_
                  rotate_left
                  · (intro w hSw; (try dsimp only at hSw); go_simp); all_goals with_reducible rfl
                  try simp only [Act.put, List.setIfInBounds_toArray, List.set_cons_zero, List.set_cons_succ]
                  refine wpAnyH_takeD (i := 8) (v := ?_) (some 103) rfl rfl (by as_aux_lemma => kernel_rfl) (by as_aux_lemma => kernel_rfl) (by as_aux_lemma => kernel_rfl) (fun _ _ _ h => h) (Or.inl ⟨by as_aux_lemma => kernel_rfl, ?_⟩) (by assumption) ?_
                  rotate_left
                  · (intro w hSw; (try dsimp only at hSw); go_simp); all_goals with_reducible rfl
                  try simp only [Act.put, List.setIfInBounds_toArray, List.set_cons_zero, List.set_cons_succ]
                  refine wpAnyH_takeD (i := 9) (v := ?_) (some 104) rfl rfl (by as_aux_lemma => kernel_rfl) (by as_aux_lemma => kernel_rfl) (by as_aux_lemma => kernel_rfl) (fun _ _ _ h => h) (Or.inl ⟨by as_aux_lemma => kernel_rfl, ?_⟩) (by assumption) ?_
                  rotate_left
                  · (intro w hSw; (try dsimp only at hSw); go_simp); all_goals with_reducible rfl
                  try simp only [Act.put, List.setIfInBounds_toArray, List.set_cons_zero, List.set_cons_succ]
                  refine wpAnyH_takeD (i := 10) (v := ?_) (some 105) rfl rfl (by as_aux_lemma => kernel_rfl) (by as_aux_lemma => kernel_rfl) (by as_aux_lemma => kernel_rfl) (fun _ _ _ h => h) (Or.inl ⟨by as_aux_lemma => kernel_rfl, ?_⟩) (by assumption) ?_
                  rotate_left
                  · (intro w hSw; (try dsimp only at hSw); go_simp); all_goals with_reducible rfl
                  try simp only [Act.put, List.setIfInBounds_toArray, List.set_cons_zero, List.set_cons_succ]
                  refine wpAnyH_takeD (i := 11) (v := ?_) (some 106) rfl rfl (by as_aux_lemma => kernel_rfl) (by as_aux_lemma => kernel_rfl) (by as_aux_lemma => kernel_rfl) (fun _ _ _ h => h) (Or.inl ⟨by as_aux_lemma => kernel_rfl, ?_⟩) (by assumption) ?_
                  rotate_left
                  · (intro w hSw; (try dsimp only at hSw); go_simp); all_goals with_reducible rfl
                  try simp only [Act.put, List.setIfInBounds_toArray, List.set_cons_zero, List.set_cons_succ]
                  refine wpAnyH_takeD (i := 12) (v := ?_) (some 107) rfl rfl (by as_aux_lemma => kernel_rfl) (by as_aux_lemma => kernel_rfl) (by as_aux_lemma => kernel_rfl) (fun _ _ _ h => h) (Or.inl ⟨by as_aux_lemma => kernel_rfl, ?_⟩) (by assumption) ?_
                  rotate_left
                  · (intro w hSw; (try dsimp only at hSw); go_simp); all_goals with_reducible rfl
                  try simp only [Act.put, List.setIfInBounds_toArray, List.set_cons_zero, List.set_cons_succ]
                  refine wpAnyH_takeD (i := 13) (v := ?_) (some 108) rfl rfl (by as_aux_lemma => kernel_rfl) (by as_aux_lemma => kernel_rfl) (by as_aux_lemma => kernel_rfl) (fun _ _ _ h => h) (Or.inl ⟨by as_aux_lemma => kernel_rfl, ?_⟩) (by assumption) ?_
                  rotate_left
                  · (intro w hSw; (try dsimp only at hSw); go_simp); all_goals with_reducible rfl
                  try simp only [Act.put, List.setIfInBounds_toArray, List.set_cons_zero, List.set_cons_succ]
                  refine wpAnyH_takeD (i := 14) (v := ?_) (some 109) rfl rfl (by as_aux_lemma => kernel_rfl) (by as_aux_lemma => kernel_rfl) (by as_aux_lemma => kernel_rfl) (fun _ _ _ h => h) (Or.inl ⟨by as_aux_lemma => kernel_rfl, ?_⟩) (by assumption) ?_
                  rotate_left
                  · (intro w hSw; (try dsimp only at hSw); go_simp); all_goals with_reducible rfl
                  try simp only [Act.put, List.setIfInBounds_toArray, List.set_cons_zero, List.set_cons_succ]
                  refine wpAnyH_takeD (i := 15) (v := ?_) (some 110) rfl rfl (by as_aux_lemma => kernel_rfl) (by as_aux_lemma => kernel_rfl) (by as_aux_lemma => kernel_rfl) (fun _ _ _ h => h) (Or.inl ⟨by as_aux_lemma => kernel_rfl, ?_⟩) (by assumption) ?_
                  rotate_left
                  · (intro w hSw; (try dsimp only at hSw); go_simp); all_goals with_reducible rfl
                  try simp only [Act.put, List.setIfInBounds_toArray, List.set_cons_zero, List.set_cons_succ]
                  refine wpAnyH_takeD (i := 16) (v := ?_) (some 111) rfl rfl (by as_aux_lemma => kernel_rfl) (by as_aux_lemma => kernel_rfl) (by as_aux_lemma => kernel_rfl) (fun _ _ _ h => h) (Or.inl ⟨by as_aux_lemma => kernel_rfl, ?_⟩) (by assumption) ?_
                  rotate_left
                  · (intro w hSw; (try dsimp only at hSw); go_simp); all_goals with_reducible rfl
                  try simp only [Act.put, List.setIfInBounds_toArray, List.set_cons_zero, List.set_cons_succ]
                  refine wpAnyH_ready (rs := [17]) (by as_aux_lemma => kernel_rfl) (by simp) ?_
                  refine AllReadyH.cons rfl (fun K hK => ?_) AllReadyH.nil
                  go_simp
                  go_wp2_with (go_at_call 13; refine (HLA.out _ hHeld.2.2.t).mono ?_; rintro e y1 ⟨rfl, b1⟩)
                  refine hK.out _ _ ((hHeld.2.2.next b1).cells HHD.out) (fun hHeld => ?_)
                  clear hK K
                  refine wpAnyH_takeD (i := 18) (v := ?_) (some 113) rfl rfl (by as_aux_lemma => kernel_rfl) (by as_aux_lemma => kernel_rfl) (by as_aux_lemma => kernel_rfl) (fun _ _ _ h => h) (Or.inl ⟨by as_aux_lemma => kernel_rfl, ?_⟩) (by assumption) ?_
                  rotate_left
                  · (intro w hSw; (try dsimp only at hSw); go_simp); all_goals with_reducible rfl
                  try simp only [Act.put, List.setIfInBounds_toArray, List.set_cons_zero, List.set_cons_succ]
                  refine wpAnyH_takeD (i := 19) (v := ?_) (some 114) rfl rfl (by as_aux_lemma => kernel_rfl) (by as_aux_lemma => kernel_rfl) (by as_aux_lemma => kernel_rfl) (fun _ _ _ h => h) (Or.inl ⟨by as_aux_lemma => kernel_rfl, ?_⟩) (by assumption) ?_
                  rotate_left
                  · (intro w hSw; (try dsimp only at hSw); go_simp); all_goals with_reducible rfl
                  try simp only [Act.put, List.setIfInBounds_toArray, List.set_cons_zero, List.set_cons_succ]
                  refine wpAnyH_takeD (i := 20) (v := ?_) (some 115) rfl rfl (by as_aux_lemma => kernel_rfl) (by as_aux_lemma => kernel_rfl) (by as_aux_lemma => kernel_rfl) (fun _ _ _ h => h) (Or.inl ⟨by as_aux_lemma => kernel_rfl, ?_⟩) (by assumption) ?_
                  rotate_left
                  · (intro w hSw; (try dsimp only at hSw); go_simp); all_goals with_reducible rfl
                  try simp only [Act.put, List.setIfInBounds_toArray, List.set_cons_zero, List.set_cons_succ]
                  refine wpAnyH_takeD (i := 21) (v := ?_) (some 116) rfl rfl (by as_aux_lemma => kernel_rfl) (by as_aux_lemma => kernel_rfl) (by as_aux_lemma => kernel_rfl) (fun _ _ _ h => h) (Or.inl ⟨by as_aux_lemma => kernel_rfl, ?_⟩) (by assumption) ?_
                  rotate_left
                  · (intro w hSw; (try dsimp only at hSw); go_simp); all_goals with_reducible rfl
                  try simp only [Act.put, List.setIfInBounds_toArray, List.set_cons_zero, List.set_cons_succ]
                  refine wpAnyH_takeD (i := 22) (v := ?_) (some 117) rfl rfl (by as_aux_lemma => kernel_rfl) (by as_aux_lemma => kernel_rfl) (by as_aux_lemma => kernel_rfl) (fun _ _ _ h => h) (Or.inl ⟨by as_aux_lemma => kernel_rfl, ?_⟩) (by assumption) ?_
                  rotate_left
                  · (intro w hSw; (try dsimp only at hSw); go_simp); all_goals with_reducible rfl
                  try simp only [Act.put, List.setIfInBounds_toArray, List.set_cons_zero, List.set_cons_succ]
                  refine wpAnyH_takeD (i := 23) (v := ?_) (some 118) rfl rfl (by as_aux_lemma => kernel_rfl) (by as_aux_lemma => kernel_rfl) (by as_aux_lemma => kernel_rfl) (fun _ _ _ h => h) (Or.inl ⟨by as_aux_lemma => kernel_rfl, ?_⟩) (by assumption) ?_
                  rotate_left
                  · (intro w hSw; (try dsimp only at hSw); go_simp); all_goals with_reducible rfl
                  try simp only [Act.put, List.setIfInBounds_toArray, List.set_cons_zero, List.set_cons_succ]
                  refine wpAnyH_takeD (i := 24) (v := ?_) (some 119) rfl rfl (by as_aux_lemma => kernel_rfl) (by as_aux_lemma => kernel_rfl) (by as_aux_lemma => kernel_rfl) (fun _ _ _ h => h) (Or.inl ⟨by as_aux_lemma => kernel_rfl, ?_⟩) (by assumption) ?_
                  rotate_left
                  · (intro w hSw; (try dsimp only at hSw); go_simp); all_goals with_reducible rfl
                  try simp only [Act.put, List.setIfInBounds_toArray, List.set_cons_zero, List.set_cons_succ]
                  refine wpAnyH_takeD (i := 25) (v := ?_) (some 120) rfl rfl (by as_aux_lemma => kernel_rfl) (by as_aux_lemma => kernel_rfl) (by as_aux_lemma => kernel_rfl) (fun _ _ _ h => h) (Or.inl ⟨by as_aux_lemma => kernel_rfl, ?_⟩) (by assumption) ?_
                  rotate_left
                  · (intro w hSw; (try dsimp only at hSw); go_simp); all_goals with_reducible rfl
                  try simp only [Act.put, List.setIfInBounds_toArray, List.set_cons_zero, List.set_cons_succ]
                  refine wpAnyH_takeD (i := 26) (v := ?_) (some 121) rfl rfl (by as_aux_lemma => kernel_rfl) (by as_aux_lemma => kernel_rfl) (by as_aux_lemma => kernel_rfl) (fun _ _ _ h => h) (Or.inl ⟨by as_aux_lemma => kernel_rfl, ?_⟩) (by assumption) ?_
                  rotate_left
                  · (intro w hSw; (try dsimp only at hSw); go_simp); all_goals with_reducible rfl
                  try simp only [Act.put, List.setIfInBounds_toArray, List.set_cons_zero, List.set_cons_succ]
                  refine wpAnyH_ready (rs := [27]) (by as_aux_lemma => kernel_rfl) (by simp) ?_
                  refine AllReadyH.cons rfl (fun K hK => ?_) AllReadyH.nil
                  go_simp
                  go_wp2_with (go_at_call 14; refine (hHeld.2.2.t.may).mono ?_; rintro e y2 ⟨rfl, b2⟩)
                  refine hK.out _ _ ((hHeld.2.2.next b2).cells HHD.out) (fun hHeld => ?_)
                  clear hK K
                  refine wpAnyH_takeD (i := 28) (v := ?_) (some 123) rfl rfl (by as_aux_lemma => kernel_rfl) (by as_aux_lemma => kernel_rfl) (by as_aux_lemma => kernel_rfl) (fun _ _ _ h => h) (Or.inl ⟨by as_aux_lemma => kernel_rfl, ?_⟩) (by assumption) ?_
                  rotate_left
                  · (intro w hSw; (try dsimp only at hSw); go_simp); all_goals with_reducible rfl
                  try simp only [Act.put, List.setIfInBounds_toArray, List.set_cons_zero, List.set_cons_succ]
                  refine wpAnyH_takeD (i := 29) (v := ?_) (some 124) rfl rfl (by as_aux_lemma => kernel_rfl) (by as_aux_lemma => kernel_rfl) (by as_aux_lemma => kernel_rfl) (fun _ _ _ h => h) (Or.inl ⟨by as_aux_lemma => kernel_rfl, ?_⟩) (by assumption) ?_
                  rotate_left
                  · (intro w hSw; (try dsimp only at hSw); go_simp); all_goals with_reducible rfl
                  try simp only [Act.put, List.setIfInBounds_toArray, List.set_cons_zero, List.set_cons_succ]
                  refine wpAnyH_takeD (i := 30) (v := ?_) (some 125) rfl rfl (by as_aux_lemma => kernel_rfl) (by as_aux_lemma => kernel_rfl) (by as_aux_lemma => kernel_rfl) (fun _ _ _ h => h) (Or.inl ⟨by as_aux_lemma => kernel_rfl, ?_⟩) (by assumption) ?_
                  rotate_left
                  · (intro w hSw; (try dsimp only at hSw); go_simp); all_goals with_reducible rfl
                  try simp only [Act.put, List.setIfInBounds_toArray, List.set_cons_zero, List.set_cons_succ]
                  refine wpAnyH_ready (rs := [31]) (by as_aux_lemma => kernel_rfl) (by simp) ?_
                  refine AllReadyH.cons rfl (fun K hK => ?_) AllReadyH.nil
                  go_simp
                  go_wp2_with (go_at_call 15; refine (hHeld.2.2.t.mustc).mono ?_; rintro e y3 ⟨rfl, b3⟩)
                  refine hK.out _ _ (b3 ▸ hHeld) (fun hHeld => ?_)
                  clear hK K
                  refine wpAnyH_takeD (i := 32) (v := ?_) (some 127) rfl rfl (by as_aux_lemma => kernel_rfl) (by as_aux_lemma => kernel_rfl) (by as_aux_lemma => kernel_rfl) (fun _ _ _ h => h) (Or.inl ⟨by as_aux_lemma => kernel_rfl, ?_⟩) (by assumption) ?_
                  rotate_left
                  · (intro w hSw; (try dsimp only at hSw); go_simp); all_goals with_reducible rfl
                  try simp only [Act.put, List.setIfInBounds_toArray, List.set_cons_zero, List.set_cons_succ]
                  refine wpAnyH_done (by as_aux_lemma => kernel_rfl) ?_ _
                  go_wp2_with fail
                  go_roundw
                  case rel => exact ⟨j + 1, by omega, by omega, by go_num, HFIN.out _ hHeld.2.2⟩
                  case measure => simp [intOf]; omega
                · have h32 : ¬ (k : Int) < 32 := by omega
                  have h32b : decide ((k : Int) < 32) = false := by rw [decide_eq_false_iff_not]; exact h32
                  clear hT hhd hLa HT
                  go_wp2_with fail
                  refine wp_region_held_drew (S := (fun w' => (w'.cell? ⟨F, 7, none⟩ = some (.slice (some ⟨gl, 0, none⟩) k c) ∧ w'.cell? ⟨F, 0, none⟩ = some (.int .u64 2) ∧ w'.cell? ⟨gl, 1, none⟩ = some (.int .u64 (q : Int))) ∧ (Builtin.len_ #[35] 3 #[.map (some (b + 1))]).run Try.prog w' = .ok (.int .i64 (m3 : Int)) w' ∧ AckH w b (b + 1) X m3 F t k a gl c v u3 s6 M3 w')) (by as_aux_lemma => kernel_rfl) (HA9.out) (fun hHeld => ?_)
                  refine wpAnyH_takeD (i := 0) (v := ?_) (some 95) rfl rfl (by as_aux_lemma => kernel_rfl) (by as_aux_lemma => kernel_rfl) (by as_aux_lemma => kernel_rfl) (fun _ _ _ h => h) (Or.inl ⟨by as_aux_lemma => kernel_rfl, ?_⟩) (by assumption) ?_
                  rotate_left
                  · (intro w hSw; (try dsimp only at hSw); go_simp); all_goals with_reducible rfl
                  try simp only [Act.put, List.setIfInBounds_toArray, List.set_cons_zero, List.set_cons_succ]
                  refine wpAnyH_takeD (i := 1) (v := ?_) (some 96) rfl rfl (by as_aux_lemma => kernel_rfl) (by as_aux_lemma => kernel_rfl) (by as_aux_lemma => kernel_rfl) (fun _ _ _ h => h) (Or.inl ⟨by as_aux_lemma => kernel_rfl, ?_⟩) (by assumption) ?_
                  rotate_left
                  · (intro w hSw; (try dsimp only at hSw); go_simp); all_goals with_reducible rfl
                  try simp only [Act.put, List.setIfInBounds_toArray, List.set_cons_zero, List.set_cons_succ]
                  refine wpAnyH_takeD (i := 2) (v := ?_) (some 97) rfl rfl (by as_aux_lemma => kernel_rfl) (by as_aux_lemma => kernel_rfl) (by as_aux_lemma => kernel_rfl) (fun _ _ _ h => h) (Or.inl ⟨by as_aux_lemma => kernel_rfl, ?_⟩) (by assumption) ?_
                  rotate_left
                  · (intro w hSw; (try dsimp only at hSw); go_simp); all_goals with_reducible rfl
                  try simp only [Act.put, List.setIfInBounds_toArray, List.set_cons_zero, List.set_cons_succ]
                  refine wpAnyH_takeD (i := 3) (v := ?_) (some 98) rfl rfl (by as_aux_lemma => kernel_rfl) (by as_aux_lemma => kernel_rfl) (by as_aux_lemma => kernel_rfl) (fun _ _ _ h => h) (Or.inl ⟨by as_aux_lemma => kernel_rfl, ?_⟩) (by assumption) ?_
                  rotate_left
                  · (intro w hSw; (try dsimp only at hSw); go_simp); all_goals with_reducible rfl
                  try simp only [Act.put, List.setIfInBounds_toArray, List.set_cons_zero, List.set_cons_succ]
                  refine wpAnyH_takeD (i := 4) (v := ?_) (some 99) rfl rfl (by as_aux_lemma => kernel_rfl) (by as_aux_lemma => kernel_rfl) (by as_aux_lemma => kernel_rfl) (fun _ _ _ h => h) (Or.inl ⟨by as_aux_lemma => kernel_rfl, ?_⟩) (by assumption) ?_
                  rotate_left
                  · (intro w hSw; (try dsimp only at hSw); go_simp); all_goals with_reducible rfl
                  try simp only [Act.put, List.setIfInBounds_toArray, List.set_cons_zero, List.set_cons_succ]
                  refine wpAnyH_takeD (i := 5) (v := undef) (some 100) rfl rfl (by as_aux_lemma => kernel_rfl) (by as_aux_lemma => kernel_rfl) (by as_aux_lemma => kernel_rfl) (fun _ _ _ h => h) (Or.inr ⟨by as_aux_lemma => kernel_rfl, rfl⟩) (by assumption) ?_
                  try simp only [Act.put, List.setIfInBounds_toArray, List.set_cons_zero, List.set_cons_succ]
                  refine wpAnyH_takeD (i := 6) (v := undef) (some 101) rfl rfl (by as_aux_lemma => kernel_rfl) (by as_aux_lemma => kernel_rfl) (by as_aux_lemma => kernel_rfl) (fun _ _ _ h => h) (Or.inr ⟨by as_aux_lemma => kernel_rfl, rfl⟩) (by assumption) ?_
                  try simp only [Act.put, List.setIfInBounds_toArray, List.set_cons_zero, List.set_cons_succ]
                  refine wpAnyH_takeD (i := 7) (v := undef) (some 102) rfl rfl (by as_aux_lemma => kernel_rfl) (by as_aux_lemma => kernel_rfl) (by as_aux_lemma => kernel_rfl) (fun _ _ _ h => h) (Or.inr ⟨by as_aux_lemma => kernel_rfl, rfl⟩) (by assumption) ?_
                  try simp only [Act.put, List.setIfInBounds_toArray, List.set_cons_zero, List.set_cons_succ]
                  refine wpAnyH_takeD (i := 8) (v := undef) (some 103) rfl rfl (by as_aux_lemma => kernel_rfl) (by as_aux_lemma => kernel_rfl) (by as_aux_lemma => kernel_rfl) (fun _ _ _ h => h) (Or.inr ⟨by as_aux_lemma => kernel_rfl, rfl⟩) (by assumption) ?_
                  try simp only [Act.put, List.setIfInBounds_toArray, List.set_cons_zero, List.set_cons_succ]
                  refine wpAnyH_takeD (i := 9) (v := undef) (some 104) rfl rfl (by as_aux_lemma => kernel_rfl) (by as_aux_lemma => kernel_rfl) (by as_aux_lemma => kernel_rfl) (fun _ _ _ h => h) (Or.inr ⟨by as_aux_lemma => kernel_rfl, rfl⟩) (by assumption) ?_
                  try simp only [Act.put, List.setIfInBounds_toArray, List.set_cons_zero, List.set_cons_succ]
                  refine wpAnyH_takeD (i := 10) (v := ?_) (some 105) rfl rfl (by as_aux_lemma => kernel_rfl) (by as_aux_lemma => kernel_rfl) (by as_aux_lemma => kernel_rfl) (fun _ _ _ h => h) (Or.inl ⟨by as_aux_lemma => kernel_rfl, ?_⟩) (by assumption) ?_
                  rotate_left
                  · (intro w hSw; (try dsimp only at hSw); go_simp); all_goals with_reducible rfl
                  try simp only [Act.put, List.setIfInBounds_toArray, List.set_cons_zero, List.set_cons_succ]
                  refine wpAnyH_takeD (i := 11) (v := ?_) (some 106) rfl rfl (by as_aux_lemma => kernel_rfl) (by as_aux_lemma => kernel_rfl) (by as_aux_lemma => kernel_rfl) (fun _ _ _ h => h) (Or.inl ⟨by as_aux_lemma => kernel_rfl, ?_⟩) (by assumption) ?_
                  rotate_left
                  · (intro w hSw; (try dsimp only at hSw); go_simp); all_goals with_reducible rfl
                  try simp only [Act.put, List.setIfInBounds_toArray, List.set_cons_zero, List.set_cons_succ]
                  refine wpAnyH_takeD (i := 12) (v := ?_) (some 107) rfl rfl (by as_aux_lemma => kernel_rfl) (by as_aux_lemma => kernel_rfl) (by as_aux_lemma => kernel_rfl) (fun _ _ _ h => h) (Or.inl ⟨by as_aux_lemma => kernel_rfl, ?_⟩) (by assumption) ?_
                  rotate_left
                  · (intro w hSw; (try dsimp only at hSw); go_simp); all_goals with_reducible rfl
                  try simp only [Act.put, List.setIfInBounds_toArray, List.set_cons_zero, List.set_cons_succ]
                  refine wpAnyH_takeD (i := 13) (v := ?_) (some 108) rfl rfl (by as_aux_lemma => kernel_rfl) (by as_aux_lemma => kernel_rfl) (by as_aux_lemma => kernel_rfl) (fun _ _ _ h => h) (Or.inl ⟨by as_aux_lemma => kernel_rfl, ?_⟩) (by assumption) ?_
                  rotate_left
                  · (intro w hSw; (try dsimp only at hSw); go_simp); all_goals with_reducible rfl
                  try simp only [Act.put, List.setIfInBounds_toArray, List.set_cons_zero, List.set_cons_succ]
                  refine wpAnyH_takeD (i := 14) (v := ?_) (some 109) rfl rfl (by as_aux_lemma => kernel_rfl) (by as_aux_lemma => kernel_rfl) (by as_aux_lemma => kernel_rfl) (fun _ _ _ h => h) (Or.inl ⟨by as_aux_lemma => kernel_rfl, ?_⟩) (by assumption) ?_
                  rotate_left
                  · (intro w hSw; (try dsimp only at hSw); go_simp); all_goals with_reducible rfl
                  try simp only [Act.put, List.setIfInBounds_toArray, List.set_cons_zero, List.set_cons_succ]
                  refine wpAnyH_takeD (i := 15) (v := ?_) (some 110) rfl rfl (by as_aux_lemma => kernel_rfl) (by as_aux_lemma => kernel_rfl) (by as_aux_lemma => kernel_rfl) (fun _ _ _ h => h) (Or.inl ⟨by as_aux_lemma => kernel_rfl, ?_⟩) (by assumption) ?_
                  rotate_left
                  · (intro w hSw; (try dsimp only at hSw); go_simp); all_goals with_reducible rfl
                  try simp only [Act.put, List.setIfInBounds_toArray, List.set_cons_zero, List.set_cons_succ]
                  refine wpAnyH_takeD (i := 16) (v := ?_) (some 111) rfl rfl (by as_aux_lemma => kernel_rfl) (by as_aux_lemma => kernel_rfl) (by as_aux_lemma => kernel_rfl) (fun _ _ _ h => h) (Or.inl ⟨by as_aux_lemma => kernel_rfl, ?_⟩) (by assumption) ?_
                  rotate_left
                  · (intro w hSw; (try dsimp only at hSw); go_simp); all_goals with_reducible rfl
                  try simp only [Act.put, List.setIfInBounds_toArray, List.set_cons_zero, List.set_cons_succ]
                  refine wpAnyH_ready (rs := [17]) (by as_aux_lemma => kernel_rfl) (by simp) ?_
                  refine AllReadyH.cons rfl (fun K hK => ?_) AllReadyH.nil
                  go_simp
                  go_wp2_with (go_at_call 13; refine (HLA.out _ hHeld.2.2.t).mono ?_; rintro e y1 ⟨rfl, b1⟩)
                  refine hK.out _ _ ((hHeld.2.2.next b1).cells HHD.out) (fun hHeld => ?_)
                  clear hK K
                  refine wpAnyH_takeD (i := 18) (v := ?_) (some 113) rfl rfl (by as_aux_lemma => kernel_rfl) (by as_aux_lemma => kernel_rfl) (by as_aux_lemma => kernel_rfl) (fun _ _ _ h => h) (Or.inl ⟨by as_aux_lemma => kernel_rfl, ?_⟩) (by assumption) ?_
                  rotate_left
                  · (intro w hSw; (try dsimp only at hSw); go_simp); all_goals with_reducible rfl
                  try simp only [Act.put, List.setIfInBounds_toArray, List.set_cons_zero, List.set_cons_succ]
                  refine wpAnyH_takeD (i := 19) (v := ?_) (some 114) rfl rfl (by as_aux_lemma => kernel_rfl) (by as_aux_lemma => kernel_rfl) (by as_aux_lemma => kernel_rfl) (fun _ _ _ h => h) (Or.inl ⟨by as_aux_lemma => kernel_rfl, ?_⟩) (by assumption) ?_
                  rotate_left
                  · (intro w hSw; (try dsimp only at hSw); go_simp); all_goals with_reducible rfl
                  try simp only [Act.put, List.setIfInBounds_toArray, List.set_cons_zero, List.set_cons_succ]
                  refine wpAnyH_takeD (i := 20) (v := ?_) (some 115) rfl rfl (by as_aux_lemma => kernel_rfl) (by as_aux_lemma => kernel_rfl) (by as_aux_lemma => kernel_rfl) (fun _ _ _ h => h) (Or.inl ⟨by as_aux_lemma => kernel_rfl, ?_⟩) (by assumption) ?_
                  rotate_left
                  · (intro w hSw; (try dsimp only at hSw); go_simp); all_goals with_reducible rfl
                  try simp only [Act.put, List.setIfInBounds_toArray, List.set_cons_zero, List.set_cons_succ]
                  refine wpAnyH_takeD (i := 21) (v := ?_) (some 116) rfl rfl (by as_aux_lemma => kernel_rfl) (by as_aux_lemma => kernel_rfl) (by as_aux_lemma => kernel_rfl) (fun _ _ _ h => h) (Or.inl ⟨by as_aux_lemma => kernel_rfl, ?_⟩) (by assumption) ?_
                  rotate_left
                  · (intro w hSw; (try dsimp only at hSw); go_simp); all_goals with_reducible rfl
                  try simp only [Act.put, List.setIfInBounds_toArray, List.set_cons_zero, List.set_cons_succ]
                  refine wpAnyH_takeD (i := 22) (v := ?_) (some 117) rfl rfl (by as_aux_lemma => kernel_rfl) (by as_aux_lemma => kernel_rfl) (by as_aux_lemma => kernel_rfl) (fun _ _ _ h => h) (Or.inl ⟨by as_aux_lemma => kernel_rfl, ?_⟩) (by assumption) ?_
                  rotate_left
                  · (intro w hSw; (try dsimp only at hSw); go_simp); all_goals with_reducible rfl
                  try simp only [Act.put, List.setIfInBounds_toArray, List.set_cons_zero, List.set_cons_succ]
                  refine wpAnyH_takeD (i := 23) (v := ?_) (some 118) rfl rfl (by as_aux_lemma => kernel_rfl) (by as_aux_lemma => kernel_rfl) (by as_aux_lemma => kernel_rfl) (fun _ _ _ h => h) (Or.inl ⟨by as_aux_lemma => kernel_rfl, ?_⟩) (by assumption) ?_
                  rotate_left
                  · (intro w hSw; (try dsimp only at hSw); go_simp); all_goals with_reducible rfl
                  try simp only [Act.put, List.setIfInBounds_toArray, List.set_cons_zero, List.set_cons_succ]
                  refine wpAnyH_takeD (i := 24) (v := ?_) (some 119) rfl rfl (by as_aux_lemma => kernel_rfl) (by as_aux_lemma => kernel_rfl) (by as_aux_lemma => kernel_rfl) (fun _ _ _ h => h) (Or.inl ⟨by as_aux_lemma => kernel_rfl, ?_⟩) (by assumption) ?_
                  rotate_left
                  · (intro w hSw; (try dsimp only at hSw); go_simp); all_goals with_reducible rfl
                  try simp only [Act.put, List.setIfInBounds_toArray, List.set_cons_zero, List.set_cons_succ]
                  refine wpAnyH_takeD (i := 25) (v := ?_) (some 120) rfl rfl (by as_aux_lemma => kernel_rfl) (by as_aux_lemma => kernel_rfl) (by as_aux_lemma => kernel_rfl) (fun _ _ _ h => h) (Or.inl ⟨by as_aux_lemma => kernel_rfl, ?_⟩) (by assumption) ?_
                  rotate_left
                  · (intro w hSw; (try dsimp only at hSw); go_simp); all_goals with_reducible rfl
                  try simp only [Act.put, List.setIfInBounds_toArray, List.set_cons_zero, List.set_cons_succ]
                  refine wpAnyH_takeD (i := 26) (v := ?_) (some 121) rfl rfl (by as_aux_lemma => kernel_rfl) (by as_aux_lemma => kernel_rfl) (by as_aux_lemma => kernel_rfl) (fun _ _ _ h => h) (Or.inl ⟨by as_aux_lemma => kernel_rfl, ?_⟩) (by assumption) ?_
                  rotate_left
                  · (intro w hSw; (try dsimp only at hSw); go_simp); all_goals with_reducible rfl
                  try simp only [Act.put, List.setIfInBounds_toArray, List.set_cons_zero, List.set_cons_succ]
                  refine wpAnyH_ready (rs := [27]) (by as_aux_lemma => kernel_rfl) (by simp) ?_
                  refine AllReadyH.cons rfl (fun K hK => ?_) AllReadyH.nil
                  go_simp
                  go_wp2_with (go_at_call 14; refine (hHeld.2.2.t.may).mono ?_; rintro e y2 ⟨rfl, b2⟩)
                  refine hK.out _ _ ((hHeld.2.2.next b2).cells HHD.out) (fun hHeld => ?_)
                  clear hK K
                  refine wpAnyH_takeD (i := 28) (v := ?_) (some 123) rfl rfl (by as_aux_lemma => kernel_rfl) (by as_aux_lemma => kernel_rfl) (by as_aux_lemma => kernel_rfl) (fun _ _ _ h => h) (Or.inl ⟨by as_aux_lemma => kernel_rfl, ?_⟩) (by assumption) ?_
                  rotate_left
                  · (intro w hSw; (try dsimp only at hSw); go_simp); all_goals with_reducible rfl
                  try simp only [Act.put, List.setIfInBounds_toArray, List.set_cons_zero, List.set_cons_succ]
                  refine wpAnyH_takeD (i := 29) (v := ?_) (some 124) rfl rfl (by as_aux_lemma => kernel_rfl) (by as_aux_lemma => kernel_rfl) (by as_aux_lemma => kernel_rfl) (fun _ _ _ h => h) (Or.inl ⟨by as_aux_lemma => kernel_rfl, ?_⟩) (by assumption) ?_
                  rotate_left
                  · (intro w hSw; (try dsimp only at hSw); go_simp); all_goals with_reducible rfl
                  try simp only [Act.put, List.setIfInBounds_toArray, List.set_cons_zero, List.set_cons_succ]
                  refine wpAnyH_takeD (i := 30) (v := ?_) (some 125) rfl rfl (by as_aux_lemma => kernel_rfl) (by as_aux_lemma => kernel_rfl) (by as_aux_lemma => kernel_rfl) (fun _ _ _ h => h) (Or.inl ⟨by as_aux_lemma => kernel_rfl, ?_⟩) (by assumption) ?_
                  rotate_left
                  · (intro w hSw; (try dsimp only at hSw); go_simp); all_goals with_reducible rfl
                  try simp only [Act.put, List.setIfInBounds_toArray, List.set_cons_zero, List.set_cons_succ]
                  refine wpAnyH_ready (rs := [31]) (by as_aux_lemma => kernel_rfl) (by simp) ?_
                  refine AllReadyH.cons rfl (fun K hK => ?_) AllReadyH.nil
                  go_simp
                  go_wp2_with (go_at_call 15; refine (hHeld.2.2.t.mustc).mono ?_; rintro e y3 ⟨rfl, b3⟩)
                  refine hK.out _ _ (b3 ▸ hHeld) (fun hHeld => ?_)
                  clear hK K
                  refine wpAnyH_takeD (i := 32) (v := ?_) (some 127) rfl rfl (by as_aux_lemma => kernel_rfl) (by as_aux_lemma => kernel_rfl) (by as_aux_lemma => kernel_rfl) (fun _ _ _ h => h) (Or.inl ⟨by as_aux_lemma => kernel_rfl, ?_⟩) (by assumption) ?_
                  rotate_left
                  · (intro w hSw; (try dsimp only at hSw); go_simp); all_goals with_reducible rfl
                  try simp only [Act.put, List.setIfInBounds_toArray, List.set_cons_zero, List.set_cons_succ]
                  refine wpAnyH_done (by as_aux_lemma => kernel_rfl) ?_ _
                  go_wp2_with fail
                  go_roundw
                  case rel => exact ⟨j + 1, by omega, by omega, by go_num, HFIN.out _ hHeld.2.2⟩
                  case measure => simp [intOf]; omega
      · clear hb2 HM2 hX2
        go_wp2_with fail
        go_ret
        exact ⟨rfl, HB2.out⟩
    · have hend : ¬ (j : Int) < (N : Int) ∨ ((j : Int) < (N : Int) ∧ ¬ (j : Int) < 100) := by omega
      have HB := Lib.hid hbel
      clear hlt hM hbel
      rcases hend with hend | ⟨hend, hend2⟩
      all_goals
        go_wp2_with fail
        go_ret
        exact ⟨rfl, HB.out⟩

end Go.Proofs.Ytmnmpmiocgfalaa
