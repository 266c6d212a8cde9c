/- fields: contract of Writer.come. -/
import Derived.Test.YtgnoiheekgmleaaFf
import Derived.Deep.RegionHeld
namespace Go.Proofs.Ytgnoiheekgmleaa
open Go.ChangeShapes Go.WideShapes Go.RowKit
set_option linter.unusedVariables false
set_option linter.unusedSimpArgs false


section
variable {P : Program} {ops : Array Oper} {Q : Exit → Act → World → Prop} {md : Region.Mode} {S : World → Prop}
/-- Take number i first; its slot is given, so that the state stays written out. -/
theorem wpAnyH_takeD {i : Nat} {oi : Oper} {v : Value} {fuel : Nat} {listed : Array Bool} {a : Act} {w : World} (d : Option Nat) (hi : ops[i]? = some oi) (hd : oi.dst = d)
    (hs : Region.noSelect ops = true) (hf : Region.free md ops listed i = true) (hr : (Region.ready md ops listed).contains i = true)
    (hQ : ∀ c a w, Q (.panic c) (a.put oi.dst v) w → Q (.panic c) a w) (hy : YieldsIf P ops S oi v a) (hS : S w)
    (h : wpAnyH P md ops Q S fuel (listed.setIfInBounds i true) (a.put d v) w) : wpAnyH P md ops Q S (fuel + 1) listed a w := by
  subst hd
  exact wpAnyH_take hi hs hf hr hQ hy hS h
end

/-- A number's bytes, of integers. -/
def nF (n k h : Int) : ByteArray := txt (numberF n.toNat k.toNat h.toNat)
def tF (s : ByteArray) (k h : Int) : ByteArray := txt (textB (byt s) k.toNat h.toNat)

theorem number_gen (n k h : Int) (w : World) (hk : 1 ≤ k ∧ k ≤ 8) (hn : 0 ≤ n ∧ n < 18446744073709551616) (hh : 0 ≤ h ∧ h < 256) :
    Calls Try.prog 46 #[.int .u64 n, .int .i64 k, .int .u8 h] w fun e w' => e = .returned (.string (nF n k h)) ∧ Below w.heap.size w w' := by
  obtain ⟨n, rfl⟩ := Int.eq_ofNat_of_zero_le hn.1
  obtain ⟨k, rfl⟩ := Int.eq_ofNat_of_zero_le (show 0 ≤ k by omega)
  obtain ⟨h, rfl⟩ := Int.eq_ofNat_of_zero_le hh.1
  exact Number_any n k h w (by omega) (by omega) (by omega)

theorem text_gen (s : ByteArray) (k h : Int) (w : World) (hs : s.size ≤ 5000) (hk : 2 ≤ k ∧ k ≤ 8) (hh : 0 ≤ h ∧ h < 256) :
    Calls Try.prog 70 #[.string s, .int .i64 k, .int .u8 h] w fun e w' => e = .returned (.string (tF s k h)) ∧ Below w.heap.size w w' := by
  obtain ⟨c, hc⟩ := Int.eq_ofNat_of_zero_le (show 0 ≤ k - 1 by omega)
  obtain rfl : k = (c : Int) + 1 := by omega
  obtain ⟨h, rfl⟩ := Int.eq_ofNat_of_zero_le hh.1
  have := text_any s c h w hs (by omega) (by omega)
  exact this

theorem numberF_len8 (n k h : Nat) (hk : 1 ≤ k ∧ k ≤ 8) (hn : n < 5001) : (numberF n k h).length ≤ 3 := by
  unfold numberF
  split
  · simp
  · rw [List.length_cons]
    have := tailF_len 1 (n - (2 ^ k - 1)) (by omega)
    omega
theorem nF_size (n k h : Int) (hk : 1 ≤ k ∧ k ≤ 8) (hn : 0 ≤ n ∧ n < 5001) : (nF n k h).size ≤ 3 := by
  unfold nF
  rw [txt_size]
  exact numberF_len8 _ _ _ (by omega) (by omega)
theorem textB_len (l : List UInt8) (k h : Nat) (hk : 2 ≤ k ∧ k ≤ 8) (hl : l.length ≤ 5000) : (textB l k h).length ≤ l.length + 3 := by
  unfold textB
  split
  · rename_i hlt
    rw [List.length_append]
    have := numberF_len8 (packF l).length (k - 1) (h ||| 2 ^ (k - 1)) (by omega) (by omega)
    omega
  · rw [List.length_append]
    have := numberF_len8 l.length (k - 1) h (by omega) (by omega)
    omega
theorem tF_size (s : ByteArray) (k h : Int) (hk : 2 ≤ k ∧ k ≤ 8) (hs : s.size ≤ 5000) : (tF s k h).size ≤ s.size + 3 := by
  unfold tF
  rw [txt_size]
  have := textB_len (byt s) k.toNat h.toNat (by omega) (by rw [byt_length]; omega)
  rw [byt_length] at this
  exact this

theorem where_rng (L : List Fl) (P : Fl → Bool) : -1 ≤ whereF L P ∧ whereF L P < L.length := by
  unfold whereF
  cases h : L.findIdx? P with
  | none => simp only; omega
  | some i =>
    rw [List.findIdx?_eq_some_iff_getElem] at h
    obtain ⟨hi, _⟩ := h
    simp only
    omega
theorem idx_rng (L : List Fl) (f : Fl) : -1 ≤ idxF L f ∧ idxF L f < L.length := where_rng L (fun g => decide (g = f))
theorem named_rng (n : ByteArray) : -1 ≤ namedF n ∧ namedF n < 12 := where_rng fixedL (isName n)

/-- What is told of a field that came. -/
def tellF (f : Fl) : ByteArray := if 0 ≤ namedF f.1 then nF (namedF f.1) 6 192 ++ tF f.2 8 0 else tF f.1 6 64 ++ tF f.2 8 0
/-- A field comes, if it must and may. -/
def comeF (S : Tbl) (f : Fl) : Tbl × ByteArray := if hasF fixedL f = true ∨ hasF S.l f = true ∨ (addF S f).2 = false then (S, ⟨#[]⟩) else ((addF S f).1, tellF f)

theorem addF_false {S : Tbl} {f : Fl} (h : (addF S f).2 = false) : (addF S f).1 = S := by
  unfold addF at h ⊢
  by_cases hr : S.most < S.size + weigh f
  · rw [if_pos hr]
  · rw [if_neg hr] at h; cases h

theorem own_lt {w : World} {B : Nat} {e : TypeId} {size : Nat} {v : Value} {n : Nat} {xs : List Value} (h : w.ownsRow B e size v n xs) : ∀ k, v.ownBlock = some k → k < w.heap.size := by
  intro k hk
  rcases h.2 with ⟨rfl, _⟩ | ⟨g, cap, cur, rfl, _, hh, _⟩
  · simp [Value.ownBlock] at hk
  · simp only [Value.ownBlock, Option.some.injEq] at hk
    subst hk
    exact lt_of_block hh

/-- Two cells of a box. -/
def Two (w : World) (g : Nat) (a b : ByteArray) : Prop := w.cell? ⟨g, 0, none⟩ = some (.string a) ∧ w.cell? ⟨g, 1, none⟩ = some (.string b)
theorem two_below {w x : World} {g : Nat} {u v : Value} (h : w.cell? ⟨g, 0, none⟩ = some u ∧ w.cell? ⟨g, 1, none⟩ = some v) (b : Below w.heap.size w x) : x.cell? ⟨g, 0, none⟩ = some u ∧ x.cell? ⟨g, 1, none⟩ = some v :=
  ⟨(b.cell (p := ⟨g, 0, none⟩) (World.block_lt_of_cell? _ _ h.1)).trans h.1, (b.cell (p := ⟨g, 1, none⟩) (World.block_lt_of_cell? _ _ h.2)).trans h.2⟩
theorem two_only {P : Nat → Prop} {w x : World} {g : Nat} {u v : Value} (h : w.cell? ⟨g, 0, none⟩ = some u ∧ w.cell? ⟨g, 1, none⟩ = some v) (b : Only P w x) (hg : ¬ P g) : x.cell? ⟨g, 0, none⟩ = some u ∧ x.cell? ⟨g, 1, none⟩ = some v :=
  ⟨(b.cell (p := ⟨g, 0, none⟩) (World.block_lt_of_cell? _ _ h.1) hg).trans h.1, (b.cell (p := ⟨g, 1, none⟩) (World.block_lt_of_cell? _ _ h.2) hg).trans h.2⟩

theorem Contains_fix (g : Nat) (f : Fl) (w : World) (h : blk w g 66 (flc fixedL)) :
    Calls Try.prog 43 #[.slice (some ⟨g, 0, none⟩) 12 12, f.v] w fun e w' => e = .returned (.bool (hasF fixedL f)) ∧ Below w.heap.size w w' :=
  Contains_any fixedL _ 12 f w (FV.of_blk h) (by decide)
theorem Index_fix (g : Nat) (f : Fl) (w : World) (h : blk w g 66 (flc fixedL)) :
    Calls Try.prog 45 #[.slice (some ⟨g, 0, none⟩) 12 12, f.v] w fun e w' => e = .returned (.int .i64 (idxF fixedL f)) ∧ Below w.heap.size w w' :=
  Index_any fixedL _ 12 f w (FV.of_blk h) (by decide)
theorem Contains_tab {B b : Nat} {T : TypeId} {p : Option Addr} {cap N : Nat} {S : Tbl} (f : Fl) (w : World) (h : TblIs w B b T (.slice p N cap) S) (hN : S.l.length = N) (hn : N ≤ 10000) :
    Calls Try.prog 43 #[.slice p N cap, f.v] w fun e w' => e = .returned (.bool (hasF S.l f)) ∧ Below w.heap.size w w' := by
  subst hN
  exact Contains_any S.l p cap f w (FV.of_tab (b := b) (T := T) h.2) hn
theorem Index_tab {B b : Nat} {T : TypeId} {p : Option Addr} {cap N : Nat} {S : Tbl} (f : Fl) (w : World) (h : TblIs w B b T (.slice p N cap) S) (hN : S.l.length = N) (hn : N ≤ 10000) :
    Calls Try.prog 45 #[.slice p N cap, f.v] w fun e w' => e = .returned (.int .i64 (idxF S.l f)) ∧ Below w.heap.size w w' := by
  subst hN
  exact Index_any S.l p cap f w (FV.of_tab (b := b) (T := T) h.2) hn

/-- A table behind a call: it is this one; nothing else but its blocks was written. -/
def TabTo (w w' : World) (B b : Nat) (T : TypeId) (v : Value) (S : Tbl) : Prop :=
  ∃ v', TblIs w' B b T v' S ∧ Only (fun k => k = b ∨ v.ownBlock = some k) w w' ∧ (v'.ownBlock = v.ownBlock ∨ ∀ k, v'.ownBlock = some k → w.heap.size ≤ k)

theorem TabTo.same {w w' : World} {B b : Nat} {T : TypeId} {v : Value} {S : Tbl} (h : TblIs w B b T v S) (hb : Below w.heap.size w w') : TabTo w w' B b T v S :=
  ⟨v, h.below hb, Only.ofBelow hb, .inl rfl⟩
theorem TabTo.further {w w1 w' : World} {B b : Nat} {T : TypeId} {v : Value} {S : Tbl} (h : TabTo w w1 B b T v S) (hb : Below w1.heap.size w1 w') : TabTo w w' B b T v S := by
  obtain ⟨v', h1, h2, h3⟩ := h
  exact ⟨v', h1.below hb, h2.then (S' := fun _ => False) (Only.ofBelow hb) (fun _ => False.elim), h3⟩
theorem TabTo.ahead {w w1 w' : World} {B b : Nat} {T : TypeId} {v : Value} {S : Tbl} (hb : Below w.heap.size w w1) (h : TabTo w1 w' B b T v S) : TabTo w w' B b T v S := by
  obtain ⟨v', h1, h2, h3⟩ := h
  refine ⟨v', h1, (Only.ofBelow hb).then h2 (fun i hi => .inl hi), ?_⟩
  rcases h3 with h3 | h3
  · exact .inl h3
  · exact .inr (fun k hk => Nat.le_trans hb.size (h3 k hk))
theorem TabTo.drew {w w1 : World} {B b : Nat} {T : TypeId} {v : Value} {S : Tbl} (h : TabTo w w1 B b T v S) : TabTo w w1.drew B b T v S := by
  obtain ⟨v', h1, h2, h3⟩ := h
  exact ⟨v', ⟨h1.1.drew, own_below h1.2 ((Below.refl _ _).drew)⟩, h2.drew, h3⟩
theorem two_tab {w w1 x : World} {B b : Nat} {T : TypeId} {v : Value} {S : Tbl} {g : Nat} {u1 u2 : Value} (h : (w1.cell? ⟨g, 0, none⟩ = some u1 ∧ w1.cell? ⟨g, 1, none⟩ = some u2) ∧ TabTo w w1 B b T v S) (bq : Below w1.heap.size w1 x) :
    (x.cell? ⟨g, 0, none⟩ = some u1 ∧ x.cell? ⟨g, 1, none⟩ = some u2) ∧ TabTo w x B b T v S := ⟨two_below h.1 bq, h.2.further bq⟩

set_option maxRecDepth 100000 in
set_option maxHeartbeats 4000000 in
theorem come_any (B b : Nat) (v : Value) (S : Tbl) (f : Fl) (w : World) (h : TblIs w B b 71 v S) (hok : S.Ok) (hBw : B ≤ w.heap.size) (hBb : B ≤ b) (h1 : f.1.size ≤ 5000) (h2 : f.2.size ≤ 5000) :
    Calls Try.prog 42 #[.pointer (some ⟨b, 0, none⟩), f.v] w fun e w' => e = .returned (.string (comeF S f).2) ∧ TabTo w w' B b 71 v (comeF S f).1 := by
  obtain ⟨p, cap, rfl, hpn⟩ := own_shape h.2
  obtain ⟨n0, v0⟩ := f
  simp only at h1 h2
  have hgb : w.heap.size ≠ b := Nat.ne_of_gt h.1.lt
  have hgn : ¬ (w.heap.size = b ∨ (Value.slice p S.l.length cap).ownBlock = some w.heap.size) := by
    rintro (e | e)
    · exact hgb e
    · exact Nat.lt_irrefl _ (own_lt h.2 _ e)
  obtain ⟨N, hN⟩ : ∃ N, S.l.length = N := ⟨_, rfl⟩
  have hNb : N ≤ 10000 := by have := hok.2.1; have := hok.2.2; omega
  have HN := Lib.hid hN
  have Hok := Lib.hid hok
  have hbx := blk.new w 66 [.string n0, .string v0]
  have hbb : Below w.heap.size w (w.alloc (.cells [.string n0, .string v0].toArray 66)) := (Below.refl _ _).alloc (Nat.le_refl _) _
  have hbd : Below w.heap.size w (w.alloc (.cells [.string n0, .string v0].toArray 66)).drew := hbb.drew
  have Hsz : Hid ((w.alloc (.cells #[.string n0, .string v0] 66)).drew.heap.size = w.heap.size + 1) := Lib.hid (by show (w.alloc _).heap.size = _; simp)
  have BW := Lib.hid hbd
  have TW := Lib.hid (h.below hbd)
  have q0 := hbx.cell (k := 0) rfl
  have q1 := hbx.cell (k := 1) rfl
  obtain ⟨g, hg⟩ : ∃ g, w.heap.size = g := ⟨_, rfl⟩
  obtain ⟨cF, hcF⟩ : ∃ c, hasF fixedL (n0, v0) = c := ⟨_, rfl⟩
  obtain ⟨cW, hcW⟩ : ∃ c, hasF S.l (n0, v0) = c := ⟨_, rfl⟩
  obtain ⟨cA, hcA⟩ : ∃ c, (addF S (n0, v0)).2 = c := ⟨_, rfl⟩
  have HcF := Lib.hid hcF
  have HcW := Lib.hid hcW
  have HcA := Lib.hid hcA
  have HE : Hid (comeF S (n0, v0) = if cF = true ∨ cW = true ∨ cA = false then (S, ⟨#[]⟩) else ((addF S (n0, v0)).1, tellF (n0, v0))) := Lib.hid (by unfold comeF; rw [hcF, hcW, hcA])
  have HAF := Lib.hid (fun h => addF_false (S := S) (f := (n0, v0)) h)
  rw [hN] at hgn TW ⊢
  rw [hg] at hgn q0 q1
  have Hg := Lib.hid hg
  unfold Fl.v
  simp only
  clear hcF hcW hcA h hok hpn hN hgb hbx hbb hbd hg
  cases cF
  case true =>
    rw [show comeF S (n0, v0) = (S, ⟨#[]⟩) from HE.out.trans (if_pos (.inl rfl))]
    go_enter Try.func42, Try.ntmps42
    go_wp2_with fail
    rw [Hg.out]
    refine wp_region_held_drew (S := (fun w' => w'.cell? ⟨g, 0, none⟩ = some (.string n0) ∧ w'.cell? ⟨g, 1, none⟩ = some (.string v0))) (by kernel_rfl) (⟨q0, q1⟩) (fun hHeld => ?_)
    refine wpAnyH_takeD (i := 1) (v := ?_) (some 7) rfl rfl (by kernel_rfl) (by kernel_rfl) (by kernel_rfl) (fun _ _ _ h => h) (Or.inl ⟨by kernel_rfl, ?_⟩) (by assumption) ?_
    rotate_left
    · (intro w hSw; (try dsimp only at hSw); go_simp); all_goals with_reducible rfl
    try simp only [Act.put, List.setIfInBounds_toArray, List.set_cons_zero, List.set_cons_succ]
    refine wpAnyH_ready (rs := [0]) (by kernel_rfl) (by simp) ?_
    refine AllReadyH.cons rfl (fun K hK => ?_) AllReadyH.nil
    go_simp
    go_wp2_with (go_at_call 44; refine (Fixed_any _).mono ?_; rintro e x1 ⟨rfl, hF, bq⟩; have B1 := Lib.hid (BW.out.trans (bq.mono BW.out.size)); have T1 := Lib.hid (TW.out.below bq); rw [Hsz.out] at hF; have F1 := Lib.hid hF; clear hF)
    refine hK.out _ _ (two_below hHeld bq) (fun hHeld => ?_)
    clear hK K
    refine wpAnyH_ready (rs := [2]) (by kernel_rfl) (by simp) ?_
    refine AllReadyH.cons rfl (fun K hK => ?_) AllReadyH.nil
    go_simp
    go_wp2_with (go_at_call 43; refine (Contains_fix _ (n0, v0) _ F1.out).mono ?_; rintro e x2 ⟨he, bq⟩; rw [HcF.out] at he; subst he; have B2 := Lib.hid (B1.out.trans (bq.mono B1.out.size)); have T2 := Lib.hid (T1.out.below bq); have z0 := T2.out.1.cell (k := 0) rfl)
    refine hK.out _ _ (two_below hHeld bq) (fun hHeld => ?_)
    clear hK K
    refine wpAnyH_takeD (i := 3) (v := ?_) (some 9) rfl rfl (by kernel_rfl) (by kernel_rfl) (by kernel_rfl) (fun _ _ _ h => h) (Or.inl ⟨by kernel_rfl, ?_⟩) (by assumption) ?_
    rotate_left
    · (intro w hSw; (try dsimp only at hSw); go_simp); all_goals with_reducible rfl
    try simp only [Act.put, List.setIfInBounds_toArray, List.set_cons_zero, List.set_cons_succ]
    refine wpAnyH_takeD (i := 4) (v := undef) (some 10) rfl rfl (by kernel_rfl) (by kernel_rfl) (by kernel_rfl) (fun _ _ _ h => h) (Or.inr ⟨by kernel_rfl, rfl⟩) (by assumption) ?_
    try simp only [Act.put, List.setIfInBounds_toArray, List.set_cons_zero, List.set_cons_succ]
    refine wpAnyH_takeD (i := 5) (v := undef) (some 11) rfl rfl (by kernel_rfl) (by kernel_rfl) (by kernel_rfl) (fun _ _ _ h => h) (Or.inr ⟨by kernel_rfl, rfl⟩) (by assumption) ?_
    try simp only [Act.put, List.setIfInBounds_toArray, List.set_cons_zero, List.set_cons_succ]
    refine wpAnyH_takeD (i := 6) (v := undef) (some 12) rfl rfl (by kernel_rfl) (by kernel_rfl) (by kernel_rfl) (fun _ _ _ h => h) (Or.inr ⟨by kernel_rfl, rfl⟩) (by assumption) ?_
    try simp only [Act.put, List.setIfInBounds_toArray, List.set_cons_zero, List.set_cons_succ]
    refine wpAnyH_takeD (i := 7) (v := undef) (some 13) rfl rfl (by kernel_rfl) (by kernel_rfl) (by kernel_rfl) (fun _ _ _ h => h) (Or.inr ⟨by kernel_rfl, rfl⟩) (by assumption) ?_
    try simp only [Act.put, List.setIfInBounds_toArray, List.set_cons_zero, List.set_cons_succ]
    refine wpAnyH_takeD (i := 8) (v := undef) (some 14) rfl rfl (by kernel_rfl) (by kernel_rfl) (by kernel_rfl) (fun _ _ _ h => h) (Or.inr ⟨by kernel_rfl, rfl⟩) (by assumption) ?_
    try simp only [Act.put, List.setIfInBounds_toArray, List.set_cons_zero, List.set_cons_succ]
    refine wpAnyH_takeD (i := 9) (v := undef) (some 15) rfl rfl (by kernel_rfl) (by kernel_rfl) (by kernel_rfl) (fun _ _ _ h => h) (Or.inr ⟨by kernel_rfl, rfl⟩) (by assumption) ?_
    try simp only [Act.put, List.setIfInBounds_toArray, List.set_cons_zero, List.set_cons_succ]
    refine wpAnyH_takeD (i := 10) (v := undef) (some 16) rfl rfl (by kernel_rfl) (by kernel_rfl) (by kernel_rfl) (fun _ _ _ h => h) (Or.inr ⟨by kernel_rfl, rfl⟩) (by assumption) ?_
    try simp only [Act.put, List.setIfInBounds_toArray, List.set_cons_zero, List.set_cons_succ]
    refine wpAnyH_takeD (i := 11) (v := ?_) (some 17) rfl rfl (by kernel_rfl) (by kernel_rfl) (by kernel_rfl) (fun _ _ _ h => h) (Or.inl ⟨by kernel_rfl, ?_⟩) (by assumption) ?_
    rotate_left
    · (intro w hSw; (try dsimp only at hSw); go_simp); all_goals with_reducible rfl
    try simp only [Act.put, List.setIfInBounds_toArray, List.set_cons_zero, List.set_cons_succ]
    refine wpAnyH_takeD (i := 12) (v := ?_) (some 18) rfl rfl (by kernel_rfl) (by kernel_rfl) (by kernel_rfl) (fun _ _ _ h => h) (Or.inl ⟨by kernel_rfl, ?_⟩) (by assumption) ?_
    rotate_left
    · (intro w hSw; (try dsimp only at hSw); go_simp); all_goals with_reducible rfl
    try simp only [Act.put, List.setIfInBounds_toArray, List.set_cons_zero, List.set_cons_succ]
    refine wpAnyH_takeD (i := 13) (v := undef) (some 19) rfl rfl (by kernel_rfl) (by kernel_rfl) (by kernel_rfl) (fun _ _ _ h => h) (Or.inr ⟨by kernel_rfl, rfl⟩) (by assumption) ?_
    try simp only [Act.put, List.setIfInBounds_toArray, List.set_cons_zero, List.set_cons_succ]
    refine wpAnyH_takeD (i := 14) (v := undef) (some 20) rfl rfl (by kernel_rfl) (by kernel_rfl) (by kernel_rfl) (fun _ _ _ h => h) (Or.inr ⟨by kernel_rfl, rfl⟩) (by assumption) ?_
    try simp only [Act.put, List.setIfInBounds_toArray, List.set_cons_zero, List.set_cons_succ]
    refine wpAnyH_takeD (i := 15) (v := undef) (some 21) rfl rfl (by kernel_rfl) (by kernel_rfl) (by kernel_rfl) (fun _ _ _ h => h) (Or.inr ⟨by kernel_rfl, rfl⟩) (by assumption) ?_
    try simp only [Act.put, List.setIfInBounds_toArray, List.set_cons_zero, List.set_cons_succ]
    refine wpAnyH_takeD (i := 16) (v := undef) (some 22) rfl rfl (by kernel_rfl) (by kernel_rfl) (by kernel_rfl) (fun _ _ _ h => h) (Or.inr ⟨by kernel_rfl, rfl⟩) (by assumption) ?_
    try simp only [Act.put, List.setIfInBounds_toArray, List.set_cons_zero, List.set_cons_succ]
    refine wpAnyH_takeD (i := 17) (v := undef) (some 23) rfl rfl (by kernel_rfl) (by kernel_rfl) (by kernel_rfl) (fun _ _ _ h => h) (Or.inr ⟨by kernel_rfl, rfl⟩) (by assumption) ?_
    try simp only [Act.put, List.setIfInBounds_toArray, List.set_cons_zero, List.set_cons_succ]
    refine wpAnyH_takeD (i := 18) (v := undef) (some 24) rfl rfl (by kernel_rfl) (by kernel_rfl) (by kernel_rfl) (fun _ _ _ h => h) (Or.inr ⟨by kernel_rfl, rfl⟩) (by assumption) ?_
    try simp only [Act.put, List.setIfInBounds_toArray, List.set_cons_zero, List.set_cons_succ]
    refine wpAnyH_takeD (i := 19) (v := ?_) (some 25) rfl rfl (by kernel_rfl) (by kernel_rfl) (by kernel_rfl) (fun _ _ _ h => h) (Or.inl ⟨by kernel_rfl, ?_⟩) (by assumption) ?_
    rotate_left
    · (intro w hSw; (try dsimp only at hSw); go_simp); all_goals with_reducible rfl
    try simp only [Act.put, List.setIfInBounds_toArray, List.set_cons_zero, List.set_cons_succ]
    refine wpAnyH_done (by kernel_rfl) ?_ _
    go_wp2_with fail
    go_ret
    exact ⟨rfl, _, T2.out, Only.ofBelow B2.out, .inl rfl⟩
  case false =>
    cases cW
    case true =>
      rw [show comeF S (n0, v0) = (S, ⟨#[]⟩) from HE.out.trans (if_pos (.inr (.inl rfl)))]
      go_enter Try.func42, Try.ntmps42
      go_wp2_with fail
      rw [Hg.out]
      refine wp_region_held_drew (S := (fun w' => w'.cell? ⟨g, 0, none⟩ = some (.string n0) ∧ w'.cell? ⟨g, 1, none⟩ = some (.string v0))) (by kernel_rfl) (⟨q0, q1⟩) (fun hHeld => ?_)
      refine wpAnyH_takeD (i := 1) (v := ?_) (some 7) rfl rfl (by kernel_rfl) (by kernel_rfl) (by kernel_rfl) (fun _ _ _ h => h) (Or.inl ⟨by kernel_rfl, ?_⟩) (by assumption) ?_
      rotate_left
      · (intro w hSw; (try dsimp only at hSw); go_simp); all_goals with_reducible rfl
      try simp only [Act.put, List.setIfInBounds_toArray, List.set_cons_zero, List.set_cons_succ]
      refine wpAnyH_ready (rs := [0]) (by kernel_rfl) (by simp) ?_
      refine AllReadyH.cons rfl (fun K hK => ?_) AllReadyH.nil
      go_simp
      go_wp2_with (go_at_call 44; refine (Fixed_any _).mono ?_; rintro e x1 ⟨rfl, hF, bq⟩; have B1 := Lib.hid (BW.out.trans (bq.mono BW.out.size)); have T1 := Lib.hid (TW.out.below bq); rw [Hsz.out] at hF; have F1 := Lib.hid hF; clear hF)
      refine hK.out _ _ (two_below hHeld bq) (fun hHeld => ?_)
      clear hK K
      refine wpAnyH_ready (rs := [2]) (by kernel_rfl) (by simp) ?_
      refine AllReadyH.cons rfl (fun K hK => ?_) AllReadyH.nil
      go_simp
      go_wp2_with (go_at_call 43; refine (Contains_fix _ (n0, v0) _ F1.out).mono ?_; rintro e x2 ⟨he, bq⟩; rw [HcF.out] at he; subst he; have B2 := Lib.hid (B1.out.trans (bq.mono B1.out.size)); have T2 := Lib.hid (T1.out.below bq); have z0 := T2.out.1.cell (k := 0) rfl)
      refine hK.out _ _ (two_below hHeld bq) (fun hHeld => ?_)
      clear hK K
      refine wpAnyH_takeD (i := 3) (v := ?_) (some 9) rfl rfl (by kernel_rfl) (by kernel_rfl) (by kernel_rfl) (fun _ _ _ h => h) (Or.inl ⟨by kernel_rfl, ?_⟩) (by assumption) ?_
      rotate_left
      · (intro w hSw; (try dsimp only at hSw); go_simp); all_goals with_reducible rfl
      try simp only [Act.put, List.setIfInBounds_toArray, List.set_cons_zero, List.set_cons_succ]
      refine wpAnyH_takeD (i := 4) (v := ?_) (some 10) rfl rfl (by kernel_rfl) (by kernel_rfl) (by kernel_rfl) (fun _ _ _ h => h) (Or.inl ⟨by kernel_rfl, ?_⟩) (by assumption) ?_
      rotate_left
      · (intro w hSw; (try dsimp only at hSw); go_simp); all_goals with_reducible rfl
      try simp only [Act.put, List.setIfInBounds_toArray, List.set_cons_zero, List.set_cons_succ]
      refine wpAnyH_takeD (i := 5) (v := ?_) (some 11) rfl rfl (by kernel_rfl) (by kernel_rfl) (by kernel_rfl) (fun _ _ _ h => h) (Or.inl ⟨by kernel_rfl, ?_⟩) (by assumption) ?_
      rotate_left
      · (intro w hSw; (try dsimp only at hSw); go_simp); all_goals with_reducible rfl
      try simp only [Act.put, List.setIfInBounds_toArray, List.set_cons_zero, List.set_cons_succ]
      refine wpAnyH_takeD (i := 6) (v := ?_) (some 12) rfl rfl (by kernel_rfl) (by kernel_rfl) (by kernel_rfl) (fun _ _ _ h => h) (Or.inl ⟨by kernel_rfl, ?_⟩) (by assumption) ?_
      rotate_left
      · (intro w hSw; (try dsimp only at hSw); go_simp); all_goals with_reducible rfl
      try simp only [Act.put, List.setIfInBounds_toArray, List.set_cons_zero, List.set_cons_succ]
      refine wpAnyH_takeD (i := 7) (v := ?_) (some 13) rfl rfl (by kernel_rfl) (by kernel_rfl) (by kernel_rfl) (fun _ _ _ h => h) (Or.inl ⟨by kernel_rfl, ?_⟩) (by assumption) ?_
      rotate_left
      · (intro w hSw; (try dsimp only at hSw); go_simp); all_goals with_reducible rfl
      try simp only [Act.put, List.setIfInBounds_toArray, List.set_cons_zero, List.set_cons_succ]
      refine wpAnyH_takeD (i := 9) (v := ?_) (some 15) rfl rfl (by kernel_rfl) (by kernel_rfl) (by kernel_rfl) (fun _ _ _ h => h) (Or.inl ⟨by kernel_rfl, ?_⟩) (by assumption) ?_
      rotate_left
      · (intro w hSw; (try dsimp only at hSw); go_simp); all_goals with_reducible rfl
      try simp only [Act.put, List.setIfInBounds_toArray, List.set_cons_zero, List.set_cons_succ]
      refine wpAnyH_ready (rs := [8]) (by kernel_rfl) (by simp) ?_
      refine AllReadyH.cons rfl (fun K hK => ?_) AllReadyH.nil
      go_simp
      refine hK.out _ _ (hHeld) (fun hHeld => ?_)
      clear hK K
      refine wpAnyH_ready (rs := [10]) (by kernel_rfl) (by simp) ?_
      refine AllReadyH.cons rfl (fun K hK => ?_) AllReadyH.nil
      go_simp
      go_wp2_with (go_at_call 43; refine (Contains_tab (n0, v0) _ T2.out HN.out hNb).mono ?_; rintro e x3 ⟨he, bq⟩; rw [HcW.out] at he; subst he; have B3 := Lib.hid (B2.out.trans (bq.mono B2.out.size)); have T3 := Lib.hid (T2.out.below bq))
      refine hK.out _ _ (two_below hHeld bq) (fun hHeld => ?_)
      clear hK K
      refine wpAnyH_takeD (i := 11) (v := ?_) (some 17) rfl rfl (by kernel_rfl) (by kernel_rfl) (by kernel_rfl) (fun _ _ _ h => h) (Or.inl ⟨by kernel_rfl, ?_⟩) (by assumption) ?_
      rotate_left
      · (intro w hSw; (try dsimp only at hSw); go_simp); all_goals with_reducible rfl
      try simp only [Act.put, List.setIfInBounds_toArray, List.set_cons_zero, List.set_cons_succ]
      refine wpAnyH_takeD (i := 12) (v := ?_) (some 18) rfl rfl (by kernel_rfl) (by kernel_rfl) (by kernel_rfl) (fun _ _ _ h => h) (Or.inl ⟨by kernel_rfl, ?_⟩) (by assumption) ?_
      rotate_left
      · (intro w hSw; (try dsimp only at hSw); go_simp); all_goals with_reducible rfl
      try simp only [Act.put, List.setIfInBounds_toArray, List.set_cons_zero, List.set_cons_succ]
      refine wpAnyH_takeD (i := 13) (v := undef) (some 19) rfl rfl (by kernel_rfl) (by kernel_rfl) (by kernel_rfl) (fun _ _ _ h => h) (Or.inr ⟨by kernel_rfl, rfl⟩) (by assumption) ?_
      try simp only [Act.put, List.setIfInBounds_toArray, List.set_cons_zero, List.set_cons_succ]
      refine wpAnyH_takeD (i := 14) (v := undef) (some 20) rfl rfl (by kernel_rfl) (by kernel_rfl) (by kernel_rfl) (fun _ _ _ h => h) (Or.inr ⟨by kernel_rfl, rfl⟩) (by assumption) ?_
      try simp only [Act.put, List.setIfInBounds_toArray, List.set_cons_zero, List.set_cons_succ]
      refine wpAnyH_takeD (i := 15) (v := undef) (some 21) rfl rfl (by kernel_rfl) (by kernel_rfl) (by kernel_rfl) (fun _ _ _ h => h) (Or.inr ⟨by kernel_rfl, rfl⟩) (by assumption) ?_
      try simp only [Act.put, List.setIfInBounds_toArray, List.set_cons_zero, List.set_cons_succ]
      refine wpAnyH_takeD (i := 16) (v := undef) (some 22) rfl rfl (by kernel_rfl) (by kernel_rfl) (by kernel_rfl) (fun _ _ _ h => h) (Or.inr ⟨by kernel_rfl, rfl⟩) (by assumption) ?_
      try simp only [Act.put, List.setIfInBounds_toArray, List.set_cons_zero, List.set_cons_succ]
      refine wpAnyH_takeD (i := 17) (v := undef) (some 23) rfl rfl (by kernel_rfl) (by kernel_rfl) (by kernel_rfl) (fun _ _ _ h => h) (Or.inr ⟨by kernel_rfl, rfl⟩) (by assumption) ?_
      try simp only [Act.put, List.setIfInBounds_toArray, List.set_cons_zero, List.set_cons_succ]
      refine wpAnyH_takeD (i := 18) (v := undef) (some 24) rfl rfl (by kernel_rfl) (by kernel_rfl) (by kernel_rfl) (fun _ _ _ h => h) (Or.inr ⟨by kernel_rfl, rfl⟩) (by assumption) ?_
      try simp only [Act.put, List.setIfInBounds_toArray, List.set_cons_zero, List.set_cons_succ]
      refine wpAnyH_takeD (i := 19) (v := ?_) (some 25) rfl rfl (by kernel_rfl) (by kernel_rfl) (by kernel_rfl) (fun _ _ _ h => h) (Or.inl ⟨by kernel_rfl, ?_⟩) (by assumption) ?_
      rotate_left
      · (intro w hSw; (try dsimp only at hSw); go_simp); all_goals with_reducible rfl
      try simp only [Act.put, List.setIfInBounds_toArray, List.set_cons_zero, List.set_cons_succ]
      refine wpAnyH_done (by kernel_rfl) ?_ _
      go_wp2_with fail
      go_ret
      exact ⟨rfl, _, T3.out, Only.ofBelow B3.out, .inl rfl⟩
    case false =>
      cases cA
      case false =>
        rw [show comeF S (n0, v0) = (S, ⟨#[]⟩) from HE.out.trans (if_pos (.inr (.inr rfl)))]
        go_enter Try.func42, Try.ntmps42
        go_wp2_with fail
        rw [Hg.out]
        refine wp_region_held_drew (S := (fun w' => w'.cell? ⟨g, 0, none⟩ = some (.string n0) ∧ w'.cell? ⟨g, 1, none⟩ = some (.string v0))) (by kernel_rfl) (⟨q0, q1⟩) (fun hHeld => ?_)
        refine wpAnyH_takeD (i := 1) (v := ?_) (some 7) rfl rfl (by kernel_rfl) (by kernel_rfl) (by kernel_rfl) (fun _ _ _ h => h) (Or.inl ⟨by kernel_rfl, ?_⟩) (by assumption) ?_
        rotate_left
        · (intro w hSw; (try dsimp only at hSw); go_simp); all_goals with_reducible rfl
        try simp only [Act.put, List.setIfInBounds_toArray, List.set_cons_zero, List.set_cons_succ]
        refine wpAnyH_ready (rs := [0]) (by kernel_rfl) (by simp) ?_
        refine AllReadyH.cons rfl (fun K hK => ?_) AllReadyH.nil
        go_simp
        go_wp2_with (go_at_call 44; refine (Fixed_any _).mono ?_; rintro e x1 ⟨rfl, hF, bq⟩; have B1 := Lib.hid (BW.out.trans (bq.mono BW.out.size)); have T1 := Lib.hid (TW.out.below bq); rw [Hsz.out] at hF; have F1 := Lib.hid hF; clear hF)
        refine hK.out _ _ (two_below hHeld bq) (fun hHeld => ?_)
        clear hK K
        refine wpAnyH_ready (rs := [2]) (by kernel_rfl) (by simp) ?_
        refine AllReadyH.cons rfl (fun K hK => ?_) AllReadyH.nil
        go_simp
        go_wp2_with (go_at_call 43; refine (Contains_fix _ (n0, v0) _ F1.out).mono ?_; rintro e x2 ⟨he, bq⟩; rw [HcF.out] at he; subst he; have B2 := Lib.hid (B1.out.trans (bq.mono B1.out.size)); have T2 := Lib.hid (T1.out.below bq); have z0 := T2.out.1.cell (k := 0) rfl)
        refine hK.out _ _ (two_below hHeld bq) (fun hHeld => ?_)
        clear hK K
        refine wpAnyH_takeD (i := 3) (v := ?_) (some 9) rfl rfl (by kernel_rfl) (by kernel_rfl) (by kernel_rfl) (fun _ _ _ h => h) (Or.inl ⟨by kernel_rfl, ?_⟩) (by assumption) ?_
        rotate_left
        · (intro w hSw; (try dsimp only at hSw); go_simp); all_goals with_reducible rfl
        try simp only [Act.put, List.setIfInBounds_toArray, List.set_cons_zero, List.set_cons_succ]
        refine wpAnyH_takeD (i := 4) (v := ?_) (some 10) rfl rfl (by kernel_rfl) (by kernel_rfl) (by kernel_rfl) (fun _ _ _ h => h) (Or.inl ⟨by kernel_rfl, ?_⟩) (by assumption) ?_
        rotate_left
        · (intro w hSw; (try dsimp only at hSw); go_simp); all_goals with_reducible rfl
        try simp only [Act.put, List.setIfInBounds_toArray, List.set_cons_zero, List.set_cons_succ]
        refine wpAnyH_takeD (i := 5) (v := ?_) (some 11) rfl rfl (by kernel_rfl) (by kernel_rfl) (by kernel_rfl) (fun _ _ _ h => h) (Or.inl ⟨by kernel_rfl, ?_⟩) (by assumption) ?_
        rotate_left
        · (intro w hSw; (try dsimp only at hSw); go_simp); all_goals with_reducible rfl
        try simp only [Act.put, List.setIfInBounds_toArray, List.set_cons_zero, List.set_cons_succ]
        refine wpAnyH_takeD (i := 6) (v := ?_) (some 12) rfl rfl (by kernel_rfl) (by kernel_rfl) (by kernel_rfl) (fun _ _ _ h => h) (Or.inl ⟨by kernel_rfl, ?_⟩) (by assumption) ?_
        rotate_left
        · (intro w hSw; (try dsimp only at hSw); go_simp); all_goals with_reducible rfl
        try simp only [Act.put, List.setIfInBounds_toArray, List.set_cons_zero, List.set_cons_succ]
        refine wpAnyH_takeD (i := 7) (v := ?_) (some 13) rfl rfl (by kernel_rfl) (by kernel_rfl) (by kernel_rfl) (fun _ _ _ h => h) (Or.inl ⟨by kernel_rfl, ?_⟩) (by assumption) ?_
        rotate_left
        · (intro w hSw; (try dsimp only at hSw); go_simp); all_goals with_reducible rfl
        try simp only [Act.put, List.setIfInBounds_toArray, List.set_cons_zero, List.set_cons_succ]
        refine wpAnyH_takeD (i := 9) (v := ?_) (some 15) rfl rfl (by kernel_rfl) (by kernel_rfl) (by kernel_rfl) (fun _ _ _ h => h) (Or.inl ⟨by kernel_rfl, ?_⟩) (by assumption) ?_
        rotate_left
        · (intro w hSw; (try dsimp only at hSw); go_simp); all_goals with_reducible rfl
        try simp only [Act.put, List.setIfInBounds_toArray, List.set_cons_zero, List.set_cons_succ]
        refine wpAnyH_ready (rs := [8]) (by kernel_rfl) (by simp) ?_
        refine AllReadyH.cons rfl (fun K hK => ?_) AllReadyH.nil
        go_simp
        refine hK.out _ _ (hHeld) (fun hHeld => ?_)
        clear hK K
        refine wpAnyH_ready (rs := [10]) (by kernel_rfl) (by simp) ?_
        refine AllReadyH.cons rfl (fun K hK => ?_) AllReadyH.nil
        go_simp
        go_wp2_with (go_at_call 43; refine (Contains_tab (n0, v0) _ T2.out HN.out hNb).mono ?_; rintro e x3 ⟨he, bq⟩; rw [HcW.out] at he; subst he; have B3 := Lib.hid (B2.out.trans (bq.mono B2.out.size)); have T3 := Lib.hid (T2.out.below bq))
        refine hK.out _ _ (two_below hHeld bq) (fun hHeld => ?_)
        clear hK K
        refine wpAnyH_takeD (i := 11) (v := ?_) (some 17) rfl rfl (by kernel_rfl) (by kernel_rfl) (by kernel_rfl) (fun _ _ _ h => h) (Or.inl ⟨by kernel_rfl, ?_⟩) (by assumption) ?_
        rotate_left
        · (intro w hSw; (try dsimp only at hSw); go_simp); all_goals with_reducible rfl
        try simp only [Act.put, List.setIfInBounds_toArray, List.set_cons_zero, List.set_cons_succ]
        refine wpAnyH_takeD (i := 12) (v := ?_) (some 18) rfl rfl (by kernel_rfl) (by kernel_rfl) (by kernel_rfl) (fun _ _ _ h => h) (Or.inl ⟨by kernel_rfl, ?_⟩) (by assumption) ?_
        rotate_left
        · (intro w hSw; (try dsimp only at hSw); go_simp); all_goals with_reducible rfl
        try simp only [Act.put, List.setIfInBounds_toArray, List.set_cons_zero, List.set_cons_succ]
        refine wpAnyH_takeD (i := 13) (v := ?_) (some 19) rfl rfl (by kernel_rfl) (by kernel_rfl) (by kernel_rfl) (fun _ _ _ h => h) (Or.inl ⟨by kernel_rfl, ?_⟩) (by assumption) ?_
        rotate_left
        · (intro w hSw; (try dsimp only at hSw); go_simp); all_goals with_reducible rfl
        try simp only [Act.put, List.setIfInBounds_toArray, List.set_cons_zero, List.set_cons_succ]
        refine wpAnyH_takeD (i := 14) (v := ?_) (some 20) rfl rfl (by kernel_rfl) (by kernel_rfl) (by kernel_rfl) (fun _ _ _ h => h) (Or.inl ⟨by kernel_rfl, ?_⟩) (by assumption) ?_
        rotate_left
        · (intro w hSw; (try dsimp only at hSw); go_simp); all_goals with_reducible rfl
        try simp only [Act.put, List.setIfInBounds_toArray, List.set_cons_zero, List.set_cons_succ]
        refine wpAnyH_takeD (i := 15) (v := ?_) (some 21) rfl rfl (by kernel_rfl) (by kernel_rfl) (by kernel_rfl) (fun _ _ _ h => h) (Or.inl ⟨by kernel_rfl, ?_⟩) (by assumption) ?_
        rotate_left
        · (intro w hSw; (try dsimp only at hSw); go_simp); all_goals with_reducible rfl
        try simp only [Act.put, List.setIfInBounds_toArray, List.set_cons_zero, List.set_cons_succ]
        refine wpAnyH_takeD (i := 16) (v := ?_) (some 22) rfl rfl (by kernel_rfl) (by kernel_rfl) (by kernel_rfl) (fun _ _ _ h => h) (Or.inl ⟨by kernel_rfl, ?_⟩) (by assumption) ?_
        rotate_left
        · (intro w hSw; (try dsimp only at hSw); go_simp); all_goals with_reducible rfl
        try simp only [Act.put, List.setIfInBounds_toArray, List.set_cons_zero, List.set_cons_succ]
        refine wpAnyH_ready (rs := [17]) (by kernel_rfl) (by simp) ?_
        refine AllReadyH.cons rfl (fun K hK => ?_) AllReadyH.nil
        go_simp
        go_wp2_with (go_at_call 36; refine (add_any B b 71 (.slice p N cap) S (n0, v0) _ T3.out Hok.out (Nat.le_trans hBw B3.out.size) hBb (by decide) (by show n0.size ≤ 1000000; omega) (by show v0.size ≤ 1000000; omega)).mono ?_; rintro e x4 ⟨he, hA⟩; rw [HcA.out] at he; subst he; have TT : Hid (TabTo w x4 B b 71 (.slice p N cap) (addF S (n0, v0)).1) := Lib.hid (TabTo.ahead B3.out hA); obtain ⟨v4, hA1, hA2, hA3⟩ := hA; have b4 := hA2; clear hA1 hA2 hA3)
        refine hK.out _ _ (two_only hHeld b4 hgn) (fun hHeld => ?_)
        clear hK K
        refine wpAnyH_takeD (i := 18) (v := ?_) (some 24) rfl rfl (by kernel_rfl) (by kernel_rfl) (by kernel_rfl) (fun _ _ _ h => h) (Or.inl ⟨by kernel_rfl, ?_⟩) (by assumption) ?_
        rotate_left
        · (intro w hSw; (try dsimp only at hSw); go_simp); all_goals with_reducible rfl
        try simp only [Act.put, List.setIfInBounds_toArray, List.set_cons_zero, List.set_cons_succ]
        refine wpAnyH_takeD (i := 19) (v := ?_) (some 25) rfl rfl (by kernel_rfl) (by kernel_rfl) (by kernel_rfl) (fun _ _ _ h => h) (Or.inl ⟨by kernel_rfl, ?_⟩) (by assumption) ?_
        rotate_left
        · (intro w hSw; (try dsimp only at hSw); go_simp); all_goals with_reducible rfl
        try simp only [Act.put, List.setIfInBounds_toArray, List.set_cons_zero, List.set_cons_succ]
        refine wpAnyH_done (by kernel_rfl) ?_ _
        go_wp2_with fail
        go_ret
        refine ⟨rfl, ?_⟩
        have := TT.out
        rw [HAF.out HcA.out] at this
        exact this
      case true =>
        rw [show comeF S (n0, v0) = ((addF S (n0, v0)).1, tellF (n0, v0)) from HE.out.trans (if_neg (by decide))]
        have HT : Hid (tellF (n0, v0) = if 0 ≤ namedF n0 then nF (namedF n0) 6 192 ++ tF v0 8 0 else tF n0 6 64 ++ tF v0 8 0) := Lib.hid rfl
        obtain ⟨m, hm⟩ : ∃ m, namedF n0 = m := ⟨_, rfl⟩
        obtain ⟨m1, m2⟩ := named_rng n0
        have Hnam := Lib.hid (fun w => named_any n0 w)
        rw [hm] at HT m1 m2 Hnam
        clear hm
        have hsv : (tF v0 8 0).size ≤ 6000 := by have := tF_size v0 8 0 (by omega) h2; omega
        have hsn : (tF n0 6 64).size ≤ 6000 := by have := tF_size n0 6 64 (by omega) h1; omega
        by_cases h0 : 0 ≤ m
        case pos =>
          obtain ⟨k, rfl⟩ := Int.eq_ofNat_of_zero_le h0
          rw [show tellF (n0, v0) = nF (k : Int) 6 192 ++ tF v0 8 0 from HT.out.trans (if_pos h0)]
          have hwr : IntKind.u64.wrap (k : Int) = k := IntWalk.u64_in _ (by omega)
          have hd : decide ((0 : Int) ≤ (k : Int)) = true := decide_eq_true h0
          have hsk : (nF (k : Int) 6 192).size ≤ 3 := nF_size _ _ _ (by omega) (by omega)
          clear h0 m1
          go_enter Try.func42, Try.ntmps42
          go_wp2_with fail
          rw [Hg.out]
          refine wp_region_held_drew (S := (fun w' => w'.cell? ⟨g, 0, none⟩ = some (.string n0) ∧ w'.cell? ⟨g, 1, none⟩ = some (.string v0))) (by kernel_rfl) (⟨q0, q1⟩) (fun hHeld => ?_)
          refine wpAnyH_takeD (i := 1) (v := ?_) (some 7) rfl rfl (by kernel_rfl) (by kernel_rfl) (by kernel_rfl) (fun _ _ _ h => h) (Or.inl ⟨by kernel_rfl, ?_⟩) (by assumption) ?_
          rotate_left
          · (intro w hSw; (try dsimp only at hSw); go_simp); all_goals with_reducible rfl
          try simp only [Act.put, List.setIfInBounds_toArray, List.set_cons_zero, List.set_cons_succ]
          refine wpAnyH_ready (rs := [0]) (by kernel_rfl) (by simp) ?_
          refine AllReadyH.cons rfl (fun K hK => ?_) AllReadyH.nil
          go_simp
          go_wp2_with (go_at_call 44; refine (Fixed_any _).mono ?_; rintro e x1 ⟨rfl, hF, bq⟩; have B1 := Lib.hid (BW.out.trans (bq.mono BW.out.size)); have T1 := Lib.hid (TW.out.below bq); rw [Hsz.out] at hF; have F1 := Lib.hid hF; clear hF)
          refine hK.out _ _ (two_below hHeld bq) (fun hHeld => ?_)
          clear hK K
          refine wpAnyH_ready (rs := [2]) (by kernel_rfl) (by simp) ?_
          refine AllReadyH.cons rfl (fun K hK => ?_) AllReadyH.nil
          go_simp
          go_wp2_with (go_at_call 43; refine (Contains_fix _ (n0, v0) _ F1.out).mono ?_; rintro e x2 ⟨he, bq⟩; rw [HcF.out] at he; subst he; have B2 := Lib.hid (B1.out.trans (bq.mono B1.out.size)); have T2 := Lib.hid (T1.out.below bq); have z0 := T2.out.1.cell (k := 0) rfl)
          refine hK.out _ _ (two_below hHeld bq) (fun hHeld => ?_)
          clear hK K
          refine wpAnyH_takeD (i := 3) (v := ?_) (some 9) rfl rfl (by kernel_rfl) (by kernel_rfl) (by kernel_rfl) (fun _ _ _ h => h) (Or.inl ⟨by kernel_rfl, ?_⟩) (by assumption) ?_
          rotate_left
          · (intro w hSw; (try dsimp only at hSw); go_simp); all_goals with_reducible rfl
          try simp only [Act.put, List.setIfInBounds_toArray, List.set_cons_zero, List.set_cons_succ]
          refine wpAnyH_takeD (i := 4) (v := ?_) (some 10) rfl rfl (by kernel_rfl) (by kernel_rfl) (by kernel_rfl) (fun _ _ _ h => h) (Or.inl ⟨by kernel_rfl, ?_⟩) (by assumption) ?_
          rotate_left
          · (intro w hSw; (try dsimp only at hSw); go_simp); all_goals with_reducible rfl
          try simp only [Act.put, List.setIfInBounds_toArray, List.set_cons_zero, List.set_cons_succ]
          refine wpAnyH_takeD (i := 5) (v := ?_) (some 11) rfl rfl (by kernel_rfl) (by kernel_rfl) (by kernel_rfl) (fun _ _ _ h => h) (Or.inl ⟨by kernel_rfl, ?_⟩) (by assumption) ?_
          rotate_left
          · (intro w hSw; (try dsimp only at hSw); go_simp); all_goals with_reducible rfl
          try simp only [Act.put, List.setIfInBounds_toArray, List.set_cons_zero, List.set_cons_succ]
          refine wpAnyH_takeD (i := 6) (v := ?_) (some 12) rfl rfl (by kernel_rfl) (by kernel_rfl) (by kernel_rfl) (fun _ _ _ h => h) (Or.inl ⟨by kernel_rfl, ?_⟩) (by assumption) ?_
          rotate_left
          · (intro w hSw; (try dsimp only at hSw); go_simp); all_goals with_reducible rfl
          try simp only [Act.put, List.setIfInBounds_toArray, List.set_cons_zero, List.set_cons_succ]
          refine wpAnyH_takeD (i := 7) (v := ?_) (some 13) rfl rfl (by kernel_rfl) (by kernel_rfl) (by kernel_rfl) (fun _ _ _ h => h) (Or.inl ⟨by kernel_rfl, ?_⟩) (by assumption) ?_
          rotate_left
          · (intro w hSw; (try dsimp only at hSw); go_simp); all_goals with_reducible rfl
          try simp only [Act.put, List.setIfInBounds_toArray, List.set_cons_zero, List.set_cons_succ]
          refine wpAnyH_takeD (i := 9) (v := ?_) (some 15) rfl rfl (by kernel_rfl) (by kernel_rfl) (by kernel_rfl) (fun _ _ _ h => h) (Or.inl ⟨by kernel_rfl, ?_⟩) (by assumption) ?_
          rotate_left
          · (intro w hSw; (try dsimp only at hSw); go_simp); all_goals with_reducible rfl
          try simp only [Act.put, List.setIfInBounds_toArray, List.set_cons_zero, List.set_cons_succ]
          refine wpAnyH_ready (rs := [8]) (by kernel_rfl) (by simp) ?_
          refine AllReadyH.cons rfl (fun K hK => ?_) AllReadyH.nil
          go_simp
          refine hK.out _ _ (hHeld) (fun hHeld => ?_)
          clear hK K
          refine wpAnyH_ready (rs := [10]) (by kernel_rfl) (by simp) ?_
          refine AllReadyH.cons rfl (fun K hK => ?_) AllReadyH.nil
          go_simp
          go_wp2_with (go_at_call 43; refine (Contains_tab (n0, v0) _ T2.out HN.out hNb).mono ?_; rintro e x3 ⟨he, bq⟩; rw [HcW.out] at he; subst he; have B3 := Lib.hid (B2.out.trans (bq.mono B2.out.size)); have T3 := Lib.hid (T2.out.below bq))
          refine hK.out _ _ (two_below hHeld bq) (fun hHeld => ?_)
          clear hK K
          refine wpAnyH_takeD (i := 11) (v := ?_) (some 17) rfl rfl (by kernel_rfl) (by kernel_rfl) (by kernel_rfl) (fun _ _ _ h => h) (Or.inl ⟨by kernel_rfl, ?_⟩) (by assumption) ?_
          rotate_left
          · (intro w hSw; (try dsimp only at hSw); go_simp); all_goals with_reducible rfl
          try simp only [Act.put, List.setIfInBounds_toArray, List.set_cons_zero, List.set_cons_succ]
          refine wpAnyH_takeD (i := 12) (v := ?_) (some 18) rfl rfl (by kernel_rfl) (by kernel_rfl) (by kernel_rfl) (fun _ _ _ h => h) (Or.inl ⟨by kernel_rfl, ?_⟩) (by assumption) ?_
          rotate_left
          · (intro w hSw; (try dsimp only at hSw); go_simp); all_goals with_reducible rfl
          try simp only [Act.put, List.setIfInBounds_toArray, List.set_cons_zero, List.set_cons_succ]
          refine wpAnyH_takeD (i := 13) (v := ?_) (some 19) rfl rfl (by kernel_rfl) (by kernel_rfl) (by kernel_rfl) (fun _ _ _ h => h) (Or.inl ⟨by kernel_rfl, ?_⟩) (by assumption) ?_
          rotate_left
          · (intro w hSw; (try dsimp only at hSw); go_simp); all_goals with_reducible rfl
          try simp only [Act.put, List.setIfInBounds_toArray, List.set_cons_zero, List.set_cons_succ]
          refine wpAnyH_takeD (i := 14) (v := ?_) (some 20) rfl rfl (by kernel_rfl) (by kernel_rfl) (by kernel_rfl) (fun _ _ _ h => h) (Or.inl ⟨by kernel_rfl, ?_⟩) (by assumption) ?_
          rotate_left
          · (intro w hSw; (try dsimp only at hSw); go_simp); all_goals with_reducible rfl
          try simp only [Act.put, List.setIfInBounds_toArray, List.set_cons_zero, List.set_cons_succ]
          refine wpAnyH_takeD (i := 15) (v := ?_) (some 21) rfl rfl (by kernel_rfl) (by kernel_rfl) (by kernel_rfl) (fun _ _ _ h => h) (Or.inl ⟨by kernel_rfl, ?_⟩) (by assumption) ?_
          rotate_left
          · (intro w hSw; (try dsimp only at hSw); go_simp); all_goals with_reducible rfl
          try simp only [Act.put, List.setIfInBounds_toArray, List.set_cons_zero, List.set_cons_succ]
          refine wpAnyH_takeD (i := 16) (v := ?_) (some 22) rfl rfl (by kernel_rfl) (by kernel_rfl) (by kernel_rfl) (fun _ _ _ h => h) (Or.inl ⟨by kernel_rfl, ?_⟩) (by assumption) ?_
          rotate_left
          · (intro w hSw; (try dsimp only at hSw); go_simp); all_goals with_reducible rfl
          try simp only [Act.put, List.setIfInBounds_toArray, List.set_cons_zero, List.set_cons_succ]
          refine wpAnyH_ready (rs := [17]) (by kernel_rfl) (by simp) ?_
          refine AllReadyH.cons rfl (fun K hK => ?_) AllReadyH.nil
          go_simp
          go_wp2_with (go_at_call 36; refine (add_any B b 71 (.slice p N cap) S (n0, v0) _ T3.out Hok.out (Nat.le_trans hBw B3.out.size) hBb (by decide) (by show n0.size ≤ 1000000; omega) (by show v0.size ≤ 1000000; omega)).mono ?_; rintro e x4 ⟨he, hA⟩; rw [HcA.out] at he; subst he; have TT : Hid (TabTo w x4 B b 71 (.slice p N cap) (addF S (n0, v0)).1) := Lib.hid (TabTo.ahead B3.out hA); obtain ⟨v4, hA1, hA2, hA3⟩ := hA; have b4 := hA2; clear hA1 hA2 hA3)
          refine hK.out _ _ (two_only hHeld b4 hgn) (fun hHeld => ?_)
          clear hK K
          refine wpAnyH_takeD (i := 18) (v := ?_) (some 24) rfl rfl (by kernel_rfl) (by kernel_rfl) (by kernel_rfl) (fun _ _ _ h => h) (Or.inl ⟨by kernel_rfl, ?_⟩) (by assumption) ?_
          rotate_left
          · (intro w hSw; (try dsimp only at hSw); go_simp); all_goals with_reducible rfl
          try simp only [Act.put, List.setIfInBounds_toArray, List.set_cons_zero, List.set_cons_succ]
          refine wpAnyH_takeD (i := 19) (v := ?_) (some 25) rfl rfl (by kernel_rfl) (by kernel_rfl) (by kernel_rfl) (fun _ _ _ h => h) (Or.inl ⟨by kernel_rfl, ?_⟩) (by assumption) ?_
          rotate_left
          · (intro w hSw; (try dsimp only at hSw); go_simp); all_goals with_reducible rfl
          try simp only [Act.put, List.setIfInBounds_toArray, List.set_cons_zero, List.set_cons_succ]
          refine wpAnyH_done (by kernel_rfl) ?_ _
          obtain ⟨r0, r1⟩ := hHeld
          clear q0 q1
          go_wp2_with fail
          refine (Hnam.out _).mono ?_
          rintro e x5 ⟨rfl, b5⟩
          obtain ⟨s0, s1⟩ := two_below ⟨r0, r1⟩ b5
          have T5 := Lib.hid (TT.out.further b5)
          clear b5 r0 r1
          go_wp2_with fail
          go_region_held (fun w' => (w'.cell? ⟨g, 0, none⟩ = some (.string n0) ∧ w'.cell? ⟨g, 1, none⟩ = some (.string v0)) ∧ TabTo w w' B b 71 (.slice p N cap) (addF S (n0, v0)).1)
            (first | with_reducible assumption | exact ⟨⟨s0, s1⟩, T5.out.drew⟩ | (refine two_tab ?_ (by with_reducible assumption); with_reducible assumption))
            (first | (go_at_call 46; refine (number_gen _ _ _ _ (by omega) (by omega) (by omega)).mono ?_; rintro e x6 ⟨rfl, b6⟩) | (go_at_call 70; refine (text_gen _ _ _ _ (by assumption) (by omega) (by omega)).mono ?_; rintro e x7 ⟨rfl, b7⟩))
          all_goals go_wp2_with fail
          all_goals
            go_ret
            refine ⟨rfl, ?_⟩
            exact (show (_ ∧ _) ∧ TabTo w _ B b 71 (.slice p N cap) (addF S (n0, v0)).1 by with_reducible assumption).2
        case neg =>
          rw [show tellF (n0, v0) = tF n0 6 64 ++ tF v0 8 0 from HT.out.trans (if_neg h0)]
          have hd : decide ((0 : Int) ≤ m) = false := decide_eq_false h0
          clear h0 m1 m2
          go_enter Try.func42, Try.ntmps42
          go_wp2_with fail
          rw [Hg.out]
          refine wp_region_held_drew (S := (fun w' => w'.cell? ⟨g, 0, none⟩ = some (.string n0) ∧ w'.cell? ⟨g, 1, none⟩ = some (.string v0))) (by kernel_rfl) (⟨q0, q1⟩) (fun hHeld => ?_)
          refine wpAnyH_takeD (i := 1) (v := ?_) (some 7) rfl rfl (by kernel_rfl) (by kernel_rfl) (by kernel_rfl) (fun _ _ _ h => h) (Or.inl ⟨by kernel_rfl, ?_⟩) (by assumption) ?_
          rotate_left
          · (intro w hSw; (try dsimp only at hSw); go_simp); all_goals with_reducible rfl
          try simp only [Act.put, List.setIfInBounds_toArray, List.set_cons_zero, List.set_cons_succ]
          refine wpAnyH_ready (rs := [0]) (by kernel_rfl) (by simp) ?_
          refine AllReadyH.cons rfl (fun K hK => ?_) AllReadyH.nil
          go_simp
          go_wp2_with (go_at_call 44; refine (Fixed_any _).mono ?_; rintro e x1 ⟨rfl, hF, bq⟩; have B1 := Lib.hid (BW.out.trans (bq.mono BW.out.size)); have T1 := Lib.hid (TW.out.below bq); rw [Hsz.out] at hF; have F1 := Lib.hid hF; clear hF)
          refine hK.out _ _ (two_below hHeld bq) (fun hHeld => ?_)
          clear hK K
          refine wpAnyH_ready (rs := [2]) (by kernel_rfl) (by simp) ?_
          refine AllReadyH.cons rfl (fun K hK => ?_) AllReadyH.nil
          go_simp
          go_wp2_with (go_at_call 43; refine (Contains_fix _ (n0, v0) _ F1.out).mono ?_; rintro e x2 ⟨he, bq⟩; rw [HcF.out] at he; subst he; have B2 := Lib.hid (B1.out.trans (bq.mono B1.out.size)); have T2 := Lib.hid (T1.out.below bq); have z0 := T2.out.1.cell (k := 0) rfl)
          refine hK.out _ _ (two_below hHeld bq) (fun hHeld => ?_)
          clear hK K
          refine wpAnyH_takeD (i := 3) (v := ?_) (some 9) rfl rfl (by kernel_rfl) (by kernel_rfl) (by kernel_rfl) (fun _ _ _ h => h) (Or.inl ⟨by kernel_rfl, ?_⟩) (by assumption) ?_
          rotate_left
          · (intro w hSw; (try dsimp only at hSw); go_simp); all_goals with_reducible rfl
          try simp only [Act.put, List.setIfInBounds_toArray, List.set_cons_zero, List.set_cons_succ]
          refine wpAnyH_takeD (i := 4) (v := ?_) (some 10) rfl rfl (by kernel_rfl) (by kernel_rfl) (by kernel_rfl) (fun _ _ _ h => h) (Or.inl ⟨by kernel_rfl, ?_⟩) (by assumption) ?_
          rotate_left
          · (intro w hSw; (try dsimp only at hSw); go_simp); all_goals with_reducible rfl
          try simp only [Act.put, List.setIfInBounds_toArray, List.set_cons_zero, List.set_cons_succ]
          refine wpAnyH_takeD (i := 5) (v := ?_) (some 11) rfl rfl (by kernel_rfl) (by kernel_rfl) (by kernel_rfl) (fun _ _ _ h => h) (Or.inl ⟨by kernel_rfl, ?_⟩) (by assumption) ?_
          rotate_left
          · (intro w hSw; (try dsimp only at hSw); go_simp); all_goals with_reducible rfl
          try simp only [Act.put, List.setIfInBounds_toArray, List.set_cons_zero, List.set_cons_succ]
          refine wpAnyH_takeD (i := 6) (v := ?_) (some 12) rfl rfl (by kernel_rfl) (by kernel_rfl) (by kernel_rfl) (fun _ _ _ h => h) (Or.inl ⟨by kernel_rfl, ?_⟩) (by assumption) ?_
          rotate_left
          · (intro w hSw; (try dsimp only at hSw); go_simp); all_goals with_reducible rfl
          try simp only [Act.put, List.setIfInBounds_toArray, List.set_cons_zero, List.set_cons_succ]
          refine wpAnyH_takeD (i := 7) (v := ?_) (some 13) rfl rfl (by kernel_rfl) (by kernel_rfl) (by kernel_rfl) (fun _ _ _ h => h) (Or.inl ⟨by kernel_rfl, ?_⟩) (by assumption) ?_
          rotate_left
          · (intro w hSw; (try dsimp only at hSw); go_simp); all_goals with_reducible rfl
          try simp only [Act.put, List.setIfInBounds_toArray, List.set_cons_zero, List.set_cons_succ]
          refine wpAnyH_takeD (i := 9) (v := ?_) (some 15) rfl rfl (by kernel_rfl) (by kernel_rfl) (by kernel_rfl) (fun _ _ _ h => h) (Or.inl ⟨by kernel_rfl, ?_⟩) (by assumption) ?_
          rotate_left
          · (intro w hSw; (try dsimp only at hSw); go_simp); all_goals with_reducible rfl
          try simp only [Act.put, List.setIfInBounds_toArray, List.set_cons_zero, List.set_cons_succ]
          refine wpAnyH_ready (rs := [8]) (by kernel_rfl) (by simp) ?_
          refine AllReadyH.cons rfl (fun K hK => ?_) AllReadyH.nil
          go_simp
          refine hK.out _ _ (hHeld) (fun hHeld => ?_)
          clear hK K
          refine wpAnyH_ready (rs := [10]) (by kernel_rfl) (by simp) ?_
          refine AllReadyH.cons rfl (fun K hK => ?_) AllReadyH.nil
          go_simp
          go_wp2_with (go_at_call 43; refine (Contains_tab (n0, v0) _ T2.out HN.out hNb).mono ?_; rintro e x3 ⟨he, bq⟩; rw [HcW.out] at he; subst he; have B3 := Lib.hid (B2.out.trans (bq.mono B2.out.size)); have T3 := Lib.hid (T2.out.below bq))
          refine hK.out _ _ (two_below hHeld bq) (fun hHeld => ?_)
          clear hK K
          refine wpAnyH_takeD (i := 11) (v := ?_) (some 17) rfl rfl (by kernel_rfl) (by kernel_rfl) (by kernel_rfl) (fun _ _ _ h => h) (Or.inl ⟨by kernel_rfl, ?_⟩) (by assumption) ?_
          rotate_left
          · (intro w hSw; (try dsimp only at hSw); go_simp); all_goals with_reducible rfl
          try simp only [Act.put, List.setIfInBounds_toArray, List.set_cons_zero, List.set_cons_succ]
          refine wpAnyH_takeD (i := 12) (v := ?_) (some 18) rfl rfl (by kernel_rfl) (by kernel_rfl) (by kernel_rfl) (fun _ _ _ h => h) (Or.inl ⟨by kernel_rfl, ?_⟩) (by assumption) ?_
          rotate_left
          · (intro w hSw; (try dsimp only at hSw); go_simp); all_goals with_reducible rfl
          try simp only [Act.put, List.setIfInBounds_toArray, List.set_cons_zero, List.set_cons_succ]
          refine wpAnyH_takeD (i := 13) (v := ?_) (some 19) rfl rfl (by kernel_rfl) (by kernel_rfl) (by kernel_rfl) (fun _ _ _ h => h) (Or.inl ⟨by kernel_rfl, ?_⟩) (by assumption) ?_
          rotate_left
          · (intro w hSw; (try dsimp only at hSw); go_simp); all_goals with_reducible rfl
          try simp only [Act.put, List.setIfInBounds_toArray, List.set_cons_zero, List.set_cons_succ]
          refine wpAnyH_takeD (i := 14) (v := ?_) (some 20) rfl rfl (by kernel_rfl) (by kernel_rfl) (by kernel_rfl) (fun _ _ _ h => h) (Or.inl ⟨by kernel_rfl, ?_⟩) (by assumption) ?_
          rotate_left
          · (intro w hSw; (try dsimp only at hSw); go_simp); all_goals with_reducible rfl
          try simp only [Act.put, List.setIfInBounds_toArray, List.set_cons_zero, List.set_cons_succ]
          refine wpAnyH_takeD (i := 15) (v := ?_) (some 21) rfl rfl (by kernel_rfl) (by kernel_rfl) (by kernel_rfl) (fun _ _ _ h => h) (Or.inl ⟨by kernel_rfl, ?_⟩) (by assumption) ?_
          rotate_left
          · (intro w hSw; (try dsimp only at hSw); go_simp); all_goals with_reducible rfl
          try simp only [Act.put, List.setIfInBounds_toArray, List.set_cons_zero, List.set_cons_succ]
          refine wpAnyH_takeD (i := 16) (v := ?_) (some 22) rfl rfl (by kernel_rfl) (by kernel_rfl) (by kernel_rfl) (fun _ _ _ h => h) (Or.inl ⟨by kernel_rfl, ?_⟩) (by assumption) ?_
          rotate_left
          · (intro w hSw; (try dsimp only at hSw); go_simp); all_goals with_reducible rfl
          try simp only [Act.put, List.setIfInBounds_toArray, List.set_cons_zero, List.set_cons_succ]
          refine wpAnyH_ready (rs := [17]) (by kernel_rfl) (by simp) ?_
          refine AllReadyH.cons rfl (fun K hK => ?_) AllReadyH.nil
          go_simp
          go_wp2_with (go_at_call 36; refine (add_any B b 71 (.slice p N cap) S (n0, v0) _ T3.out Hok.out (Nat.le_trans hBw B3.out.size) hBb (by decide) (by show n0.size ≤ 1000000; omega) (by show v0.size ≤ 1000000; omega)).mono ?_; rintro e x4 ⟨he, hA⟩; rw [HcA.out] at he; subst he; have TT : Hid (TabTo w x4 B b 71 (.slice p N cap) (addF S (n0, v0)).1) := Lib.hid (TabTo.ahead B3.out hA); obtain ⟨v4, hA1, hA2, hA3⟩ := hA; have b4 := hA2; clear hA1 hA2 hA3)
          refine hK.out _ _ (two_only hHeld b4 hgn) (fun hHeld => ?_)
          clear hK K
          refine wpAnyH_takeD (i := 18) (v := ?_) (some 24) rfl rfl (by kernel_rfl) (by kernel_rfl) (by kernel_rfl) (fun _ _ _ h => h) (Or.inl ⟨by kernel_rfl, ?_⟩) (by assumption) ?_
          rotate_left
          · (intro w hSw; (try dsimp only at hSw); go_simp); all_goals with_reducible rfl
          try simp only [Act.put, List.setIfInBounds_toArray, List.set_cons_zero, List.set_cons_succ]
          refine wpAnyH_takeD (i := 19) (v := ?_) (some 25) rfl rfl (by kernel_rfl) (by kernel_rfl) (by kernel_rfl) (fun _ _ _ h => h) (Or.inl ⟨by kernel_rfl, ?_⟩) (by assumption) ?_
          rotate_left
          · (intro w hSw; (try dsimp only at hSw); go_simp); all_goals with_reducible rfl
          try simp only [Act.put, List.setIfInBounds_toArray, List.set_cons_zero, List.set_cons_succ]
          refine wpAnyH_done (by kernel_rfl) ?_ _
          obtain ⟨r0, r1⟩ := hHeld
          clear q0 q1
          go_wp2_with fail
          refine (Hnam.out _).mono ?_
          rintro e x5 ⟨rfl, b5⟩
          obtain ⟨s0, s1⟩ := two_below ⟨r0, r1⟩ b5
          have T5 := Lib.hid (TT.out.further b5)
          clear b5 r0 r1
          go_wp2_with fail
          go_region_held (fun w' => (w'.cell? ⟨g, 0, none⟩ = some (.string n0) ∧ w'.cell? ⟨g, 1, none⟩ = some (.string v0)) ∧ TabTo w w' B b 71 (.slice p N cap) (addF S (n0, v0)).1)
            (first | with_reducible assumption | exact ⟨⟨s0, s1⟩, T5.out.drew⟩ | (refine two_tab ?_ (by with_reducible assumption); with_reducible assumption))
            (first | (go_at_call 46; refine (number_gen _ _ _ _ (by omega) (by omega) (by omega)).mono ?_; rintro e x6 ⟨rfl, b6⟩) | (go_at_call 70; refine (text_gen _ _ _ _ (by assumption) (by omega) (by omega)).mono ?_; rintro e x7 ⟨rfl, b7⟩))
          all_goals go_wp2_with fail
          all_goals
            go_ret
            refine ⟨rfl, ?_⟩
            exact (show (_ ∧ _) ∧ TabTo w _ B b 71 (.slice p N cap) (addF S (n0, v0)).1 by with_reducible assumption).2

end Go.Proofs.Ytgnoiheekgmleaa
