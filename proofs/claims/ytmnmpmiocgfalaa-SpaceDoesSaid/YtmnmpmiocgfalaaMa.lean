/- Bricks: blocks that are known whole; frames that name what may turn. No program in sight. -/
import Derived.WalkKit
import Derived.Outline
import Derived.WalkLawsBesides
import Derived.WalkSpells
import Derived.Lib.Hide
import Derived.BigQuiet
import Derived.Deep.QuietTactic
import Derived.Deep.RegionLaw
import Derived.Maps.AppendAt
import Derived.Shelf.Abstract
namespace Go.Proofs.Ytmnmpmiocgfalaa
open Go.ChangeShapes Go.WideShapes Go.RowKit
set_option linter.unusedVariables false

/-- Block b is these cells, of type T. -/
def blk (w : World) (b : Nat) (T : TypeId) (L : List Value) : Prop := w.heap[b]? = some (.cells L.toArray T (0, 0))

theorem blk.lt {w : World} {b : Nat} {T : TypeId} {L : List Value} (h : blk w b T L) : b < w.heap.size := lt_of_block h
theorem blk.cell {w : World} {b : Nat} {T : TypeId} {L : List Value} (h : blk w b T L) {k : Nat} {v : Value} (hv : L[k]? = some v) : w.cell? ⟨b, k, none⟩ = some v := by
  unfold blk at h
  simp [World.cell?, h, hv]
theorem blk.free {w : World} {b : Nat} {T : TypeId} {L : List Value} (h : blk w b T L) (k : Nat) : w.frozen? ⟨b, k, none⟩ = false := by
  unfold blk at h
  simp [World.frozen?, h]
theorem blk.alloc {w : World} {b : Nat} {T : TypeId} {L : List Value} (h : blk w b T L) (o : Obj) : blk (w.alloc o) b T L := by
  unfold blk at h ⊢
  rw [Below.heap_alloc _ _ _ (lt_of_block h)]
  exact h
theorem blk.new (w : World) (T : TypeId) (L : List Value) : blk (w.alloc (.cells L.toArray T)) w.heap.size T L := heap_alloc_new w _
theorem blk.set {w : World} {b : Nat} {T : TypeId} {L : List Value} (h : blk w b T L) (k : Nat) (u : Value) : blk (w.setCell ⟨b, k, none⟩ u) b T (L.set k u) := by
  have := heap_setCell_same w b k L.toArray T u h
  unfold blk
  rw [this]
  simp
theorem blk.set_other {w : World} {b : Nat} {T : TypeId} {L : List Value} (h : blk w b T L) {p : Addr} (hp : p.block ≠ b) (u : Value) : blk (w.setCell p u) b T L := by
  unfold blk at h ⊢
  rw [Below.heap_setCell _ _ _ _ (fun e => hp e.symm)]
  exact h
theorem blk.drew {w : World} {b : Nat} {T : TypeId} {L : List Value} (h : blk w b T L) : blk w.drew b T L := h
theorem blk.drewN {w : World} {b : Nat} {T : TypeId} {L : List Value} (h : blk w b T L) (n : Nat) : blk (w.drewN n) b T L := h

/-- Only blocks of S, and new ones, may have turned. -/
structure Only (S : Nat → Prop) (w w' : World) : Prop where
  os : w'.os = w.os
  tape : w'.tape = w.tape
  output : w'.output = w.output
  size : w.heap.size ≤ w'.heap.size
  block : ∀ k, k < w.heap.size → ¬ S k → w'.heap[k]? = w.heap[k]?

theorem Only.refl (S : Nat → Prop) (w : World) : Only S w w := ⟨rfl, rfl, rfl, Nat.le_refl _, fun _ _ _ => rfl⟩
theorem Only.trans {S : Nat → Prop} {a b c : World} (h : Only S a b) (k : Only S b c) : Only S a c :=
  ⟨k.os.trans h.os, k.tape.trans h.tape, k.output.trans h.output, Nat.le_trans h.size k.size, fun i hi hs => (k.block i (Nat.lt_of_lt_of_le hi h.size) hs).trans (h.block i hi hs)⟩
/-- A second step that may turn what is new besides. -/
theorem Only.then {S S' : Nat → Prop} {a b c : World} (h : Only S a b) (k : Only S' b c) (hs : ∀ i, S' i → S i ∨ a.heap.size ≤ i) : Only S a c :=
  ⟨k.os.trans h.os, k.tape.trans h.tape, k.output.trans h.output, Nat.le_trans h.size k.size, fun i hi hn => (k.block i (Nat.lt_of_lt_of_le hi h.size) (fun e => by rcases hs i e with h1 | h1; exact hn h1; omega)).trans (h.block i hi hn)⟩
theorem Only.mono {S S' : Nat → Prop} {a b : World} (h : Only S a b) (hs : ∀ i, S i → S' i) : Only S' a b := ⟨h.os, h.tape, h.output, h.size, fun i hi hn => h.block i hi (fun e => hn (hs i e))⟩
theorem Only.ofBelow {S : Nat → Prop} {a b : World} (h : Below a.heap.size a b) : Only S a b := ⟨h.os, h.tape, h.output, h.size, fun i hi _ => h.block i hi⟩
theorem Only.drew {S : Nat → Prop} {a w : World} (h : Only S a w) : Only S a w.drew := ⟨h.os, h.tape, h.output, h.size, h.block⟩
theorem Only.drewN {S : Nat → Prop} {a w : World} (h : Only S a w) (n : Nat) : Only S a (w.drewN n) := ⟨h.os, h.tape, h.output, h.size, h.block⟩
theorem Only.alloc {S : Nat → Prop} {a w : World} (h : Only S a w) (o : Obj) : Only S a (w.alloc o) :=
  h.trans ⟨rfl, rfl, rfl, by simp, fun k hk _ => Below.heap_alloc _ _ _ hk⟩
theorem Only.setCell {S : Nat → Prop} {a w : World} (h : Only S a w) {p : Addr} (hp : S p.block ∨ a.heap.size ≤ p.block) (u : Value) : Only S a (w.setCell p u) :=
  ⟨h.os, h.tape, h.output, by simpa [World.setCell] using h.size, fun k hk hs => (Below.heap_setCell _ _ _ _ (by rintro rfl; rcases hp with h1 | h1; exact hs h1; omega)).trans (h.block k hk hs)⟩
theorem Only.grown {S : Nat → Prop} {a w w' : World} {row : Option Nat} (h : Only S a w) (hg : w.grownBy w' row) (hr : ∀ k, row = some k → S k ∨ a.heap.size ≤ k) : Only S a w' :=
  ⟨hg.os.trans h.os, hg.tape.trans h.tape, hg.output.trans h.output, Nat.le_trans h.size hg.size, fun k hk hs => (hg.block k (Nat.lt_of_lt_of_le hk h.size) (fun e => by rcases hr k e.symm with h1 | h1; exact hs h1; omega)).trans (h.block k hk hs)⟩
theorem Only.below {S : Nat → Prop} {B : Nat} {a w : World} (h : Only S a w) (hB : B ≤ a.heap.size) (hs : ∀ k, S k → B ≤ k) : Below B a w :=
  ⟨h.os, h.tape, h.output, h.size, fun k hk => h.block k (by omega) (fun e => by have := hs k e; omega)⟩
theorem Only.cell {S : Nat → Prop} {w w' : World} (h : Only S w w') {p : Addr} (hp : p.block < w.heap.size) (hs : ¬ S p.block) : w'.cell? p = w.cell? p := World.cell?_of_block (w := w) (h.block p.block hp hs)
theorem Only.frozen {S : Nat → Prop} {w w' : World} (h : Only S w w') {p : Addr} (hp : p.block < w.heap.size) (hs : ¬ S p.block) : w'.frozen? p = w.frozen? p := World.frozen?_of_block (w := w) (h.block p.block hp hs)

theorem blk.only {S : Nat → Prop} {w w' : World} {b : Nat} {T : TypeId} {L : List Value} (h : blk w b T L) (ho : Only S w w') (hs : ¬ S b) : blk w' b T L := by
  unfold blk at h ⊢
  rw [ho.block b (lt_of_block h) hs]
  exact h
theorem blk.below {B : Nat} {w w' : World} {b : Nat} {T : TypeId} {L : List Value} (h : blk w b T L) (ho : Below B w w') (hs : b < B) : blk w' b T L := by
  unfold blk at h ⊢
  rw [ho.block b hs]
  exact h
theorem blk.grown {w w' : World} {row : Option Nat} {b : Nat} {T : TypeId} {L : List Value} (h : blk w b T L) (hg : w.grownBy w' row) (hs : some b ≠ row) : blk w' b T L := by
  unfold blk at h ⊢
  rw [hg.block b (lt_of_block h) hs]
  exact h

section
variable {w w' : World} {base : Nat} {e : TypeId} {size : Nat} {v : Value} {n : Nat} {xs : List Value}
theorem own_only {S : Nat → Prop} (h : w.ownsRow base e size v n xs) (ho : Only S w w') (hs : ∀ k, v.ownBlock = some k → ¬ S k) : w'.ownsRow base e size v n xs := by
  obtain ⟨h1, h2⟩ := h
  refine ⟨h1, ?_⟩
  rcases h2 with h2 | ⟨g, cap, cur, rfl, hg, hh, r⟩
  · exact .inl h2
  · exact .inr ⟨g, cap, cur, rfl, hg, by rw [ho.block g (lt_of_block hh) (hs g rfl)]; exact hh, r⟩
theorem own_below (h : w.ownsRow base e size v n xs) (ho : Below w.heap.size w w') : w'.ownsRow base e size v n xs := own_only (S := fun _ => False) h (Only.ofBelow ho) (fun _ _ => id)
theorem own_base {base' : Nat} (h : w.ownsRow base e size v n xs) (hb : base' ≤ base) : w.ownsRow base' e size v n xs := by
  obtain ⟨h1, h2⟩ := h
  refine ⟨h1, ?_⟩
  rcases h2 with h2 | ⟨g, cap, cur, hv, hg, r⟩
  · exact .inl h2
  · exact .inr ⟨g, cap, cur, hv, by omega, r⟩
/-- What is owned lies in a block of its elements' type: so a block of another type is another block. -/
theorem own_ne {b : Nat} {T : TypeId} {L : List Value} (h : w.ownsRow base e size v n xs) (hb : blk w b T L) (ht : T ≠ e) : v.ownBlock ≠ some b := by
  rcases h.2 with ⟨rfl, _⟩ | ⟨g, cap, cur, rfl, _, hh, _⟩
  · simp [Value.ownBlock]
  · simp only [Value.ownBlock]
    intro he
    injection he with he
    subst he
    unfold blk at hb
    rw [hh] at hb
    injection hb with hb
    injection hb with _ h2 _
    exact ht h2.symm
theorem own_ne2 {base2 : Nat} {e2 : TypeId} {size2 : Nat} {v2 : Value} {n2 : Nat} {xs2 : List Value} (h : w.ownsRow base e size v n xs) (h2 : w.ownsRow base2 e2 size2 v2 n2 xs2) (ht : e ≠ e2) : ∀ k, v.ownBlock = some k → v2.ownBlock ≠ some k := by
  intro k hk
  rcases h.2 with ⟨rfl, _⟩ | ⟨g, cap, cur, rfl, _, hh, _⟩
  · simp [Value.ownBlock] at hk
  · simp only [Value.ownBlock, Option.some.injEq] at hk
    subst hk
    rcases h2.2 with ⟨rfl, _⟩ | ⟨g2, cap2, cur2, rfl, _, hh2, _⟩
    · simp [Value.ownBlock]
    · simp only [Value.ownBlock]
      intro he
      injection he with he
      subst he
      rw [hh] at hh2
      injection hh2 with hh2
      injection hh2 with _ h3 _
      exact ht h3
theorem own_shape (h : w.ownsRow base e size v n xs) : ∃ p cap, v = .slice p n cap ∧ (0 < n → ∃ g, p = some ⟨g, 0, none⟩) := by
  rcases h.2 with ⟨rfl, rfl⟩ | ⟨g, cap, cur, rfl, _⟩
  · exact ⟨none, 0, rfl, fun h => by omega⟩
  · exact ⟨_, cap, rfl, fun _ => ⟨g, rfl⟩⟩
theorem own_view (h : w.ownsRow base e size v n xs) (hn : 0 < n) : ∃ g cap, v = .slice (some ⟨g, 0, none⟩) n cap ∧ base ≤ g ∧ g < w.heap.size ∧ (∀ j u, xs[j]? = some u → w.cell? ⟨g, j, none⟩ = some u) ∧ ∀ j, w.frozen? ⟨g, j, none⟩ = false := by
  have hx := h
  rcases h.2 with ⟨rfl, rfl⟩ | ⟨g, cap, cur, rfl, hb, hh, _⟩
  · omega
  · refine ⟨g, cap, rfl, hb, lt_of_block hh, fun j u hu => ?_, fun j => hx.frozenAt j⟩
    have hj : j < n * size := by rw [← hx.1]; exact (List.getElem?_eq_some_iff.1 hu).1
    rw [hx.cellAt j hj, hu]
end

theorem add_zero (g j : Nat) : (⟨g, 0, none⟩ : Addr).add j = ⟨g, j, none⟩ := by unfold Addr.add; split <;> simp_all

/-- One element more, behind what the call owns: the element lies in the newest block. -/
theorem run_append_new {P : Program} {wr : World} (base : Nat) (t ty e : TypeId) (i : TypeInfo) (z : Value) (size bytes : Nat) (ht : P.underlying t = some (.slice e)) (hi : P.info? e = some i) (hz : i.zero = some z)
    (hsize : i.size = size) (hby : i.bytes = bytes) (hzs : z.cells.size = size) (hsz : 0 < size)
    (v : Value) (n : Nat) (xs : List Value) (hown : wr.ownsRow base e size v n xs) (L : List Value) (hL : L.length = size) (h1 : ∀ u ∈ L, u.oneCell' = true)
    (hn : n ≤ 1000000) (hbytes : bytes ≤ 1000) (hbase : base ≤ wr.heap.size) :
    ∃ v' w', (Builtin.append_ #[t, t] ty #[v, .slice (some ⟨wr.heap.size, 0, none⟩) 1 1]).run P (wr.alloc (.cells L.toArray e)) = .ok v' w' ∧ w'.ownsRow base e size v' (n + 1) (xs ++ L) ∧ Only (fun k => v.ownBlock = some k) wr w' ∧ (v'.ownBlock = v.ownBlock ∨ v'.ownBlock = some (wr.heap.size + 1)) := by
  have hmul : (n + 1) * bytes ≤ 1000001 * 1000 := Nat.mul_le_mul (by omega) hbytes
  obtain ⟨v', w', h, h2, h3, _, h4⟩ := run_append_own_at (P := P) (wr.alloc (.cells L.toArray e)) base t ty e i z size bytes ht hi hz hsize hby hzs hsz v n xs (hown.alloc _) ⟨wr.heap.size, 0, none⟩ 1 1 L (by omega)
    (fun j u hu => by rw [add_zero, World.cell?_alloc_at _ _ _ _ rfl]; simpa using hu) h1 (by unfold maxLen; omega) (by omega) (by simp; omega)
  refine ⟨v', w', h, h2, ?_, ?_⟩
  · exact ((Only.refl _ wr).alloc _).grown h3 (fun k hk => .inl hk)
  · rcases h4 with h4 | h4
    · exact .inl h4
    · exact .inr (by rw [h4]; simp)

theorem wpList_append_new {P : Program} {ops : Array Oper} {rest : List Oper} {o : Oper} {a : Act} {Q : Exit → Act → World → Prop} (wr : World) (hgd : o.guard = none) (s x : Operand) (t : TypeId)
    (ho : o.op = .call { callee := .builtin .append, args := #[s, x], argTypes := #[t, t] })
    (base : Nat) (e : TypeId) (i : TypeInfo) (z : Value) (size bytes : Nat) (ht : P.underlying t = some (.slice e)) (hi : P.info? e = some i) (hz : i.zero = some z)
    (hsize : i.size = size) (hby : i.bytes = bytes) (hzs : z.cells.size = size) (hsz : 0 < size)
    (v : Value) (n : Nat) (xs : List Value) (hown : wr.ownsRow base e size v n xs) (L : List Value) (C : Array Value) (hC : C = L.toArray) (hL : L.length = size) (h1 : ∀ u ∈ L, u.oneCell' = true)
    (hn : n ≤ 1000000) (hbytes : bytes ≤ 1000) (hbase : base ≤ wr.heap.size) (hs : a.eval s = v) (hx : a.eval x = .slice (some ⟨wr.heap.size, 0, none⟩) 1 1)
    (h : ∀ v' w', w'.ownsRow base e size v' (n + 1) (xs ++ L) → Only (fun k => v.ownBlock = some k) wr w' → (v'.ownBlock = v.ownBlock ∨ v'.ownBlock = some (wr.heap.size + 1)) → wpList P ops Q rest (a.put o.dst v') w') :
    wpList P ops Q (o :: rest) a (wr.alloc (.cells C e)) := by
  subst hC
  refine wpList_plain hgd fun _ hK => ?_
  obtain ⟨v', w', hrun, h2, h3, h4⟩ := run_append_new (P := P) base t o.type e i z size bytes ht hi hz hsize hby hzs hsz v n xs hown L hL h1 hn hbytes hbase
  unfold Oper.wp execOp
  simp only [ho, resolve, invoke, builtin, Sem.run_bind, Sem.run_pure, Result.andThen_ok, List.map_toArray, List.map_cons, List.map_nil, hs, hx, hrun]
  exact hK _ _ (h v' w' h2 h3 h4)

/-- The same as a step of a region that draws. -/
theorem step_append_new {P : Program} {ops : Array Oper} {o : Oper} {a : Act} {K : Act → World → Prop} {Q : Exit → Act → World → Prop} {E : Prop} (wr : World) (w : World) (hgd : o.guard = none) (s x : Operand) (t : TypeId)
    (ho : o.op = .call { callee := .builtin .append, args := #[s, x], argTypes := #[t, t] })
    (base : Nat) (e : TypeId) (i : TypeInfo) (z : Value) (size bytes : Nat) (ht : P.underlying t = some (.slice e)) (hi : P.info? e = some i) (hz : i.zero = some z)
    (hsize : i.size = size) (hby : i.bytes = bytes) (hzs : z.cells.size = size) (hsz : 0 < size)
    (v : Value) (n : Nat) (xs : List Value) (hown : wr.ownsRow base e size v n xs) (L : List Value) (C : Array Value) (hC : C = L.toArray) (hL : L.length = size) (h1 : ∀ u ∈ L, u.oneCell' = true)
    (hn : n ≤ 1000000) (hbytes : bytes ≤ 1000) (hbase : base ≤ wr.heap.size) (hw : w = wr.alloc (.cells C e)) (hs : a.eval s = v) (hx : a.eval x = .slice (some ⟨wr.heap.size, 0, none⟩) 1 1)
    (h : ∀ v' w', w'.ownsRow base e size v' (n + 1) (xs ++ L) → Only (fun k => v.ownBlock = some k) wr w' → (v'.ownBlock = v.ownBlock ∨ v'.ownBlock = some (wr.heap.size + 1)) → K (a.put o.dst v') w') :
    if Region.wanted o (yielded ops a.tmps) = true then Oper.wp P o a w K Q else E := by
  subst hC
  subst hw
  have hw : Region.wanted o (yielded ops a.tmps) = true := by simp [Region.wanted, hgd]
  rw [if_pos hw]
  obtain ⟨v', w', hrun, h2, h3, h4⟩ := run_append_new (P := P) base t o.type e i z size bytes ht hi hz hsize hby hzs hsz v n xs hown L hL h1 hn hbytes hbase
  unfold Oper.wp execOp
  simp only [ho, resolve, invoke, builtin, Sem.run_bind, Sem.run_pure, Result.andThen_ok, List.map_toArray, List.map_cons, List.map_nil, hs, hx, hrun]
  exact h v' w' h2 h3 h4

/-- copy over elements of k cells. -/
theorem run_copy_rowK {P : Program} (w : World) (dT sT ty elem : TypeId) (g o dLen dCap : Nat) (a : Addr) (sLen sCap : Nat) (cur : Array Value) (t : TypeId) (cs : List Value) (k m : Nat)
    (hu : P.underlying dT = some (.slice elem)) (hs : (P.info? elem).map (·.size) = some k) (hm : Nat.min sLen dLen = m)
    (hg : w.heap[g]? = some (.cells cur t (0, 0))) (hn : cs.length = m * k)
    (hsrc : ∀ j v, cs[j]? = some v → w.cell? (a.add j) = some v) (hfit : o + cs.length ≤ cur.size) (h1 : ∀ v ∈ cs, v.oneCell' = true) :
    (Builtin.copy_ #[dT, sT] ty #[.slice (some ⟨g, o, none⟩) dLen dCap, .slice (some a) sLen sCap]).run P w =
      .ok (goInt m) (w.setRow g (cur.toList.take o ++ cs ++ cur.toList.drop (o + cs.length)).toArray) := by
  have hl := run_loadCells_list (P := P) w a cs hsrc
  have hst := run_storeCells_at P g o t cs 0 cur w hg (by simpa using hfit) h1
  cases hq : P.info? elem with
  | none => simp [hq] at hs
  | some i =>
    have hi : i.size = k := by simpa [hq] using hs
    simp [Builtin.copy_, run_underlying hu, Builtin.lenOf, Builtin.firstCells, sizeOf, typeInfo, hq, hi, hm, ← hn, hl, hst]

/-- A whole row is copied into another one of the call's own. -/
theorem run_copy_full {P : Program} {w : World} (dT sT ty : TypeId) (elem : TypeId) (k : Nat) (hu : P.underlying dT = some (.slice elem)) (hsz : (P.info? elem).map (·.size) = some k)
    (base n : Nat) (v : Value) (zs xs : List Value) (hown : w.ownsRow base elem k v n zs) (p : Option Addr) (cap : Nat) (hx : xs.length = n * k)
    (hsrc : 0 < n → ∃ A, p = some A ∧ ∀ j u, xs[j]? = some u → w.cell? (A.add j) = some u) (h1 : ∀ u ∈ xs, u.oneCell' = true) :
    ∃ w', (Builtin.copy_ #[dT, sT] ty #[v, .slice p n cap]).run P w = .ok (goInt n) w' ∧ w'.ownsRow base elem k v n xs ∧ w.grownBy w' v.ownBlock := by
  obtain ⟨hl, h2⟩ := hown
  rcases Nat.eq_zero_or_pos n with h0 | h0
  · subst h0
    have hxs : xs = [] := List.eq_nil_of_length_eq_zero (by simpa using hx)
    have hzs : zs = [] := List.eq_nil_of_length_eq_zero (by simpa using hl)
    subst hxs
    subst hzs
    refine ⟨w, ?_, ⟨hl, h2⟩, ⟨rfl, rfl, rfl, Nat.le_refl _, fun _ _ _ => rfl⟩⟩
    cases hq : P.info? elem with
    | none => simp [hq] at hsz
    | some i =>
      rcases h2 with ⟨rfl, _⟩ | ⟨g, cp, cur, rfl, _⟩ <;> cases p <;> simp [Builtin.copy_, run_underlying hu, Builtin.lenOf, Builtin.firstCells, sizeOf, typeInfo, hq, storeCells, loadCells, loadCellsFrom]
  · rcases h2 with ⟨_, h2⟩ | ⟨g, cp, cur, rfl, hb, hg, hnc, hcm, hcs, htake⟩
    · omega
    · obtain ⟨A, rfl, hc⟩ := hsrc h0
      have hfit : 0 + xs.length ≤ cur.size := by rw [hx, hcs, Nat.zero_add]; exact Nat.mul_le_mul_right _ hnc
      have hr := run_copy_rowK (P := P) w dT sT ty elem g 0 n cp A n cap cur elem xs k n hu hsz (Nat.min_self n) hg hx hc hfit h1
      refine ⟨_, hr, ⟨hx, .inr ⟨g, cp, _, rfl, hb, setRow_heap w g cur _ elem _ hg, hnc, hcm, ?_, ?_⟩⟩, ⟨rfl, rfl, rfl, by simp [World.setRow], fun j _ hj => setRow_other w g j _ (fun e => hj (by simp [Value.ownBlock, e]))⟩⟩
      · simp only [List.size_toArray, List.length_append, List.length_take, List.length_drop, Array.length_toList]
        omega
      · simp only [List.take_zero, List.nil_append, Nat.zero_add]
        rw [← hx]
        exact List.take_left

end Go.Proofs.Ytmnmpmiocgfalaa
