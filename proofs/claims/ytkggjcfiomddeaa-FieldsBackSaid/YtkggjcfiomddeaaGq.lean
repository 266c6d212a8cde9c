/- fields: three tables and three rows under way; what was written, entry by entry. -/
import Derived.Test.YtkggjcfiomddeaaGk
import Derived.Test.YtkggjcfiomddeaaMb
namespace Go.Proofs.Ytkggjcfiomddeaa
open Go.ChangeShapes Go.WideShapes Go.RowKit
set_option linter.unusedVariables false

/-- A writer and two readers. -/
structure KTab (w x : World) (bw bx bl : Nat) (vw vx vl : Value) (S Sx Sl : Tbl) : Prop where
  tw : TblIs x w.heap.size bw 64 vw S
  tx : TblIs x w.heap.size bx 77 vx Sx
  tl : TblIs x w.heap.size bl 77 vl Sl
  hw : w.heap.size ≤ bw
  hx : w.heap.size ≤ bx
  hl : w.heap.size ≤ bl
  wx : bw ≠ bx
  wl : bw ≠ bl
  xl : bx ≠ bl
  dwx : ∀ k, vw.ownBlock = some k → vx.ownBlock ≠ some k
  dwl : ∀ k, vw.ownBlock = some k → vl.ownBlock ≠ some k
  dxl : ∀ k, vx.ownBlock = some k → vl.ownBlock ≠ some k
  bel : Below w.heap.size w x

section
variable {w x y : World} {bw bx bl : Nat} {vw vx vl : Value} {S Sx Sl S' : Tbl}
theorem KTab.next (h : KTab w x bw bx bl vw vx vl S Sx Sl) (hb : Below x.heap.size x y) : KTab w y bw bx bl vw vx vl S Sx Sl :=
  ⟨h.tw.below hb, h.tx.below hb, h.tl.below hb, h.hw, h.hx, h.hl, h.wx, h.wl, h.xl, h.dwx, h.dwl, h.dxl, h.bel.trans (hb.mono h.bel.size)⟩
theorem KTab.write (h : KTab w x bw bx bl vw vx vl S Sx Sl) (ht : TabTo x y w.heap.size bw 64 vw S') : ∃ v', KTab w y bw bx bl v' vx vl S' Sx Sl := by
  obtain ⟨v', a1, a2, a3⟩ := ht
  obtain ⟨o1, o2⟩ := h.tx.other h.tw (by decide) (by decide) (fun e => h.wx e.symm) (fun k hk hk2 => h.dwx k hk2 hk) a2 a3
  obtain ⟨p1, p2⟩ := h.tl.other h.tw (by decide) (by decide) (fun e => h.wl e.symm) (fun k hk hk2 => h.dwl k hk2 hk) a2 a3
  refine ⟨v', a1, o1, p1, h.hw, h.hx, h.hl, h.wx, h.wl, h.xl, fun k hk hk2 => o2 k hk2 hk, fun k hk hk2 => p2 k hk2 hk, h.dxl, h.bel.trans (a2.below h.bel.size ?_)⟩
  rintro k (e | e)
  · have := h.hw; omega
  · exact (World.ownsRow.lt h.tw.2 k e).1
theorem KTab.tell (h : KTab w x bw bx bl vw vx vl S Sx Sl) (ht : TabTo x y w.heap.size bx 77 vx S') : ∃ v', KTab w y bw bx bl vw v' vl S S' Sl := by
  obtain ⟨v', a1, a2, a3⟩ := ht
  obtain ⟨o1, o2⟩ := h.tw.other h.tx (by decide) (by decide) h.wx h.dwx a2 a3
  obtain ⟨p1, p2⟩ := h.tl.other h.tx (by decide) (by decide) (fun e => h.xl e.symm) (fun k hk hk2 => h.dxl k hk2 hk) a2 a3
  refine ⟨v', o1, a1, p1, h.hw, h.hx, h.hl, h.wx, h.wl, h.xl, o2, h.dwl, fun k hk hk2 => p2 k hk2 hk, h.bel.trans (a2.below h.bel.size ?_)⟩
  rintro k (e | e)
  · have := h.hx; omega
  · exact (World.ownsRow.lt h.tx.2 k e).1
theorem KTab.late (h : KTab w x bw bx bl vw vx vl S Sx Sl) (ht : TabTo x y w.heap.size bl 77 vl S') : ∃ v', KTab w y bw bx bl vw vx v' S Sx S' := by
  obtain ⟨v', a1, a2, a3⟩ := ht
  obtain ⟨o1, o2⟩ := h.tw.other h.tl (by decide) (by decide) h.wl h.dwl a2 a3
  obtain ⟨p1, p2⟩ := h.tx.other h.tl (by decide) (by decide) h.xl h.dxl a2 a3
  refine ⟨v', o1, p1, a1, h.hw, h.hx, h.hl, h.wx, h.wl, h.xl, h.dwx, o2, p2, h.bel.trans (a2.below h.bel.size ?_)⟩
  rintro k (e | e)
  · have := h.hl; omega
  · exact (World.ownsRow.lt h.tl.2 k e).1
theorem TblIs.row {B b sz n : Nat} {T E : TypeId} {v u : Value} {S : Tbl} {xs : List Value} (h : TblIs x B b T v S) (hu : x.ownsRow B E sz u n xs) (hT : T ≠ E) (hE : 54 ≠ E) (ho : Only (fun k => u.ownBlock = some k) x y) : TblIs y B b T v S :=
  ⟨blk.only h.1 ho (fun e => own_ne hu h.1 hT e), own_only h.2 ho (fun k hk e => own_ne2 h.2 hu hE k hk e)⟩
theorem KTab.row {sz n : Nat} {E : TypeId} {u : Value} {xs : List Value} (h : KTab w x bw bx bl vw vx vl S Sx Sl) (hu : x.ownsRow w.heap.size E sz u n xs) (h1 : 64 ≠ E) (h2 : 77 ≠ E) (h3 : 54 ≠ E) (ho : Only (fun k => u.ownBlock = some k) x y) : KTab w y bw bx bl vw vx vl S Sx Sl :=
  ⟨h.tw.row hu h1 h3 ho, h.tx.row hu h2 h3 ho, h.tl.row hu h2 h3 ho, h.hw, h.hx, h.hl, h.wx, h.wl, h.xl, h.dwx, h.dwl, h.dxl, h.bel.trans (ho.below h.bel.size (fun k hk => (World.ownsRow.lt hu k hk).1))⟩
end

def lls (X : List In1) : List Value := X.map fun x => .slice x.p x.L.length x.cap
theorem lls_at (X : List In1) (j : Nat) (x : In1) (h : X[j]? = some x) : (lls X)[j]? = some (.slice x.p x.L.length x.cap) := by
  unfold lls
  rw [List.getElem?_map, h]
  rfl
/-- What was told, the sections, and the lists. -/
structure RRow (B : Nat) (x : World) (v8 v9 v10 : Value) (A C : List ByteArray) (X : List In1) : Prop where
  o8 : x.ownsRow B 9 1 v8 A.length (strsB A)
  o9 : x.ownsRow B 9 1 v9 C.length (strsB C)
  o10 : x.ownsRow B 30 1 v10 X.length (lls X)
  d : ∀ k, v8.ownBlock = some k → v9.ownBlock ≠ some k

section
variable {B : Nat} {x y : World} {v8 v9 v10 v' : Value} {A C : List ByteArray} {X : List In1}
theorem RRow.next (h : RRow B x v8 v9 v10 A C X) (hb : Below x.heap.size x y) : RRow B y v8 v9 v10 A C X := ⟨own_below h.o8 hb, own_below h.o9 hb, own_below h.o10 hb, h.d⟩
theorem RRow.tab {b : Nat} {T : TypeId} {v : Value} {S S' : Tbl} (r : RRow B x v8 v9 v10 A C X) (h : TblIs x B b T v S) (h1 : T ≠ 9) (h2 : T ≠ 30) (ht : TabTo x y B b T v S') : RRow B y v8 v9 v10 A C X := by
  obtain ⟨v', _, o, _⟩ := ht
  refine ⟨own_only r.o8 o ?_, own_only r.o9 o ?_, own_only r.o10 o ?_, r.d⟩
  · rintro k hk (e | e)
    · subst e; exact own_ne r.o8 h.1 h1 hk
    · exact own_ne2 r.o8 h.2 (by decide) k hk e
  · rintro k hk (e | e)
    · subst e; exact own_ne r.o9 h.1 h1 hk
    · exact own_ne2 r.o9 h.2 (by decide) k hk e
  · rintro k hk (e | e)
    · subst e; exact own_ne r.o10 h.1 h2 hk
    · exact own_ne2 r.o10 h.2 (by decide) k hk e
theorem RRow.app8 (r : RRow B x v8 v9 v10 A C X) (t : ByteArray) (ho : y.ownsRow B 9 1 v' (A.length + 1) (strsB A ++ [.string t])) (hon : Only (fun k => v8.ownBlock = some k) x y) (hv : v'.ownBlock = v8.ownBlock ∨ v'.ownBlock = some x.heap.size) : RRow B y v' v9 v10 (A ++ [t]) C X := by
  refine ⟨by simpa [strsB] using ho, own_only r.o9 hon (fun k hk e => r.d k e hk), own_only r.o10 hon (fun k hk e => own_ne2 r.o10 r.o8 (by decide) k hk e), fun k hk => ?_⟩
  rcases hv with e | e
  · rw [e] at hk; exact r.d k hk
  · rw [e] at hk
    injection hk with hk
    intro e2
    have := (World.ownsRow.lt r.o9 k e2).2
    omega
theorem RRow.app9 (r : RRow B x v8 v9 v10 A C X) (t : ByteArray) (ho : y.ownsRow B 9 1 v' (C.length + 1) (strsB C ++ [.string t])) (hon : Only (fun k => v9.ownBlock = some k) x y) (hv : v'.ownBlock = v9.ownBlock ∨ v'.ownBlock = some x.heap.size) : RRow B y v8 v' v10 A (C ++ [t]) X := by
  refine ⟨own_only r.o8 hon (fun k hk e => r.d k hk e), by simpa [strsB] using ho, own_only r.o10 hon (fun k hk e => own_ne2 r.o10 r.o9 (by decide) k hk e), fun k hk e2 => ?_⟩
  rcases hv with e | e
  · rw [e] at e2; exact r.d k hk e2
  · rw [e] at e2
    injection e2 with e2
    have := (World.ownsRow.lt r.o8 k hk).2
    omega
theorem RRow.app10 (r : RRow B x v8 v9 v10 A C X) (z : In1) (ho : y.ownsRow B 30 1 v' (X.length + 1) (lls X ++ [.slice z.p z.L.length z.cap])) (hon : Only (fun k => v10.ownBlock = some k) x y) : RRow B y v8 v9 v' A C (X ++ [z]) :=
  ⟨own_only r.o8 hon (fun k hk e => own_ne2 r.o8 r.o10 (by decide) k hk e), own_only r.o9 hon (fun k hk e => own_ne2 r.o9 r.o10 (by decide) k hk e), by simpa [lls] using ho, r.d⟩
end

/-- An element that is laid ready for its row. -/
structure Box (x : World) (b : Nat) (T : TypeId) (u v8 v9 v10 : Value) : Prop where
  bk : blk x b T [u]
  n8 : v8.ownBlock ≠ some b
  n9 : v9.ownBlock ≠ some b
  n10 : v10.ownBlock ≠ some b
section
variable {B b : Nat} {x y : World} {T : TypeId} {u v8 v9 v10 v' : Value} {A C : List ByteArray} {X : List In1}
theorem Box.alloc (h : Box x b T u v8 v9 v10) (o : Obj) : Box (x.alloc o) b T u v8 v9 v10 := ⟨h.bk.alloc o, h.n8, h.n9, h.n10⟩
theorem Box.new (r : RRow B x v8 v9 v10 A C X) (T : TypeId) (u : Value) : Box (x.alloc (.cells #[u] T)) x.heap.size T u v8 v9 v10 :=
  ⟨blk.new x T [u], fun e => by have := (World.ownsRow.lt r.o8 _ e).2; omega, fun e => by have := (World.ownsRow.lt r.o9 _ e).2; omega, fun e => by have := (World.ownsRow.lt r.o10 _ e).2; omega⟩
theorem Box.far (h : Box x b T u v8 v9 v10) {v v' : Value} (hv : v'.ownBlock = v.ownBlock ∨ v'.ownBlock = some x.heap.size) (hn : v.ownBlock ≠ some b) : v'.ownBlock ≠ some b := by
  have := h.bk.lt
  rcases hv with e | e
  · rw [e]; exact hn
  · rw [e]
    intro e2
    injection e2 with e2
    omega
theorem Box.app8 (h : Box x b T u v8 v9 v10) (hon : Only (fun k => v8.ownBlock = some k) x y) (hv : v'.ownBlock = v8.ownBlock ∨ v'.ownBlock = some x.heap.size) : Box y b T u v' v9 v10 := ⟨h.bk.only hon h.n8, h.far hv h.n8, h.n9, h.n10⟩
theorem Box.app9 (h : Box x b T u v8 v9 v10) (hon : Only (fun k => v9.ownBlock = some k) x y) (hv : v'.ownBlock = v9.ownBlock ∨ v'.ownBlock = some x.heap.size) : Box y b T u v8 v' v10 := ⟨h.bk.only hon h.n9, h.n8, h.far hv h.n9, h.n10⟩
theorem Box.src (h : Box x b T u v8 v9 v10) : ∀ j w, [u][j]? = some w → x.cell? ((⟨b, 0, none⟩ : Addr).add j) = some w := by
  intro j w hj
  rw [add_zero]
  exact h.bk.cell hj
end

theorem Try.infoS : (Try.prog.info? 9).map (fun i => (i.zero, i.size, i.bytes)) = some (some (.string ⟨#[]⟩), 1, 16) := by kernel_rfl
theorem Try.infoL : (Try.prog.info? 30).map (fun i => (i.zero, i.size, i.bytes)) = some (some (.slice none 0 0), 1, 24) := by kernel_rfl

/-- One list that was written. -/
structure Ent where
  told : ByteArray
  sec : ByteArray
  x : In1
/-- A section that a table as this one can read. -/
def SecOk (l0 : List Fl) (e : Ent) : Prop :=
  ∃ (l : List Fl) (m : Nat), m ≤ 5000 ∧ e.sec = secF l m e.x.L ∧ m ≤ l0.length ∧ l.take m = l0.take m ∧ (∀ f ∈ e.x.L, mayFl f = true ∧ (idxF fixedL f < 0 → idxF l f < (m : Int))) ∧ e.x.L.length ≤ 100
theorem SecOk.grow {l0 : List Fl} {e : Ent} (h : SecOk l0 e) (M : List Fl) : SecOk (l0 ++ M) e := by
  obtain ⟨l, m, h1, h2, h3, h4, h5, h6⟩ := h
  exact ⟨l, m, h1, h2, by rw [List.length_append]; omega, by rw [h4, List.take_append_of_le_length h3], h5, h6⟩
theorem SecOk.read {l0 : List Fl} {e : Ent} (h : SecOk l0 e) : readF l0 e.sec = (e.x.L, 0) := by
  obtain ⟨l, m, h1, h2, h3, h4, h5, h6⟩ := h
  have := sec_back l l0 m h1 e.x.L h5 h6
  rw [if_neg (by omega), if_pos h4] at this
  rw [h2]
  exact this
theorem SecOk.wait {l0 : List Fl} {e : Ent} (h : SecOk l0 e) : (readF [] e.sec).2 = 13 ∨ (readF [] e.sec).2 = 0 := by
  obtain ⟨l, m, h1, h2, h3, h4, h5, h6⟩ := h
  have := sec_back l [] m h1 e.x.L h5 h6
  rw [h2]
  by_cases hm : ([] : List Fl).length < m
  · rw [if_pos hm] at this
    rw [this]
    exact .inl rfl
  · rw [if_neg hm] at this
    have hm0 : m = 0 := by simp at hm; omega
    subst hm0
    rw [if_pos (by simp)] at this
    rw [this]
    exact .inr rfl

/-- What was written till now. -/
structure Hist (w : World) (S0 S : Tbl) (H : List Ent) : Prop where
  f : ∃ f : Nat → Tbl, f 0 = S0 ∧ f H.length = S ∧ ∀ k e, H[k]? = some e → (f k).Ok ∧ toldF (e.told.size + 1) (f k) e.told = (f (k + 1), 0)
  sz : ∀ e ∈ H, e.told.size ≤ 3600 ∧ e.sec.size ≤ 3604 ∧ InFl w e.x.p e.x.L
  sec : ∀ e ∈ H, SecOk S.l e
theorem Hist.start (w : World) (S : Tbl) : Hist w S S [] := ⟨⟨fun _ => S, rfl, rfl, fun k e h => by simp at h⟩, (fun e h => by cases h), (fun e h => by cases h)⟩
theorem Hist.snoc {w : World} {S0 S S1 : Tbl} {H : List Ent} (h : Hist w S0 S H) (hS : S.Ok) {e : Ent} (ht : toldF (e.told.size + 1) S e.told = (S1, 0)) (hg : ∃ M, S1.l = S.l ++ M) (hs : SecOk S1.l e) (hz : e.told.size ≤ 3600 ∧ e.sec.size ≤ 3604 ∧ InFl w e.x.p e.x.L) : Hist w S0 S1 (H ++ [e]) := by
  obtain ⟨f, f0, f1, f2⟩ := h.f
  obtain ⟨M, hM⟩ := hg
  refine ⟨⟨fun k => if k ≤ H.length then f k else S1, ?_, ?_, fun k q hq => ?_⟩, fun q hq => ?_, fun q hq => ?_⟩
  · simp only [Nat.zero_le, if_true]; exact f0
  · show (if (H ++ [e]).length ≤ H.length then f (H ++ [e]).length else S1) = S1
    rw [List.length_append, List.length_singleton, if_neg (by omega)]
  · by_cases hk : k < H.length
    · rw [List.getElem?_append_left hk] at hq
      simp only [if_pos (Nat.le_of_lt hk), if_pos (show k + 1 ≤ H.length from hk)]
      exact f2 k q hq
    · have hk2 : k = H.length := by
        have := (List.getElem?_eq_some_iff.1 hq).1
        simp at this
        omega
      subst hk2
      rw [List.getElem?_append_right (Nat.le_refl _), Nat.sub_self] at hq
      injection hq with hq
      subst hq
      simp only [Nat.le_refl, if_true]
      rw [if_neg (by omega), f1]
      exact ⟨hS, ht⟩
  · rcases List.mem_append.1 hq with hq | hq
    · exact h.sz q hq
    · rw [List.mem_singleton.1 hq]; exact hz
  · rcases List.mem_append.1 hq with hq | hq
    · rw [hM]; exact (h.sec q hq).grow M
    · rw [List.mem_singleton.1 hq]; exact hs

/-- What a list's writing comes to. -/
theorem wrote_facts {S : Tbl} (hS : S.Ok) {L : List Fl} (hW : WOk L) (hs : Small L) (p : Option Addr) (cap : Nat) :
    (foldW S L).1.Ok ∧ (∃ M, (foldW S L).1.l = S.l ++ M) ∧ toldF ((foldW S L).2.1.size + 1) S (foldW S L).2.1 = ((foldW S L).1, 0) ∧
    SecOk (foldW S L).1.l ⟨(foldW S L).2.1, secF (foldW S L).1.l (foldW S L).2.2 L, ⟨p, cap, L⟩⟩ := by
  have hi := fold_inv hS L
  obtain ⟨q1, q2, q3⟩ := wrote hS hW
  obtain ⟨M, hM, hML⟩ := hi.2.2.2.2.1
  have hok := hi.1
  have hz := sizes hS hW hs
  refine ⟨hok, ⟨M, hM⟩, ?_, ?_⟩
  · rw [foldW_told, foldW_tab]
    exact told_back L S _ hW.2 (by omega)
  · obtain ⟨m, hm⟩ := Int.eq_ofNat_of_zero_le q1
    rw [hm] at q2 q3 ⊢
    exact ⟨(foldW S L).1.l, m, by have := hok.2.1; have := hok.2.2; omega, rfl, by omega, rfl, fun f hf => ⟨hW.2 f hf, q3 f hf⟩, hW.1⟩

end Go.Proofs.Ytkggjcfiomddeaa
