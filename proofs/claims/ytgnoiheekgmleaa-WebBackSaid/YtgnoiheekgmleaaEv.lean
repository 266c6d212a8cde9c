/- web: plain: parts of a message's bytes; what stands while parts come. -/
import Derived.Test.YtgnoiheekgmleaaEt
import Derived.IntWalk
namespace Go.Proofs.Ytgnoiheekgmleaa
open Go.ChangeShapes Go.WideShapes Go.RowKit
set_option linter.unusedVariables false
set_option linter.unusedSimpArgs false

/-- What bytes come to in a new inbox. -/
def F0 (t : List UInt8) : IB × Int := runF ⟨t, [], false, []⟩
theorem loop_came : ∀ (k : Nat) (b : IB), (loopF k b).1.came.length ≤ b.came.length
  | 0, b => Nat.le_refl _
  | k + 1, b => by
    unfold loopF
    split
    · exact Nat.le_refl _
    · split
      · exact Nat.le_refl _
      · rename_i h1
        split
        · exact Nat.le_refl _
        · rename_i h2
          split
          · rw [actF_came2]; exact Nat.le_refl _
          · have hlt := ((wtake_app (l := b.came) []).1 (by omega)).2
            exact Nat.le_trans (loop_came k _) (by simp only; omega)
theorem F0_came (t : List UInt8) : (F0 t).1.came.length ≤ t.length := loop_came _ _
theorem F0_whole (sec body : List UInt8) (hs : sec.length ≤ 10000) : F0 (frameB 1 sec ++ piecesF body.length body) = (⟨[], sec, true, body⟩, 0) := by
  unfold F0
  rw [run_head sec (piecesF body.length body) (by omega) _ rfl rfl]
  have := run_pieces body.length body [] sec [] (Nat.le_refl _)
  rw [List.append_nil, List.nil_append] at this
  simp only
  rw [this]
  exact run_nil rfl
/-- A beginning: no error, a beginning of the body; and the rest goes on from there. -/
theorem part_facts {t u sec body : List UInt8} (h : F0 (t ++ u) = (⟨[], sec, true, body⟩, 0)) :
    (F0 t).2 = 0 ∧ (∃ m, body = (F0 t).1.body ++ m) ∧ ∀ x, runF { (F0 t).1 with came := (F0 t).1.came ++ x } = F0 (t ++ x) := by
  have hr := fun x => run_app t.length ⟨t, [], false, []⟩ x (Nat.le_refl _)
  have he : (F0 t).2 = 0 := by
    by_cases h0 : (F0 t).2 = 0
    · exact h0
    · have := (hr u).2 h0
      have h2 : (F0 (t ++ u)).2 = (F0 t).2 := this
      rw [h] at h2
      exact h2.symm
  have hgo : ∀ x, runF { (F0 t).1 with came := (F0 t).1.came ++ x } = F0 (t ++ x) := fun x => (hr x).1 he
  refine ⟨he, ?_, hgo⟩
  obtain ⟨m, hm⟩ := loop_body ({ (F0 t).1 with came := (F0 t).1.came ++ u } : IB).came.length { (F0 t).1 with came := (F0 t).1.came ++ u }
  have := hgo u
  unfold runF at this
  rw [this, h] at hm
  exact ⟨m, hm⟩
theorem add_part {t x u sec body : List UInt8} (h : F0 (t ++ (x ++ u)) = (⟨[], sec, true, body⟩, 0)) : addI (F0 t).1 x false = ((F0 (t ++ x)).1, 0) := by
  unfold addI
  simp only
  rw [(part_facts h).2.2 x, if_pos (.inr trivial)]
  have h2 : F0 ((t ++ x) ++ u) = (⟨[], sec, true, body⟩, 0) := by rw [List.append_assoc]; exact h
  have := (part_facts h2).1
  rw [← this]
theorem add_last {t u sec body : List UInt8} (h : F0 (t ++ u) = (⟨[], sec, true, body⟩, 0)) : addI (F0 t).1 u true = (⟨[], sec, true, body⟩, 0) := by
  unfold addI
  simp only
  rw [(part_facts h).2.2 u, h]
  simp

/-- One part more: what the walk needs, in plain words. -/
theorem back_step {s sec body : ByteArray} {sl : List UInt8} {Z from_ to_ : Nat} (hs : byt s = sl) (hZ : sl.length = Z) (hw : F0 sl = (⟨[], byt sec, true, byt body⟩, 0)) (h1 : from_ ≤ to_) (h2 : to_ ≤ Z) (hZ0 : Z ≤ 90000) (hb : body.size ≤ 5000) :
    addI (F0 (sl.take from_)).1 (byt (s.extract from_ to_)) false = ((F0 (sl.take to_)).1, 0) ∧ (F0 (sl.take from_)).1.came.length + (s.extract from_ to_).size + (F0 (sl.take from_)).1.body.length ≤ 100000 ∧
      (F0 (sl.take to_)).1.body.length ≤ 1000000 ∧ (txt (F0 (sl.take to_)).1.body).size ≤ body.size ∧ body.extract 0 (txt (F0 (sl.take to_)).1.body).size = txt (F0 (sl.take to_)).1.body := by
  have hPb : byt (s.extract from_ to_) = (sl.take to_).drop from_ := by rw [byt_extract, hs]
  have e1 : sl.take from_ = (sl.take to_).take from_ := by rw [List.take_take, Nat.min_eq_left h1]
  have e2 : sl.take from_ ++ (sl.take to_).drop from_ = sl.take to_ := by rw [e1, List.take_append_drop]
  have hwh : F0 (sl.take from_ ++ ((sl.take to_).drop from_ ++ sl.drop to_)) = (⟨[], byt sec, true, byt body⟩, 0) := by
    rw [← List.append_assoc, e2, List.take_append_drop]
    exact hw
  have hap := add_part hwh
  rw [e2] at hap
  have hpf := part_facts (t := sl.take to_) (u := sl.drop to_) (sec := byt sec) (body := byt body) (by rw [List.take_append_drop]; exact hw)
  have hpf0 := part_facts (t := sl.take from_) (u := sl.drop from_) (sec := byt sec) (body := byt body) (by rw [List.take_append_drop]; exact hw)
  have hcm := F0_came (sl.take from_)
  rw [List.length_take, hZ] at hcm
  obtain ⟨mm, hmm⟩ := hpf.2.1
  obtain ⟨mm0, hmm0⟩ := hpf0.2.1
  have hbl := congrArg List.length hmm
  have hbl0 := congrArg List.length hmm0
  rw [byt_length, List.length_append] at hbl hbl0
  have hPs : (s.extract from_ to_).size ≤ to_ - from_ := by rw [← byt_length, hPb, List.length_drop, List.length_take, hZ]; exact Nat.sub_le_sub_right (Nat.min_le_left _ _) _
  refine ⟨by rw [hPb]; exact hap, ?_, ?_, ?_, ?_⟩
  · have := Nat.min_le_left from_ Z
    generalize (F0 (sl.take from_)).1.came.length = a at *
    generalize (F0 (sl.take from_)).1.body.length = b at *
    generalize (s.extract from_ to_).size = c at *
    clear hap hwh hpf hpf0 hmm hmm0
    omega
  · generalize (F0 (sl.take to_)).1.body.length = b at *
    clear hap hwh hpf hpf0 hmm hmm0
    omega
  · rw [txt_size]
    generalize (F0 (sl.take to_)).1.body.length = b at *
    clear hap hwh hpf hpf0 hmm hmm0
    omega
  · rw [← txt_byt (body.extract 0 (txt (F0 (sl.take to_)).1.body).size), byt_extract, txt_size]
    conv => lhs; rw [hmm]
    rw [List.take_left]
    rfl
theorem back_last {s sec body : ByteArray} {sl : List UInt8} {Z from_ : Nat} (hs : byt s = sl) (hZ : sl.length = Z) (hw : F0 sl = (⟨[], byt sec, true, byt body⟩, 0)) (h1 : from_ ≤ Z) (hZ0 : Z ≤ 90000) (hb : body.size ≤ 5000) :
    addI (F0 (sl.take from_)).1 (byt (s.extract from_ Z)) true = (⟨[], byt sec, true, byt body⟩, 0) ∧ (F0 (sl.take from_)).1.came.length + (s.extract from_ Z).size + (F0 (sl.take from_)).1.body.length ≤ 100000 := by
  have hPb : byt (s.extract from_ Z) = sl.drop from_ := by rw [byt_extract, hs, List.take_of_length_le (by rw [hZ]; exact Nat.le_refl _)]
  have hal := add_last (t := sl.take from_) (u := sl.drop from_) (sec := byt sec) (body := byt body) (by rw [List.take_append_drop]; exact hw)
  exact ⟨by rw [hPb]; exact hal, (back_step hs hZ hw h1 (Nat.le_refl _) hZ0 hb).2.1⟩
theorem back_numbers {c from_ Z : Nat} (hc : c < 65536) (hf : from_ ≤ Z) (hZ : Z ≤ 90000) : ∃ D q r to_ : Nat, from_ ≤ to_ ∧ to_ ≤ Z ∧ IntKind.i64.wrap (c : Int) = (c : Int) ∧ IntKind.i64.wrap ((Z : Int) - (from_ : Int)) = (q : Int) ∧ IntKind.i64.wrap ((q : Int) + 1) = (D : Int) ∧
    IntKind.i64.wrap (Int.tmod (c : Int) (D : Int)) = (r : Int) ∧ IntKind.i64.wrap ((from_ : Int) + (r : Int)) = (to_ : Int) ∧ (c : Int) % (D : Int) = (r : Int) ∧ wrap64 ((from_ : Int) + (r : Int)) = (to_ : Int) ∧ 0 < D ∧ D ≤ 90001 ∧ r ≤ 90000 ∧ q ≤ 90000 := by
  have hrD : c % (Z - from_ + 1) < Z - from_ + 1 := Nat.mod_lt _ (by omega)
  refine ⟨Z - from_ + 1, Z - from_, c % (Z - from_ + 1), from_ + c % (Z - from_ + 1), by omega, by omega, IntWalk.i64_in _ (by omega), ?_, ?_, ?_, ?_, ?_, ?_, by omega, by omega, by omega, by omega⟩
  · rw [IntWalk.i64_in _ (by omega)]; omega
  · rw [IntWalk.i64_in _ (by omega)]; omega
  · rw [← Int.ofNat_tmod]; exact IntWalk.i64_in _ (by omega)
  · rw [IntWalk.i64_in _ (by omega)]; omega
  · omega
  · unfold wrap64; omega

/-- What stands while parts come. -/
structure WbS (w z : World) (gm b br : Nat) (vr : Value) (Sr : Tbl) (p : Option Addr) (cap : Nat) (L : List Fl) (body : ByteArray) (J : IB) (fin : Bool) : Prop where
  m : blk z gm 31 [.slice p L.length cap, .string body]
  ib : ∃ ad bf, Ibx z w.heap.size b br J fin 0 ad bf
  r : TblIs z w.heap.size br 89 vr Sr
  n : w.heap.size ≤ b ∧ gm ≠ b ∧ br ≠ b
  bel : Below w.heap.size w z
section
variable {w z y : World} {gm b br : Nat} {vr : Value} {Sr : Tbl} {p : Option Addr} {cap : Nat} {L : List Fl} {body : ByteArray} {J : IB} {fin : Bool}
theorem WbS.next (h : WbS w z gm b br vr Sr p cap L body J fin) (hb : Below z.heap.size z y) : WbS w y gm b br vr Sr p cap L body J fin := by
  obtain ⟨ad, bf, hI⟩ := h.ib
  exact ⟨h.m.below hb h.m.lt, ⟨ad, bf, hI.next hb⟩, h.r.below hb, h.n, h.bel.trans (hb.mono h.bel.size)⟩
theorem WbS.to {J' : IB} {f' : Bool} (h : WbS w z gm b br vr Sr p cap L body J fin) (ht : IbTo w.heap.size b br J' f' 0 z y) : WbS w y gm b br vr Sr p cap L body J' f' := by
  obtain ⟨ad, bf, hI⟩ := h.ib
  obtain ⟨n0, n1, n2⟩ := h.n
  obtain ⟨ad', bf', hI', hif⟩ := ht
  exact ⟨hif.blk h.m (by decide) n1, ⟨ad', bf', hI'⟩, h.r.ifr hif (by decide) n2 hI.at_, h.n, h.bel.trans (hif.below n0 h.bel.size)⟩
theorem WbS.cell (h : WbS w z gm b br vr Sr p cap L body J fin) : z.cell? ⟨gm, 1, none⟩ = some (.string body) := h.m.cell (k := 1) rfl
theorem WbS.add {J' : IB} (s : ByteArray) (f : Bool) (h : WbS w z gm b br vr Sr p cap L body J false) (ha : addI J (byt s) f = (J', 0)) (hlen : J.came.length + s.size + J.body.length ≤ 100000) :
    Calls Try.prog 21 #[.pointer (some ⟨b, 0, none⟩), .string s, .bool f] z fun e y => e = .returned (.int .i64 0) ∧ WbS w y gm b br vr Sr p cap L body J' f := by
  obtain ⟨ad, bf, hI⟩ := h.ib
  have := Add_any s f hI hlen
  rw [ha] at this
  refine this.mono ?_
  rintro e y ⟨rfl, ht⟩
  exact ⟨rfl, h.to ht⟩
theorem WbS.done (h : WbS w z gm b br vr Sr p cap L body J fin) : Calls Try.prog 22 #[.pointer (some ⟨b, 0, none⟩)] z fun e y => e = .returned (.bool fin) ∧ WbS w y gm b br vr Sr p cap L body J fin := by
  obtain ⟨ad, bf, hI⟩ := h.ib
  refine (Done_any hI).mono ?_
  rintro e y ⟨rfl, ht⟩
  exact ⟨by cases fin <;> rfl, h.to ht⟩
theorem WbS.bod (h : WbS w z gm b br vr Sr p cap L body J fin) (hlen : J.body.length ≤ 1000000) : Calls Try.prog 23 #[.pointer (some ⟨b, 0, none⟩)] z fun e y => e = .returned (.string (txt J.body)) ∧ WbS w y gm b br vr Sr p cap L body J fin := by
  obtain ⟨ad, bf, hI⟩ := h.ib
  refine (Body_any hI hlen).mono ?_
  rintro e y ⟨rfl, ht⟩
  exact ⟨rfl, h.to ht⟩
/-- The reader is told; nil was its row. -/
theorem WbS.tell {S' : Tbl} (h : WbS w z gm b br (.slice none 0 0) Sr p cap L body J fin) (hg : gm ≠ br) (hbr : w.heap.size ≤ br) (ht : TabTo z y w.heap.size br 89 (.slice none 0 0) S') : ∃ vr', WbS w y gm b br vr' S' p cap L body J fin := by
  obtain ⟨ad, bf, hI⟩ := h.ib
  obtain ⟨vr', a1, a2, a3⟩ := ht
  have hS : ∀ k, (k = br ∨ (Value.slice none 0 0).ownBlock = some k) → k = br := fun k hk => by rcases hk with e | e; exact e; cases e
  have hne := hI.bd.ne h.r.1 (by decide)
  refine ⟨vr', h.m.only a2 (fun e => hg (hS _ e)), ⟨ad, bf, ⟨hI.at_.only a2 (fun e => h.n.2.2 (hS _ e).symm), hI.ad_, hI.bd.only a2 (fun k hk e => hne (by rw [hk, hS _ e])), hI.bb, Nat.le_trans hI.bw a2.size⟩⟩, a1, h.n, h.bel.trans (a2.below h.bel.size (fun k e => by rw [hS k e]; exact hbr))⟩
end

end Go.Proofs.Ytgnoiheekgmleaa
