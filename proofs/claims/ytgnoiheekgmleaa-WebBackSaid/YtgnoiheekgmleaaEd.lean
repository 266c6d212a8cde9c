/- web: a strings.Builder that lies in a block of the call's own: copyCheck, WriteString, String. After the shelf's Builder1, BuilderK. -/
import Derived.Test.YtgnoiheekgmleaaEc
import Derived.Test.YtgnoiheekgmleaaMa
import Derived.Lib.FrozenHead
import Derived.Lib.Builder
import Derived.Lib.UnsafeStr
import Derived.Lib.AppendStr
import Derived.Laws.Externs
import Derived.RegionTactic
namespace Go.Proofs.Ytgnoiheekgmleaa
open Go.ChangeShapes Go.WideShapes Go.RowKit
set_option linter.unusedVariables false

theorem Try.sizeBd : (Try.prog.info? 78).map (·.size) = some 2 := by kernel_rfl
theorem Try.cellsU8 : Try.prog.cellsOf 5 = 1 := by kernel_rfl

/-- A builder's bytes: its buffer is nil, or a row that it owns; what String told of it is frozen. -/
structure Bd (x : World) (B : Nat) (l : List UInt8) (bf : Value) : Prop where
  row : x.ownsRowF B 5 1 bf l.length (Lib.byteCells l)
  nil : l = [] → bf = .slice none 0 0
theorem Bd.start (x : World) (B : Nat) : Bd x B [] (.slice none 0 0) := ⟨World.ownsRowF_nil _ _ _ _, fun _ => rfl⟩

section
variable {x y : World} {B b : Nat} {l : List UInt8} {bf : Value} {T : TypeId} {V : List Value}
theorem Bd.lt (h : Bd x B l bf) : ∀ k, bf.ownBlock = some k → B ≤ k ∧ k < x.heap.size := h.row.lt
theorem Bd.only {S : Nat → Prop} (h : Bd x B l bf) (ho : Only S x y) (hs : ∀ k, bf.ownBlock = some k → ¬ S k) : Bd y B l bf := by
  refine ⟨⟨h.row.1, ?_⟩, h.nil⟩
  rcases h.row.2 with h2 | ⟨g, cap, cur, fz, hv, hb, hg, r⟩
  · exact .inl h2
  · exact .inr ⟨g, cap, cur, fz, hv, hb, (ho.block g (lt_of_block hg) (hs g (by rw [hv]; rfl))).trans hg, r⟩
theorem Bd.next (h : Bd x B l bf) (hb : Below x.heap.size x y) : Bd y B l bf := h.only (S := fun _ => False) (Only.ofBelow hb) (fun _ _ => id)
theorem Bd.ne (h : Bd x B l bf) (hb : blk x b T V) (hT : T ≠ 5) : bf.ownBlock ≠ some b := Lib.ownBlock_neF h.row hb hT
end

theorem blk.shape {w : World} {b : Nat} {T : TypeId} {V : List Value} (h : blk w b T V) : w.shape? b = some (T, V.length) := by
  unfold blk at h
  simp [World.shape?, h]

set_option maxHeartbeats 1000000 in
set_option maxRecDepth 100000 in
theorem copyCheck_any (T : TypeId) (b o : Nat) (V : List Value) (ad : Value) (w : World) (hl : liesAt Try.prog Try.prog.depth T (V.length / Try.prog.cellsOf T) o 78 1 = true)
    (hb : blk w b T V) (h0 : V[o]? = some ad) (had : ad = .pointer none ∨ ad = .pointer (some ⟨b, o, none⟩)) :
    Calls Try.prog 48 #[.pointer (some ⟨b, o, none⟩)] w fun e w' => e = .returned (.tuple #[]) ∧ blk w' b T (V.set o (.pointer (some ⟨b, o, none⟩))) ∧ Only (fun k => k = b) w w' ∧ w'.heap.size = w.heap.size := by
  obtain ⟨j, hj, hjs⟩ := Option.map_eq_some_iff.1 Try.sizeBd
  have c0 := hb.cell h0
  have hol : o < V.length := (List.getElem?_eq_some_iff.1 h0).1
  rcases had with rfl | rfl
  · have f0 := hb.free o
    have hsh := hb.shape
    have e1 := Lib.run_to_unsafe (P := Try.prog) w ⟨b, o, none⟩ Try.underlying75 Try.underlying120 hj (by rw [hjs]; decide) hsh hol
    have e2 := Lib.run_from_unsafe (P := Try.prog) w ⟨b, o, none⟩ Try.underlying120 Try.underlying75 hj hsh hl
    have e3 := run_callFunc_extern (P := Try.prog) (f := 71) Try.func71 (by kernel_rfl) (by kernel_rfl) (by kernel_rfl) (e := Extern.AbiNoEscape.same) (by kernel_rfl)
    have HF := Lib.hid (And.intro (hb.set o (.pointer (some ⟨b, o, none⟩))) (Only.setCell (S := fun k => k = b) (p := ⟨b, o, none⟩) (Only.refl _ w) (.inl rfl) (.pointer (some ⟨b, o, none⟩))))
    clear hb h0 hl hsh
    go_enter Try.func48, Try.ntmps48
    have e5 : ∀ (x : Value) (W : World), (Extern.AbiNoEscape.same #[x]).run Try.prog W = .ok x W := fun x W => rfl
    go_wp2
    go_end0
    exact ⟨rfl, HF.out.1, HF.out.2, by simp [World.setCell]⟩
  · have HF := Lib.hid hb
    have e4 := Lib.run_neq_ptr_same (P := Try.prog) w ⟨b, o, none⟩ Try.underlying75 hj
    have hse : V.set o (.pointer (some ⟨b, o, none⟩)) = V := by
      obtain ⟨hlt, he⟩ := List.getElem?_eq_some_iff.1 h0
      conv => lhs; rw [← he]
      exact List.set_getElem_self hlt
    have HS := Lib.hid hse
    clear hb h0 hl hse
    go_enter Try.func48, Try.ntmps48
    go_wp2
    go_end0
    rw [HS.out]
    exact ⟨rfl, HF.out, Only.refl _ _, rfl⟩

theorem Try.infoBy : (Try.prog.info? 5).map (fun i => (i.zero, i.size, i.bytes)) = some (some (.int .u8 0), 1, 1) := by kernel_rfl

set_option maxHeartbeats 2000000 in
set_option maxRecDepth 100000 in
theorem WriteString_any (T : TypeId) (b o B : Nat) (V : List Value) (ad bf : Value) (l : List UInt8) (s : ByteArray) (w : World) (hl : liesAt Try.prog Try.prog.depth T (V.length / Try.prog.cellsOf T) o 78 1 = true)
    (hT : T ≠ 5) (hb : blk w b T V) (h0 : V[o]? = some ad) (h1 : V[o + 1]? = some bf) (had : ad = .pointer none ∨ ad = .pointer (some ⟨b, o, none⟩)) (hbd : Bd w B l bf) (hBw : B ≤ w.heap.size) (hlen : l.length + s.size ≤ 1000000) :
    Calls Try.prog 28 #[.pointer (some ⟨b, o, none⟩), .string s] w fun e w' => e = .returned (.tuple #[.int .i64 s.size, .nilIface]) ∧ ∃ bf', blk w' b T ((V.set o (.pointer (some ⟨b, o, none⟩))).set (o + 1) bf') ∧ Bd w' B (l ++ byt s) bf' ∧ Only (fun k => k = b ∨ bf.ownBlock = some k) w w' := by
  obtain ⟨i0, hi, hz0, hz1, hz2⟩ := info_parts Try.infoBy
  have hcc := copyCheck_any T b o V ad w hl hb h0 had
  have hne := hbd.ne hb hT
  have HCC := Lib.hid hcc
  have Hbd := Lib.hid hbd
  have H1 := Lib.hid h1
  clear hcc hb h0 hl hbd h1
  go_enter Try.func28, Try.ntmps28
  go_wp2_with fail
  refine HCC.out.mono ?_
  rintro e w1 ⟨rfl, hb1, ho1, hs1⟩
  have hbd1 := Hbd.out.only ho1 (fun k hk e => hne (by rw [hk, e]))
  have c1 := hb1.cell (k := o + 1) (v := bf) (by rw [List.getElem?_set_ne (by omega)]; exact H1.out)
  have f1 := hb1.free (o + 1)
  have Hb1 := Lib.hid hb1
  have Ho1 := Lib.hid ho1
  have Hbd1 := Lib.hid hbd1
  have hBw1 : B ≤ w1.heap.size := by omega
  clear hb1 ho1 hbd1 HCC
  go_wp2_with (at_builtin; refine Lib.wpList_append_own_stringF _ rfl _ _ 76 9 rfl B 5 i0 Try.underlying76 Try.underlying9 hi hz0 hz1 hz2 bf _ _ rfl Hbd1.out.row s rfl ?c3 ?c4 ?c5 ?_)
  case c3 => unfold maxLen; omega
  case c4 => omega
  case c5 => omega
  intro v' w2 hown' hgrow hnil
  have hO2 : Only (fun k => k = b ∨ bf.ownBlock = some k) w w2 := (Ho1.out.mono (fun i hi => .inl hi)).trans ⟨hgrow.os, hgrow.tape, hgrow.output, hgrow.size, fun k hk hs => hgrow.block k hk (fun e => hs (.inr e.symm))⟩
  have hb2 : blk w2 b T (V.set o (.pointer (some ⟨b, o, none⟩))) := Hb1.out.grown hgrow (fun e => hne e.symm)
  have hbd2 : Bd w2 B (l ++ byt s) v' := by
    refine ⟨?_, fun h => ?_⟩
    · rw [List.length_append, byt_length, Lib.byteCells_append]
      exact hown'
    · obtain ⟨q1, q2⟩ := List.append_eq_nil_iff.1 h
      exact hnil.2 ⟨Hbd.out.nil q1, by rw [← txt_byt s, q2]; rfl⟩
  have f2 := hb2.free (o + 1)
  have c2 := hb2.cell (k := o + 1) (v := bf) (by rw [List.getElem?_set_ne (by omega)]; exact H1.out)
  have hne2 := hbd2.ne hb2 hT
  have hfin : blk (w2.setCell ⟨b, o + 1, none⟩ v') b T ((V.set o (.pointer (some ⟨b, o, none⟩))).set (o + 1) v') := hb2.set (o + 1) v'
  have hO3 := Only.setCell (S := fun k => k = b ∨ bf.ownBlock = some k) (p := ⟨b, o + 1, none⟩) hO2 (.inl (.inl rfl)) v'
  have hbd3 : Bd (w2.setCell ⟨b, o + 1, none⟩ v') B (l ++ byt s) v' := hbd2.only (S := fun k => k = b) (Only.setCell (S := fun k => k = b) (p := ⟨b, o + 1, none⟩) (Only.refl _ w2) (.inl rfl) v') (fun k hk e => hne2 (by rw [hk, e]))
  obtain ⟨p', n', cap', rfl⟩ : ∃ p n cap, v' = .slice p n cap := by
    rcases hown'.2 with ⟨hv, _⟩ | ⟨g, cap, cur, fz, hv, _⟩
    · exact ⟨_, _, _, hv⟩
    · exact ⟨_, _, _, hv⟩
  have HF := Lib.hid (And.intro hfin (And.intro hbd3 hO3))
  clear hfin hO3 hbd3 hbd2 hb2 hO2 hown' hgrow hnil Hb1 Ho1 Hbd1
  go_wp2_with fail
  go_ret2
  exact ⟨rfl, _, HF.out.1, HF.out.2.1, HF.out.2.2⟩

set_option maxHeartbeats 2000000 in
set_option maxRecDepth 100000 in
theorem String_any (T : TypeId) (b o B : Nat) (V : List Value) (bf : Value) (l : List UInt8) (w : World)
    (hT : T ≠ 5) (hb : blk w b T V) (h1 : V[o + 1]? = some bf) (hbd : Bd w B l bf) (hlen : l.length ≤ 1000000) :
    Calls Try.prog 29 #[.pointer (some ⟨b, o, none⟩)] w fun e w' => e = .returned (.string (txt l)) ∧ blk w' b T V ∧ Bd w' B l bf ∧ Only (fun k => bf.ownBlock = some k) w w' := by
  have hne := hbd.ne hb hT
  by_cases hl0 : l = []
  · have hv := hbd.nil hl0
    subst hl0
    subst hv
    have hUS := fun (W : World) (q : Option Addr) => Lib.run_unsafeString_none (P := Try.prog) W 104 3 9 q
    have c1 : w.drew.cell? ⟨b, o + 1, none⟩ = some (.slice none 0 0) := hb.drew.cell h1
    have hSD : (Builtin.unsafeSliceData_ #[76] 104 #[.slice none 0 0]).run Try.prog w.drew = .ok (.pointer none) w.drew := rfl
    have HF := Lib.hid (And.intro hb hbd)
    clear hb h1 hbd
    go_enter Try.func29, Try.ntmps29
    go_wp2
    go_region
    all_goals (go_wp2; go_ret; exact ⟨rfl, HF.out.1.drew, HF.out.2.next ((Below.refl _ _).drew), (Only.refl _ _).drew⟩)
  · have hlp : l.length ≠ 0 := by simpa using hl0
    obtain ⟨g, cap, cur, fz, hv, hbg, hg, hfz, hnc, hcm, hcs, htake⟩ : ∃ g cap cur fz, bf = .slice (some ⟨g, 0, none⟩) l.length cap ∧ B ≤ g ∧ w.heap[g]? = some (.cells cur 5 fz) ∧ fz.2 ≤ l.length * 1 ∧ l.length ≤ cap ∧ cap ≤ maxLen ∧ cur.size = cap * 1 ∧ cur.toList.take (l.length * 1) = Lib.byteCells l := by
      rcases hbd.row.2 with ⟨_, hz⟩ | ⟨g, cap, cur, fz, hv, r⟩
      · exact absurd hz hlp
      · exact ⟨g, cap, cur, fz, hv, r⟩
    subst hv
    have hgb : g ≠ b := fun e => hne (by rw [e]; rfl)
    have c1 : w.drew.cell? ⟨b, o + 1, none⟩ = some (.slice (some ⟨g, 0, none⟩) l.length cap) := hb.drew.cell h1
    have hSD : (Builtin.unsafeSliceData_ #[76] 104 #[.slice (some ⟨g, 0, none⟩) l.length cap]).run Try.prog w.drew = .ok (.pointer (some ⟨g, 0, none⟩)) w.drew :=
      Lib.run_unsafeSliceData_row _ _ _ _ _ _ (by omega)
    have hUS : (Builtin.unsafeString_ #[104, 3] 9 #[.pointer (some ⟨g, 0, none⟩), .int .i64 l.length]).run Try.prog w.drew = .ok (.string ⟨l.toArray⟩) (w.drew.freeze ⟨g, 0, none⟩ l.length) := by
      refine Lib.run_unsafeString_row w.drew 104 3 9 5 Try.underlying104 Try.cellsU8 g cur.size (by have hg' : w.drew.heap[g]? = some (.cells cur 5 fz) := hg; simp [World.shape?, hg']) l hl0 (by omega) (by unfold maxLen at hcm; omega) ?_
      intro j x hx
      exact hbd.row.cells (g := g) rfl j (.int .u8 x.toNat) (by simp [Lib.byteCells, hx])
    have hO : Only (fun k => (Value.slice (some ⟨g, 0, none⟩) l.length cap).ownBlock = some k) w (w.drew.freeze ⟨g, 0, none⟩ l.length) := by
      refine ⟨?_, ?_, ?_, ?_, fun k hk hs => ?_⟩
      · unfold World.freeze; split <;> rfl
      · unfold World.freeze; split <;> rfl
      · unfold World.freeze; split <;> rfl
      · unfold World.freeze; split <;> simp
      · have hkg : k ≠ g := fun e => hs (by rw [e]; rfl)
        unfold World.freeze
        split
        · rfl
        · simp only [Array.getElem?_modify]
          rw [if_neg (fun e => hkg e.symm)]
          rfl
    have hbF : blk (w.drew.freeze ⟨g, 0, none⟩ l.length) b T V := hb.only hO (fun e => hgb (by injection e))
    have hbdF : Bd (w.drew.freeze ⟨g, 0, none⟩ l.length) B l (.slice (some ⟨g, 0, none⟩) l.length cap) := by
      refine ⟨⟨hbd.row.1, .inr ⟨g, cap, cur, (if fz.1 == fz.2 then (0, 0 + l.length) else (min fz.1 0, max fz.2 (0 + l.length))), rfl, hbg, ?_, ?_, hnc, hcm, hcs, htake⟩⟩, fun h => absurd h hl0⟩
      · unfold World.freeze
        rw [if_neg (by simpa using hlp)]
        have hg' : w.drew.heap[g]? = some (.cells cur 5 fz) := hg
        simp [Array.getElem?_modify, hg']
      · split <;> simp <;> omega
    have HF := Lib.hid (And.intro hbF (And.intro hbdF hO))
    clear hb h1 hbd hbF hbdF hO htake hcs hfz hcm hnc hne
    go_enter Try.func29, Try.ntmps29
    go_wp2
    go_region
    all_goals (go_wp2; go_ret; exact ⟨rfl, HF.out.1, HF.out.2.1, HF.out.2.2⟩)

end Go.Proofs.Ytgnoiheekgmleaa
