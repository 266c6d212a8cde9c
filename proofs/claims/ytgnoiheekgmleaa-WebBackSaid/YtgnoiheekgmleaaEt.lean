/- web: a message in the law's own box; what stands in the last line of WebSkips and WebBack. -/
import Derived.Test.YtgnoiheekgmleaaEs
import Derived.Deep.RegionHeld
namespace Go.Proofs.Ytgnoiheekgmleaa
open Go.ChangeShapes Go.WideShapes Go.RowKit
set_option linter.unusedVariables false
set_option linter.unusedSimpArgs false

theorem pieces_le : ∀ (n : Nat) (l : List UInt8), (piecesF n l).length ≤ 17 * l.length
  | 0, l => Nat.zero_le _
  | n + 1, l => by
    unfold piecesF
    split
    · exact Nat.zero_le _
    · rename_i h0
      have := List.length_pos_iff.2 h0
      have h1 := pieces_le n (l.drop 500)
      have h2 := frameB_le 0 (l.take 500)
      rw [List.length_append]
      rw [List.length_drop] at h1
      rw [List.length_take] at h2
      omega
/-- A table stays where rows of bytes and another block are written. -/
theorem TblIs.ifr {x y : World} {B b c : Nat} {T : TypeId} {v : Value} {S : Tbl} {V : List Value} (h : TblIs x B c T v S) (hi : Ifr B b x y) (hT : T ≠ 5) (hc : c ≠ b) (hb : blk x b 94 V) : TblIs y B c T v S := by
  refine ⟨hi.blk h.1 hT hc, own_only h.2 hi (fun k hk => ?_)⟩
  rintro (e | ⟨_, cur, fz, hu⟩)
  · subst e
    exact own_ne h.2 hb (by decide) hk
  · rcases h.2.2 with ⟨hv, _⟩ | ⟨g, cap, cur2, hv, _, hg, _⟩
    · rw [hv] at hk; cases hk
    · rw [hv] at hk
      injection hk with hk
      have hk : g = k := hk
      subst hk
      rw [hg] at hu
      injection hu with hu
      injection hu with _ h2 _
      exact absurd h2 (by decide)
theorem Same_self (L : List Fl) (p q : Option Addr) (ca cb : Nat) (w : World) (hA : FV w p L) (hC : FV w q L) (hl : L.length ≤ 10000) :
    Calls Try.prog 25 #[.slice p L.length ca, .slice q L.length cb] w fun e w' => e = .returned (.bool true) ∧ Below w.heap.size w w' := by
  have := RSame_any L L p q ca cb w hA hC hl hl
  rw [show sameF L L = true from decide_eq_true rfl] at this
  exact this

/-- What stands in the last line. -/
structure SkS (w z : World) (gm b br : Nat) (p : Option Addr) (cap : Nat) (L : List Fl) (body sec : ByteArray) : Prop where
  m : blk z gm 31 [.slice p L.length cap, .string body]
  ib : ∃ ad bf, Ibx z w.heap.size b br ⟨[], byt sec, true, byt body⟩ true 0 ad bf
  n : w.heap.size ≤ b ∧ gm ≠ b ∧ body.size ≤ 5000
  bel : Below w.heap.size w z
section
variable {w z y : World} {gm b br : Nat} {p : Option Addr} {cap : Nat} {L : List Fl} {body sec : ByteArray}
theorem SkS.next (h : SkS w z gm b br p cap L body sec) (hb : Below z.heap.size z y) : SkS w y gm b br p cap L body sec := by
  obtain ⟨ad, bf, hI⟩ := h.ib
  exact ⟨h.m.below hb h.m.lt, ⟨ad, bf, hI.next hb⟩, h.n, h.bel.trans (hb.mono h.bel.size)⟩
theorem SkS.cells (h : SkS w z gm b br p cap L body sec) : (z.cell? ⟨gm, 0, none⟩ = some (.slice p L.length cap) ∧ z.cell? ⟨gm, 1, none⟩ = some (.string body)) ∧ SkS w z gm b br p cap L body sec :=
  ⟨⟨h.m.cell (k := 0) rfl, h.m.cell (k := 1) rfl⟩, h⟩
theorem SkS.bod (h : SkS w z gm b br p cap L body sec) : Calls Try.prog 23 #[.pointer (some ⟨b, 0, none⟩)] z fun e y => e = .returned (.string body) ∧ SkS w y gm b br p cap L body sec := by
  obtain ⟨ad, bf, hI⟩ := h.ib
  obtain ⟨n0, n1, n2⟩ := h.n
  refine (Body_any hI (by show (byt body).length ≤ _; rw [byt_length]; omega)).mono ?_
  rintro e y ⟨rfl, ad3, bf3, hI3, hif3⟩
  refine ⟨by show Ending.returned (.string (txt (byt body))) = _; rw [txt_byt], hif3.blk h.m (by decide) n1, ⟨ad3, bf3, hI3⟩, h.n, h.bel.trans (hif3.below n0 h.bel.size)⟩
theorem SkS.done (h : SkS w z gm b br p cap L body sec) : Calls Try.prog 22 #[.pointer (some ⟨b, 0, none⟩)] z fun e y => e = .returned (.bool true) ∧ SkS w y gm b br p cap L body sec := by
  have hn := h.n
  have hm := h.m
  have hb := h.bel
  obtain ⟨ad, bf, hI⟩ := h.ib
  refine (Done_any hI).mono ?_
  rintro e y ⟨rfl, ad3, bf3, hI3, hif3⟩
  exact ⟨rfl, hif3.blk hm (by decide) hn.2.1, ⟨ad3, bf3, hI3⟩, hn, hb.trans (hif3.below hn.1 hb.size)⟩
end

end Go.Proofs.Ytgnoiheekgmleaa
