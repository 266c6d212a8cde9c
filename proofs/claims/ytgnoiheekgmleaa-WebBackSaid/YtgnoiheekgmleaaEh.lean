/- web: the inbox: New, Add, Fields. -/
import Derived.Test.YtgnoiheekgmleaaEg
import Derived.Test.YtgnoiheekgmleaaYq
import Derived.Deep.RegionHeld
namespace Go.Proofs.Ytgnoiheekgmleaa
open Go.ChangeShapes Go.WideShapes Go.RowKit
set_option linter.unusedVariables false

def emptyIB : IB := ⟨[], [], false, []⟩
/-- What an Add makes of an inbox. -/
def addI (I : IB) (s : List UInt8) (fin : Bool) : IB × Int :=
  let R := runF { I with came := I.came ++ s }
  if R.2 ≠ 0 ∨ fin = false then R else if R.1.came ≠ [] then (R.1, 2) else if R.1.head = false then (R.1, 22) else (R.1, 0)

theorem loop_err : ∀ (k : Nat) (b : IB), (loopF k b).2 = 0 ∨ (loopF k b).2 = 2 ∨ (loopF k b).2 = 22
  | 0, b => .inl rfl
  | k + 1, b => by
    unfold loopF
    split
    · exact .inl rfl
    · split
      · exact .inl rfl
      · rename_i h1
        split
        · rename_i h2
          rcases wtake_err b.came with h | h | h
          · exact absurd h h2
          · exact absurd h h1
          · exact .inr (.inl h)
        · split
          · rename_i h3
            rcases act_err b (wtake b.came).1 (wtake b.came).2.1 with h | h
            · exact absurd h h3
            · exact .inr (.inr h)
          · exact loop_err k _
theorem run_err (b : IB) : (runF b).2 = 0 ∨ (runF b).2 = 2 ∨ (runF b).2 = 22 := loop_err _ _

set_option maxRecDepth 100000 in
theorem New_any (br : Nat) (B : Nat) (w : World) (hB : B ≤ w.heap.size) :
    Calls Try.prog 20 #[.pointer (some ⟨br, 0, none⟩)] w fun e w' => e = .returned (.pointer (some ⟨w.heap.size, 0, none⟩)) ∧ Ibx w' B w.heap.size br emptyIB false 0 (.pointer none) (.slice none 0 0) ∧ Below w.heap.size w w' := by
  have hb : Below w.heap.size w (w.alloc (.cells #[.pointer (some ⟨br, 0, none⟩), .string ⟨#[]⟩, .string ⟨#[]⟩, .bool false, .pointer none, .slice none 0 0, .bool false, .int .i64 0] 94)) := (Below.refl _ _).alloc (Nat.le_refl _) _
  have hi : Ibx (w.alloc (.cells #[.pointer (some ⟨br, 0, none⟩), .string ⟨#[]⟩, .string ⟨#[]⟩, .bool false, .pointer none, .slice none 0 0, .bool false, .int .i64 0] 94)) B w.heap.size br emptyIB false 0 (.pointer none) (.slice none 0 0) :=
    ⟨blk.new w _ _, .inl rfl, Bd.start _ _, hB, by rw [World.size_alloc]; omega⟩
  have HB := Lib.hid (And.intro hi hb)
  clear hb hi hB
  go_enter Try.func20, Try.ntmps20
  go_wp2_with fail
  go_ret
  exact ⟨rfl, HB.out.1, HB.out.2⟩
set_option maxRecDepth 100000 in
theorem New_nil (w : World) :
    Calls Try.prog 20 #[.pointer none] w fun e w' => e = .returned (.pointer none) ∧ w = w' := by
  go_enter Try.func20, Try.ntmps20
  go_wp2_with fail
  go_ret
  exact ⟨rfl, rfl⟩

section
variable {B b br : Nat} {I : IB} {fin : Bool} {e : Int} {ad bf : Value} {w : World}

set_option maxRecDepth 100000 in
theorem Add_done (s : ByteArray) (f : Bool) (h : Ibx w B b br I true e ad bf) :
    Calls Try.prog 21 #[.pointer (some ⟨b, 0, none⟩), .string s, .bool f] w fun e1 w' => e1 = .returned (.int .i64 12) ∧ w = w' := by
  have c6 := h.at_.cell (k := 6) rfl
  clear h
  go_enter Try.func21, Try.ntmps21
  go_wp2_with fail
  go_ret
  exact ⟨rfl, rfl⟩

set_option maxRecDepth 100000 in
set_option maxHeartbeats 2000000 in
theorem Add_any (s : ByteArray) (f : Bool) (h : Ibx w B b br I false 0 ad bf) (hlen : I.came.length + s.size + I.body.length ≤ 100000) :
    Calls Try.prog 21 #[.pointer (some ⟨b, 0, none⟩), .string s, .bool f] w fun e1 w' => e1 = .returned (.int .i64 (addI I (byt s) f).2) ∧ IbTo B b br (addI I (byt s) f).1 f (addI I (byt s) f).2 w w' := by
  obtain ⟨R, hR⟩ : ∃ R, addI I (byt s) f = R := ⟨_, rfl⟩
  rw [hR]
  unfold addI at hR
  obtain ⟨J, e1, hJ⟩ : ∃ J e1, runF { I with came := I.came ++ byt s } = (J, e1) := ⟨_, _, rfl⟩
  have hE := run_err { I with came := I.came ++ byt s }
  rw [hJ] at hR hE
  simp only at hR hE
  have HE := Lib.hid hE
  have c6 := h.at_.cell (k := 6) rfl
  have c7 := h.at_.cell (k := 7) rfl
  have c1 := h.at_.cell (k := 1) rfl
  have f1 := h.at_.free 1
  have f6 := h.at_.free 6
  have hcat : txt I.came ++ s = txt (I.came ++ byt s) := by rw [wtxt_app, txt_byt]
  obtain ⟨h1, g1⟩ := h.set 1 (.string (txt I.came ++ s)) (I' := { I with came := I.came ++ byt s }) (fin' := false) (e' := 0) (by rw [hcat]; rfl) rfl
  obtain ⟨h2, g2⟩ := h1.set 6 (.bool f) (I' := { I with came := I.came ++ byt s }) (fin' := f) (e' := 0) rfl rfl
  have hfr := frames_any B b br { I with came := I.came ++ byt s } f 0 ad bf _ h2 (by simp only [List.length_append, byt_length]; omega)
  rw [hJ] at hfr
  have hsz : ¬ 9223372036854775807 < (txt I.came).size + s.size := by rw [txt_size]; omega
  have HG := Lib.hid (g1.trans g2)
  have HFr := Lib.hid hfr
  have HR := Lib.hid hR
  clear h h1 g1 h2 g2 hfr hR hJ hcat hlen hE
  go_enter Try.func21, Try.ntmps21
  go_wp2_with fail
  refine HFr.out.mono ?_
  rintro e2 w1 ⟨rfl, ad2, bf2, h3, g3⟩
  have c1' := h3.at_.cell (k := 1) rfl
  have c3' := h3.at_.cell (k := 3) rfl
  have c7' := h3.at_.cell (k := 7) rfl
  have f7' := h3.at_.free 7
  obtain ⟨h4, g4⟩ := h3.set 7 (.int .i64 e1) (I' := J) (fin' := f) (e' := e1) rfl rfl
  have HG2 := Lib.hid (HG.out.trans (g3.trans g4))
  have H4 := Lib.hid h4
  have HR := Lib.hid (And.intro HR.out (And.intro H4 (And.intro (HG.out.trans g3) h3)))
  clear h3 g3 h4 g4 HFr HG
  rcases HE.out with rfl | rfl | rfl
  · cases f with
    | false =>
      have hR := HR.out.1
      rw [if_pos (.inr rfl)] at hR
      have HR2 := Lib.hid hR
      clear hR
      go_wp2_with fail
      go_ret
      rw [← HR2.out]
      exact ⟨rfl, _, _, H4.out, HG2.out⟩
    | true =>
      have hR := HR.out.1
      rw [if_neg (fun h => by rcases h with h | h; exact h rfl; cases h)] at hR
      by_cases hc : J.came = []
      · rw [hc, txt_nil] at c1'
        rw [if_neg (fun h => h hc)] at hR
        cases hh : J.head with
        | true =>
          rw [hh] at c3'
          rw [hh, if_neg (by decide)] at hR
          have HR2 := Lib.hid hR
          clear hR hc hh
          go_wp2_with fail
          go_ret
          rw [← HR2.out]
          exact ⟨rfl, _, _, H4.out, HG2.out⟩
        | false =>
          rw [hh] at c3'
          rw [hh, if_pos rfl] at hR
          obtain ⟨h5, g5⟩ := H4.out.set 7 (.int .i64 22) (I' := J) (fin' := true) (e' := 22) rfl rfl
          have HR2 := Lib.hid (And.intro hR (And.intro h5 (HG2.out.trans g5)))
          clear hR hc hh h5 g5
          go_wp2_with fail
          go_ret
          rw [← HR2.out.1]
          exact ⟨rfl, _, _, HR2.out.2.1, HR2.out.2.2⟩
      · obtain ⟨n1, n2⟩ := txt_ne hc
        rw [if_pos hc] at hR
        obtain ⟨h5, g5⟩ := H4.out.set 7 (.int .i64 2) (I' := J) (fin' := true) (e' := 2) rfl rfl
        have HR2 := Lib.hid (And.intro hR (And.intro h5 (HG2.out.trans g5)))
        clear hR hc h5 g5
        go_wp2_with fail
        go_ret
        rw [← HR2.out.1]
        exact ⟨rfl, _, _, HR2.out.2.1, HR2.out.2.2⟩
  · go_wp2_with fail
    go_ret
    have hR := HR.out.1
    rw [if_pos (.inl (by decide))] at hR
    rw [← hR]
    exact ⟨rfl, _, _, H4.out, HG2.out⟩
  · go_wp2_with fail
    go_ret
    have hR := HR.out.1
    rw [if_pos (.inl (by decide))] at hR
    rw [← hR]
    exact ⟨rfl, _, _, H4.out, HG2.out⟩
end

end Go.Proofs.Ytgnoiheekgmleaa
