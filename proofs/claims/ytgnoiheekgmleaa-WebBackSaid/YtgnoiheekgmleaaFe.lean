/- fields: contracts of slices.Contains, slices.IndexFunc by a name, named. -/
import Derived.Test.YtgnoiheekgmleaaFd
namespace Go.Proofs.Ytgnoiheekgmleaa
open Go.ChangeShapes Go.WideShapes Go.RowKit
set_option linter.unusedVariables false

/-- Is a field there? -/
def hasF (L : List Fl) (f : Fl) : Bool := decide ((0 : Int) ≤ idxF L f)

set_option maxHeartbeats 1000000 in
theorem Contains_any (L : List Fl) (p : Option Addr) (cap : Nat) (f : Fl) (w : World) (hL : FV w p L) (hlen : L.length ≤ 10000) :
    Calls Try.prog 43 #[.slice p L.length cap, f.v] w fun e w' => e = .returned (.bool (hasF L f)) ∧ Below w.heap.size w w' := by
  unfold hasF
  have hbb : Below w.heap.size w (w.alloc (.cells #[.string f.1, .string f.2] 66)) := (Below.refl _ _).alloc (Nat.le_refl _) _
  have hi := Index_any L p cap f (w.alloc (.cells #[.string f.1, .string f.2] 66)) (hL.below hbb) hlen
  generalize idxF L f = x at *
  obtain ⟨d, hd⟩ : ∃ d, decide ((0 : Int) ≤ x) = d := ⟨_, rfl⟩
  rw [hd]
  have HI := Lib.hid hi
  have HB := Lib.hid hbb
  obtain ⟨n0, v0⟩ := f
  unfold Fl.v at HI ⊢
  simp only at HI HB ⊢
  clear hi hbb hL
  go_enter Try.func43, Try.ntmps43
  go_wp2_with fail
  refine HI.out.mono ?_
  rintro e w1 ⟨rfl, b1⟩
  have B1 := Lib.hid (HB.out.trans (b1.mono HB.out.size))
  clear b1
  go_wp2_with fail
  go_ret
  exact ⟨rfl, B1.out⟩

/-- The first place of one that is as asked. -/
def whereF (L : List Fl) (P : Fl → Bool) : Int := match L.findIdx? P with | some i => (i : Int) | none => -1

theorem where_at (L : List Fl) (P : Fl → Bool) (j : Nat) (g : Fl) (hg : L[j]? = some g) (hb : ∀ i, i < j → ∀ q, L[i]? = some q → P q = false) (he : P g = true) : whereF L P = (j : Int) := by
  unfold whereF
  have : L.findIdx? P = some j := by
    rw [List.findIdx?_eq_some_iff_getElem]
    have hj : j < L.length := (List.getElem?_eq_some_iff.1 hg).1
    refine ⟨hj, ?_, ?_⟩
    · have := (List.getElem?_eq_some_iff.1 hg).2
      rw [this, he]
    · intro i hi
      have := hb i hi (L[i]'(by omega)) (List.getElem?_eq_getElem (by omega))
      rw [this]
      simp
  rw [this]
theorem where_none (L : List Fl) (P : Fl → Bool) (hb : ∀ i, i < L.length → ∀ q, L[i]? = some q → P q = false) : whereF L P = -1 := by
  unfold whereF
  have : L.findIdx? P = none := by
    rw [List.findIdx?_eq_none_iff]
    intro x hx
    obtain ⟨i, hi, rfl⟩ := List.getElem_of_mem hx
    exact hb i hi _ (List.getElem?_eq_getElem hi)
  rw [this]

set_option maxRecDepth 100000 in
set_option maxHeartbeats 4000000 in
theorem IndexFunc_any (L : List Fl) (p : Option Addr) (cap : Nat) (P : Fl → Bool) (g : Nat) (lb : Array Value) (w : World) (hL : FV w p L) (hlen : L.length ≤ 10000)
    (eg : ∀ args w, (callFunc g args).run Try.prog w = .ok (.enter g args) w)
    (hp : ∀ W f, Below w.heap.size w W → Calls Try.prog g (#[f.v] ++ lb) W fun e w' => e = .returned (.bool (P f)) ∧ Below W.heap.size W w') :
    Calls Try.prog 68 #[.slice p L.length cap, .func (.func g) #[] lb] w fun e w' => e = .returned (.int .i64 (whereF L P)) ∧ Below w.heap.size w w' := by
  obtain ⟨N, hN⟩ : ∃ N, L.length = N := ⟨_, rfl⟩
  rw [hN] at hlen ⊢
  have HN := Lib.hid hN
  have HL := Lib.hid hL
  have HP := Lib.hid hp
  clear hN hL hp
  go_enter Try.func68, Try.ntmps68
  go_wp2_with fail
  go_loopw [5, 8] (fun _ i wr => ∃ j : Nat, j ≤ N ∧ i = .int .i64 j ∧ (∀ i, i < j → ∀ q, L[i]? = some q → P q = false) ∧ Below w.heap.size w wr) (fun _ i _ => N - (intOf i).toNat)
  case atStart => exact ⟨0, by omega, rfl, fun i hi => by omega, Below.refl _ _⟩
  case round =>
    obtain ⟨j, hj, rfl, hno, hbw⟩ := hrel
    have HNO := Lib.hid hno
    have HBW := Lib.hid hbw
    clear hno
    by_cases hlt : j < N
    · have hjl : j < L.length := by rw [HN.out]; exact hlt
      obtain ⟨q, hq⟩ : ∃ q, L[j]? = some q := ⟨_, List.getElem?_eq_getElem hjl⟩
      obtain ⟨g1, o, rfl, hg, hc⟩ := HL.out (by omega)
      obtain ⟨k1, k2⟩ := hc j q hq
      have r1 := (hbw.cell (p := ⟨g1, o + j * 2, none⟩) hg).trans k1
      have r2 := (hbw.cell (p := ⟨g1, o + j * 2 + 1, none⟩) hg).trans k2
      have HC := Lib.hid (HP.out wr q hbw)
      have HQ := Lib.hid hq
      obtain ⟨b, hb⟩ : ∃ b, P q = b := ⟨_, rfl⟩
      rw [hb] at HC
      have Hb := Lib.hid hb
      obtain ⟨gn, gv⟩ := q
      unfold Fl.v at HC
      simp only at r1 r2 HC
      clear hc k1 k2 hq hjl hbw hb
      cases b
      · go_wp2_with fail
        refine HC.out.mono ?_
        rintro e w1 ⟨rfl, b1⟩
        have B1 := Lib.hid (HBW.out.trans (b1.mono HBW.out.size))
        clear b1
        go_wp2_with fail
        go_roundw
        case rel => exact ⟨j + 1, by omega, by go_num, fun i hi q hq => by
          rcases Nat.lt_succ_iff_lt_or_eq.1 hi with h | h
          · exact HNO.out i h q hq
          · subst h
            rw [HQ.out] at hq
            injection hq with hq
            rw [← hq]
            exact Hb.out, B1.out⟩
        case measure => simp [intOf]; omega
      · go_wp2_with fail
        refine HC.out.mono ?_
        rintro e w1 ⟨rfl, b1⟩
        have B1 := Lib.hid (HBW.out.trans (b1.mono HBW.out.size))
        have HE := Lib.hid (where_at L P j _ HQ.out HNO.out Hb.out)
        clear b1
        go_wp2_with fail
        go_ret
        exact ⟨by rw [HE.out]; rfl, B1.out⟩
    · obtain rfl : j = N := by omega
      have HE := Lib.hid (where_none L P (fun i hi q hq => HNO.out i (by rw [← HN.out]; exact hi) q hq))
      clear hbw
      go_wp2_with fail
      go_ret
      exact ⟨by rw [HE.out]; rfl, HBW.out⟩

theorem place_any (L : List Fl) (p : Option Addr) (cap : Nat) (P : Fl → Bool) (g : Nat) (lb : Array Value) (w : World) (hL : FV w p L) (hlen : L.length ≤ 10000)
    (eg : ∀ args w, (callFunc g args).run Try.prog w = .ok (.enter g args) w)
    (hp : ∀ W f, Below w.heap.size w W → Calls Try.prog g (#[f.v] ++ lb) W fun e w' => e = .returned (.bool (P f)) ∧ Below W.heap.size W w') :
    Calls Try.prog 39 #[.slice p L.length cap, .func (.func g) #[] lb] w fun e w' => e = .returned (.int .i64 (whereF L P)) ∧ Below w.heap.size w w' := by
  have hi := IndexFunc_any L p cap P g lb w hL hlen eg hp
  generalize L.length = N at *
  have HI := Lib.hid hi
  clear hi hL hp
  go_enter Try.func39, Try.ntmps39
  go_wp2_with fail
  refine HI.out.mono ?_
  rintro e w1 ⟨rfl, b1⟩
  have B1 := Lib.hid b1
  clear b1
  go_wp2_with fail
  go_ret
  exact ⟨rfl, B1.out⟩

/-- Has a field this name? -/
def isName (n : ByteArray) (f : Fl) : Bool := f.1.toList == n.toList

theorem named1_any (f : Fl) (n : ByteArray) (b : Nat) (w : World) (hn : w.cell? ⟨b, 0, none⟩ = some (.string n)) :
    Calls Try.prog 79 #[f.v, .pointer (some ⟨b, 0, none⟩)] w fun e w' => e = .returned (.bool (isName n f)) ∧ Below w.heap.size w w' := by
  obtain ⟨gn, gv⟩ := f
  unfold Fl.v isName
  simp only
  have hb := World.block_lt_of_cell? _ _ hn
  have HB : Hid (∀ o : Obj, Below w.heap.size w (w.alloc o)) := Lib.hid (fun o => (Below.refl _ _).alloc (Nat.le_refl _) _)
  go_enter Try.func79, Try.ntmps79
  go_wp2_with fail
  go_ret
  exact ⟨rfl, HB.out _⟩

def namedF (n : ByteArray) : Int := whereF fixedL (isName n)

theorem named_any (n : ByteArray) (w : World) :
    Calls Try.prog 69 #[.string n] w fun e w' => e = .returned (.int .i64 (namedF n)) ∧ Below w.heap.size w w' := by
  unfold namedF
  have hbx := blk.new w 9 [.string n]
  have hbb : Below w.heap.size w (w.alloc (.cells #[.string n] 9)) := (Below.refl _ _).alloc (Nat.le_refl _) _
  have HB := Lib.hid hbb
  have HX := Lib.hid hbx
  clear hbb hbx
  have hlen : fixedL.length = 12 := rfl
  have eg : ∀ args w, (callFunc 79 args).run Try.prog w = .ok (.enter 79 args) w := fun args w => rfl
  have hpl : ∀ w1, blk w1 w.heap.size 9 [.string n] → ∀ p cap, FV w1 p fixedL → Calls Try.prog 39 #[.slice p 12 cap, .func (.func 79) #[] #[.pointer (some ⟨w.heap.size, 0, none⟩)]] w1 fun e w' => e = .returned (.int .i64 (whereF fixedL (isName n))) ∧ Below w1.heap.size w1 w' := by
    intro w1 hb p cap hv
    have := place_any fixedL p cap (isName n) 79 #[.pointer (some ⟨w.heap.size, 0, none⟩)] w1 hv (by decide) eg (fun W f hbW => named1_any f n w.heap.size W ((hb.below hbW hb.lt).cell rfl))
    rw [hlen] at this
    exact this
  have HPL := Lib.hid hpl
  clear hpl eg
  generalize whereF fixedL (isName n) = x at *
  go_enter Try.func69, Try.ntmps69
  go_wp2_with fail
  refine (Fixed_any _).mono ?_
  rintro e w1 ⟨rfl, hf, b1⟩
  rw [show (w.alloc (.cells #[.string n] 9)).heap.size = w.heap.size + 1 by simp] at hf
  have hx1 := HX.out.below b1 HX.out.lt
  have C := Lib.hid (HPL.out w1 hx1 _ 12 (FV.of_blk hf))
  have B1 := Lib.hid (HB.out.trans (b1.mono HB.out.size))
  clear b1 hf hx1
  go_wp2_with fail
  refine C.out.mono ?_
  rintro e w2 ⟨rfl, b2⟩
  have B2 := Lib.hid (B1.out.trans (b2.mono B1.out.size))
  clear b2
  go_wp2_with fail
  go_ret
  exact ⟨rfl, B2.out⟩

end Go.Proofs.Ytgnoiheekgmleaa
