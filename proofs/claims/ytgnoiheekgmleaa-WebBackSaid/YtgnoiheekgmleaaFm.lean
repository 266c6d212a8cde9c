/- fields: contract of Reader.Told. -/
import Derived.Test.YtgnoiheekgmleaaFl
namespace Go.Proofs.Ytgnoiheekgmleaa
open Go.ChangeShapes Go.WideShapes Go.RowKit
set_option linter.unusedVariables false
set_option linter.unusedSimpArgs false

/-- What the table is told, step by step. -/
def toldF : Nat → Tbl → ByteArray → Tbl × Int
  | 0, S, _ => (S, 0)
  | k + 1, S, s => if s.size = 0 then (S, 0) else if (instrF s).2.2 = false then (S, 2) else if (addF S (instrF s).1).2 = false then (S, 20) else toldF k (addF S (instrF s).1).1 (instrF s).2.1

def strLen : Value → Nat
  | .string s => s.size
  | _ => 0

theorem ba_nil {s : ByteArray} (h : s.size = 0) : s = ⟨#[]⟩ := by
  apply ByteArray.ext
  exact Array.eq_empty_of_size_eq_zero h

/-- A field's cells, and the table. -/
theorem two_tab2 {w w1 x : World} {B b : Nat} {T : TypeId} {v v2 : Value} {S : Tbl} {g : Nat} {u1 u2 : Value} (h : (w1.cell? ⟨g, 0, none⟩ = some u1 ∧ w1.cell? ⟨g, 1, none⟩ = some u2) ∧ TblIs w1 B b T v2 S) (bq : Below w1.heap.size w1 x) :
    (x.cell? ⟨g, 0, none⟩ = some u1 ∧ x.cell? ⟨g, 1, none⟩ = some u2) ∧ TblIs x B b T v2 S := ⟨two_below h.1 bq, h.2.below bq⟩

theorem instr_size (s : ByteArray) : (instrF s).2.1.size ≤ s.size := by
  by_cases h : (instrF s).2.2 = true
  · exact Nat.le_of_lt (instrF_len s h)
  · unfold instrF
    split
    · split
      · show 0 ≤ _; omega
      · have := valF_len (knownF s 6).1.1 (knownF s 6).2.1
        have := knownF_rest s 6
        omega
    · split
      · split
        · show 0 ≤ _; omega
        · have := valF_len (txt (takeTextF (byt s) 6).1) (txt (takeTextF (byt s) 6).2.1)
          have h2 := takeText_len (byt s) 6
          rw [byt_length] at h2
          rw [txt_size] at this
          omega
      · show 0 ≤ _; omega

theorem valF_may (n0 r : ByteArray) (h : (valF n0 r).2.2 = true) : mayFl (valF n0 r).1 = true := by
  unfold valF at h ⊢
  simp only [Bool.and_eq_true] at h
  exact h.2
theorem instrF_may (s : ByteArray) (h : (instrF s).2.2 = true) : mayFl (instrF s).1 = true := by
  unfold instrF at h ⊢
  by_cases c3 : ((byt s).headD 0).toNat / 64 = 3
  · rw [if_pos c3] at h ⊢
    by_cases ck : (knownF s 6).2.2 = false
    · rw [if_pos ck] at h; cases h
    · rw [if_neg ck] at h ⊢; exact valF_may _ _ h
  · rw [if_neg c3] at h ⊢
    by_cases c1 : ((byt s).headD 0).toNat / 64 = 1
    · rw [if_pos c1] at h ⊢
      by_cases ck : (takeTextF (byt s) 6).2.2 = false
      · rw [if_pos ck] at h; cases h
      · rw [if_neg ck] at h ⊢; exact valF_may _ _ h
    · rw [if_neg c1] at h; cases h

set_option maxRecDepth 100000 in
set_option maxHeartbeats 4000000 in
theorem Told_any (B b : Nat) (v : Value) (S : Tbl) (s : ByteArray) (w : World) (h : TblIs w B b 89 v S) (hok : S.Ok) (hBw : B ≤ w.heap.size) (hBb : B ≤ b) (hs : s.size ≤ 5000) :
    Calls Try.prog 19 #[.pointer (some ⟨b, 0, none⟩), .string s] w fun e w' => e = .returned (.int .i64 (toldF (s.size + 1) S s).2) ∧ TabTo w w' B b 89 v (toldF (s.size + 1) S s).1 := by
  obtain ⟨R, hR⟩ : ∃ R, toldF (s.size + 1) S s = R := ⟨_, rfl⟩
  have HS0 : Hid (∃ (St : Tbl) (k : Nat), s.size < k ∧ toldF k St s = R ∧ St.Ok ∧ s.size ≤ 5000 ∧ TabTo w w B b 89 v St) := Lib.hid ⟨S, s.size + 1, by omega, hR, hok, hs, TabTo.same h (Below.refl _ _)⟩
  rw [hR]
  clear h hok hs hR
  go_enter Try.func19, Try.ntmps19
  go_wp2_with fail
  go_loopw [1, 5, 6, 7] (fun sv _ _ _ wr => ∃ s' : ByteArray, sv = .string s' ∧ ∃ (St : Tbl) (k : Nat), s'.size < k ∧ toldF k St s' = R ∧ St.Ok ∧ s'.size ≤ 5000 ∧ TabTo w wr B b 89 v St) (fun sv _ _ _ _ => strLen sv)
  case atStart => exact ⟨s, rfl, HS0.out⟩
  case round =>
    obtain ⟨s', rfl, St, k, hk, hR, hok, hs, hT⟩ := hrel
    clear HS0
    by_cases hz : s'.size = 0
    · have hs0 := ba_nil hz
      subst hs0
      have hR2 : R = (St, 0) := by
        rw [← hR]
        cases k with
        | zero => omega
        | succ k => unfold toldF; rw [if_pos (show (⟨#[]⟩ : ByteArray).size = 0 from rfl)]
      have HR := Lib.hid hR2
      have HT := Lib.hid hT
      clear hR hR2 hT hz hk hs hok
      go_wp2_with fail
      go_ret
      rw [HR.out]
      exact ⟨rfl, HT.out⟩
    · obtain ⟨k, rfl⟩ : ∃ k', k = k' + 1 := ⟨k - 1, by omega⟩
      have h0 : 0 < s'.size := by omega
      have hne := ne_size s'
      rw [decide_eq_true h0] at hne
      have hne2 : s'.toList.isEmpty = false := hne
      unfold toldF at hR
      rw [if_neg hz] at hR
      have hi := instruction_any s' wr hs h0
      have hil := instrF_len s'
      have his := instr_size s'
      have him := instrF_may s'
      generalize instrF s' = q at *
      obtain ⟨⟨n0, v0⟩, r, is⟩ := q
      unfold Fl.v at hi
      simp only at hi hil his him hR
      have HI := Lib.hid hi
      clear hi hne
      cases is
      case false =>
        rw [if_pos rfl] at hR
        have HR := Lib.hid hR.symm
        have HT := Lib.hid hT
        clear hR hT hil him
        go_wp2_with fail
        refine HI.out.mono ?_
        rintro e w1 ⟨rfl, b1⟩
        have T1 := Lib.hid (HT.out.further b1)
        have hbb : Below w1.heap.size w1 (w1.alloc (.cells #[.string n0, .string v0] 66)) := (Below.refl _ _).alloc (Nat.le_refl _) _
        have T2 := Lib.hid (T1.out.further hbb)
        clear b1 hbb
        go_wp2_with fail
        go_ret
        rw [HR.out]
        exact ⟨rfl, T2.out⟩
      case true =>
        rw [if_neg (by simp)] at hR
        have hlt := hil rfl
        obtain ⟨_, m1, m2⟩ := (mayFl_iff (n0, v0)).1 (him rfl)
        simp only at m1 m2
        obtain ⟨v1, hT1, hO1, hV1⟩ := hT
        obtain ⟨cA, hcA⟩ : ∃ c, (addF St (n0, v0)).2 = c := ⟨_, rfl⟩
        have hokA := hok.add (n0, v0)
        obtain ⟨SA, hSA⟩ : ∃ c, (addF St (n0, v0)).1 = c := ⟨_, rfl⟩
        have hfalse : cA = false → SA = St := fun h => by rw [← hSA]; exact addF_false (by rw [hcA]; exact h)
        rw [hcA, hSA] at hR
        rw [hSA] at hokA
        have hadd := fun W (hW : TblIs W B b 89 v1 St) (hb : B ≤ W.heap.size) => add_any B b 89 v1 St (n0, v0) W hW hok hb hBb (by decide) (by show n0.size ≤ 1000000; omega) (by show v0.size ≤ 1000000; omega)
        rw [hcA, hSA] at hadd
        have HADD := Lib.hid hadd
        have HT1 := Lib.hid hT1
        have HO1 := Lib.hid hO1
        have HV1 := Lib.hid hV1
        have HF := Lib.hid hfalse
        have hwr := hO1.size
        have hbl := hT1.1.lt
        have HOWN := Lib.hid (own_lt hT1.2)
        clear hadd hT1 hO1 hV1 hcA hSA hfalse him hil hok
        cases cA
        all_goals
          go_wp2_with fail
          refine HI.out.mono ?_
          rintro e w1 ⟨rfl, b1⟩
          have hbb : Below w1.heap.size w1 (w1.alloc (.cells #[.string n0, .string v0] 66)).drew := ((Below.refl _ _).alloc (Nat.le_refl _) _).drew
          have hbx := blk.new w1 66 [.string n0, .string v0]
          have hb2 := b1.trans (hbb.mono b1.size)
          have T2 := Lib.hid (HT1.out.below hb2)
          have O2 := Lib.hid (HO1.out.then (S' := fun _ => False) (Only.ofBelow hb2) (fun _ => False.elim))
          have Q2 : Hid ((w1.alloc (.cells #[.string n0, .string v0] 66)).drew.cell? ⟨w1.heap.size, 0, none⟩ = some (.string n0) ∧ (w1.alloc (.cells #[.string n0, .string v0] 66)).drew.cell? ⟨w1.heap.size, 1, none⟩ = some (.string v0)) := Lib.hid ⟨hbx.cell (k := 0) rfl, hbx.cell (k := 1) rfl⟩
          have hB2 : B ≤ (w1.alloc (.cells #[.string n0, .string v0] 66)).drew.heap.size := Nat.le_trans hBw (Nat.le_trans hwr hb2.size)
          have hgn : ¬ (w1.heap.size = b ∨ v1.ownBlock = some w1.heap.size) := by
            have := b1.size
            rintro (e | e)
            · omega
            · have := HOWN.out _ e; omega
          have HGN := Lib.hid hgn
          have HB2 := Lib.hid hB2
          clear hbb hbx hb2 b1 hgn hB2
          go_wp2_with fail
          go_region_held (fun w' => w'.cell? ⟨w1.heap.size, 0, none⟩ = some (.string n0) ∧ w'.cell? ⟨w1.heap.size, 1, none⟩ = some (.string v0))
            (first | with_reducible assumption | exact Q2.out | exact two_only (by with_reducible assumption) b4 HGN.out)
            (first | (go_at_call 36; refine (HADD.out _ T2.out HB2.out).mono ?_; rintro e x4 ⟨rfl, hA⟩; have TT := Lib.hid (TabTo.step O2.out HV1.out hA); obtain ⟨v4, _, b4, _⟩ := hA))
          all_goals go_wp2_with fail
        · simp only [if_true] at hR
          go_ret
          rw [← hR]
          have := TT.out
          rw [HF.out trivial] at this
          exact ⟨rfl, this⟩
        · first | rw [if_neg (by simp)] at hR | simp only [if_false] at hR
          go_roundw
          case rel => exact ⟨r, rfl, SA, k, by omega, hR, hokA, by omega, TT.out⟩
          case measure => simp [strLen]; omega

end Go.Proofs.Ytgnoiheekgmleaa
