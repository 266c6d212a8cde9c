/- Contract of head's Whole. -/
import Derived.Test.YtngnfijpfghodaaDp
import Derived.Test.YtngnfijpfghodaaDh
import Derived.Test.YtngnfijpfghodaaMb
import Derived.Deep.LoopGhost
import Derived.Deep.DeepCutAuto
namespace Go.Proofs.Ytngnfijpfghodaa
open Go.ChangeShapes Go.WideShapes Go.RowKit
set_option linter.unusedVariables false

theorem Try.infoS : (Try.prog.info? 9).map (fun i => (i.zero, i.size, i.bytes)) = some (some (.string ⟨#[]⟩), 1, 16) := by kernel_rfl

def strs (L : List (List UInt8)) : List Value := L.map fun p => .string (txt p)
/-- A slice of the call's own with these texts. -/
def OwnS (B : Nat) (w : World) (v : Value) (L : List (List UInt8)) : Prop := w.ownsRow B 9 1 v L.length (strs L)

theorem OwnS.nil (B : Nat) (w : World) : OwnS B w (.slice none 0 0) [] := World.ownsRow_nil _ _ _ _
theorem OwnS.below {B : Nat} {w w' : World} {v : Value} {L : List (List UInt8)} (h : OwnS B w v L) (hb : Below w.heap.size w w') : OwnS B w' v L := own_below h hb

/-- 'out = append(out, p)'. -/
theorem appS {ops : Array Oper} {rest : List Oper} {o : Oper} {a : Act} {Q : Exit → Act → World → Prop} (wr : World) (hgd : o.guard = none) (s x : Operand)
    (ho : o.op = .call { callee := .builtin .append, args := #[s, x], argTypes := #[33, 33] })
    (B : Nat) (v : Value) (L : List (List UInt8)) (p : List UInt8) (q : ByteArray) (hq : q = txt p) (hs : a.eval s = v) (hx : a.eval x = .slice (some ⟨wr.heap.size, 0, none⟩) 1 1)
    (hown : OwnS B wr v L) (hl : L.length ≤ 1000000) (hB : B ≤ wr.heap.size)
    (h : ∀ v' w', OwnS B w' v' (L ++ [p]) → Below B wr w' → Only (fun k => v.ownBlock = some k) wr w' → wpList Try.prog ops Q rest (a.put o.dst v') w') : wpList Try.prog ops Q (o :: rest) a (wr.alloc (.cells #[.string q] 9)) := by
  obtain ⟨i, hi, hz, hsz, hy⟩ := info_parts Try.infoS
  subst hq
  refine wpList_append_new wr hgd s x 33 ho B 9 i _ 1 16 Try.underlying33 hi hz hsz hy rfl (by decide) v L.length (strs L) hown [.string (txt p)] _ rfl rfl ?_ hl (by decide) hB hs hx ?_
  · intro u hu
    simp at hu
    subst hu
    rfl
  · intro v' w' h1 h2 _
    refine h v' w' ?_ (h2.below hB (fun k hk => (World.ownsRow.lt hown k hk).1)) h2
    unfold OwnS strs
    rw [List.length_append, List.length_singleton, List.map_append]
    exact h1

theorem RdIs.lt2 {w : World} {b : Nat} {r : Rd} (h : RdIs w b r) : b < w.heap.size := blk.lt h

/-- How far Whole has come. -/
def WSt (l rest : List UInt8) (first : Bool) (done : List (List UInt8)) : Prop :=
  ((first = true ∨ rest ≠ []) → Whole l = (Whole rest).map (done ++ ·)) ∧ (first = false → rest = [] → Whole l = some done)

theorem WSt.start (l : List UInt8) : WSt l l true [] := ⟨fun _ => by cases Whole l <;> simp, fun h => by cases h⟩
theorem WSt.more {l rest : List UInt8} {first : Bool} {done : List (List UInt8)} (h : WSt l rest first done) (hf : first = true ∨ rest ≠ []) (hl : LongF rest = true) (hb : (partF rest).bad = false) :
    WSt l (partF rest).s false (done ++ [rest.take (rest.length - (partF rest).s.length)]) := by
  have h1 := h.1 hf
  refine ⟨fun h2 => ?_, fun _ h2 => ?_⟩
  · have hne : (partF rest).s ≠ [] := by rcases h2 with h2 | h2; cases h2; exact h2
    rw [h1, whole_more rest hl hb hne]
    cases Whole (partF rest).s <;> simp
  · rw [h1, whole_last rest hl hb h2, h2]
    simp
theorem WSt.short {l rest : List UInt8} {first : Bool} {done : List (List UInt8)} (h : WSt l rest first done) (hf : first = true ∨ rest ≠ []) (hl : LongF rest = false) (ho : shortOk rest = true) : Whole l = some (done ++ [rest]) := by
  rw [h.1 hf, whole_short rest hl, if_pos ho]; rfl
theorem WSt.short_no {l rest : List UInt8} {first : Bool} {done : List (List UInt8)} (h : WSt l rest first done) (hf : first = true ∨ rest ≠ []) (hl : LongF rest = false) (ho : shortOk rest = false) : Whole l = none := by
  rw [h.1 hf, whole_short rest hl, if_neg (by rw [ho]; simp)]; rfl
theorem WSt.bad {l rest : List UInt8} {first : Bool} {done : List (List UInt8)} (h : WSt l rest first done) (hf : first = true ∨ rest ≠ []) (hl : LongF rest = true) (hb : (partF rest).bad = true) : Whole l = none := by
  rw [h.1 hf, whole_bad rest hl hb]; rfl

theorem bits_s (x : Nat) (h : x < 256) : ((bits BinOp.and IntKind.u8 (x : Int) 64 == 0) = !decide (x / 64 % 2 = 1)) ∧ ((bits BinOp.and IntKind.u8 (x : Int) 24 != 0) = !decide (x / 8 % 4 = 0)) := by
  have H : ∀ x : Fin 256, ((bits BinOp.and IntKind.u8 (x.val : Int) 64 == 0) = !decide (x.val / 64 % 2 = 1)) ∧ ((bits BinOp.and IntKind.u8 (x.val : Int) 24 != 0) = !decide (x.val / 8 % 4 = 0)) := by decide +kernel
  exact H ⟨x, h⟩

/-- Whole's answer. -/
def WEnd (l : List UInt8) (w : World) (e : Ending) (w' : World) : Prop :=
  Below w.heap.size w w' ∧ ((Whole l = none ∧ e = .returned (.tuple #[.slice none 0 0, .int .i64 2])) ∨ ∃ L v, Whole l = some L ∧ e = .returned (.tuple #[v, .int .i64 0]) ∧ OwnS w.heap.size w' v L)

set_option maxRecDepth 100000 in
set_option maxHeartbeats 4000000 in
theorem Whole_any (l : List UInt8) (w : World) (hlen : l.length ≤ 10000) : Calls Try.prog 13 #[.string (txt l)] w (WEnd l w) := by
  go_enter Try.func13, Try.ntmps13
  go_wp2_with fail
  go_step3
  go_wp2_with fail
  go_step3
  go_wp2_with fail
  go_loopg [4, 5, 6, 7, 8, 9] l.length (fun gk v4 v5 v6 _ _ _ wr => ∃ (rest : List UInt8) (first : Bool) (done : List (List UInt8)), rest.length ≤ gk ∧ rest.length ≤ 10000 ∧ done.length + rest.length ≤ 10000 ∧ v5 = .string (txt rest) ∧ v6 = .bool first ∧ WSt l rest first done ∧ OwnS w.heap.size wr v4 done ∧ Below w.heap.size w wr)
  case atStart => exact ⟨l, true, [], Nat.le_refl _, hlen, by simpa using hlen, rfl, rfl, WSt.start l, OwnS.nil _ _, Below.refl _ _⟩
  case round =>
    obtain ⟨rest, first, done, hgk, hr1, hr2, rfl, rfl, hst, ho, hb⟩ := hrel
    have HST := Lib.hid hst
    have HOW := Lib.hid ho
    have HBW := Lib.hid hb
    clear hst ho hb
    by_cases hem : rest = []
    · subst hem
      have e0 : txt [] = ⟨#[]⟩ := rfl
      have hL0 := fun w => Long_any [] w
      rw [e0] at hL0
      rw [e0]
      have eL : LongF [] = false := rfl
      rw [eL] at hL0
      cases first
      · go_wp2_with fail
        try rw [Exit.noGoto_ret]
        go_ret2
        exact ⟨HBW.out, .inr ⟨done, _, HST.out.2 rfl rfl, rfl, HOW.out⟩⟩
      · have hn := HST.out.short_no (.inl rfl) rfl rfl
        have HN := Lib.hid hn
        clear hn
        go_wp2_with fail
        refine (hL0 _).mono ?_
        rintro e w1 ⟨rfl, rfl⟩
        go_wp2_with fail
        try rw [Exit.noGoto_ret]
        go_ret2
        exact ⟨HBW.out, .inl ⟨HN.out, rfl⟩⟩
    · have HF := Lib.hid (show first = true ∨ rest ≠ [] from .inr hem)
      have h0 : 0 < (txt rest).size := by rw [txt_size]; exact List.length_pos_iff.2 hem
      have hne := not_empty _ h0
      have hbe : (txt rest).toList.isEmpty = false := by simpa using hne
      obtain ⟨Y, hY⟩ : ∃ Y, (txt rest)[0].toNat = Y := ⟨_, rfl⟩
      have hY8 : Y < 256 := by rw [← hY]; exact UInt8.toNat_lt _
      have hsh : shortOk rest = (decide (Y / 64 % 2 = 1) && decide (Y / 8 % 4 = 0)) := by
        cases rest with
        | nil => exact absurd rfl hem
        | cons y a => rw [← hY]; rfl
      obtain ⟨k1, k2⟩ := bits_s Y hY8
      have hL1 := fun w => Long_any rest w
      have hsz := txt_size rest
      clear hne hem
      cases hl : LongF rest
      · rw [hl] at hL1
        have HL := Lib.hid hl
        have HL1 := Lib.hid hL1
        obtain ⟨p1, hp1⟩ : ∃ p, decide (Y / 64 % 2 = 1) = p := ⟨_, rfl⟩
        obtain ⟨p2, hp2⟩ : ∃ p, decide (Y / 8 % 4 = 0) = p := ⟨_, rfl⟩
        rw [hp1] at k1 hsh
        rw [hp2] at k2 hsh
        have HSH := Lib.hid hsh
        clear hl hL1 hp1 hp2 hsh
        have HS0 : Hid (∃ s, txt rest = s) := Lib.hid ⟨_, rfl⟩
        generalize hs : txt rest = s at *
        have HS := Lib.hid hs
        clear hs HS0
        cases p1 <;> cases p2 <;> simp only [Bool.not_false, Bool.not_true, Bool.and_false, Bool.and_true] at k1 k2 HSH
        case true.true =>
          have HN := Lib.hid (HST.out.short HF.out HL.out HSH.out)
          have hsize := HBW.out.size
          have hd2 : done.length ≤ 1000000 := by omega
          cases first
          all_goals
            go_wp2_with fail
            refine (HL1.out _).mono ?_
            rintro e w1 ⟨rfl, rfl⟩
            go_wp2_with (at_builtin; refine appS wr rfl _ _ rfl w.heap.size u4 done rest s HS.out.symm rfl rfl HOW.out hd2 hsize ?_)
            intro v' wn hO hB _
            have HO := Lib.hid hO
            have HB := Lib.hid (HBW.out.trans hB)
            clear hO hB
            go_wp2_with fail
            try rw [Exit.noGoto_ret]
            go_ret2
            exact ⟨HB.out, .inr ⟨_, _, HN.out, rfl, HO.out⟩⟩
        all_goals
          have HN := Lib.hid (HST.out.short_no HF.out HL.out HSH.out)
          cases first
          all_goals
            go_wp2_with fail
            refine (HL1.out _).mono ?_
            rintro e w1 ⟨rfl, rfl⟩
            go_wp2_with fail
            try rw [Exit.noGoto_ret]
            go_ret2
            exact ⟨HBW.out, .inl ⟨HN.out, rfl⟩⟩
      · rw [hl] at hL1
        have HL := Lib.hid hl
        have HL1 := Lib.hid hL1
        clear hl hL1 k1 k2 hsh hY hY8
        have hn0 : 0 ≤ (openF ⟨rest, false⟩).2.1 ∧ (openF ⟨rest, false⟩).2.1 ≤ 16388 := size_bounds _
        have h1 : ∃ (t : Nat) (dst src : List UInt8) (m : Nat), (openF ⟨rest, false⟩).1 = ⟨(t : Int), dst, src, 0, (m : Int), 0, false⟩ := ⟨_, _, _, _, rfl⟩
        obtain ⟨t, dst, src, m, h1⟩ := h1
        have ho := fun w' h => open_any wr.heap.size ⟨rest, false⟩ w' h (by simp only; omega)
        have hk := fun w' h => take_any wr.heap.size (openF ⟨rest, false⟩).2.2 (openF ⟨rest, false⟩).2.1 w' h (.inr hn0.1)
        have hp : ((openF ⟨rest, false⟩).2.2.take (openF ⟨rest, false⟩).2.1).2 = partF rest := rfl
        rw [hp] at hk
        rw [h1] at ho
        unfold Hd.v at ho
        simp only at ho
        generalize (openF ⟨rest, false⟩).2.1 = n at *
        generalize (openF ⟨rest, false⟩).2.2 = r1 at *
        generalize (r1.take n).1 = junk at *
        have HO := Lib.hid ho
        have HK := Lib.hid hk
        clear ho hk h1 hp
        have g0 : RdIs (wr.alloc (.cells #[.string (txt rest), .bool false] 54)) wr.heap.size ⟨rest, false⟩ := blk.new wr _ [.string (txt rest), .bool false]
        have G0 := Lib.hid g0
        have hsize := HBW.out.size
        clear g0
        cases hb : (partF rest).bad
        · have hless := part_less rest hb
          have HM := Lib.hid (HST.out.more HF.out HL.out hb)
          obtain ⟨r2, hr2e⟩ : ∃ r2, (partF rest).s = r2 := ⟨_, rfl⟩
          have hpe : partF rest = ⟨r2, false⟩ := by rw [← hr2e, ← hb]
          rw [hr2e] at HM hless
          rw [hpe] at HK
          obtain ⟨d, hd⟩ : ∃ d, rest.length - r2.length = d := ⟨_, rfl⟩
          have hdi : (rest.length : Int) - (r2.length : Int) = (d : Int) := by omega
          have e1 := txt_take rest d
          rw [hd] at HM
          have hsz2 := txt_size r2
          clear hb hr2e hpe hd
          have hdl : d ≤ rest.length := by omega
          obtain ⟨q, hq⟩ : ∃ q, txt (rest.take d) = q := ⟨_, rfl⟩
          rw [hq] at e1
          have HQ := Lib.hid hq
          clear hq
          have hd2 : done.length ≤ 1000000 := by omega
          generalize hs : txt rest = s at *
          generalize hs2 : txt r2 = s2 at *
          have HS := Lib.hid hs
          have HS2 := Lib.hid hs2
          clear hs hs2
          obtain ⟨LR, hLR⟩ : ∃ x, rest.length = x := ⟨_, rfl⟩
          obtain ⟨LR2, hLR2⟩ : ∃ x, r2.length = x := ⟨_, rfl⟩
          rw [hLR] at hgk hr1 hr2 hsz hless hdi hdl
          rw [hLR2] at hless hdi hsz2
          have HLR2 := Lib.hid hLR2
          clear hLR hLR2
          cases first
          all_goals
            go_wp2_with fail
            refine (HL1.out _).mono ?_
            rintro e w1 ⟨rfl, rfl⟩
            go_wp2_with fail
            refine (HO.out _ G0.out).mono ?_
            rintro e w1 ⟨rfl, g, o⟩
            have O1 := Lib.hid (((Below.refl _ _).alloc (Nat.le_refl _) _).trans (o.below (B := wr.heap.size) (by simp) (fun k hk => by omega)))
            have G1 := Lib.hid g
            clear g o
            go_wp2_with fail
            refine (HK.out _ (blk.alloc G1.out _)).mono ?_
            rintro e w2 ⟨rfl, g, o⟩
            have O2 := Lib.hid ((O1.out.alloc O1.out.size _).trans (o.below (B := wr.heap.size) (by simp; have := O1.out.size; omega) (fun k hk => by omega)))
            have p0 := g.cell (k := 0) rfl
            have p1 := g.cell (k := 1) rfl
            simp only at p0 p1
            rw [HS2.out] at p0
            have HOW2 := Lib.hid (HOW.out.below O2.out)
            have HBW2 := Lib.hid (HBW.out.trans (O2.out.mono hsize))
            have hsize2 := HBW2.out.size
            have hlt2 := RdIs.lt2 g
            have HG2 := Lib.hid g
            clear g o G1 O1
            go_wp2_with (at_builtin; refine appS w2 rfl _ _ rfl w.heap.size u4 done (rest.take d) q HQ.out.symm rfl rfl HOW2.out hd2 hsize2 ?_)
            intro v' wn hO hB hon
            have hnb : ¬ u4.ownBlock = some wr.heap.size := own_ne HOW2.out HG2.out (by decide)
            have p2 := (hon.cell (p := ⟨wr.heap.size, 0, none⟩) hlt2 hnb).trans p0
            have HO9 := Lib.hid hO
            have HB9 := Lib.hid (HBW2.out.trans hB)
            clear hO hB hon hnb p0 p1
            go_wp2_with fail
            go_roundg (LR2)
            case measure => omega
            case rel => exact ⟨r2, false, _, by rw [HLR2.out]; exact Nat.le_refl _, by rw [HLR2.out]; omega, by rw [HLR2.out, List.length_append, List.length_singleton]; omega, by rw [HS2.out], rfl, HM.out, HO9.out, HB9.out⟩
        · have HN := Lib.hid (HST.out.bad HF.out HL.out hb)
          obtain ⟨r2, hr2e⟩ : ∃ r2, (partF rest).s = r2 := ⟨_, rfl⟩
          have hpe : partF rest = ⟨r2, true⟩ := by rw [← hr2e, ← hb]
          rw [hpe] at HK
          clear hb hr2e hpe
          generalize hs : txt rest = s at *
          have HS := Lib.hid hs
          clear hs
          cases first
          all_goals
            go_wp2_with fail
            refine (HL1.out _).mono ?_
            rintro e w1 ⟨rfl, rfl⟩
            go_wp2_with fail
            refine (HO.out _ G0.out).mono ?_
            rintro e w1 ⟨rfl, g, o⟩
            have O1 := Lib.hid (((Below.refl _ _).alloc (Nat.le_refl _) _).trans (o.below (B := wr.heap.size) (by simp) (fun k hk => by omega)))
            have G1 := Lib.hid g
            clear g o
            go_wp2_with fail
            refine (HK.out _ (blk.alloc G1.out _)).mono ?_
            rintro e w2 ⟨rfl, g, o⟩
            have O2 := Lib.hid ((O1.out.alloc O1.out.size _).trans (o.below (B := wr.heap.size) (by simp; have := O1.out.size; omega) (fun k hk => by omega)))
            have p1 := g.cell (k := 1) rfl
            simp only at p1
            have HBW2 := Lib.hid (HBW.out.trans (O2.out.mono hsize))
            clear g o G1 O1
            go_wp2_with fail
            try rw [Exit.noGoto_ret]
            go_ret2
            exact ⟨HBW2.out, .inl ⟨HN.out, rfl⟩⟩

end Go.Proofs.Ytngnfijpfghodaa
