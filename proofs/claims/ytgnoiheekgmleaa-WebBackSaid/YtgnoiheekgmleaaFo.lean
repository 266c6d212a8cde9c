/- fields: contract of Reader.Read. -/
import Derived.Test.YtgnoiheekgmleaaFn
namespace Go.Proofs.Ytgnoiheekgmleaa
open Go.ChangeShapes Go.WideShapes Go.RowKit
set_option linter.unusedVariables false
set_option linter.unusedSimpArgs false

/-- A slice of the call's own with these fields. -/
def OwnFl (B : Nat) (w : World) (v : Value) (L : List Fl) : Prop := w.ownsRow B 66 2 v L.length (flc L)

theorem OwnFl.nil (B : Nat) (w : World) : OwnFl B w (.slice none 0 0) [] := World.ownsRow_nil _ _ _ _
theorem OwnFl.below {B : Nat} {w w' : World} {v : Value} {L : List Fl} (h : OwnFl B w v L) (hb : Below w.heap.size w w') : OwnFl B w' v L := own_below h hb
theorem OwnFl.fv {B : Nat} {w : World} {p : Option Addr} {n cap : Nat} {L : List Fl} (h : OwnFl B w (.slice p n cap) L) : FV w p L := by
  intro hl
  obtain ⟨g, cap', hv, hb, hg, hc, _⟩ := own_view h hl
  injection hv with hv1 hv2 hv3
  refine ⟨g, 0, hv1, hg, fun i f hf => ?_⟩
  obtain ⟨h1, h2⟩ := flc_at L i f hf
  rw [Nat.zero_add]
  exact ⟨hc _ _ h1, hc _ _ h2⟩

/-- 'out = append(out, f)'. -/
theorem appFl {ops : Array Oper} {rest : List Oper} {o : Oper} {a : Act} {Q : Exit → Act → World → Prop} (wr : World) (hgd : o.guard = none) (s x : Operand)
    (ho : o.op = .call { callee := .builtin .append, args := #[s, x], argTypes := #[29, 29] })
    (B : Nat) (v : Value) (L : List Fl) (n0 v0 : ByteArray) (hs : a.eval s = v) (hx : a.eval x = .slice (some ⟨wr.heap.size, 0, none⟩) 1 1)
    (hown : OwnFl B wr v L) (hl : L.length ≤ 1000000) (hB : B ≤ wr.heap.size)
    (h : ∀ v' w', OwnFl B w' v' (L ++ [(n0, v0)]) → Below B wr w' → Only (fun k => v.ownBlock = some k) wr w' → wpList Try.prog ops Q rest (a.put o.dst v') w') : wpList Try.prog ops Q (o :: rest) a (wr.alloc (.cells #[.string n0, .string v0] 66)) := by
  obtain ⟨i, hi, hz, hsz, hy⟩ := info_parts Try.infoF
  refine wpList_append_new wr hgd s x 29 ho B 66 i _ 2 32 Try.underlying29 hi hz hsz hy rfl (by decide) v L.length (flc L) hown [.string n0, .string v0] _ rfl rfl ?_ hl (by decide) hB hs hx ?_
  · intro u hu
    simp at hu
    rcases hu with rfl | rfl <;> rfl
  · intro v' w' h1 h2 _
    refine h v' w' ?_ (h2.below hB (fun k hk => (World.ownsRow.lt hown k hk).1)) h2
    unfold OwnFl
    rw [List.length_append, List.length_singleton, flc_append]
    exact h1

/-- The fields of a section, one by one. -/
def readL : Nat → List Fl → Nat → ByteArray → List Fl → List Fl × Int
  | 0, _, _, _, _ => ([], 2)
  | k + 1, l, m, s, out => if s.size = 0 then (out, 0) else if (rOneF l m s).2.2 = false ∨ out.length = 100 then ([], 2) else readL k l m (rOneF l m s).2.1 (out ++ [(rOneF l m s).1])
/-- The fields of a section. -/
def readF (l : List Fl) (s : ByteArray) : List Fl × Int :=
  if (takeF (byt s) 8).2.2 = false then ([], 2) else if l.length < (takeF (byt s) 8).1 then ([], 13)
  else match (takeF (byt s) 8).2.1 with
    | [] => ([], 2)
    | b :: r => if b.toNat = 0 then readL (r.length + 1) l (takeF (byt s) 8).1 (txt r) [] else ([], 2)

theorem take8 (s : ByteArray) (w : World) (hs : s.size ≤ 100000) :
    Calls Try.prog 66 #[.string s, .int .i64 8] w fun e w' => e = .returned (.tuple #[.int .u64 ((takeF (byt s) 8).1 : Int), .string (txt (takeF (byt s) 8).2.1), .bool (takeF (byt s) 8).2.2]) ∧ Below w.heap.size w w' := TakeNumber_any s 8 w hs (by omega)

/-- Read's answer. -/
def REnd (R : List Fl × Int) (w : World) (e : Ending) (w' : World) : Prop := Below w.heap.size w w' ∧ ∃ v, e = .returned (.tuple #[v, .int .i64 R.2]) ∧ OwnFl w.heap.size w' v R.1

theorem REnd.nil {w w' : World} (n : Int) (hb : Below w.heap.size w w') : REnd ([], n) w (.returned (.tuple #[.slice none 0 0, .int .i64 n])) w' := ⟨hb, _, rfl, OwnFl.nil _ _⟩

set_option maxRecDepth 100000 in
set_option maxHeartbeats 4000000 in
theorem Read_any (B b : Nat) (v : Value) (S : Tbl) (s : ByteArray) (w : World) (h : TblIs w B b 89 v S) (hs : s.size ≤ 5000) (hSl : S.l.length ≤ 10000) :
    Calls Try.prog 38 #[.pointer (some ⟨b, 0, none⟩), .string s] w (REnd (readF S.l s) w) := by
  have ht := fun w => take8 s w (by omega)
  obtain ⟨p, cap, rfl, _⟩ := own_shape h.2
  obtain ⟨N, hN⟩ : ∃ N, S.l.length = N := ⟨_, rfl⟩
  have htl := takeF_len (byt s) 8
  rw [byt_length] at htl
  unfold readF
  generalize takeF (byt s) 8 = q at *
  obtain ⟨m, rl, is⟩ := q
  simp only at ht htl ⊢
  rw [hN] at hSl ⊢
  have HK := Lib.hid ht
  have hc0 := h.1.cell (k := 0) rfl
  have hbl := h.1.lt
  have hwN : IntKind.u64.wrap (N : Int) = N := IntWalk.u64_in _ (by omega)
  rw [hN] at hc0
  have HT := Lib.hid h
  have HC := Lib.hid hc0
  have HN := Lib.hid hN
  clear ht h hc0 hN
  cases is
  case false =>
    rw [if_pos rfl]
    go_enter Try.func38, Try.ntmps38
    go_wp2_with fail
    refine (HK.out _).mono ?_
    rintro e w1 ⟨rfl, b1⟩
    have B1 := Lib.hid b1
    clear b1
    go_wp2_with fail
    go_ret2
    exact REnd.nil 2 B1.out
  case true =>
    rw [if_neg (by simp)]
    by_cases hm : N < m
    case pos =>
      rw [if_pos hm]
      have hd : decide ((N : Int) < (m : Int)) = true := by rw [decide_eq_true_iff]; omega
      have hdN : decide (N < m) = true := decide_eq_true hm
      clear hm
      go_enter Try.func38, Try.ntmps38
      go_wp2_with fail
      refine (HK.out _).mono ?_
      rintro e w1 ⟨rfl, b1⟩
      have k0 := (b1.cell (p := ⟨b, 0, none⟩) hbl).trans HC.out
      have B1 := Lib.hid b1
      clear b1
      go_wp2_with fail
      go_ret2
      exact REnd.nil 13 B1.out
    case neg =>
      rw [if_neg hm]
      have hd : decide ((N : Int) < (m : Int)) = false := by rw [decide_eq_false_iff_not]; omega
      have hdN : decide (N < m) = false := decide_eq_false hm
      have hmN : m ≤ N := by omega
      clear hm
      cases rl with
      | nil =>
        simp only
        have e0 : txt [] = ⟨#[]⟩ := rfl
        rw [e0] at HK
        go_enter Try.func38, Try.ntmps38
        go_wp2_with fail
        refine (HK.out _).mono ?_
        rintro e w1 ⟨rfl, b1⟩
        have k0 := (b1.cell (p := ⟨b, 0, none⟩) hbl).trans HC.out
        have B1 := Lib.hid b1
        clear b1
        go_wp2_with fail
        go_ret2
        exact REnd.nil 2 B1.out
      | cons c r =>
        simp only
        have hrz : (txt (c :: r)).size = r.length + 1 := txt_size (c :: r)
        have hr0 : 0 < (txt (c :: r)).size := by omega
        have hhd := head_at (txt (c :: r)) hr0
        rw [byt_txt] at hhd
        have hne := ne_size (txt (c :: r))
        rw [decide_eq_true hr0] at hne
        have hne2 : (txt (c :: r)).toList.isEmpty = false := hne
        have hx8 : c.toNat < 256 := UInt8.toNat_lt _
        have hdr := ext_drop (c :: r) 1 (c :: r).length rfl
        rw [List.drop_succ_cons, List.drop_zero] at hdr
        have hhd2 : (txt (c :: r))[0].toNat = c.toNat := hhd
        rw [List.length_cons] at htl hdr
        obtain ⟨RL, hRL⟩ : ∃ n, r.length = n := ⟨_, rfl⟩
        rw [hRL] at htl hdr hrz ⊢
        have hrsz := txt_size r
        rw [hRL] at hrsz
        generalize txt (c :: r) = rs at *
        generalize txt r = rt at *
        generalize c.toNat = x at *
        clear hne hhd
        have hS1 : (1 : Int) ≤ (rs.size : Int) := by omega
        by_cases hx : x = 0
        case neg =>
          rw [if_neg hx]
          have hd2 : ((x : Int) != 0) = true := by simpa using hx
          have hd3 : ((x : Int) == 0) = false := by simpa using hx
          clear hx
          go_enter Try.func38, Try.ntmps38
          go_wp2_with fail
          refine (HK.out _).mono ?_
          rintro e w1 ⟨rfl, b1⟩
          have k0 := (b1.cell (p := ⟨b, 0, none⟩) hbl).trans HC.out
          have B1 := Lib.hid b1
          clear b1
          go_wp2_with fail
          go_ret2
          exact REnd.nil 2 B1.out
        case pos =>
          subst hx
          rw [if_pos rfl]
          obtain ⟨R, hR⟩ : ∃ R, readL (RL + 1) S.l m rt [] = R := ⟨_, rfl⟩
          rw [hR]
          have HR := Lib.hid hR
          have hmw : IntKind.i64.wrap (m : Int) = m := IntWalk.i64_in _ (by omega)
          have hrtz : rt.size ≤ 5000 := by omega
          clear hR
          go_enter Try.func38, Try.ntmps38
          go_wp2_with fail
          refine (HK.out _).mono ?_
          rintro e w1 ⟨rfl, b1⟩
          have k0 := (b1.cell (p := ⟨b, 0, none⟩) hbl).trans HC.out
          have B1 := Lib.hid b1
          clear b1
          go_wp2_with fail
          go_loopw [7, 9, 10, 11, 12] (fun sv lv _ _ _ wr => ∃ (s' : ByteArray) (out : List Fl) (k : Nat), sv = .string s' ∧ s'.size < k ∧ s'.size ≤ 5000 ∧ readL k S.l m s' out = R ∧ OwnFl w.heap.size wr lv out ∧ out.length ≤ 100 ∧ Below w.heap.size w wr) (fun sv _ _ _ _ _ => strLen sv)
          case atStart => exact ⟨rt, [], RL + 1, rfl, by omega, hrtz, HR.out, OwnFl.nil _ _, by simp, B1.out⟩
          case round =>
            obtain ⟨s', out, k, rfl, hk, hs', hRk, hO, ho, hbw⟩ := hrel
            obtain ⟨k, rfl⟩ : ∃ k', k = k' + 1 := ⟨k - 1, by omega⟩
            unfold readL at hRk
            obtain ⟨p2, cap2, rfl, _⟩ := own_shape hO
            by_cases hz : s'.size = 0
            · rw [if_pos hz] at hRk
              have hs0 := ba_nil hz
              subst hs0
              have HE : Hid (REnd R w (.returned (.tuple #[.slice p2 out.length cap2, .int .i64 0])) wr) := Lib.hid (by rw [← hRk]; exact ⟨hbw, _, rfl, hO⟩)
              clear hRk hO hbw hk hs' hz
              go_wp2_with fail
              go_ret2
              exact HE.out
            · rw [if_neg hz] at hRk
              have h0 : 0 < s'.size := by omega
              have hne := ne_size s'
              rw [decide_eq_true h0] at hne
              have hne2 : s'.toList.isEmpty = false := hne
              have hone := rOne_any B b (.slice p S.l.length cap) S s' m wr (HT.out.below hbw) hs' h0 (by rw [HN.out]; exact hmN) (by rw [HN.out]; exact hSl)
              have hlen := rOneF_len S.l m s'
              have hrest : (rOneF S.l m s').2.2 = true → (rOneF S.l m s').2.1.size < s'.size := hlen
              generalize rOneF S.l m s' = q at *
              obtain ⟨⟨n0, v0⟩, r2, is⟩ := q
              unfold Fl.v at hone
              simp only at hone hrest hRk
              have HONE := Lib.hid hone
              have HO := Lib.hid hO
              have HBW := Lib.hid hbw
              have hsz := hbw.size
              clear hone hlen hne hO
              cases is
              case false =>
                rw [if_pos (.inl rfl)] at hRk
                have HE : Hid (∀ w', Below w.heap.size w w' → REnd R w (.returned (.tuple #[.slice none 0 0, .int .i64 2])) w') := Lib.hid (fun w' hb => by rw [← hRk]; exact REnd.nil 2 hb)
                clear hRk hbw hrest
                go_wp2_with fail
                refine HONE.out.mono ?_
                rintro e w2 ⟨rfl, b2⟩
                have hbb : Below w2.heap.size w2 (w2.alloc (.cells #[.string n0, .string v0] 66)) := (Below.refl _ _).alloc (Nat.le_refl _) _
                have B2 := Lib.hid (HBW.out.trans (b2.mono hsz))
                have B3 := Lib.hid (B2.out.trans (hbb.mono B2.out.size))
                clear b2 hbb
                go_wp2_with fail
                go_ret2
                exact HE.out _ B3.out
              case true =>
                have hlt := hrest rfl
                by_cases h100 : out.length = 100
                · rw [if_pos (.inr h100)] at hRk
                  have HE : Hid (∀ w', Below w.heap.size w w' → REnd R w (.returned (.tuple #[.slice none 0 0, .int .i64 2])) w') := Lib.hid (fun w' hb => by rw [← hRk]; exact REnd.nil 2 hb)
                  rw [h100]
                  clear hRk hbw hrest h100
                  go_wp2_with fail
                  refine HONE.out.mono ?_
                  rintro e w2 ⟨rfl, b2⟩
                  have hbb : Below w2.heap.size w2 (w2.alloc (.cells #[.string n0, .string v0] 66)) := (Below.refl _ _).alloc (Nat.le_refl _) _
                  have B2 := Lib.hid (HBW.out.trans (b2.mono hsz))
                  have B3 := Lib.hid (B2.out.trans (hbb.mono B2.out.size))
                  clear b2 hbb
                  go_wp2_with fail
                  go_ret2
                  exact HE.out _ B3.out
                · rw [if_neg (by simp; exact h100)] at hRk
                  obtain ⟨n, hn⟩ : ∃ n, out.length = n := ⟨_, rfl⟩
                  have hnn : ((n : Int) == 100) = false := by rw [beq_eq_false_iff_ne]; omega
                  have hol : out.length < 100 := by omega
                  have hO2 := HO.out
                  rw [hn] at hO2 ⊢
                  have HO := Lib.hid hO2
                  have HRK := Lib.hid hRk
                  have HN3 := Lib.hid hn
                  clear hRk hbw hrest h100 ho hn hO2
                  go_wp2_with fail
                  refine HONE.out.mono ?_
                  rintro e w2 ⟨rfl, b2⟩
                  have hbb : Below w2.heap.size w2 (w2.alloc (.cells #[.string n0, .string v0] 66)) := (Below.refl _ _).alloc (Nat.le_refl _) _
                  have hbx := blk.new w2 66 [.string n0, .string v0]
                  have c0 := hbx.cell (k := 0) rfl
                  have c1 := hbx.cell (k := 1) rfl
                  have B2 := Lib.hid (HBW.out.trans (b2.mono hsz))
                  have B3 := Lib.hid (B2.out.trans (hbb.mono B2.out.size))
                  have O3 := Lib.hid ((HO.out.below b2).below hbb)
                  have hc0 : (w2.alloc (.cells #[.string n0, .string v0] 66)).cell? ⟨w2.heap.size, 0, none⟩ = some (.string n0) := c0
                  have hc1 : (w2.alloc (.cells #[.string n0, .string v0] 66)).cell? ⟨w2.heap.size, 1, none⟩ = some (.string v0) := c1
                  clear b2 hbb hbx c0 c1
                  go_wp2_with (at_builtin; refine appFl (w2.alloc (.cells #[.string n0, .string v0] 66)) rfl (.tmp 60) (.tmp 62) rfl w.heap.size (.slice p2 n cap2) out n0 v0 rfl (by simp [Act.eval]) O3.out (by omega) B3.out.size ?_)
                  intro v4 w4 ho4 hb4 _
                  have B4 := Lib.hid (B3.out.trans hb4)
                  have O4 := Lib.hid ho4
                  clear ho4 hb4
                  go_wp2_with fail
                  go_roundw
                  case rel => exact ⟨r2, out ++ [(n0, v0)], k, rfl, by omega, by omega, HRK.out, O4.out, by simp; omega, B4.out⟩
                  case measure => simp [strLen]; omega

end Go.Proofs.Ytgnoiheekgmleaa
