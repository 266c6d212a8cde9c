/- Bricks: slices of uint16 and of int that a call makes; the contract of the reference's codes. -/
import Derived.Test.YtkggjcfiomddeaaKh
namespace Go.Proofs.Ytkggjcfiomddeaa
open Go.ChangeShapes Go.WideShapes Go.RowKit
set_option linter.unusedVariables false

def kv (k : IntKind) (x : Nat) : Value := .int k (x : Int)

/-- From block B on: a slice of the call's own with these numbers. -/
def OwnN (t : TypeId) (k : IntKind) (B : Nat) (w : World) (v : Value) (l : List Nat) : Prop := w.ownsRow B t 1 v l.length (l.map (kv k))

theorem OwnN.below {t : TypeId} {k : IntKind} {B : Nat} {w w' : World} {v : Value} {l : List Nat} (h : OwnN t k B w v l) (hb : Below w.heap.size w w') : OwnN t k B w' v l := by
  obtain ⟨h1, h2⟩ := h
  refine ⟨h1, ?_⟩
  rcases h2 with h2 | ⟨g, cap, cur, a, b, c, d⟩
  · exact .inl h2
  · refine .inr ⟨g, cap, cur, a, b, ?_, d⟩
    have : g < w.heap.size := by
      rcases Nat.lt_or_ge g w.heap.size with h1 | h1
      · exact h1
      · rw [Array.getElem?_eq_none h1] at c
        simp at c
    rw [hb.block g this]
    exact c

theorem OwnN.nilAlloc (t : TypeId) (k : IntKind) (B : Nat) (w : World) (hB : B ≤ w.heap.size) : OwnN t k B (w.alloc (.cells #[] t)) (.slice (some ⟨w.heap.size, 0, none⟩) 0 0) [] := by
  refine ⟨rfl, .inr ⟨w.heap.size, 0, #[], rfl, hB, ?_, Nat.le_refl _, by unfold maxLen; omega, rfl, rfl⟩⟩
  show (w.heap.push _)[w.heap.size]? = _
  simp

theorem OwnN.shape {t : TypeId} {k : IntKind} {B : Nat} {w : World} {v : Value} {l : List Nat} (h : OwnN t k B w v l) (hl : 0 < l.length) :
    ∃ g cap, v = .slice (some ⟨g, 0, none⟩) l.length cap ∧ B ≤ g ∧ g < w.heap.size ∧ ∀ j (hj : j < l.length), w.cell? ⟨g, j, none⟩ = some (.int k (l[j] : Int)) := by
  obtain ⟨h1, h2⟩ := h
  rcases h2 with ⟨_, h2⟩ | ⟨g, cap, cur, a, b, c, hn, hm, hs, ht⟩
  · omega
  · refine ⟨g, cap, a, b, ?_, ?_⟩
    · rcases Nat.lt_or_ge g w.heap.size with h1 | h1
      · exact h1
      · rw [Array.getElem?_eq_none h1] at c
        simp at c
    · intro j hj
      unfold World.cell?
      rw [c]
      simp only [Option.isSome_none, Bool.false_eq_true, if_false]
      have := congrArg (fun x => x[j]?) ht
      simp only [Nat.mul_one, List.getElem?_map, List.getElem?_eq_getElem hj, Option.map_some] at this
      rw [List.getElem?_take, if_pos hj, Array.getElem?_toList] at this
      exact this

theorem Try.info16 : (Try.prog.info? 89).map (fun i => (i.zero, i.size, i.bytes)) = some (some (.int .u16 0), 1, 2) := by kernel_rfl

theorem app16 {ops : Array Oper} {rest : List Oper} {o : Oper} {a : Act} {Q : Exit → Act → World → Prop} (wr : World) (hgd : o.guard = none) (s x : Operand)
    (ho : o.op = .call { callee := .builtin .append, args := #[s, x], argTypes := #[85, 85] })
    (B : Nat) (v : Value) (l : List Nat) (X : Int) (y : Nat) (hX : X = (y : Int)) (hs : a.eval s = v) (hx : a.eval x = .slice (some ⟨wr.heap.size, 0, none⟩) 1 1)
    (hown : OwnN 89 .u16 B wr v l) (hl : l.length ≤ 1000000) (hB : B ≤ wr.heap.size)
    (h : ∀ v' w', OwnN 89 .u16 B w' v' (l ++ [y]) → Below B wr w' → wpList Try.prog ops Q rest (a.put o.dst v') w') : wpList Try.prog ops Q (o :: rest) a (wr.alloc (.cells #[.int .u16 X] 89)) := by
  obtain ⟨i, hi, hz, hsz, hy⟩ := info_parts Try.info16
  subst hX
  refine wpList_append_own _ hgd s x 85 ho B 89 i (.int .u16 0) 1 2 Try.underlying85 hi hz hsz hy rfl (by decide) v l.length (l.map (kv .u16)) hs (World.ownsRow.alloc hown _) ⟨wr.heap.size, 0, none⟩ 1 1 [kv .u16 y] hx rfl ?_ ?_ ?_ ?_ ?_ ?_
  · intro j u hj
    match j, hj with
    | 0, hj =>
      simp at hj
      subst hj
      have e : (⟨wr.heap.size, 0, none⟩ : Addr).add 0 = ⟨wr.heap.size, 0, none⟩ := by simp [Addr.add]
      rw [e, World.cell?_alloc_at _ _ _ _ rfl]
      rfl
  · intro u hu
    simp at hu
    subst hu
    rfl
  · unfold maxLen; omega
  · omega
  · simp; omega
  · intro v' w' h1 h2 _
    refine h v' w' ?_ ?_
    · unfold OwnN
      rw [List.length_append, List.length_singleton, List.map_append]
      exact h1
    · have h3 : Below B wr (wr.alloc (.cells #[.int .u16 (y : Int)] 89)) := (Below.refl _ _).alloc hB _
      refine h3.grown h2 (by simp; omega) ?_
      intro k hk
      exact (World.ownsRow.lt hown k hk).1

theorem Try.infoI : (Try.prog.info? 3).map (fun i => (i.zero, i.size, i.bytes)) = some (some (.int .i64 0), 1, 8) := by kernel_rfl

theorem appI {ops : Array Oper} {rest : List Oper} {o : Oper} {a : Act} {Q : Exit → Act → World → Prop} (wr : World) (hgd : o.guard = none) (s x : Operand)
    (ho : o.op = .call { callee := .builtin .append, args := #[s, x], argTypes := #[87, 87] })
    (B : Nat) (v : Value) (l : List Nat) (X : Int) (y : Nat) (hX : X = (y : Int)) (hs : a.eval s = v) (hx : a.eval x = .slice (some ⟨wr.heap.size, 0, none⟩) 1 1)
    (hown : OwnN 3 .i64 B wr v l) (hl : l.length ≤ 1000000) (hB : B ≤ wr.heap.size)
    (h : ∀ v' w', OwnN 3 .i64 B w' v' (l ++ [y]) → Below B wr w' → wpList Try.prog ops Q rest (a.put o.dst v') w') : wpList Try.prog ops Q (o :: rest) a (wr.alloc (.cells #[.int .i64 X] 3)) := by
  obtain ⟨i, hi, hz, hsz, hy⟩ := info_parts Try.infoI
  subst hX
  refine wpList_append_own _ hgd s x 87 ho B 3 i (.int .i64 0) 1 8 Try.underlying87 hi hz hsz hy rfl (by decide) v l.length (l.map (kv .i64)) hs (World.ownsRow.alloc hown _) ⟨wr.heap.size, 0, none⟩ 1 1 [kv .i64 y] hx rfl ?_ ?_ ?_ ?_ ?_ ?_
  · intro j u hj
    match j, hj with
    | 0, hj =>
      simp at hj
      subst hj
      have e : (⟨wr.heap.size, 0, none⟩ : Addr).add 0 = ⟨wr.heap.size, 0, none⟩ := by simp [Addr.add]
      rw [e, World.cell?_alloc_at _ _ _ _ rfl]
      rfl
  · intro u hu
    simp at hu
    subst hu
    rfl
  · unfold maxLen; omega
  · omega
  · simp; omega
  · intro v' w' h1 h2 _
    refine h v' w' ?_ ?_
    · unfold OwnN
      rw [List.length_append, List.length_singleton, List.map_append]
      exact h1
    · have h3 : Below B wr (wr.alloc (.cells #[.int .i64 (y : Int)] 3)) := (Below.refl _ _).alloc hB _
      refine h3.grown h2 (by simp; omega) ?_
      intro k hk
      exact (World.ownsRow.lt hown k hk).1

theorem Own8.nilAlloc (B : Nat) (w : World) (hB : B ≤ w.heap.size) : Own8 B (w.alloc (.cells #[] 5)) (.slice (some ⟨w.heap.size, 0, none⟩) 0 0) [] := by
  refine ⟨rfl, .inr ⟨w.heap.size, 0, #[], rfl, hB, ?_, Nat.le_refl _, by unfold maxLen; omega, rfl, rfl⟩⟩
  show (w.heap.push _)[w.heap.size]? = _
  simp

/-- Block g holds the codes. -/
def HasCodes (w : World) (g : Nat) : Prop := g < w.heap.size ∧ ∀ j, j < 257 → w.cell? ⟨g, j, none⟩ = some (.int .u16 (hcode j : Nat))

theorem HasCodes.next {w w' : World} {g : Nat} (h : HasCodes w g) (hb : Below w.heap.size w w') : HasCodes w' g :=
  ⟨Nat.lt_of_lt_of_le h.1 hb.size, fun j hj => by rw [hb.cell h.1]; exact h.2 j hj⟩

set_option maxRecDepth 100000 in
theorem codes_any (w : World) :
    Calls Try.prog 52 #[] w fun e w' => ∃ g cap, e = .returned (.slice (some ⟨g, 0, none⟩) 257 cap) ∧ Below w.heap.size w w' ∧ w.heap.size ≤ g ∧ HasCodes w' g := by
  have hC := fun (c : Nat) (hc : c < 257) w => rCode_any c w hc
  have HC := Lib.hid hC
  clear hC
  obtain ⟨B, hB⟩ : ∃ B, w.heap.size = B := ⟨_, rfl⟩
  have HB := Lib.hid hB
  rw [hB]
  clear hB
  go_enter Try.func52, Try.ntmps52
  go_wp2_with fail
  go_loopw [1, 2] (fun v i wr => ∃ j : Nat, j ≤ 257 ∧ i = .int .i64 j ∧ OwnN 89 .u16 B wr v ((List.range j).map hcode) ∧ Below B w wr) (fun _ i _ => 257 - (intOf i).toNat)
  case atStart =>
    refine ⟨0, by omega, rfl, ?_, ?_⟩
    · exact OwnN.nilAlloc _ _ _ _ (by rw [HB.out]; exact Nat.le_refl _)
    · exact (Below.refl _ _).alloc (by rw [HB.out]; exact Nat.le_refl _) _
  case round =>
    obtain ⟨j, hj, rfl, hO, hb⟩ := hrel
    have HO := Lib.hid hO
    have Hb := Lib.hid hb
    clear hO hb
    by_cases hlt : j < 257
    · have hwB : B ≤ wr.heap.size := by have := Hb.out.size; rw [HB.out] at this; exact this
      obtain ⟨y, hy⟩ : ∃ y, hcode j = y := ⟨_, rfl⟩
      have hC := fun w => HC.out j hlt w
      rw [hy] at hC
      have HCj := Lib.hid hC
      have Hy := Lib.hid hy
      have hll : ((List.range j).map hcode).length ≤ 1000000 := by simp; omega
      clear hC hy
      go_wp2_with fail
      refine (HCj.out _).mono ?_
      rintro e w' ⟨rfl, rfl⟩
      go_wp2_with (at_builtin; refine app16 wr rfl _ _ rfl B u1 _ _ y rfl rfl rfl HO.out hll hwB ?_)
      intro v' wn hOn hbn
      have HOn := Lib.hid hOn
      have Hbn := Lib.hid (Hb.out.trans hbn)
      clear hOn hbn
      go_wp2_with fail
      go_roundw
      case rel => exact ⟨j + 1, by omega, by go_num, by rw [List.range_succ, List.map_append, List.map_singleton, Hy.out]; exact HOn.out, Hbn.out⟩
      case measure => simp [intOf]; omega
    · obtain rfl : j = 257 := by omega
      obtain ⟨g, cap, hv, hg, hgs, hcell⟩ := HO.out.shape (by simp)
      have hv : u1 = .slice (some ⟨g, 0, none⟩) 257 cap := by rw [hv]; simp
      have Hcell := Lib.hid hcell
      clear hcell
      subst hv
      go_wp2_with fail
      go_ret
      refine ⟨g, cap, rfl, Hb.out, hg, hgs, ?_⟩
      intro j hj
      have := Hcell.out j (by simp; omega)
      simpa using this

end Go.Proofs.Ytkggjcfiomddeaa
