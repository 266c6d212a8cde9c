/- space: SpaceAcks: counts; a map whose entries are counted; what stands. -/
import Derived.Test.YtmnmpmiocgfalaaSy
import Derived.Maps.OwnSet
namespace Go.Proofs.Ytmnmpmiocgfalaa
open Go.ChangeShapes Go.WideShapes Go.RowKit Go.Maps
set_option linter.unusedVariables false
set_option linter.unusedSimpArgs false

/-- How many of the numbers below T there are. -/
def cnt (P : Nat → Bool) : Nat → Nat
  | 0 => 0
  | k + 1 => cnt P k + if P k then 1 else 0
theorem cnt_le (P : Nat → Bool) : ∀ T, cnt P T ≤ T
  | 0 => Nat.le_refl _
  | k + 1 => by
    have := cnt_le P k
    unfold cnt
    split <;> omega
theorem cnt_or (P Q R : Nat → Bool) (h : ∀ n, R n = (P n || Q n)) (hd : ∀ n, P n = true → Q n = false) : ∀ T, cnt R T = cnt P T + cnt Q T
  | 0 => rfl
  | k + 1 => by
    have ih := cnt_or P Q R h hd k
    have h1 := h k
    have h2 := hd k
    unfold cnt
    rw [ih, h1]
    cases hp : P k <;> cases hq : Q k <;> simp_all <;> omega
theorem cnt_span (a b : Nat) : ∀ T, cnt (fun n => decide (a ≤ n ∧ n ≤ b)) T = min T (b + 1) - a
  | 0 => by simp [cnt]
  | k + 1 => by
    have ih := cnt_span a b k
    unfold cnt
    rw [ih]
    by_cases h : a ≤ k ∧ k ≤ b
    · rw [if_pos (decide_eq_true h)]
      omega
    · rw [if_neg (by simpa using h)]
      omega
theorem cnt_none : ∀ T, cnt (fun _ => false) T = 0
  | 0 => rfl
  | k + 1 => by unfold cnt; simp [cnt_none k]
/-- Is a number there? -/
def hasB (L : List Rg) (n : Nat) : Bool := L.any fun r => decide (r.1 ≤ n ∧ n ≤ r.2)
theorem hasB_iff (L : List Rg) (n : Nat) : hasB L n = true ↔ hasR L n := by
  unfold hasB hasR
  simp
theorem count_is : ∀ (L : List Rg) (t T : Nat), OkB t L → (∀ r ∈ L, r.2 < T) → cnt (hasB L) T = countR L
  | [], t, T, _, _ => by
    have : hasB [] = fun _ => false := rfl
    rw [this, cnt_none]
    rfl
  | r :: L, t, T, h, hT => by
    have ih := count_is L r.1 T h.2.2 (fun q hq => hT q (List.mem_cons_of_mem _ hq))
    have hr := hT r (List.mem_cons_self ..)
    have h1 := h.1
    have e : countR (r :: L) = (r.2 - r.1 + 1) + countR L := by unfold countR; simp
    rw [cnt_or (fun n => decide (r.1 ≤ n ∧ n ≤ r.2)) (hasB L) (hasB (r :: L)) (fun n => rfl) (fun n hn => by
      have hn := of_decide_eq_true hn
      cases hb : hasB L n with
      | false => rfl
      | true =>
        have := OkB.lt h.2.2 ((hasB_iff _ _).1 hb)
        omega) T, ih, cnt_span, e]
    omega

theorem count_take (L : List Rg) (j : Nat) (r : Rg) (h : L[j]? = some r) : countR (L.take (j + 1)) = countR (L.take j) + (r.2 - r.1 + 1) := by
  have hj : j < L.length := (List.getElem?_eq_some_iff.1 h).1
  have e : L[j] = r := by rw [List.getElem?_eq_getElem hj] at h; exact Option.some.inj h
  rw [List.take_succ_eq_append_getElem hj, e]
  unfold countR
  simp
theorem count_part (L : List Rg) (j : Nat) : countR (L.take j) ≤ countR L := by
  conv => rhs; rw [← List.take_append_drop j L]
  unfold countR
  rw [List.map_append, List.sum_append]
  omega
theorem count_mem {L : List Rg} {r : Rg} (h : r ∈ L) : r.2 - r.1 + 1 ≤ countR L := by
  induction L with
  | nil => cases h
  | cons x l ih =>
    have e : countR (x :: l) = (x.2 - x.1 + 1) + countR l := by simp [countR]
    rw [e]
    rcases List.mem_cons.1 h with rfl | h
    · omega
    · have := ih h; omega

theorem count_add {L : List Rg} (h : OkR L) (hn : L.length ≤ 200) (x : Nat) (hE : addE L x x = 0) (hc : coversR L x x = false) : countR (addR L x x) = countR L + 1 := by
  have hx : x ≤ 4611686018427387903 := by
    unfold addE at hE
    split at hE
    · cases hE
    · omega
  have hok := (addR_ok h hn x x).1
  have h1 := count_is (addR L x x) _ 4611686018427387905 hok (fun r hr => by have := OkB.below hok r hr; omega)
  have h2 := count_is L _ 4611686018427387905 h (fun r hr => by have := OkB.below h r hr; omega)
  have h3 := cnt_or (fun n => decide (x ≤ n ∧ n ≤ x)) (hasB L) (hasB (addR L x x)) (fun n => by
    rw [Bool.eq_iff_iff, Bool.or_eq_true, hasB_iff, hasB_iff, ← has_iff hok, covers_add h hn x hE, decide_eq_true_eq]
    by_cases e : n = x
    · rw [if_pos e]; simp [e]
    · rw [if_neg e, has_iff h]
      constructor
      · exact .inr
      · rintro (h4 | h4)
        · omega
        · exact h4) (fun n hn2 => by
    rw [decide_eq_true_eq] at hn2
    have : n = x := by omega
    subst this
    rw [Bool.eq_false_iff]
    intro e
    rw [(has_iff h n).2 ((hasB_iff L n).1 e)] at hc
    cases hc) 4611686018427387905
  rw [cnt_span, h1, h2] at h3
  omega

/-- Block b is a map of m entries, all true; of number x it holds M x. -/
def CMap (w : World) (b m : Nat) (M : Nat → Bool) : Prop :=
  ∃ D : DataW Unit, w.ownsMap Try.prog 25 (plainElem Try.prog 4) b m D ∧ Maps.size D = m ∧ ∀ x : Nat, x < 2 ^ 64 → D.atKey (.int .u64 (x : Int)) (.lit (.bool false)) = .lit (.bool (M x)) ∧ Maps.has D (.int .u64 (x : Int)) = M x
theorem CMap.made (w : World) : CMap (w.alloc (.map #[] 0)) w.heap.size 0 (fun _ => false) := ⟨_, World.ownsMap_made _ _ _ _, rfl, fun x _ => ⟨rfl, rfl⟩⟩
theorem CMap.bmap {w : World} {b m : Nat} {M : Nat → Bool} (h : CMap w b m M) : BMap w b m M := by
  obtain ⟨D, h1, h2, h3⟩ := h
  exact ⟨D, h1, fun x hx => (h3 x hx).1⟩
theorem CMap.same {w w' : World} {b m : Nat} {M : Nat → Bool} (h : CMap w b m M) (hb : w'.heap[b]? = w.heap[b]?) : CMap w' b m M := by
  obtain ⟨D, ⟨es, clock, h1, h2⟩, h3⟩ := h
  exact ⟨D, ⟨es, clock, by rw [hb]; exact h1, h2⟩, h3⟩
theorem CMap.lt {w : World} {b m : Nat} {M : Nat → Bool} (h : CMap w b m M) : b < w.heap.size := h.bmap.lt
theorem CMap.below {w w' : World} {b m : Nat} {M : Nat → Bool} (h : CMap w b m M) (hb : Below w.heap.size w w') : CMap w' b m M := h.same (hb.block b h.lt)
theorem CMap.only {S : Nat → Prop} {w w' : World} {b m : Nat} {M : Nat → Bool} (h : CMap w b m M) (ho : Only S w w') (hs : ¬ S b) : CMap w' b m M := h.same (ho.block b h.lt hs)
theorem CMap.len {w : World} {b m : Nat} {M : Nat → Bool} (h : CMap w b m M) (ty : TypeId) : (Builtin.len_ #[35] ty #[.map (some b)]).run Try.prog w = .ok (.int .i64 (m : Int)) w := by
  obtain ⟨D, h1, h2, h3⟩ := h
  have := h1.len Try.underlying35 ty
  rw [h2] at this
  exact this
set_option maxRecDepth 100000 in
theorem CMap.put {w : World} {b m : Nat} {M : Nat → Bool} (h : CMap w b m M) {x : Nat} (hx : x < 2 ^ 64) (hn : m < 1000000) (hM : M x = false) :
    ∃ w', (Instr.mapUpdate 35 (.map (some b)) (.int .u64 (x : Int)) (.bool true)).run Try.prog w = .ok () w' ∧ CMap w' b (m + 1) (fun y => if y = x then true else M y) ∧ Only (fun k => k = b) w w' := by
  obtain ⟨D, h1, h2, h3⟩ := h
  obtain ⟨w', hrun, h4, h5⟩ := h1.update Try.lawU Try.underlying35 (by unfold maxLen; omega) (keyOf_int_mk Try.underlying25 (u64_wf hx)) (plainElem_bool Try.underlying4 true)
  refine ⟨w', hrun, ⟨_, h4, ?_, fun y hy => ?_⟩, (Only.refl _ _).grown h5 (fun k hk => .inl (by injection hk with hk; exact hk.symm))⟩
  · rw [size_put (h1.tidy Try.lawU), (h3 x hx).2, hM, h2]
    rfl
  · show _ = DataW.lit (Lit.bool (if y = x then true else M y)) ∧ _ = (if y = x then true else M y)
    by_cases hxy : y = x
    · subst hxy
      rw [if_pos rfl]
      exact ⟨atKey_put_same (k := .int .u64 (y : Int)) h1.isMap trivial _ _, has_put_same (k := .int .u64 (y : Int)) h1.isMap trivial _⟩
    · have hne : (Lit.int .u64 (y : Int)) ≠ .int .u64 (x : Int) := by
        intro e
        injection e with _ e
        omega
      rw [if_neg hxy, atKey_put_other hne, has_put_other hne]
      exact h3 y hy

/-- A space, an act in its box, a map of what came, counted. -/
structure AckS (w : World) (b mb X m : Nat) (a : Act1) (v u : Value) (s : Sp) (M : Nat → Bool) (y : World) : Prop where
  sp : SpIs b b v u s y
  map : CMap y mb m M
  cov : ∀ x, x < 2 ^ 64 → M x = coversR s.R x x
  cnt : m = countR s.R
  box : blk y X 38 a.vals
  bel : Below w.heap.size w y
  la : w.heap.size ≤ b ∧ w.heap.size ≤ mb
section
variable {w y z : World} {b mb X m : Nat} {a : Act1} {v u v' u' : Value} {s s' : Sp} {M : Nat → Bool}
theorem AckS.next (h : AckS w b mb X m a v u s M y) (hb : Below y.heap.size y z) : AckS w b mb X m a v u s M z :=
  ⟨h.sp.next hb, h.map.below hb, h.cov, h.cnt, h.box.below hb h.box.lt, h.bel.trans (hb.mono h.bel.size), h.la⟩
theorem AckS.off (h : AckS w b mb X m a v u s M y) : ¬ (mb = b ∨ v.ownBlock = some mb ∨ u.ownBlock = some mb) := by
  rintro (e | e | e)
  · exact h.map.bmap.ne_blk h.sp.led.led e.symm
  · exact h.map.bmap.ne_own h.sp.led.own e
  · exact h.map.bmap.ne_own h.sp.set e
theorem AckS.offX (h : AckS w b mb X m a v u s M y) : ¬ (X = b ∨ v.ownBlock = some X ∨ u.ownBlock = some X) := by
  rintro (e | e | e)
  · exact blk_ne h.sp.led.led h.box (by decide) e
  · exact own_ne h.sp.led.own h.box (by decide) e
  · exact own_ne h.sp.set h.box (by decide) e
theorem AckS.to (h : AckS w b mb X m a v u s M y) (ht : SpTo b b v u y s' v' u' z) (hR : s'.R = s.R) : AckS w b mb X m a v' u' s' M z :=
  ⟨ht.is, h.map.only ht.on h.off, by rw [hR]; exact h.cov, by rw [hR]; exact h.cnt, h.box.only ht.on h.offX, h.bel.trans ((ht.below h.sp).mono h.la.1), h.la⟩
theorem AckS.got (h : AckS w b mb X m a v u s M y) (hc : a.came w) (hfit : ∀ f ∈ a.fs, f.fit) (hl : a.fs.length ≤ 10) (hn : m < 1000000) :
    Calls Try.prog 11 #[.pointer (some ⟨b, 0, none⟩), .int .u64 (a.num : Int), .int .u64 (a.now : Int), .slice a.fp a.fs.length a.fcap] y fun e z =>
      ∃ err : Int, e = .returned (.int .i64 err) ∧ ((err ≠ 0 ∧ ∃ u' s', AckS w b mb X m a v u' s' M z) ∨ (err = 0 ∧ blk z X 38 a.vals ∧ ∃ z' u' s' M', (Instr.mapUpdate 35 (.map (some mb)) (.int .u64 (a.num : Int)) (.bool true)).run Try.prog z = .ok () z' ∧ AckS w b mb X (m + 1) a v u' s' M' z')) := by
  refine (Got_sp b b v u s y a.num a.now a.fp a.fcap a.fs h.sp (hc.frs.below h.bel) (came_off (B := 0) h.sp h.la.1 hc.old) hfit (by omega) hc.n1 hc.n2).mono ?_
  rintro e z ⟨h1, u', h2⟩
  have hbx := h.box.only h2.on h.offX
  have hm := h.map.only h2.on h.off
  have hbel := h.bel.trans ((h2.below h.sp).mono h.la.1)
  unfold gotSp at h1 h2
  cases hC : coversR s.R a.num a.num
  · rw [hC, if_neg (by simp)] at h1 h2
    by_cases hE : addE s.R a.num a.num = 0
    · rw [if_pos hE] at h1 h2
      obtain ⟨z', p1, p2, p3⟩ := hm.put hc.n1 hn (by rw [h.cov _ hc.n1, hC])
      refine ⟨0, h1, .inr ⟨rfl, hbx, z', u', _, _, p1, h2.is.only p3 (fun e => hm.bmap.ne_blk h2.is.led.led e) (fun k hk e => hm.bmap.ne_own h2.is.led.own (by rw [hk, e])) (fun k hk e => hm.bmap.ne_own h2.is.set (by rw [hk, e])), p2, fun k hk => ?_, ?_, hbx.only p3 (fun e => hm.bmap.ne_blk hbx e), hbel.trans (p3.below hbel.size (fun k hk => by rw [hk]; exact h.la.2)), h.la⟩⟩
      · show _ = coversR (addR s.R a.num a.num) k k
        rw [covers_add h.sp.ok h.sp.len _ hE, h.cov k hk]
      · show m + 1 = countR (addR s.R a.num a.num)
        rw [count_add h.sp.ok h.sp.len _ hE hC, ← h.cnt]
    · rw [if_neg hE] at h1 h2
      refine ⟨_, h1, .inl ⟨by omega, u', _, h.to h2 rfl⟩⟩
  · rw [hC, if_pos rfl] at h1 h2
    exact ⟨22, h1, .inl ⟨by decide, u', _, h.to h2 rfl⟩⟩
end

end Go.Proofs.Ytmnmpmiocgfalaa
