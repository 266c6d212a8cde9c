/- loss: the ledger in plain words; contract of late. -/
import Derived.Test.YtaoeamkkbopioaaRows
import Derived.Test.YtaoeamkkbopioaaMa
namespace Go.Proofs.Ytaoeamkkbopioaa
open Go.ChangeShapes Go.WideShapes Go.RowKit
set_option linter.unusedVariables false

/-- A packet. -/
structure Pk where
  num : Nat
  time : Nat
  size : Nat
  asks : Bool
  fa : Option Addr
  fl : Nat
  fc : Nat

def Pk.vals (p : Pk) : List Value := [.int .u64 (p.num : Int), .int .u64 (p.time : Int), .int .u64 (p.size : Int), .bool p.asks, .slice p.fa p.fl p.fc]
def pks (l : List Pk) : List Value := l.flatMap Pk.vals
def pkV (p : Pk) : Value := .agg #[.int .u64 (p.num : Int), .int .u64 (p.time : Int), .int .u64 (p.size : Int), .bool p.asks, .slice p.fa p.fl p.fc]

theorem pks_append (a b : List Pk) : pks (a ++ b) = pks a ++ pks b := by simp [pks]
theorem pks_one (p : Pk) : pks [p] = p.vals := by simp [pks]
theorem pks_length (l : List Pk) : (pks l).length = l.length * 5 := by
  induction l with
  | nil => rfl
  | cons p l ih =>
    have : pks (p :: l) = p.vals ++ pks l := rfl
    rw [this, List.length_append, ih, List.length_cons]
    simp [Pk.vals]
    omega
theorem pks_at (l : List Pk) : ∀ (i : Nat) (p : Pk), l[i]? = some p → ∀ k, k < 5 → (pks l)[i * 5 + k]? = p.vals[k]? := by
  induction l with
  | nil => intro i p h; simp at h
  | cons q l ih =>
    intro i p h k hk
    have e : pks (q :: l) = q.vals ++ pks l := rfl
    have e5 : q.vals.length = 5 := rfl
    rw [e]
    cases i with
    | zero =>
      simp at h
      subst h
      rw [List.getElem?_append_left (by rw [e5]; omega)]
      congr 1
      omega
    | succ i =>
      simp only [List.getElem?_cons_succ] at h
      rw [List.getElem?_append_right (by rw [e5]; omega), e5, ← ih i p h k hk]
      congr 1
      omega

/-- A ledger's numbers. -/
structure Lg where
  op : List Pk
  ln : Nat
  li : Bool
  bn : Nat
  bi : Bool

def Lg.cells (S : Lg) (v : Value) (rest : List Value) : List Value := v :: .int .u64 (S.ln : Int) :: .bool S.li :: .int .u64 (S.bn : Int) :: .bool S.bi :: rest

/-- A ledger lies at the head of block b. -/
def LedIs (w : World) (b : Nat) (T : TypeId) (rest : List Value) (v : Value) (S : Lg) : Prop := blk w b T (S.cells v rest)

def behindF (bi : Bool) (bn num : Nat) : Bool := bi && decide (num < bn)
def farF (bi : Bool) (bn num : Nat) : Bool := behindF bi bn num && decide (3 ≤ bn - num)

set_option maxRecDepth 100000 in
set_option maxHeartbeats 1000000 in
theorem late_any (b : Nat) (num time size : Nat) (asks : Bool) (fr : Value) (bn : Nat) (bi : Bool) (w : World) (hb : b < w.heap.size) (hn : w.cell? ⟨b, 3, none⟩ = some (.int .u64 (bn : Int))) (hi : w.cell? ⟨b, 4, none⟩ = some (.bool bi)) (hbn : bn < 2 ^ 63) :
    Calls Try.prog 37 #[.pointer (some ⟨b, 0, none⟩), .agg #[.int .u64 (num : Int), .int .u64 (time : Int), .int .u64 (size : Int), .bool asks, fr]] w fun e w' => e = .returned (.tuple #[.bool (farF bi bn num), .bool (behindF bi bn num)]) ∧ Below w.heap.size w w' := by
  cases bi
  · have h1 : farF false bn num = false := rfl
    have h2 : behindF false bn num = false := rfl
    rw [h1, h2]
    clear h1 h2
    go_enter Try.func37, Try.ntmps37
    go_wp2_with fail
    go_quiet (fail)
    go_wp2_with fail
    go_quiet (fail)
    go_wp2_with fail
    go_ret2
    exact ⟨rfl, below_drewN (below_drewN ((Below.refl _ _).alloc (Nat.le_refl _) _) _) _⟩
  · by_cases hlt : num < bn
    · have h2 : behindF true bn num = true := by simp [behindF, hlt]
      by_cases h3 : 3 ≤ bn - num
      · have h1 : farF true bn num = true := by simp [farF, h2, h3]
        have g1 : decide ((3 : Int) ≤ (bn : Int) - (num : Int)) = true := by rw [decide_eq_true_iff]; omega
        rw [h1, h2]
        clear h1 h2
        go_enter Try.func37, Try.ntmps37
        go_wp2_with fail
        go_quiet (fail)
        go_wp2_with fail
        go_quiet (fail)
        go_wp2_with fail
        go_ret2
        exact ⟨rfl, below_drewN (below_drewN ((Below.refl _ _).alloc (Nat.le_refl _) _) _) _⟩
      · have h1 : farF true bn num = false := by simp only [farF, h2, h3]; rfl
        have g1 : decide ((3 : Int) ≤ (bn : Int) - (num : Int)) = false := by rw [decide_eq_false_iff_not]; omega
        rw [h1, h2]
        clear h1 h2
        go_enter Try.func37, Try.ntmps37
        go_wp2_with fail
        go_quiet (fail)
        go_wp2_with fail
        go_quiet (fail)
        go_wp2_with fail
        go_ret2
        exact ⟨rfl, below_drewN (below_drewN ((Below.refl _ _).alloc (Nat.le_refl _) _) _) _⟩
    · have h2 : behindF true bn num = false := by simp [behindF, hlt]
      have h1 : farF true bn num = false := by simp [farF, h2]
      have g1 : decide (num < bn) = false := by rw [decide_eq_false_iff_not]; exact hlt
      rw [h1, h2]
      clear h1 h2
      go_enter Try.func37, Try.ntmps37
      go_wp2_with fail
      go_quiet (fail)
      go_wp2_with fail
      go_quiet (fail)
      go_wp2_with fail
      go_ret2
      exact ⟨rfl, below_drewN (below_drewN ((Below.refl _ _).alloc (Nat.le_refl _) _) _) _⟩

end Go.Proofs.Ytaoeamkkbopioaa
