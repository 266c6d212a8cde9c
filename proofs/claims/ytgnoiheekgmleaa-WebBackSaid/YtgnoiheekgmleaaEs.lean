/- web: plain: a message's bytes come back. -/
import Derived.Test.YtgnoiheekgmleaaUc
import Derived.Test.YtgnoiheekgmleaaEi
namespace Go.Proofs.Ytgnoiheekgmleaa
open Go.ChangeShapes Go.WideShapes Go.RowKit
set_option linter.unusedVariables false

theorem frameB_ne {k : Nat} (hk : k < 4611686018427387904) (d r : List UInt8) : frameB k d ++ r ≠ [] := by
  intro h
  have := putB_pos hk
  have h2 := congrArg List.length h
  rw [frameB_eq hk] at h2
  simp only [List.length_append, List.length_nil] at h2
  omega
theorem run_frame {k : Nat} (hk : k < 4611686018427387904) (hb : badKind k = false) (d r : List UInt8) (hd : d.length < 4611686018427387904) (I : IB) (hc : I.came = frameB k d ++ r) :
    runF I = if (actF I k d).2 ≠ 0 then actF I k d else runF { (actF I k d).1 with came := r } := by
  rw [run_step (by rw [hc]; exact frameB_ne hk d r), hc, wtake_frame hk hb d r hd]
  rw [if_neg (show ¬ (0 : Int) = 13 by decide), if_neg (fun h => h rfl)]
/-- A frame of an unknown kind is passed by. -/
theorem run_skip {k : Nat} (hk : 9 < k ∧ k < 4611686018427387904) (d r : List UInt8) (hd : d.length < 4611686018427387904) (I : IB) (hc : I.came = frameB k d ++ r) : runF I = runF { I with came := r } := by
  have hb : badKind k = false := by unfold badKind; simp; omega
  have ha : actF I k d = (I, 0) := by unfold actF; rw [if_neg (by omega), if_neg (by omega), if_neg (by omega)]
  rw [run_frame hk.2 hb d r hd I hc, ha, if_neg (fun h => h rfl)]
theorem run_head (d r : List UInt8) (hd : d.length < 4611686018427387904) (I : IB) (hh : I.head = false) (hc : I.came = frameB 1 d ++ r) : runF I = runF ⟨r, d, true, I.body⟩ := by
  have ha : actF I 1 d = (⟨I.came, d, true, I.body⟩, 0) := by unfold actF; rw [if_pos rfl, if_neg (by rw [hh]; decide)]
  rw [run_frame (by decide) (by decide) d r hd I hc, ha, if_neg (fun h => h rfl)]
theorem run_piece (d r : List UInt8) (hd : d.length < 4611686018427387904) (I : IB) (hh : I.head = true) (hc : I.came = frameB 0 d ++ r) : runF I = runF ⟨r, I.sec, true, I.body ++ d⟩ := by
  obtain ⟨c, s, h, b⟩ := I
  simp only at hh hc
  subst hh
  have ha : actF ⟨c, s, true, b⟩ 0 d = (⟨c, s, true, b ++ d⟩, 0) := rfl
  rw [run_frame (by decide) (by decide) d r hd _ hc, ha, if_neg (fun h => h rfl)]
theorem run_pieces : ∀ (n : Nat) (l r : List UInt8) (sec body : List UInt8), l.length ≤ n → runF ⟨piecesF n l ++ r, sec, true, body⟩ = runF ⟨r, sec, true, body ++ l⟩
  | 0, l, r, sec, body, h => by
    have h0 : l = [] := List.eq_nil_of_length_eq_zero (by omega)
    subst h0
    rw [List.append_nil]
    rfl
  | n + 1, l, r, sec, body, h => by
    by_cases h0 : l = []
    · subst h0
      rw [List.append_nil]
      unfold piecesF
      rw [if_pos rfl]
      rfl
    · have := List.length_pos_iff.2 h0
      have e : piecesF (n + 1) l = frameB 0 (l.take 500) ++ piecesF n (l.drop 500) := by
        conv => lhs; unfold piecesF
        rw [if_neg h0]
      rw [run_piece (l.take 500) (piecesF n (l.drop 500) ++ r) (by rw [List.length_take]; omega) ⟨piecesF (n + 1) l ++ r, sec, true, body⟩ rfl (by simp only; rw [e, List.append_assoc])]
      simp only
      rw [run_pieces n (l.drop 500) r sec (body ++ l.take 500) (by rw [List.length_drop]; omega), List.append_assoc, List.take_append_drop]

/-- A written message: what it tells, its section, and that it comes back. -/
theorem web_facts {most : Nat} (hm : most ≤ 65536) {L : List Fl} {body : List UInt8} (he : (webF ⟨[], most, 0⟩ L body).2.2.2 = 0) (hs : L.length ≤ 110 ∧ flSum L ≤ 3000) :
    ∃ (S1 : Tbl) (told sec : ByteArray), webF ⟨[], most, 0⟩ L body = (S1, told, frameB 1 (byt sec) ++ piecesF body.length body, 0) ∧ S1.Ok ∧ toldF (told.size + 1) ⟨[], most, 0⟩ told = (S1, 0) ∧ readF S1.l sec = (L, 0) ∧ ((readF [] sec).2 = 13 ∨ (readF [] sec).2 = 0) ∧ sec.size ≤ 3604 ∧ told.size ≤ 3600 ∧ L.length ≤ 100 := by
  have hS : (⟨[], most, 0⟩ : Tbl).Ok := ⟨hm, Nat.zero_le _, Nat.le_refl _⟩
  by_cases hW : WOk L
  · have hsm : Small L := ⟨hs.1, fun f hf => by
      obtain ⟨_, q1, q2⟩ := (mayFl_iff f).1 (hW.2 f hf)
      omega, hs.2⟩
    have hi := fold_inv hS L
    obtain ⟨q1, q2, q3⟩ := wrote hS hW
    have hz := sizes hS hW hsm
    have hw := write_ok (S := (⟨[], most, 0⟩ : Tbl)) hW
    refine ⟨(foldW ⟨[], most, 0⟩ L).1, (foldW ⟨[], most, 0⟩ L).2.1, secF (foldW ⟨[], most, 0⟩ L).1.l (foldW ⟨[], most, 0⟩ L).2.2 L, ?_, hi.1, ?_, ?_, ?_, hz.2, hz.1, hW.1⟩
    · unfold webF
      rw [hw]
      rfl
    · rw [foldW_told, foldW_tab]
      exact told_back L _ _ hW.2 (by omega)
    · obtain ⟨m, hmm⟩ := Int.eq_ofNat_of_zero_le q1
      rw [hmm] at q2 q3 ⊢
      have := sec_back (foldW ⟨[], most, 0⟩ L).1.l (foldW ⟨[], most, 0⟩ L).1.l m (by have := hi.1.2.1; have := hi.1.2.2; omega) L (fun f hf => ⟨hW.2 f hf, q3 f hf⟩) hW.1
      rw [if_neg (by omega), if_pos rfl] at this
      exact this
    · obtain ⟨m, hmm⟩ := Int.eq_ofNat_of_zero_le q1
      rw [hmm] at q2 q3 ⊢
      have := sec_back (foldW ⟨[], most, 0⟩ L).1.l [] m (by have := hi.1.2.1; have := hi.1.2.2; omega) L (fun f hf => ⟨hW.2 f hf, q3 f hf⟩) hW.1
      by_cases h0 : ([] : List Fl).length < m
      · rw [if_pos h0] at this
        rw [this]
        exact .inl rfl
      · rw [if_neg h0] at this
        have hm0 : m = 0 := by simp at h0; omega
        subst hm0
        rw [if_pos (by simp)] at this
        rw [this]
        exact .inr rfl
  · obtain ⟨E, hE, hE2⟩ := write_bad (S := (⟨[], most, 0⟩ : Tbl)) hW
    unfold webF at he
    rw [hE] at he
    simp only at he
    rw [if_pos (by omega)] at he
    simp only at he
    omega

/-- With frames of an unknown kind ahead, between and behind. -/
theorem skips_run (kind : Nat) (data sec body : List UInt8) (hk : 9 < kind ∧ kind < 4611686018427387904) (hd : data.length ≤ 10000) (hs : sec.length ≤ 10000) :
    addI emptyIB (frameB kind data ++ frameB 1 sec ++ frameB kind data ++ piecesF body.length body ++ frameB kind data) true = (⟨[], sec, true, body⟩, 0) := by
  have hr : runF ⟨frameB kind data ++ frameB 1 sec ++ frameB kind data ++ piecesF body.length body ++ frameB kind data, [], false, []⟩ = (⟨[], sec, true, body⟩, 0) := by
    rw [run_skip hk data (frameB 1 sec ++ (frameB kind data ++ (piecesF body.length body ++ frameB kind data))) (by omega) _ (by simp only [List.append_assoc])]
    rw [run_head sec (frameB kind data ++ (piecesF body.length body ++ frameB kind data)) (by omega) _ rfl rfl]
    rw [run_skip hk data (piecesF body.length body ++ frameB kind data) (by omega) _ rfl]
    simp only
    rw [run_pieces _ body _ _ _ (Nat.le_refl _)]
    rw [run_skip hk data [] (by omega) _ (by simp only [List.append_nil])]
    exact run_nil rfl
  unfold addI emptyIB
  simp only [List.nil_append]
  rw [hr]
  simp

end Go.Proofs.Ytgnoiheekgmleaa
