/- Plain law: GoodYoung as the program and as the reference have it are one; what is copied is as it was. -/
import Derived.Test.YtpjikgeglhjehaaPlain
import Derived.Test.YtpjikgeglhjehaaStFnExactGoodYoung
namespace Go.Proofs.Ytpjikgeglhjehaa.Pl
open Go.RowKit Go.Proofs.Ytpjikgeglhjehaa.PH Go.Proofs.YtpjikgeglhjehaaW.PrintWords Go.Proofs.YtpjikgeglhjehaaW.PrintLast
set_option linter.unusedVariables false
set_option linter.unusedSimpArgs false

theorem toIntS_ev (l : List Int) (h : l.length ≤ 1048576) : Ev (fun k => laws_toIntS.f k l) l := by
  have key : ∀ d i : Nat, i + d = l.length → Ev (fun k => laws_toIntS.l0 k l (l.take i ++ List.replicate d 0) (i : Int)) l := by
    intro d
    induction d with
    | zero =>
      intro i hi
      refine Ev.succ ?_
      simp only [laws_toIntS.l0, if_neg (show ¬ (i : Int) < (l.length : Int) by omega)]
      exact Ev.const (by simp [List.take_of_length_le (show l.length ≤ i by omega)])
    | succ d ih =>
      intro i hi
      refine Ev.succ ?_
      simp only [laws_toIntS.l0, len_fill l 0 i (d + 1) hi, if_pos (show (i : Int) < (l.length : Int) by omega), if_pos (show (0 : Int) ≤ (i : Int) by omega),
        show wrap64 ((i : Int) + 1) = ((i + 1 : Nat) : Int) from by rw [w64 (by omega) (by omega)]; rfl, Int.toNat_natCast, fill_set l 0 i d _ hi (rd_some l i (by omega))]
      exact ih (i + 1) (by omega)
  unfold laws_toIntS.f
  simp only [if_pos (show (0 : Int) ≤ (l.length : Int) by omega), Int.toNat_natCast, if_pos (show l.length ≤ 35184372088832 by omega)]
  have := key l.length 0 (by omega)
  simpa using this
def cell (x : S65) : S46 := ⟨x.f0, x.f1, x.f2, x.f3⟩
theorem toCellS_ev (l : List S65) (h : l.length ≤ 1048576) : Ev (fun k => laws_toCellS.f k l) (l.map cell) := by
  have key : ∀ d i : Nat, i + d = (l.map cell).length → Ev (fun k => laws_toCellS.l0 k l ((l.map cell).take i ++ List.replicate d z46) (i : Int)) (l.map cell) := by
    intro d
    induction d with
    | zero =>
      intro i hi
      have hm : (l.map cell).length = l.length := by simp
      refine Ev.succ ?_
      simp only [laws_toCellS.l0, if_neg (show ¬ (i : Int) < (l.length : Int) by omega)]
      exact Ev.const (by rw [List.take_of_length_le (show (l.map cell).length ≤ i by omega)]; simp)
    | succ d ih =>
      intro i hi
      have hm : (l.map cell).length = l.length := by simp
      have hx : (l.map cell)[i]? = some ⟨(rd_T65 l i).f0, (rd_T65 l i).f1, (rd_T65 l i).f2, (rd_T65 l i).f3⟩ := by
        rw [List.getElem?_map, getD_some l z65 i (by omega)]
        rfl
      refine Ev.succ ?_
      simp only [laws_toCellS.l0, laws_toCell.f, Option.bind_some, len_fill (l.map cell) z46 i (d + 1) hi, if_pos (show (i : Int) < (l.length : Int) by omega), if_pos (show (i : Int) < ((l.map cell).length : Int) by omega), if_pos (show (0 : Int) ≤ (i : Int) by omega),
        show wrap64 ((i : Int) + 1) = ((i + 1 : Nat) : Int) from by rw [w64 (by omega) (by omega)]; rfl, Int.toNat_natCast, fill_set (l.map cell) z46 i d _ hi hx]
      exact ih (i + 1) (by omega)
  unfold laws_toCellS.f
  simp only [if_pos (show (0 : Int) ≤ (l.length : Int) by omega), Int.toNat_natCast, if_pos (show l.length ≤ 8796093022208 by omega)]
  have := key l.length 0 (by simp)
  simpa using this
theorem toYoung_ev (o : Int) (c : List S65) (r n : List Int) (hc : c.length ≤ 1048576) (hr : r.length ≤ 1048576) (hn : n.length ≤ 1048576) : Ev (fun k => laws_toYoung.f k o c r n) (o, c.map cell, r, n) := by
  unfold laws_toYoung.f
  refine Ev.bnd _ (toCellS_ev c hc) (Ev.bnd _ (toIntS_ev r hr) (Ev.bnd _ (toIntS_ev n hn) (Ev.const rfl)))
theorem eqIntS_ev (l : List Int) (h : l.length ≤ 1048576) : Ev (fun k => laws_eqIntS.f k l l) true := by
  have key : ∀ d i : Nat, i + d = l.length → Ev (fun k => laws_eqIntS.l0 k l l (i : Int)) true := by
    intro d
    induction d with
    | zero =>
      intro i hi
      refine Ev.succ ?_
      simp only [laws_eqIntS.l0, if_neg (show ¬ (i : Int) < (l.length : Int) by omega)]
      exact Ev.const rfl
    | succ d ih =>
      intro i hi
      refine Ev.succ ?_
      simp only [laws_eqIntS.l0, if_pos (show (i : Int) < (l.length : Int) by omega), if_pos (show (0 : Int) ≤ (i : Int) by omega), if_true,
        show wrap64 ((i : Int) + 1) = ((i + 1 : Nat) : Int) from by rw [w64 (by omega) (by omega)]; rfl]
      exact ih (i + 1) (by omega)
  unfold laws_eqIntS.f
  simp only [if_true]
  exact key l.length 0 (by omega)
theorem eqCellS_ev (l : List S46) (h : l.length ≤ 1048576) : Ev (fun k => laws_eqCellS.f k l l) true := by
  have key : ∀ d i : Nat, i + d = l.length → Ev (fun k => laws_eqCellS.l0 k l l (i : Int)) true := by
    intro d
    induction d with
    | zero =>
      intro i hi
      refine Ev.succ ?_
      simp only [laws_eqCellS.l0, if_neg (show ¬ (i : Int) < (l.length : Int) by omega)]
      exact Ev.const rfl
    | succ d ih =>
      intro i hi
      refine Ev.succ ?_
      simp only [laws_eqCellS.l0, laws_eqCell.f, bne_self_eq_false, Bool.false_eq_true, if_false, Option.bind_some, if_pos (show (i : Int) < (l.length : Int) by omega), if_pos (show (0 : Int) ≤ (i : Int) by omega), if_true,
        show wrap64 ((i : Int) + 1) = ((i + 1 : Nat) : Int) from by rw [w64 (by omega) (by omega)]; rfl]
      exact ih (i + 1) (by omega)
  unfold laws_eqCellS.f
  simp only [if_true]
  exact key l.length 0 (by omega)
theorem eqYoung_ev (o : Int) (c : List S46) (r n : List Int) (hc : c.length ≤ 1048576) (hr : r.length ≤ 1048576) (hn : n.length ≤ 1048576) : Ev (fun k => laws_eqYoung.f k o c r n o c r n) true := by
  unfold laws_eqYoung.f
  simp only [if_true]
  refine Ev.bnd _ (eqCellS_ev c hc) ?_
  simp only [if_true]
  refine Ev.bnd _ (eqIntS_ev r hr) ?_
  simp only [if_true]
  refine Ev.bnd _ (eqIntS_ev n hn) ?_
  exact Ev.const rfl
theorem has_ev (l : List Int) (x : Int) (h : l.length ≤ 1048576) : Ev (fun k => spec_lcHas.f k l x) (decide (x ∈ l)) := by
  have key : ∀ d i : Nat, i + d = l.length → Ev (fun k => spec_lcHas.l0 k x l (l.length : Int) (i : Int)) (decide (x ∈ l.drop i)) := by
    intro d
    induction d with
    | zero =>
      intro i hi
      refine Ev.succ ?_
      simp only [spec_lcHas.l0, if_neg (show ¬ (i : Int) < (l.length : Int) by omega)]
      exact Ev.const (by rw [List.drop_eq_nil_of_le (by omega)]; simp)
    | succ d ih =>
      intro i hi
      refine Ev.succ ?_
      rw [drop_rd l i (by omega)]
      simp only [spec_lcHas.l0, if_pos (show (i : Int) < (l.length : Int) by omega), if_pos (show (0 : Int) ≤ (i : Int) by omega),
        show wrap64 ((i : Int) + 1) = ((i + 1 : Nat) : Int) from by rw [w64 (by omega) (by omega)]; rfl]
      by_cases e : rd l (i : Int) = x
      · simp only [if_pos e]
        exact Ev.const (by simp [e])
      · simp only [if_neg e]
        refine Ev.eq (ih (i + 1) (by omega)) ?_
        simp [Ne.symm e]
  have := key l.length 0 (by omega)
  unfold spec_lcHas.f
  simpa using this
theorem contains_ev (l : List Int) (x : Int) (h : l.length ≤ 1048576) : Ev (fun k => slices_Contains_int_int.f k l x) (decide (x ∈ l)) := by
  have key : ∀ d i : Nat, i + d = l.length → ∃ r : Int, Ev (fun k => slices_Index_int_int.l0 k l x (l.length : Int) (i : Int)) r ∧ decide (r ≥ 0) = decide (x ∈ l.drop i) := by
    intro d
    induction d with
    | zero =>
      intro i hi
      refine ⟨-1, Ev.succ ?_, ?_⟩
      · simp only [slices_Index_int_int.l0, if_neg (show ¬ (i : Int) < (l.length : Int) by omega)]
        exact Ev.const rfl
      · rw [List.drop_eq_nil_of_le (by omega)]; simp
    | succ d ih =>
      intro i hi
      by_cases e : x = rd l (i : Int)
      · refine ⟨(i : Int), Ev.succ ?_, ?_⟩
        · simp only [slices_Index_int_int.l0, if_pos (show (i : Int) < (l.length : Int) by omega), if_pos (show (0 : Int) ≤ (i : Int) by omega), if_pos e]
          exact Ev.const rfl
        · rw [drop_rd l i (by omega)]; simp [← e]
      · obtain ⟨r, hr, hd⟩ := ih (i + 1) (by omega)
        refine ⟨r, Ev.succ ?_, ?_⟩
        · simp only [slices_Index_int_int.l0, if_pos (show (i : Int) < (l.length : Int) by omega), if_pos (show (0 : Int) ≤ (i : Int) by omega), if_neg e,
            show wrap64 ((i : Int) + 1) = ((i + 1 : Nat) : Int) from by rw [w64 (by omega) (by omega)]; rfl]
          exact hr
        · rw [drop_rd l i (by omega), hd]; simp [e]
  obtain ⟨r, hr, hd⟩ := key l.length 0 (by omega)
  unfold slices_Contains_int_int.f slices_Index_int_int.f
  refine Ev.bnd r hr (Ev.const ?_)
  rw [hd]; simp

/-! The heap is good: what both say. -/
def noteOk (o : Int) (n : List Int) (i : Nat) : Bool := decide (0 ≤ rd n i) && decide (rd n i < o) && (decide (i = 0) || decide (rd n ((i : Int) - 1) < rd n i))
def cellOk (o : Int) (m : Int) (n : List Int) (c : S46) (i : Nat) : Bool :=
  (if c.f0 then decide (c.f2 = 0) && decide (c.f3 = 0) else decide (c.f1 = 0) && (decide (0 ≤ c.f2) && decide (c.f2 < m)) && (decide (0 ≤ c.f3) && decide (c.f3 < m)))
  && (!(!c.f0 && decide ((i : Int) < o) && (decide (o ≤ c.f2) || decide (o ≤ c.f3))) || decide ((i : Int) ∈ n))
def allFrom {α : Type} (p : α → Nat → Bool) : List α → Nat → Bool
  | [], _ => true
  | x :: l, i => p x i && allFrom p l (i + 1)
def good (o : Int) (c : List S46) (r n : List Int) : Bool :=
  decide (c.length ≤ 200) && decide (r.length ≤ 60) && decide (0 ≤ o) && decide (o ≤ (c.length : Int)) && allFrom (fun _ i => noteOk o n i) n 0 && allFrom (cellOk o c.length n) c 0 && r.all (fun x => decide (0 ≤ x) && decide (x < (c.length : Int)))

theorem l1In_eq (a b c : Int) : spec_l1In.f a b c = some (decide (b ≤ a) && decide (a ≤ c)) := by
  unfold spec_l1In.f
  by_cases h : a ≥ b
  · rw [if_pos h]; simp [h]
  · rw [if_neg h]; simp; omega
theorem specRoots (o : Int) (c : List S46) (r n : List Int) (hr : r.length ≤ 1048576) (hc : c.length ≤ 200) :
    Ev (fun k => spec_GoodYoung.l2 k r (r.length : Int) 0 o c r n) (r.all (fun x => decide (0 ≤ x) && decide (x < (c.length : Int)))) := by
  have hcw : wrap64 ((c.length : Int) - 1) = (c.length : Int) - 1 := w64 (by omega) (by omega)
  have key : ∀ d i : Nat, i + d = r.length → Ev (fun k => spec_GoodYoung.l2 k r (r.length : Int) (i : Int) o c r n) ((r.drop i).all (fun x => decide (0 ≤ x) && decide (x < (c.length : Int)))) := by
    intro d
    induction d with
    | zero =>
      intro i hi
      refine Ev.succ ?_
      simp only [spec_GoodYoung.l2, if_neg (show ¬ (i : Int) < (r.length : Int) by omega)]
      exact Ev.const (by rw [List.drop_eq_nil_of_le (by omega)]; simp)
    | succ d ih =>
      intro i hi
      refine Ev.succ ?_
      rw [drop_rd r i (by omega), List.all_cons]
      simp only [spec_GoodYoung.l2, if_pos (show (i : Int) < (r.length : Int) by omega), if_pos (show (0 : Int) ≤ (i : Int) by omega), l1In_eq, hcw, Option.bind_some,
        show wrap64 ((i : Int) + 1) = ((i + 1 : Nat) : Int) from by rw [w64 (by omega) (by omega)]; rfl]
      have e : decide (rd r (i : Int) ≤ (c.length : Int) - 1) = decide (rd r (i : Int) < (c.length : Int)) := decide_eq_decide.2 (by omega)
      rw [e]
      cases hb : (decide (0 ≤ rd r (i : Int)) && decide (rd r (i : Int) < (c.length : Int))) with
      | false => exact Ev.const (by simp)
      | true =>
        simp only [if_true, Bool.true_and]
        exact ih (i + 1) (by omega)
  have := key r.length 0 (by omega)
  simpa using this
theorem specCells (o : Int) (c : List S46) (r n : List Int) (hr : r.length ≤ 1048576) (hn : n.length ≤ 1048576) (hc : c.length ≤ 200) :
    Ev (fun k => spec_GoodYoung.l1 k c (c.length : Int) 0 o c r n) (allFrom (cellOk o c.length n) c 0 && r.all (fun x => decide (0 ≤ x) && decide (x < (c.length : Int)))) := by
  have hcw : wrap64 ((c.length : Int) - 1) = (c.length : Int) - 1 := w64 (by omega) (by omega)
  have key : ∀ d i : Nat, i + d = c.length → Ev (fun k => spec_GoodYoung.l1 k c (c.length : Int) (i : Int) o c r n) (allFrom (cellOk o c.length n) (c.drop i) i && r.all (fun x => decide (0 ≤ x) && decide (x < (c.length : Int)))) := by
    intro d
    induction d with
    | zero =>
      intro i hi
      refine Ev.succ ?_
      simp only [spec_GoodYoung.l1, if_neg (show ¬ (i : Int) < (c.length : Int) by omega)]
      rw [List.drop_eq_nil_of_le (by omega)]
      simpa [allFrom] using specRoots o c r n hr hc
    | succ d ih =>
      intro i hi
      have hgo := ih (i + 1) (by omega)
      have hh := has_ev n (i : Int) hn
      refine Ev.succ ?_
      rw [drop_getD c z46 i (by omega)]
      simp only [allFrom]
      rw [Bool.and_assoc]
      generalize (allFrom (cellOk o c.length n) (c.drop (i + 1)) (i + 1) && r.all (fun x => decide (0 ≤ x) && decide (x < (c.length : Int)))) = T at hgo ⊢
      simp only [spec_GoodYoung.l1, rd_T46, if_pos (show (i : Int) < (c.length : Int) by omega), if_pos (show (0 : Int) ≤ (i : Int) by omega), l1In_eq, hcw, Option.bind_some,
        show wrap64 ((i : Int) + 1) = ((i + 1 : Nat) : Int) from by rw [w64 (by omega) (by omega)]; rfl]
      generalize c.getD (i : Int).toNat z46 = x at *
      have e2 : decide (x.f2 ≤ (c.length : Int) - 1) = decide (x.f2 < (c.length : Int)) := decide_eq_decide.2 (by omega)
      have e3 : decide (x.f3 ≤ (c.length : Int) - 1) = decide (x.f3 < (c.length : Int)) := decide_eq_decide.2 (by omega)
      rw [e2, e3]
      unfold cellOk
      cases x.f0 with
      | true =>
        simp only [if_true, Bool.not_true, Bool.false_and, Bool.not_false, Bool.true_or, Bool.and_true]
        by_cases h2 : x.f2 = 0
        · by_cases h3 : x.f3 = 0
          · simp only [if_pos h2, if_pos h3, decide_eq_true h2, decide_eq_true h3, Bool.true_and]
            exact hgo
          · simp only [if_pos h2, if_neg h3]
            exact Ev.const (by simp [h3])
        · simp only [if_neg h2]
          exact Ev.const (by simp [h2])
      | false =>
        simp only [Bool.false_eq_true, if_false, Bool.not_false, Bool.true_and]
        by_cases h1 : x.f1 = 0
        · simp only [if_pos h1, decide_eq_true h1, Bool.true_and]
          cases ha : (decide (0 ≤ x.f2) && decide (x.f2 < (c.length : Int))) with
          | false => exact Ev.const (by simp)
          | true =>
            simp only [if_true, Bool.true_and]
            cases hb : (decide (0 ≤ x.f3) && decide (x.f3 < (c.length : Int))) with
            | false => exact Ev.const (by simp)
            | true =>
              simp only [if_true, Bool.true_and]
              by_cases ho : (i : Int) < o
              · simp only [if_pos ho, decide_eq_true ho, Bool.true_and]
                by_cases h2 : x.f2 ≥ o
                · simp only [if_pos h2]
                  refine Ev.bnd _ hh ?_
                  have h2' : decide (o ≤ x.f2) = true := by simpa using h2
                  simp only [h2', Bool.true_or, Bool.not_true, Bool.false_or]
                  cases hm : decide ((i : Int) ∈ n) with
                  | false => exact Ev.const (by simp)
                  | true => simpa using hgo
                · have h2' : decide (o ≤ x.f2) = false := by simpa using h2
                  simp only [if_neg h2, h2', Bool.false_or]
                  by_cases h3 : x.f3 ≥ o
                  · simp only [if_pos h3]
                    refine Ev.bnd _ hh ?_
                    have h3' : decide (o ≤ x.f3) = true := by simpa using h3
                    simp only [h3', Bool.not_true, Bool.false_or]
                    cases hm : decide ((i : Int) ∈ n) with
                    | false => exact Ev.const (by simp)
                    | true => simpa using hgo
                  · have h3' : decide (o ≤ x.f3) = false := by simpa using h3
                    simp only [if_neg h3, h3', Bool.not_false, Bool.true_or, Bool.true_and]
                    exact hgo
              · have ho' : decide ((i : Int) < o) = false := by simpa using ho
                simp only [if_neg ho, ho', Bool.false_and, Bool.not_false, Bool.true_or, Bool.true_and]
                exact hgo
        · simp only [if_neg h1]
          exact Ev.const (by simp [h1])
  have := key c.length 0 (by omega)
  simpa using this
theorem specNotes (o : Int) (c : List S46) (r n : List Int) (hr : r.length ≤ 1048576) (hn : n.length ≤ 1048576) (hc : c.length ≤ 200) (h0 : 0 ≤ o) (ho : o ≤ (c.length : Int)) :
    Ev (fun k => spec_GoodYoung.l0 k n (n.length : Int) 0 o c r n) (allFrom (fun _ i => noteOk o n i) n 0 && (allFrom (cellOk o c.length n) c 0 && r.all (fun x => decide (0 ≤ x) && decide (x < (c.length : Int))))) := by
  have how : wrap64 (o - 1) = o - 1 := w64 (by omega) (by omega)
  have key : ∀ d i : Nat, i + d = n.length → Ev (fun k => spec_GoodYoung.l0 k n (n.length : Int) (i : Int) o c r n) (allFrom (fun _ i => noteOk o n i) (n.drop i) i && (allFrom (cellOk o c.length n) c 0 && r.all (fun x => decide (0 ≤ x) && decide (x < (c.length : Int))))) := by
    intro d
    induction d with
    | zero =>
      intro i hi
      refine Ev.succ ?_
      simp only [spec_GoodYoung.l0, if_neg (show ¬ (i : Int) < (n.length : Int) by omega)]
      rw [List.drop_eq_nil_of_le (by omega)]
      simpa [allFrom] using specCells o c r n hr hn hc
    | succ d ih =>
      intro i hi
      have hgo := ih (i + 1) (by omega)
      refine Ev.succ ?_
      rw [drop_rd n i (by omega)]
      simp only [allFrom]
      rw [Bool.and_assoc]
      generalize (allFrom (fun _ i => noteOk o n i) (n.drop (i + 1)) (i + 1) && (allFrom (cellOk o c.length n) c 0 && r.all (fun x => decide (0 ≤ x) && decide (x < (c.length : Int))))) = T at hgo ⊢
      simp only [spec_GoodYoung.l0, if_pos (show (i : Int) < (n.length : Int) by omega), if_pos (show (0 : Int) ≤ (i : Int) by omega), l1In_eq, how, Option.bind_some,
        show wrap64 ((i : Int) + 1) = ((i + 1 : Nat) : Int) from by rw [w64 (by omega) (by omega)]; rfl]
      have e : decide (rd n (i : Int) ≤ o - 1) = decide (rd n (i : Int) < o) := decide_eq_decide.2 (by omega)
      rw [e]
      unfold noteOk
      cases hb : (decide (0 ≤ rd n (i : Int)) && decide (rd n (i : Int) < o)) with
      | false => exact Ev.const (by simp)
      | true =>
        simp only [if_true, Bool.true_and]
        by_cases hi0 : i = 0
        · subst hi0
          simp only [if_neg (show ¬ ((0 : Nat) : Int) > 0 by omega), decide_true, Bool.true_or, Bool.true_and]
          exact hgo
        · have hw : wrap64 ((i : Int) - 1) = (i : Int) - 1 := w64 (by omega) (by omega)
          simp only [if_pos (show (i : Int) > 0 by omega), hw, if_pos (show (0 : Int) ≤ (i : Int) - 1 by omega), if_pos (show (i : Int) - 1 < (n.length : Int) by omega), decide_eq_false hi0, Bool.false_or]
          by_cases hge : rd n ((i : Int) - 1) ≥ rd n (i : Int)
          · simp only [if_pos hge]
            have : decide (rd n ((i : Int) - 1) < rd n (i : Int)) = false := by simpa using hge
            exact Ev.const (by rw [this]; simp)
          · simp only [if_neg hge]
            have : decide (rd n ((i : Int) - 1) < rd n (i : Int)) = true := by simpa using hge
            rw [this, Bool.true_and]
            exact hgo
  have := key n.length 0 (by omega)
  simpa using this
theorem specGood (o : Int) (c : List S46) (r n : List Int) (hcl : c.length ≤ 1048576) (hr : r.length ≤ 1048576) (hn : n.length ≤ 1048576) : Ev (fun k => spec_GoodYoung.f k o c r n) (good o c r n) := by
  unfold spec_GoodYoung.f good
  by_cases h1 : (c.length : Int) > 200
  · simp only [if_pos h1]
    exact Ev.const (by simp; omega)
  · have h1' : decide (c.length ≤ 200) = true := decide_eq_true (by omega)
    simp only [if_neg h1, h1', Bool.true_and]
    by_cases h2 : (r.length : Int) > 60
    · simp only [if_pos h2]
      exact Ev.const (by simp; omega)
    · have h2' : decide (r.length ≤ 60) = true := by simp; omega
      simp only [if_neg h2, h2', Bool.true_and, l1In_eq, Option.bind_some]
      cases hb : (decide (0 ≤ o) && decide (o ≤ (c.length : Int))) with
      | false => exact Ev.const (by simp)
      | true =>
        simp only [if_true, Bool.true_and]
        simp only [Bool.and_eq_true, decide_eq_true_eq] at hb
        refine Ev.eq (specNotes o c r n hr hn (by omega) hb.1 hb.2) ?_
        simp [Bool.and_assoc]

theorem isBelow_eq (a b : Int) : impl_isBelow.f a b = some (decide (0 ≤ a) && decide (a < b)) := by
  unfold impl_isBelow.f
  by_cases h : a ≥ 0
  · rw [if_pos h]; simp [h]
  · rw [if_neg h]; simp; omega
theorem implCells (o : Int) (c : List S46) (r n : List Int) (hn : n.length ≤ 1048576) (hc : c.length ≤ 200) :
    Ev (fun k => impl_GoodYoung.l1 k (c.length : Int) c (c.length : Int) 0 o c r n) (allFrom (cellOk o c.length n) c 0) := by
  have key : ∀ d i : Nat, i + d = c.length → Ev (fun k => impl_GoodYoung.l1 k (c.length : Int) c (c.length : Int) (i : Int) o c r n) (allFrom (cellOk o c.length n) (c.drop i) i) := by
    intro d
    induction d with
    | zero =>
      intro i hi
      refine Ev.succ ?_
      simp only [impl_GoodYoung.l1, if_neg (show ¬ (i : Int) < (c.length : Int) by omega)]
      rw [List.drop_eq_nil_of_le (by omega)]
      exact Ev.const rfl
    | succ d ih =>
      intro i hi
      have hgo := ih (i + 1) (by omega)
      have hh := contains_ev n (i : Int) hn
      refine Ev.succ ?_
      rw [show c.drop i = rd_T46 c (i : Int) :: c.drop (i + 1) from drop_getD c z46 i (by omega)]
      simp only [allFrom]
      generalize (allFrom (cellOk o c.length n) (c.drop (i + 1)) (i + 1)) = T at hgo ⊢
      simp only [impl_GoodYoung.l1, if_pos (show (i : Int) < (c.length : Int) by omega), if_pos (show (0 : Int) ≤ (i : Int) by omega),
        show wrap64 ((i : Int) + 1) = ((i + 1 : Nat) : Int) from by rw [w64 (by omega) (by omega)]; rfl]
      generalize rd_T46 c (i : Int) = x
      simp only [impl_isCell.f, impl_Young_namesYoung.f, isBelow_eq, Option.bind_some]
      unfold cellOk
      cases x.f0 with
      | true =>
        simp only [if_true, Bool.not_true, Bool.false_and, Bool.not_false, Bool.true_or, Bool.and_true]
        by_cases h2 : x.f2 = 0
        · by_cases h3 : x.f3 = 0
          · simp only [if_pos h2, decide_eq_true h2, decide_eq_true h3, Bool.true_and, Option.bind_some, show (x.f3 == 0) = true from by simp [h3], if_true, Bool.false_eq_true, if_false]
            by_cases ho : (i : Int) < o
            · simp only [if_pos ho]; exact hgo
            · simp only [if_neg ho]; exact hgo
          · simp only [if_pos h2, Option.bind_some, show (x.f3 == 0) = false from by simp [h3], Bool.false_eq_true, if_false]
            exact Ev.const (by simp [h3])
        · simp only [if_neg h2, Option.bind_some, Bool.false_eq_true, if_false]
          exact Ev.const (by simp [h2])
      | false =>
        simp only [Bool.false_eq_true, if_false, Bool.not_false, Bool.true_and]
        by_cases h1 : x.f1 = 0
        · simp only [if_pos h1, decide_eq_true h1, Bool.true_and]
          cases ha : (decide (0 ≤ x.f2) && decide (x.f2 < (c.length : Int))) with
          | false => exact Ev.const (by simp)
          | true =>
            simp only [if_true, Bool.true_and]
            cases hb : (decide (0 ≤ x.f3) && decide (x.f3 < (c.length : Int))) with
            | false => exact Ev.const (by simp)
            | true =>
              simp only [if_true, Bool.true_and, Option.bind_some]
              by_cases ho : (i : Int) < o
              · simp only [if_pos ho, decide_eq_true ho, Bool.true_and]
                by_cases h2 : x.f2 ≥ o
                · simp only [if_pos h2, Option.bind_some, if_true]
                  refine Ev.bnd _ hh ?_
                  have h2' : decide (o ≤ x.f2) = true := by simpa using h2
                  simp only [h2', Bool.true_or, Bool.not_true, Bool.false_or]
                  cases hm : decide ((i : Int) ∈ n) with
                  | false => exact Ev.const (by simp)
                  | true => simpa using hgo
                · have h2' : decide (o ≤ x.f2) = false := by simpa using h2
                  simp only [if_neg h2, h2', Bool.false_or, Option.bind_some]
                  by_cases h3 : x.f3 ≥ o
                  · have h3' : decide (o ≤ x.f3) = true := by simpa using h3
                    have h3'' : decide (x.f3 ≥ o) = true := by simpa using h3
                    simp only [h3', Bool.not_true, Bool.false_or, if_true]
                    refine Ev.bnd _ hh ?_
                    cases hm : decide ((i : Int) ∈ n) with
                    | false => exact Ev.const (by simp)
                    | true => simpa using hgo
                  · have h3' : decide (o ≤ x.f3) = false := by simpa using h3
                    have h3'' : decide (x.f3 ≥ o) = false := by simpa using h3
                    simp only [h3', Bool.not_false, Bool.true_or, Bool.true_and, Bool.false_eq_true, if_false]
                    exact hgo
              · have ho' : decide ((i : Int) < o) = false := by simpa using ho
                simp only [if_neg ho, ho', Bool.false_and, Bool.not_false, Bool.true_or, Bool.true_and]
                exact hgo
        · simp only [if_neg h1]
          exact Ev.const (by simp [h1])
  have := key c.length 0 (by omega)
  simpa using this
theorem implNotes (o : Int) (c : List S46) (r n : List Int) (hn : n.length ≤ 1048576) (hc : c.length ≤ 200) :
    Ev (fun k => impl_GoodYoung.l0 k (c.length : Int) n (n.length : Int) 0 o c r n) (allFrom (fun _ i => noteOk o n i) n 0 && allFrom (cellOk o c.length n) c 0) := by
  have key : ∀ d i : Nat, i + d = n.length → Ev (fun k => impl_GoodYoung.l0 k (c.length : Int) n (n.length : Int) (i : Int) o c r n) (allFrom (fun _ i => noteOk o n i) (n.drop i) i && allFrom (cellOk o c.length n) c 0) := by
    intro d
    induction d with
    | zero =>
      intro i hi
      refine Ev.succ ?_
      simp only [impl_GoodYoung.l0, if_neg (show ¬ (i : Int) < (n.length : Int) by omega)]
      rw [List.drop_eq_nil_of_le (by omega)]
      simpa [allFrom] using implCells o c r n hn hc
    | succ d ih =>
      intro i hi
      have hgo := ih (i + 1) (by omega)
      refine Ev.succ ?_
      rw [drop_rd n i (by omega)]
      simp only [allFrom]
      rw [Bool.and_assoc]
      generalize (allFrom (fun _ i => noteOk o n i) (n.drop (i + 1)) (i + 1) && allFrom (cellOk o c.length n) c 0) = T at hgo ⊢
      simp only [impl_GoodYoung.l0, if_pos (show (i : Int) < (n.length : Int) by omega), if_pos (show (0 : Int) ≤ (i : Int) by omega), isBelow_eq, Option.bind_some,
        show wrap64 ((i : Int) + 1) = ((i + 1 : Nat) : Int) from by rw [w64 (by omega) (by omega)]; rfl]
      unfold noteOk
      cases hb : (decide (0 ≤ rd n (i : Int)) && decide (rd n (i : Int) < o)) with
      | false => exact Ev.const (by simp)
      | true =>
        simp only [if_true, Bool.true_and]
        by_cases hi0 : i = 0
        · subst hi0
          simp only [if_neg (show ¬ ((0 : Nat) : Int) > 0 by omega), decide_true, Bool.true_or, Bool.true_and]
          exact hgo
        · have hw : wrap64 ((i : Int) - 1) = (i : Int) - 1 := w64 (by omega) (by omega)
          simp only [if_pos (show (i : Int) > 0 by omega), hw, if_pos (show (0 : Int) ≤ (i : Int) - 1 by omega), if_pos (show (i : Int) - 1 < (n.length : Int) by omega), decide_eq_false hi0, Bool.false_or]
          by_cases hge : rd n ((i : Int) - 1) ≥ rd n (i : Int)
          · simp only [if_pos hge]
            have : decide (rd n ((i : Int) - 1) < rd n (i : Int)) = false := by simpa using hge
            exact Ev.const (by rw [this]; simp)
          · simp only [if_neg hge]
            have : decide (rd n ((i : Int) - 1) < rd n (i : Int)) = true := by simpa using hge
            rw [this, Bool.true_and]
            exact hgo
  have := key n.length 0 (by omega)
  simpa using this
theorem implGood (o : Int) (c : List S46) (r n : List Int) (hn : n.length ≤ 1048576) : Ev (fun k => impl_GoodYoung.f k o c r n) (good o c r n) := by
  have hj : ∀ m : Int, Ev (fun k => impl_GoodYoung.j0 k m true o c r n) false := fun m => by
    refine Ev.succ ?_
    simp only [impl_GoodYoung.j0, if_true]
    exact Ev.const rfl
  have hnot : ∀ r : List Int, (!r.any fun x => !(decide (x ≥ 0) && decide (x < (c.length : Int)))) = r.all fun x => decide (0 ≤ x) && decide (x < (c.length : Int)) := fun r => by
    induction r with
    | nil => rfl
    | cons x r ih => simp only [List.any_cons, List.all_cons, ← ih, Bool.not_or, Bool.not_not, ge_iff_le]
  unfold impl_GoodYoung.f good
  by_cases h1 : (c.length : Int) > 200
  · simp only [if_pos h1]
    exact Ev.eq (hj _) (by rw [decide_eq_false (show ¬ c.length ≤ 200 by omega)]; rfl)
  · have h1' : decide (c.length ≤ 200) = true := decide_eq_true (by omega)
    simp only [if_neg h1, h1', Bool.true_and]
    by_cases h2 : o < 0
    · simp only [if_pos h2]
      exact Ev.eq (hj _) (by simp [show ¬ 0 ≤ o by omega])
    · have h2' : decide (0 ≤ o) = true := decide_eq_true (by omega)
      by_cases h3 : o > (c.length : Int)
      · simp only [if_neg h2, if_pos h3]
        exact Ev.eq (hj _) (by simp [show ¬ o ≤ (c.length : Int) by omega])
      · have h3' : decide (o ≤ (c.length : Int)) = true := decide_eq_true (by omega)
        simp only [if_neg h2, if_neg h3, h2', h3', impl_areRoots.f, Option.bind_some, Bool.and_true, hnot]
        cases hr : (decide (r.length ≤ 60) && r.all fun x => decide (0 ≤ x) && decide (x < (c.length : Int))) with
        | false =>
          refine Ev.eq (hj _) ?_
          generalize r.all _ = R at hr ⊢
          generalize decide (r.length ≤ 60) = L at hr ⊢
          cases L <;> cases R <;> simp_all
        | true =>
          refine Ev.succ ?_
          simp only [impl_GoodYoung.j0, Bool.not_true, Bool.false_eq_true, if_false]
          refine Ev.eq (implNotes o c r n hn (by omega)) ?_
          simp only [Bool.and_eq_true] at hr
          rw [hr.1, hr.2]
          simp
end Go.Proofs.Ytpjikgeglhjehaa.Pl
