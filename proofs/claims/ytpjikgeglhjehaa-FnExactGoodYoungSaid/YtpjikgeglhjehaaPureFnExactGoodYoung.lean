/- GoodYoung of the program returns what the reference's returns, for all arguments, and leaves its argument as it was. No condition beyond the statement's own bound on the argument's size. -/
import Derived.Test.YtpjikgeglhjehaaH1
namespace Go.Proofs.Ytpjikgeglhjehaa.Pure
open Go.RowKit Go.Proofs.Ytpjikgeglhjehaa.PH Go.Proofs.Ytpjikgeglhjehaa.Pl Go.Proofs.YtpjikgeglhjehaaW.PrintWords Go.Proofs.YtpjikgeglhjehaaW.PrintLast

theorem sz_eq (o : Int) (c : List S65) (r n : List Int) (hc : c.length ≤ 9223372036854775807) (hr : r.length ≤ 9223372036854775807) (hn : n.length ≤ 9223372036854775807) :
    ∃ t, laws_szYoung.f o c r n 1048576 = some t ∧ (0 ≤ t → c.length ≤ 1048576 ∧ r.length ≤ 1048576 ∧ n.length ≤ 1048576) := by
  unfold laws_szYoung.f laws_szCellS.f laws_szIntS.f
  have h1 : wrap64 (1048576 - (c.length : Int)) = 1048576 - (c.length : Int) := w64 (by omega) (by omega)
  rw [h1]
  by_cases a1 : 1048576 - (c.length : Int) < 0
  · exact ⟨-1, by simp [a1], by omega⟩
  · have h2 : wrap64 (1048576 - (c.length : Int) - (r.length : Int)) = 1048576 - (c.length : Int) - (r.length : Int) := w64 (by omega) (by omega)
    simp only [if_neg a1, Option.bind_some, h2]
    by_cases a2 : 1048576 - (c.length : Int) - (r.length : Int) < 0
    · exact ⟨-1, by simp [a2], by omega⟩
    · have h3 : wrap64 (1048576 - (c.length : Int) - (r.length : Int) - (n.length : Int)) = 1048576 - (c.length : Int) - (r.length : Int) - (n.length : Int) := w64 (by omega) (by omega)
      simp only [if_neg a2, Option.bind_some, h3]
      by_cases a3 : 1048576 - (c.length : Int) - (r.length : Int) - (n.length : Int) < 0
      · exact ⟨-1, by simp [a3], by omega⟩
      · exact ⟨1048576 - (c.length : Int) - (r.length : Int) - (n.length : Int), by simp [a3], by omega⟩

theorem FnExactGoodYoung : StFnExactGoodYoung.Pure := by
  intro o c r n _ hc _ hr _ hn _
  obtain ⟨t, ht, hs⟩ := sz_eq o c r n hc hr hn
  refine Ev.rounds ?_
  unfold laws_FnExactGoodYoung.f
  simp only [ht, Option.bind_some]
  by_cases h0 : t < 0
  · simp only [if_pos h0]
    exact Ev.const rfl
  · obtain ⟨hc', hr', hn'⟩ := hs (by omega)
    have hm : (c.map cell).length ≤ 1048576 := by simpa using hc'
    simp only [if_neg h0]
    refine Ev.bnd _ (toYoung_ev o c r n hc' hr' hn') ?_
    refine Ev.bnd _ (specGood o (c.map cell) r n hm hr' hn') ?_
    refine Ev.bnd _ (toYoung_ev o c r n hc' hr' hn') ?_
    refine Ev.bnd _ (implGood o (c.map cell) r n hn') ?_
    simp only [bne_self_eq_false, Bool.false_eq_true, if_false]
    refine Ev.bnd _ (toYoung_ev o c r n hc' hr' hn') ?_
    refine Ev.bnd _ (eqYoung_ev o (c.map cell) r n hm hr' hn') ?_
    exact Ev.const rfl
end Go.Proofs.Ytpjikgeglhjehaa.Pure
