-- TOLD by wp.py, a program of this session's: the row of FnExactGoodYoung, out of its pure statement and the walk of what it calls. Not trusted: Lean checks it.
import Derived.Test.YtpjikgeglhjehaaRows
import Derived.Test.YtpjikgeglhjehaaStFnExactGoodYoung
import Derived.Test.YtpjikgeglhjehaaPureFnExactGoodYoung
import Derived.Test.YtpjikgeglhjehaaOpen
import Derived.WalkKit
import Derived.ProofKit
import Derived.OpenShut
import Derived.ShutString
import Derived.ChangeOld
import Derived.Below
namespace Go.Proofs.Ytpjikgeglhjehaa.fnExactGoodYoung
open Go.ChangeShapes Go.WideShapes Go.ChangeAt Go.RowKit Go.Proofs.YtpjikgeglhjehaaW.PrintWords Go.Proofs.Ytpjikgeglhjehaa.PH Go.Proofs.Ytpjikgeglhjehaa.PH.StFnExactGoodYoung
open Go.ChangeMaps (open_string shut_string)
set_option linter.unusedVariables false
theorem own : ownKnob Try.prog.godebug = none := by kernel_rfl
theorem laidOut : laidOutB Try.prog = true := by kernel_rfl
theorem rd_65 : Op.Rd Try.prog k65 Q65 65 := Op.rd_iso _ (fun a => (⟨a.1, a.2.1, a.2.2.1, a.2.2.2⟩ : S65)) (fun _ => rfl) (Op.rd_struct4 Try.underlying65 (by kernel_rfl) (by kernel_rfl) (Op.rd_bool Try.underlying4) (Op.rd_i64 Try.underlying3) (Op.rd_i64 Try.underlying3) (Op.rd_i64 Try.underlying3))
set_option maxRecDepth 100000 in
theorem lifted (os : Os) (started : os.Started) (H : Type) (enc : TypeId × Value → H) :
    ReturnsInHanded {} Try.checked os 3 .any (Rows.fnExactGoodYoungSpec.pre6 enc Try.prog Try.f3 Rows.fnExactGoodYoungRow.domain false) (Rows.fnExactGoodYoungSpec.post enc Try.prog Try.f3 false true false false) := by
  refine returnsInHanded_of_change (C := Try.checked) own started (by kernel_rfl) Try.func3
    (ChangeSpec.witness6 (enc := enc) (C := Try.checked) false ⟨#[], #[.agg #[.int .i64 0, .slice none 0 0, .slice none 0 0, .slice none 0 0]], []⟩ 8 (by kernel_rfl) (by kernel_rfl) (by kernel_rfl) (by kernel_rfl)) ?_
  intro W base args ds gs before hval0 hW hcnd _
  have hval : ∀ (j : Nat) t v, Try.f3.params[j]? = some t → args[j]? = some v → Value.okWide Try.prog W .any base t v := hval0
  have hW' := hW
  obtain ⟨p, q, hA0, hV, rfl, hfz, hnd⟩ := hW
  have hA : DataW.TrodAll enc Try.prog W 0 (fun _ => true) true Try.f3.params.toList args.toList ds p := hA0
  rw [Try.params3] at hA hval
  obtain ⟨v0, vs0, d0, ds0, p0, q0, hargs, rfl, rfl, h0, r0⟩ := trodAll_cons hA
  obtain ⟨rfl, rfl, rfl⟩ := trodAll_nil r0
  obtain rfl : args = #[v0] := by cases args; simp_all
  obtain ⟨rfl, rfl⟩ := trodVars_none hV
  have k0 := h0
  have lt0 : ∀ x ∈ p0, x.block < W.heap.size := by obtain ⟨m, hm⟩ := k0; exact DataW.trod_lt m _ _ _ hm
  obtain ⟨⟨a0_0, l0_1, l0_2, l0_3⟩, cs0, rfl, ⟨_, _, e0, rfl, _, _, rfl, ⟨A0_1, c0_1, rfl, hc0_1, hr0_1⟩, _, _, rfl, ⟨A0_2, c0_2, rfl, hc0_2, hr0_2⟩, ⟨A0_3, c0_3, rfl, hc0_3, hr0_3⟩⟩, ⟨hq0_0, ⟨hm0_1, hq0_1⟩, ⟨hm0_2, hq0_2⟩, ⟨hm0_3, hq0_3⟩⟩⟩ := Op.agg_of Try.underlying25 (hval 0 25 v0 rfl rfl) h0 (Op.rd_struct4 Try.underlying25 (by kernel_rfl) (by kernel_rfl) (Op.rd_i64 Try.underlying3) (Op.rd_slice Try.underlying22 (by kernel_rfl) rd_65) (Op.rd_slice Try.underlying23 (by kernel_rfl) (Op.rd_i64 Try.underlying3)) (Op.rd_slice Try.underlying23 (by kernel_rfl) (Op.rd_i64 Try.underlying3)))
  obtain rfl : cs0 = #[.int .i64 a0_0, .slice A0_1 l0_1.length c0_1, .slice A0_2 l0_2.length c0_2, .slice A0_3 l0_3.length c0_3] := by cases cs0; simpa using e0
  clear hA0 hval0
  obtain ⟨k, h⟩ := Pure.FnExactGoodYoung a0_0 l0_1 l0_2 l0_3 hq0_0 hm0_1 hq0_1 hm0_2 hq0_2 hm0_3 hq0_3
  refine (laws_FnExactGoodYoung.calls k a0_0 A0_1 c0_1 l0_1 A0_2 c0_2 l0_2 A0_3 c0_3 l0_3 true W hr0_1 hc0_1 hr0_2 hc0_2 hr0_3 hc0_3 h).mono fun e W' hh => ?_
  obtain ⟨he, bel0⟩ := hh
  have bel : Below W.heap.size W W' := bel0
  subst he
  exact ⟨_, rfl, _, _, _, [], _, [], hW', trodAll_mk1 (shut_bool Try.underlying4 _), (trodAll_cons_mk (Below.trod laidOut (by kernel_rfl) (of_decide_eq_true (by kernel_rfl)) k0 bel lt0) trodAll_mk0), rfl, bel.frame _, fun h => by cases h⟩
theorem over : Rows.fnExactGoodYoungRow.holds Try.pinned (OpenSpec.ofChange Rows.fnExactGoodYoungSpec) :=
  OpenClaim.holds_of_wide 3 Try.f3 rfl rfl rfl rfl rfl rfl rfl ⟨rfl, rfl, rfl, rfl, rfl⟩ rfl rfl rfl rfl rfl (by kernel_rfl) Try.func3 (by kernel_rfl)
    (of_decide_eq_true (by kernel_rfl)) (by unfold Func.isWrapper; first | (rw [if_pos (by decide +kernel)]; kernel_rfl) | (rw [if_neg (by decide +kernel)]; exact ⟨rfl, rfl⟩))
    (fun os started H enc _ => lifted os started H enc)
theorem proved : Rows.FnExactGoodYoungSaid := over
end Go.Proofs.Ytpjikgeglhjehaa.fnExactGoodYoung
namespace Go.Proofs.Ytpjikgeglhjehaa
/-- The row, under a short name, for the claim. -/
theorem fnExactGoodYoung_holds : Rows.FnExactGoodYoungSaid := fnExactGoodYoung.proved
end Go.Proofs.Ytpjikgeglhjehaa
