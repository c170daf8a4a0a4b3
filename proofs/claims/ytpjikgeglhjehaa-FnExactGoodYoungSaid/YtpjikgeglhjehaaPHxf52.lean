-- TOLD by wp.py, a program of this session's, over the kit's print.py. Not trusted: Lean checks it.
import Derived.Test.YtpjikgeglhjehaaPHx0
import Derived.Test.YtpjikgeglhjehaaPHxf64
namespace Go.Proofs.Ytpjikgeglhjehaa.PH
open Go.RowKit Go.Proofs.YtpjikgeglhjehaaW.PrintWords Go.Proofs.YtpjikgeglhjehaaW.PrintLast Go.Proofs.YtpjikgeglhjehaaW.PrintMore
attribute [local go_sem] max2_int min2_int max_two min_two max_three min_three max_four min_four   -- for this text's walks alone
set_option linter.unusedVariables false
set_option linter.unusedSimpArgs false

/-! ### slices_ContainsFunc_int_int: function 52 -/
-- BY HAND
set_option maxHeartbeats 8000000 in
set_option maxRecDepth 100000 in
theorem containsFunc_int (g : Nat) (lb : Array Value) (p : Int → Bool) (eg : ∀ args w, (callFunc g args).run Try.prog w = .ok (.enter g args) w)
    (A0 : Option Addr) (c0 : Nat) (l0 : List Int) (w : World) (hr0 : Kd.C (Kd.int .i64) w A0 l0.length l0) (hc0 : l0.length ≤ c0) (hp : FnInt g lb p w) :
    Calls Try.prog 52 #[.slice A0 l0.length c0, .func (.func g) #[] lb] w fun e w' => e = .returned (.bool (l0.any p)) ∧ Drawn0 w w' := by
  have HC := Aside0.mk (indexFunc_int g lb p eg A0 c0 l0 w hr0 hc0 hp)
  have HE := Aside0.mk (idxI_nonneg p l0 0 (by omega))
  clear hr0 hc0 hp
  go_enter Try.func52, Try.ntmps52
  go_wp2_with fail
  refine HC.out.mono ?_
  rintro e w' ⟨rfl, q', rfl⟩
  go_wp2_with fail
  go_ret
  exact ⟨by rw [← HE.out]; rfl, by repeat (first | exact Drawn0.refl _ | apply Drawn0.step)⟩


end Go.Proofs.Ytpjikgeglhjehaa.PH
