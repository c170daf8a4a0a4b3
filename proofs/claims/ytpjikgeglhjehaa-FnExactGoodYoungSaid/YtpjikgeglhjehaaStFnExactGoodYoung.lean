-- TOLD by wp.py, a program of this session's: the pure statement of FnExactGoodYoung.
import Derived.Test.YtpjikgeglhjehaaPHxf3
import Derived.Test.YtpjikgeglhjehaaOpen
namespace Go.Proofs.Ytpjikgeglhjehaa.PH
open Go.RowKit Go.Proofs.YtpjikgeglhjehaaW.PrintWords Go.Proofs.YtpjikgeglhjehaaW.PrintLast
namespace StFnExactGoodYoung
def Q65 (x : S65) : Prop := True ∧ Op.I64 x.f1 ∧ Op.I64 x.f2 ∧ Op.I64 x.f3
/-- THE ONE PURE STATEMENT of FnExactGoodYoung. -/
def Pure : Prop := ∀ (a0_0 : Int) (l0_1 : List (S65)) (l0_2 : List Int) (l0_3 : List Int), Op.I64 a0_0 → l0_1.length ≤ 9223372036854775807 → (∀ x ∈ l0_1, Q65 x) → l0_2.length ≤ 9223372036854775807 → (∀ x ∈ l0_2, Op.I64 x) → l0_3.length ≤ 9223372036854775807 → (∀ x ∈ l0_3, Op.I64 x) → ∃ k, laws_FnExactGoodYoung.f k a0_0 l0_1 l0_2 l0_3 = some true
end StFnExactGoodYoung
end Go.Proofs.Ytpjikgeglhjehaa.PH
