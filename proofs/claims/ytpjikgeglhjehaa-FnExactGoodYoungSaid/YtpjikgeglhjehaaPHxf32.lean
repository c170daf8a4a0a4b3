-- TOLD by wp.py, a program of this session's, over the kit's print.py. Not trusted: Lean checks it.
import Derived.Test.YtpjikgeglhjehaaPHx0
import Derived.Test.YtpjikgeglhjehaaPHxf33
import Derived.Test.YtpjikgeglhjehaaPHxf52
import Derived.Test.YtpjikgeglhjehaaPHxf64
namespace Go.Proofs.Ytpjikgeglhjehaa.PH
open Go.RowKit Go.Proofs.YtpjikgeglhjehaaW.PrintWords Go.Proofs.YtpjikgeglhjehaaW.PrintLast Go.Proofs.YtpjikgeglhjehaaW.PrintMore
attribute [local go_sem] max2_int min2_int max_two min_two max_three min_three max_four min_four   -- for this text's walks alone
set_option linter.unusedVariables false
set_option linter.unusedSimpArgs false

/-! ### impl_areRoots: function 32 -/
-- BY HAND
theorem areRoots1 (b : Nat) (n : Int) (w : World) (hb : b < w.heap.size) (hc : w.cell? ⟨b, 0, none⟩ = some (.int .i64 n)) :
    FnInt 53 #[.pointer (some ⟨b, 0, none⟩)] (fun x => !(decide (x ≥ 0) && decide (x < n))) w := fun W x hB => by
  have hc' : W.cell? ⟨b, 0, none⟩ = some (.int .i64 n) := (hB.cell (p := ⟨b, 0, none⟩) hb).trans hc
  have HI := Aside0.mk (impl_isBelow.calls x n (decide (x ≥ 0) && decide (x < n)) W (by unfold impl_isBelow.f; by_cases h : x ≥ 0 <;> simp [h]))
  clear hB hc
  go_enter Try.func53, Try.ntmps53
  go_wp2_with fail
  refine HI.out.mono ?_
  rintro e w' ⟨rfl, q', rfl⟩
  go_wp2_with fail
  go_ret
  exact ⟨by simp, by repeat (first | exact Drawn0.refl _ | apply Drawn0.step)⟩
def impl_areRoots.f (l0 : List Int) (a1 : Int) : Option Bool := some (decide (l0.length ≤ 60) && !l0.any (fun x => !(decide (x ≥ 0) && decide (x < a1))))
set_option maxHeartbeats 8000000 in
set_option maxRecDepth 100000 in
theorem impl_areRoots.calls (A0 : Option Addr) (c0 : Nat) (l0 : List Int) (a1 : Int) (r : Bool) (w : World) (hr0 : Kd.C (Kd.int .i64) w A0 l0.length l0) (hc0 : l0.length ≤ c0) (h : impl_areRoots.f l0 a1 = some r) :
    Calls Try.prog 32 #[.slice A0 l0.length c0, .int .i64 a1] w fun e w' => e = .returned (.bool r) ∧ Below w.heap.size w w' := by
  obtain rfl := Option.some.inj h
  clear h
  have HB : Below w.heap.size w (w.alloc (.cells #[.int .i64 a1] 3)) := (Below.refl _ w).alloc (Nat.le_refl _) _
  have hc : (w.alloc (.cells #[.int .i64 a1] 3)).cell? ⟨w.heap.size, 0, none⟩ = some (.int .i64 a1) := by simp
  have HC := Aside0.mk (containsFunc_int 53 #[.pointer (some ⟨w.heap.size, 0, none⟩)] _ (enters_ Try.func53 (by kernel_rfl) rfl) A0 c0 l0 _ (Kd.C_below hr0 HB) hc0 (areRoots1 w.heap.size a1 _ (by simp) hc))
  have HB' := Aside0.mk HB
  clear hr0 hc0 HB hc
  by_cases hl : l0.length ≤ 60
  · have hlz : (l0.length : Int) ≤ 60 := by omega
    go_enter Try.func32, Try.ntmps32
    go_wp2_with fail
    refine HC.out.mono ?_
    rintro e w' ⟨rfl, q', rfl⟩
    go_wp2_with fail
    go_ret
    exact ⟨by simp [hl], by repeat (first | exact HB'.out | apply pw_below_drewN)⟩
  · have hlz : ¬ (l0.length : Int) ≤ 60 := by omega
    go_enter Try.func32, Try.ntmps32
    go_wp2_with fail
    go_ret
    exact ⟨by simp [hl], by repeat (first | exact HB'.out | apply pw_below_drewN)⟩

end Go.Proofs.Ytpjikgeglhjehaa.PH
