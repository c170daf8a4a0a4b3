-- TOLD by wp.py, a program of this session's, over the kit's print.py. Not trusted: Lean checks it.
import Derived.Test.YtpjikgeglhjehaaPHx0
namespace Go.Proofs.Ytpjikgeglhjehaa.PH
open Go.RowKit Go.Proofs.YtpjikgeglhjehaaW.PrintWords Go.Proofs.YtpjikgeglhjehaaW.PrintLast Go.Proofs.YtpjikgeglhjehaaW.PrintMore
attribute [local go_sem] max2_int min2_int max_two min_two max_three min_three max_four min_four   -- for this text's walks alone
set_option linter.unusedVariables false
set_option linter.unusedSimpArgs false

/-! ### slices_IndexFunc_int_int: function 64 -/
-- BY HAND
/-- What a function value answers at numbers, in whatever later world. -/
def FnInt (g : Nat) (lb : Array Value) (p : Int → Bool) (w : World) : Prop :=
  ∀ (W : World) (x : Int), Below w.heap.size w W → Calls Try.prog g (#[.int .i64 x] ++ lb) W fun e w' => e = .returned (.bool (p x)) ∧ Drawn0 W w'
def idxI (p : Int → Bool) : List Int → Int → Int
  | [], _ => -1
  | x :: l, i => if p x then i else idxI p l (i + 1)
theorem idxI_nonneg (p : Int → Bool) : ∀ (l : List Int) (i : Int), 0 ≤ i → decide (0 ≤ idxI p l i) = l.any p
  | [], i, _ => by simp [idxI]
  | x :: l, i, h => by
    unfold idxI
    by_cases hx : p x
    · simp [hx, h]
    · rw [if_neg hx, idxI_nonneg p l (i + 1) (by omega)]
      simp [hx]
set_option maxHeartbeats 8000000 in
set_option maxRecDepth 100000 in
theorem indexFunc_int (g : Nat) (lb : Array Value) (p : Int → Bool) (eg : ∀ args w, (callFunc g args).run Try.prog w = .ok (.enter g args) w)
    (A0 : Option Addr) (c0 : Nat) (l0 : List Int) (w : World) (hr0 : Kd.C (Kd.int .i64) w A0 l0.length l0) (hc0 : l0.length ≤ c0) (hp : FnInt g lb p w) :
    Calls Try.prog 64 #[.slice A0 l0.length c0, .func (.func g) #[] lb] w fun e w' => e = .returned (.int .i64 (idxI p l0 0)) ∧ Drawn0 w w' := by
  have HR0 := Aside0.mk hr0
  have HC0 := Aside0.mk hc0
  have HP := Aside0.mk hp
  have hlen : l0.length ≤ 9223372036854775807 := hr0.2.1
  clear hr0 hc0 hp
  go_enter Try.func64, Try.ntmps64
  go_wp2
  go_loopg [5, 8] l0.length (fun kq v5 v8 w' => ∃ (x : Nat), v8 = .int .i64 x ∧ Aside0 (x ≤ l0.length) ∧ Aside0 (idxI p l0 0 = idxI p (l0.drop x) x) ∧ Aside0 (l0.length - x ≤ kq) ∧ Drawn0 w w')
  case atStart => exact ⟨0, rfl, ⟨by omega⟩, ⟨by simp⟩, ⟨by omega⟩, Drawn0.refl _⟩
  case round =>
    obtain ⟨x, rfl, HX, HI, HK, ⟨m1, rfl⟩⟩ := hrel
    by_cases hlt : x < l0.length
    · have hltz : (x : Int) < (l0.length : Int) := by omega
      obtain ⟨ad, e, hx⟩ := Kd.at_int HR0.out (x : Int) (by omega) (by omega)
      cases e
      rw [Int.toNat_natCast] at hx
      have hd : l0.drop x = rd l0 x :: l0.drop (x + 1) := by
        rw [List.drop_eq_getElem_cons hlt]
        simp [rd, List.getD_eq_getElem?_getD, List.getElem?_eq_getElem hlt]
      have hcall := fun m => HP.out (w.drewN m) (rd l0 x) (pw_below_drewN (Below.refl _ w) m)
      have HI2 : Aside0 (idxI p l0 0 = if p (rd l0 x) = true then (x : Int) else idxI p (l0.drop (x + 1)) ((x : Int) + 1)) := ⟨by rw [HI.out, hd]; rfl⟩
      clear hd
      cases hq : p (rd l0 x) with
      | true =>
        have HI3 : Aside0 (idxI p l0 0 = (x : Int)) := ⟨by rw [HI2.out, if_pos hq]⟩
        rw [hq] at hcall
        have HCALL := Aside0.mk hcall
        clear hcall hq
        go_wp2_with fail
        refine (HCALL.out _).mono ?_
        rintro e w' ⟨rfl, q', rfl⟩
        go_wp2_with fail
        go_ret
        refine ⟨?_, by repeat (first | exact Drawn0.refl _ | apply Drawn0.step)⟩
        rw [HI3.out]; rfl
      | false =>
        have HI3 : Aside0 (idxI p l0 0 = idxI p (l0.drop (x + 1)) ((x : Int) + 1)) := ⟨by rw [HI2.out, if_neg (by rw [hq]; simp)]⟩
        rw [hq] at hcall
        have HCALL := Aside0.mk hcall
        clear hcall hq
        go_wp2_with fail
        refine (HCALL.out _).mono ?_
        rintro e w' ⟨rfl, q', rfl⟩
        go_wp2_with fail
        go_roundg (l0.length - (x + 1))
        case measure => have := HK.out; omega
        case rel =>
          exact ⟨x + 1, by go_num, ⟨by omega⟩, ⟨by rw [HI3.out]; rfl⟩, ⟨by omega⟩, by repeat (first | exact Drawn0.refl _ | apply Drawn0.step)⟩
    · have hltz : ¬ (x : Int) < (l0.length : Int) := by omega
      have HI3 : Aside0 (idxI p l0 0 = -1) := ⟨by rw [HI.out, List.drop_eq_nil_of_le (by omega)]; rfl⟩
      go_wp2
      go_ret
      exact ⟨by rw [HI3.out]; rfl, by repeat (first | exact Drawn0.refl _ | apply Drawn0.step)⟩


end Go.Proofs.Ytpjikgeglhjehaa.PH
